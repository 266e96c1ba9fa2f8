/- Part P18.Look of a proof: lemmas. -/
import Derived.Test.YtcopohboenimpaaGreatDoorLAW18W
import Derived.Test.YtcopohboenimpaaGreatDoorMAsk
import Derived.Test.YtcopohboenimpaaGreatDoorDcCpt
set_option linter.unusedVariables false
set_option linter.unusedSimpArgs false
set_option linter.unusedSectionVars false
/-! The source of numbers, in plain words. -/
namespace Go.Dc

theorem Mod_plain {x n : Int} (hn : n ≤ 4611686018427387904) : T (keep_Mod_m x n) fun r => 1 ≤ n → 0 ≤ r ∧ r < n := by
 unfold keep_Mod_m
 refine T.cond (fun h => .ret fun h1 => ?_) fun h => ?_
 ·simp at h; omega
 ·simp at h
  have h1 : iremM .i64 x n = some (x.tmod n) := by unfold iremM; rw [if_neg (by omega)]; rfl
  have h2 := Int.tmod_lt_of_pos x (show 0 < n by omega)
  have h3 := Int.lt_tmod_of_pos x (show 0 < n by omega)
  rw [h1]
  refine T.bind (T.ret rfl) fun a ha => ?_
  subst ha
  refine T.cond (fun h => .letM (.ret fun _ => ?_)) fun h => .ret fun _ => ?_
  ·simp at h; rw [iadd64 (by omega) (by omega)]; omega
  ·simp at h; omega

def RdOk (s : T_deliberationkeep_Src) : Prop := 0 ≤ s.At ∧ s.L.length ≤ 2000

theorem Raw_plain {s : T_deliberationkeep_Src} (h : RdOk s) : T (keep_Src_Raw_m s) fun r => RdOk r.2 := by
 unfold keep_Src_Raw_m
 obtain ⟨h1, h2⟩ := h
 refine T.cond (fun h => .ret ⟨h1, h2⟩) fun h => ?_
 simp at h
 rw [iadd64 (by omega) (by omega), isub64 (by omega) (by omega), idxM_eq (by omega) (by omega)]
 exact T.bind (T.ret rfl) fun a _ => .ret ⟨by simp only; omega, h2⟩

theorem N_plain {s : T_deliberationkeep_Src} (h : RdOk s) {n : Int} (hn : n ≤ 4611686018427387904) : T (keep_Src_N_m s n) fun r => RdOk r.2 ∧ (1 ≤ n → 0 ≤ r.1 ∧ r.1 < n) := by
 unfold keep_Src_N_m
 exact T.bind (Raw_plain h) fun t ht => T.bind (Mod_plain hn) fun a ha => .ret ⟨ht, ha⟩

theorem New_plain {l : List Int} : T (keep_New_m l) fun r => RdOk ⟨r.1, r.2⟩ := by
 unfold keep_New_m
 have h : imin (l.length : Int) 2000 = (l.length : Int) ∨ imin (l.length : Int) 2000 = 2000 := by unfold imin; split <;> simp
 have h2 : 0 ≤ imin (l.length : Int) 2000 ∧ imin (l.length : Int) 2000 ≤ l.length ∧ imin (l.length : Int) 2000 ≤ 2000 := by unfold imin; split <;> omega
 rw [slM_eq (by omega) (by omega) (by omega)]
 exact T.bind (T.ret rfl) fun a ha => .ret ⟨by simp, by subst ha; simp; omega⟩
end Go.Dc

set_option linter.unusedVariables false
set_option linter.unusedSimpArgs false
/-! Sets of bits: numbers of 64 bits as sets of numbers below 64. -/
namespace Go.Dc

theorem wrapU {n : Nat} (h : n < 2 ^ 64) : IntKind.wrap .u64 (n : Int) = (n : Int) := by
 simp [IntKind.wrap, IntKind.signed, IntKind.bits]; omega

/-- the bits of a that b has not -/
def andn (a b : Nat) : Nat := (BitVec.ofNat 64 a &&& ~~~BitVec.ofNat 64 b).toNat

theorem and_lt {a b : Nat} (ha : a < 2 ^ 64) : a &&& b < 2 ^ 64 := Nat.lt_of_le_of_lt Nat.and_le_left ha
theorem or_lt {a b : Nat} (ha : a < 2 ^ 64) (hb : b < 2 ^ 64) : a ||| b < 2 ^ 64 := Nat.or_lt_two_pow ha hb

theorem iand_u {a b : Nat} (ha : a < 2 ^ 64) (hb : b < 2 ^ 64) : iand .u64 (a : Int) (b : Int) = ((a &&& b : Nat) : Int) := by
 unfold iand
 have : (BitVec.ofInt 64 (a : Int) &&& BitVec.ofInt 64 (b : Int)).toNat = a &&& b := by
  simp only [BitVec.toNat_and, BitVec.ofInt_natCast, BitVec.toNat_ofNat]
  rw [Nat.mod_eq_of_lt ha, Nat.mod_eq_of_lt hb]
 rw [show IntKind.bits .u64 = 64 from rfl, this, wrapU (and_lt ha)]
theorem ior_u {a b : Nat} (ha : a < 2 ^ 64) (hb : b < 2 ^ 64) : ior .u64 (a : Int) (b : Int) = ((a ||| b : Nat) : Int) := by
 unfold ior
 have : (BitVec.ofInt 64 (a : Int) ||| BitVec.ofInt 64 (b : Int)).toNat = a ||| b := by
  simp only [BitVec.toNat_or, BitVec.ofInt_natCast, BitVec.toNat_ofNat]
  rw [Nat.mod_eq_of_lt ha, Nat.mod_eq_of_lt hb]
 rw [show IntKind.bits .u64 = 64 from rfl, this, wrapU (or_lt ha hb)]
theorem isub_u {a b : Nat} (ha : a < 2 ^ 64) (hb : b ≤ a) : isub .u64 (a : Int) (b : Int) = ((a - b : Nat) : Int) := by
 unfold isub
 rw [show (a : Int) - (b : Int) = ((a - b : Nat) : Int) by omega, wrapU (by omega)]
theorem isub1_u {a : Nat} (ha : a < 2 ^ 64) (hb : 1 ≤ a) : isub .u64 (a : Int) 1 = ((a - 1 : Nat) : Int) := isub_u (b := 1) ha hb
theorem ishl_u {n : Nat} (h : n < 64) : ishl .u64 1 (n : Int) = ((2 ^ n : Nat) : Int) := by
 unfold ishl
 rw [show min ((n : Int).toNat) (IntKind.bits .u64) = n by simp [IntKind.bits]; omega, Int.one_mul]
 rw [show (2 : Int) ^ n = ((2 ^ n : Nat) : Int) by simp]
 exact wrapU (Nat.pow_lt_pow_right (by decide) h)
/-! ### the lowest bit -/
theorem low_exists {s : Nat} (h : s ≠ 0) : ∃ k, s.testBit k = true ∧ ∀ j, j < k → s.testBit j = false := by
 obtain ⟨i, hi⟩ := Nat.exists_testBit_of_ne_zero h
 induction i using Nat.strongRecOn with
 | _ i ih =>
  by_cases hx : ∃ j, j < i ∧ s.testBit j = true
  ·obtain ⟨j, hj, hb⟩ := hx; exact ih j hj hb
  ·exact ⟨i, hi, fun j hj => by cases hb : s.testBit j; rfl; exact absurd ⟨j, hj, hb⟩ hx⟩

section low
variable {s k : Nat}
theorem low_form (hk : s.testBit k = true) (hl : ∀ j, j < k → s.testBit j = false) : s = 2 ^ (k + 1) * (s / 2 ^ (k + 1)) + 2 ^ k := by
 have h1 : s % 2 ^ (k + 1) = 2 ^ k := by
  apply Nat.eq_of_testBit_eq
  intro j
  rw [Nat.testBit_mod_two_pow, Nat.testBit_two_pow]
  by_cases e : j < k
  ·simp [hl j e]; omega
  ·by_cases e2 : j = k
   ·subst e2; simp [hk]
   ·have : ¬ j < k + 1 := by omega
    have h3 : ¬ k = j := fun h => e2 h.symm
    simp [this, h3]
 have := Nat.div_add_mod s (2 ^ (k + 1))
 omega

theorem low_pred (hk : s.testBit k = true) (hl : ∀ j, j < k → s.testBit j = false) (j : Nat) : (s - 1).testBit j = if j < k then true else if j = k then false else s.testBit j := by
 have hf := low_form hk hl
 have hp : 0 < 2 ^ k := Nat.two_pow_pos k
 have h2 : 2 ^ k - 1 < 2 ^ (k + 1) := by rw [Nat.pow_succ]; omega
 have h3 : 2 ^ k < 2 ^ (k + 1) := by rw [Nat.pow_succ]; omega
 have e : s - 1 = 2 ^ (k + 1) * (s / 2 ^ (k + 1)) + (2 ^ k - 1) := by omega
 rw [e, Nat.testBit_two_pow_mul_add _ h2, Nat.testBit_two_pow_sub_one]
 have hs : s.testBit j = if j < k + 1 then (2 ^ k).testBit j else (s / 2 ^ (k + 1)).testBit (j - (k + 1)) := by
  conv => lhs; rw [hf]
  rw [Nat.testBit_two_pow_mul_add _ h3]
 by_cases h1 : j < k
 ·simp [h1, show j < k + 1 by omega]
 ·by_cases h4 : j = k
  ·subst h4; simp
  ·rw [hs, if_neg h1, if_neg h4, if_neg (by omega), if_neg (by omega)]

theorem low_clear (hk : s.testBit k = true) (hl : ∀ j, j < k → s.testBit j = false) (j : Nat) : (s &&& (s - 1)).testBit j = if j ≤ k then false else s.testBit j := by
 rw [Nat.testBit_and, low_pred hk hl]
 by_cases h1 : j < k
 ·simp [h1, hl j h1, show j ≤ k by omega]
 ·by_cases h4 : j = k
  ·subst h4; simp
  ·simp [h1, h4, show ¬ j ≤ k by omega]

theorem low_neg (hs : s < 2 ^ 64) (hk : s.testBit k = true) (hl : ∀ j, j < k → s.testBit j = false) : s &&& (2 ^ 64 - s) = 2 ^ k := by
 have h0 : s ≠ 0 := fun e => by rw [e] at hk; simp at hk
 have hk64 : k < 64 := by
  by_cases h : k < 64
  ·exact h
  ·have := Nat.testBit_lt_two_pow (Nat.lt_of_lt_of_le hs (Nat.pow_le_pow_right (by decide : 0 < 2) (by omega : 64 ≤ k)))
   rw [this] at hk; cases hk
 apply Nat.eq_of_testBit_eq
 intro j
 rw [Nat.testBit_and, Nat.testBit_two_pow, show 2 ^ 64 - s = 2 ^ 64 - ((s - 1) + 1) by omega, Nat.testBit_two_pow_sub_succ (by omega), low_pred hk hl]
 by_cases h1 : j < k
 ·simp [hl j h1]; omega
 ·by_cases h4 : j = k
  ·subst h4; simp [hk, hk64]
  ·have h5 : ¬ k = j := fun h => h4 h.symm
   simp only [if_neg h1, if_neg h4, h5, decide_false]
   cases s.testBit j <;> simp
end low

theorem bit_lt {s i : Nat} (hs : s < 2 ^ 64) (h : s.testBit i = true) : i < 64 := by
 by_cases h1 : i < 64
 ·exact h1
 ·have := Nat.testBit_lt_two_pow (Nat.lt_of_lt_of_le hs (Nat.pow_le_pow_right (by decide : 0 < 2) (by omega : 64 ≤ i)))
  rw [this] at h; cases h

/-- the table of TrailingZeros64 -/
def tzTab : List Int := [0, 1, 56, 2, 57, 49, 28, 3, 61, 58, 42, 50, 38, 29, 17, 4, 62, 47, 59, 36, 45, 43, 51, 22, 53, 39, 33, 30, 24, 18, 12, 5, 63, 55, 48, 27, 60, 41, 37, 16, 46, 35, 44, 21, 52, 32, 23, 11, 54, 26, 40, 15, 34, 20, 31, 10, 25, 14, 19, 9, 13, 8, 7, 6]
/-! ### the list of the bits -/
def bitsL (s : Nat) : List Nat := (List.range 64).filter s.testBit

theorem mem_bitsL {s i : Nat} (hs : s < 2 ^ 64) : i ∈ bitsL s ↔ s.testBit i = true := by
 unfold bitsL
 rw [List.mem_filter, List.mem_range]
 exact ⟨fun h => h.2, fun h => ⟨bit_lt hs h, h⟩⟩

theorem bitsL_zero : bitsL 0 = [] := by
 unfold bitsL
 rw [List.filter_eq_nil_iff]; simp

theorem bitsL_cons {s k : Nat} (hs : s < 2 ^ 64) (hk : s.testBit k = true) (hl : ∀ j, j < k → s.testBit j = false) : bitsL s = k :: bitsL (s &&& (s - 1)) := by
 have hk64 := bit_lt hs hk
 have hr : List.range 64 = List.range k ++ (k :: (List.range (63 - k)).map (k + 1 + ·)) := by
  rw [show 64 = (k + 1) + (63 - k) by omega, List.range_add, List.range_succ]; simp
 unfold bitsL
 rw [hr, List.filter_append, List.filter_append, List.filter_cons_of_pos hk]
 have h1 : (List.range k).filter s.testBit = [] := List.filter_eq_nil_iff.2 fun j hj => by simp [hl j (List.mem_range.1 hj)]
 have h2 : (List.range k).filter (s &&& (s - 1)).testBit = [] := List.filter_eq_nil_iff.2 fun j hj => by
  rw [low_clear hk hl, if_pos (by have := List.mem_range.1 hj; omega)]; simp
 have h3 : ¬ (s &&& (s - 1)).testBit k = true := by rw [low_clear hk hl]; simp
 rw [h1, h2, List.filter_cons_of_neg h3]
 simp only [List.nil_append]
 congr 1
 refine List.filter_congr fun j hj => ?_
 obtain ⟨m, _, rfl⟩ := List.mem_map.1 hj
 rw [low_clear hk hl, if_neg (by omega)]

theorem bitsL_len {s : Nat} : (bitsL s).length ≤ 64 := by
 unfold bitsL
 exact Nat.le_trans (List.length_filter_le _ _) (by simp)

theorem low_lt {s : Nat} (h : s ≠ 0) : s &&& (s - 1) < s := Nat.lt_of_le_of_lt Nat.and_le_right (by omega)

end Go.Dc

set_option linter.unusedVariables false
set_option linter.unusedSimpArgs false
set_option linter.unusedSectionVars false
/-! Graphs in plain words: order, validity. -/
namespace Go.Dc
open Go.Proofs Go.Sort

def plt (p q : T_api_Pair) : Prop := p.From < q.From ∨ p.From = q.From ∧ p.To < q.To
instance : DecidablePred fun x : T_api_Pair × T_api_Pair => plt x.1 x.2 := fun _ => inferInstanceAs (Decidable (_ ∨ _))
instance (p q : T_api_Pair) : Decidable (plt p q) := inferInstanceAs (Decidable (_ ∨ _))
theorem plt_trans {p q r : T_api_Pair} (h : plt p q) (k : plt q r) : plt p r := by unfold plt at *; omega
theorem plt_irr {p : T_api_Pair} : ¬ plt p p := by unfold plt; omega
theorem pair_ext {p q : T_api_Pair} (h : p.From = q.From) (k : p.To = q.To) : p = q := by cases p; cases q; simp_all
theorem plt_tri {p q : T_api_Pair} (h : ¬ plt p q) (k : ¬ plt q p) : p = q := pair_ext (by unfold plt at *; omega) (by unfold plt at *; omega)

structure GVal (g : T_api_Graph) : Prop where
 n0 : 0 ≤ g.N
 n1 : g.N ≤ 40
 v : ∀ p ∈ g.L, 0 ≤ p.From ∧ p.From < g.N ∧ 0 ≤ p.To ∧ p.To < g.N
 s : g.L.Pairwise plt

theorem cmp_plain {x y : Int} : cmp_Compare_int_m x y = some (if x < y then -1 else if y < x then 1 else 0) := by
 unfold cmp_Compare_int_m cmp_isNaN_int_m
 simp only [some_bind, bne_self_eq_false, cond_false]
 by_cases h : x < y
 ·simp [h]
 ·by_cases h2 : y < x <;> simp [h, h2]

theorem or_plain {a b : Int} : cmp_Or_int_m [a, b] = some (if a = 0 then b else a) := by
 have h0 : cmp_Or_int_l1 [a, b] 0 = some (bif a != 0 then .inl (.inl a) else .inr 1) := by
  unfold cmp_Or_int_l1
  rw [show decide ((0 : Int) < (([a, b] : List Int).length : Int)) = true from rfl, show idxM [a, b] 0 = some a from rfl, iadd64 (by omega) (by omega)]
  simp only [cond_true, some_bind]
  cases a != 0 <;> rfl
 have h1 : cmp_Or_int_l1 [a, b] 1 = some (bif b != 0 then .inl (.inl b) else .inr 2) := by
  unfold cmp_Or_int_l1
  rw [show decide ((1 : Int) < (([a, b] : List Int).length : Int)) = true from rfl, show idxM [a, b] 1 = some b from rfl, iadd64 (by omega) (by omega)]
  simp only [cond_true, some_bind]
  cases b != 0 <;> rfl
 have h2 : cmp_Or_int_l1 [a, b] 2 = some (.inl (.inr ())) := by
  unfold cmp_Or_int_l1
  rw [show decide ((2 : Int) < (([a, b] : List Int).length : Int)) = false from rfl]; rfl
 unfold cmp_Or_int_m
 rw [loopC_eq, h0]
 by_cases ha : a = 0
 ·subst ha
  rw [if_pos rfl, show ((0 : Int) != 0) = false from rfl]
  simp only [cond_false, Option.bind_some]
  rw [loopC_eq, h1]
  by_cases hb : b = 0
  ·subst hb
   rw [show ((0 : Int) != 0) = false from rfl]
   simp only [cond_false, Option.bind_some]
   rw [loopC_eq, h2]; rfl
  ·rw [show (b != 0) = true from by simp [hb]]; rfl
 ·rw [if_neg ha, show (a != 0) = true from by simp [ha]]; rfl

def pcmp (p q : T_api_Pair) : Int := if plt p q then -1 else if plt q p then 1 else 0
theorem pcmp_all {p q : T_api_Pair} : graph_compare_m p q = some (pcmp p q) := by
 unfold graph_compare_m
 rw [cmp_plain, some_bind, cmp_plain, some_bind, or_plain, some_bind]
 unfold pcmp plt
 congr 1
 by_cases h1 : p.From < q.From <;> by_cases h2 : q.From < p.From <;> by_cases h3 : p.To < q.To <;> by_cases h4 : q.To < p.To <;> simp [h1, h2, h3, h4] <;> omega

theorem cfo_P {p q : T_api_Pair} : cfo graph_compare_m p q = pcmp p q := by unfold cfo; rw [pcmp_all]; rfl
theorem ltOf_P {p q : T_api_Pair} : ltOf (cfo graph_compare_m) p q = true ↔ plt p q := by
 unfold ltOf; rw [cfo_P, decide_eq_true_iff]; unfold pcmp; split
 ·simp [*]
 ·split <;> simp [*]
theorem ltOf_Pf {p q : T_api_Pair} : ltOf (cfo graph_compare_m) p q = false ↔ ¬ plt p q := by
 rw [← ltOf_P]; simp
theorem cmpOk_P : CmpOk graph_compare_m where
 tot := fun x y => by rw [cfo_P, pcmp_all]
 swo := ⟨fun x => by rw [ltOf_Pf]; exact plt_irr, fun x y z h1 h2 => by rw [ltOf_P] at *; exact plt_trans h1 h2, fun x y z h1 h2 => by rw [ltOf_Pf] at *; unfold plt at *; omega⟩
 sep := fun x y h1 h2 => by rw [ltOf_Pf] at *; exact plt_tri h1 h2

theorem sort_P {l : List T_api_Pair} (h : l.length ≤ 100000) : ∃ r, sortFM graph_compare_m l = some r ∧ r.Perm l ∧ r.Pairwise fun x y => plt x y ∨ x = y := by
 refine ⟨sortL graph_compare_m l, by unfold sortFM; rw [if_pos ⟨by omega, cmpOk_P⟩], List.mergeSort_perm _ _, ?_⟩
 have hs := List.pairwise_mergeSort (le := fun x y => !(ltOf (cfo graph_compare_m)) y x)
  (fun a b c h1 h2 => by simp only [Bool.not_eq_true', ltOf_Pf] at *; unfold plt at *; omega)
  (fun a b => by
   cases h1 : ltOf (cfo graph_compare_m) b a with
   | false => rfl
   | true =>
    cases h2 : ltOf (cfo graph_compare_m) a b with
    | false => rfl
    | true => rw [ltOf_P] at h1 h2; exact absurd (plt_trans h1 h2) plt_irr) l
 refine hs.imp fun {x y} h => ?_
 simp only [Bool.not_eq_true', ltOf_Pf] at h
 by_cases hx : plt x y
 ·exact .inl hx
 ·exact .inr (plt_tri hx h)

/-! ### validity -/
def pOk (N : Int) (p : T_api_Pair) : Prop := 0 ≤ p.From ∧ p.From < N ∧ 0 ≤ p.To ∧ p.To < N
/-- the first i pairs are fine -/
def Fine (g : T_api_Graph) (i : Nat) : Prop := ∀ k (hk : k < g.L.length), k < i → pOk g.N g.L[k] ∧ ∀ h : 1 ≤ k, plt (g.L[k - 1]'(by omega)) g.L[k]
theorem pw_of {l : List T_api_Pair} (h : ∀ k (hk : k < l.length), ∀ h1 : 1 ≤ k, plt (l[k - 1]'(by omega)) l[k]) : l.Pairwise plt := by
 rw [List.pairwise_iff_getElem]
 intro i j hi hj hij
 induction j with
 | zero => omega
 | succ j ih =>
  have h1 := h (j + 1) hj (by omega)
  simp only [Nat.add_sub_cancel] at h1
  by_cases e : i = j
  ·subst e; exact h1
  ·exact plt_trans (ih (by omega) (by omega)) h1
theorem gval_of {g : T_api_Graph} (h0 : 0 ≤ g.N) (h1 : g.N ≤ 40) (h : Fine g g.L.length) : GVal g :=
 ⟨h0, h1, fun p hp => by obtain ⟨i, hi, rfl⟩ := List.getElem_of_mem hp; exact (h i hi hi).1, pw_of fun k hk h1 => (h k hk hk).2 h1⟩
theorem GVal.pw {g : T_api_Graph} (h : GVal g) {i : Nat} (h0 : 1 ≤ i) (hi : i < g.L.length) : plt (g.L[i - 1]'(by omega)) g.L[i] :=
 List.pairwise_iff_getElem.1 h.s (i - 1) i (by omega) hi (by omega)
theorem Fine.step {g : T_api_Graph} {i : Nat} (h : Fine g i) (hi : i < g.L.length) (h1 : pOk g.N g.L[i]) (h2 : ∀ h : 1 ≤ i, plt (g.L[i - 1]'(by omega)) g.L[i]) : Fine g (i + 1) := fun k hk hki => by
 by_cases e : k = i
 ·subst e; exact ⟨h1, h2⟩
 ·exact h k hk (by omega)

theorem gValidate_all {g : T_api_Graph} (hl : g.L.length ≤ 1000000) : T (graph_Validate_m g) fun r => r = 0 ↔ GVal g := by
 unfold graph_Validate_m
 refine T.cond (fun c => .ret ⟨fun h => (by cases h), fun h => by have := h.n0; simp at c; omega⟩) fun c0 => T.cond (fun c => .ret ⟨fun h => (by cases h), fun h => by have := h.n1; simp at c; omega⟩) fun c1 => ?_
 simp at c0 c1
 refine T.bind (P := fun r => match r with | .inl a => a ≠ 0 ∧ ¬ GVal g | .inr _ => GVal g) ?_ fun q hq => ?_
 ·refine T.loopK g.L.length (fun i s => s = (i : Int) ∧ i ≤ g.L.length ∧ Fine g i) ⟨rfl, by omega, fun k hk hk0 => by omega⟩ ?_
  rintro i _ ⟨rfl, hi, hf⟩
  dsimp only [graph_Validate_l1]
  refine T.cond (fun g1 => ?_) fun g1 => .ret ?_
  ·have hlt : i < g.L.length := by simpa using g1
   rw [idxM_nat hlt, some_bind, iadd1 (by omega)]
   have hmn : imin g.L[i].From g.L[i].To < 0 ↔ g.L[i].From < 0 ∨ g.L[i].To < 0 := by unfold imin; split <;> omega
   have hmx : imax g.L[i].From g.L[i].To ≥ g.N ↔ g.L[i].From ≥ g.N ∨ g.L[i].To ≥ g.N := by unfold imax; split <;> omega
   have bad : ¬ pOk g.N g.L[i] → ¬ GVal g := fun hb hv => hb (hv.v _ (List.getElem_mem hlt))
   refine T.cond (fun g2 => .ret ⟨by decide, bad fun hp => ?_⟩) fun g2 => T.cond (fun g3 => .ret ⟨by decide, bad fun hp => ?_⟩) fun g3 => ?_
   ·have := hmn.1 (of_decide_eq_true g2); obtain ⟨a, b, c, d⟩ := hp; omega
   ·have := hmx.1 (of_decide_eq_true g3); obtain ⟨a, b, c, d⟩ := hp; omega
   have h2 : ¬ (g.L[i].From < 0 ∨ g.L[i].To < 0) := fun h => of_decide_eq_false g2 (hmn.2 h)
   have h3 : ¬ (g.L[i].From ≥ g.N ∨ g.L[i].To ≥ g.N) := fun h => of_decide_eq_false g3 (hmx.2 h)
   have hp : pOk g.N g.L[i] := by unfold pOk; omega
   refine T.cond (fun g4 => ?_) fun g4 => .ret ⟨hlt, rfl, by omega, hf.step hlt hp fun h => by simp at g4; omega⟩
   simp at g4
   rw [isub1 (by omega), show (i : Int) - 1 = ((i - 1 : Nat) : Int) from by omega, idxM_nat (by omega), some_bind, pcmp_all, some_bind]
   refine T.cond (fun g5 => .ret ⟨by decide, fun hv => ?_⟩) fun g5 => .ret ⟨hlt, rfl, by omega, hf.step hlt hp fun h => ?_⟩
   ·have := hv.pw (by omega : 1 ≤ i) hlt
    have g5 := of_decide_eq_true g5
    unfold pcmp at g5; rw [if_pos this] at g5; omega
   ·have g5 := of_decide_eq_false g5
    unfold pcmp at g5
    refine Classical.byContradiction fun hn => g5 ?_
    rw [if_neg hn]; split <;> omega
  ·have e : i = g.L.length := by have : ¬ (i : Int) < g.L.length := of_decide_eq_false g1; omega
   subst e
   exact gval_of (by omega) (by omega) hf
 ·cases q with
  | inl a => exact .ret ⟨fun h => absurd h hq.1, fun h => absurd h hq.2⟩
  | inr a => exact .ret ⟨fun _ => hq, fun _ => rfl⟩
theorem gValidate_plain {g : T_api_Graph} (h : GVal g) (hl : g.L.length ≤ 1000000) : graph_Validate_m g = some 0 := by
 obtain ⟨r, e, hr⟩ := gValidate_all (g := g) hl
 rw [e, hr.2 h]

end Go.Dc

set_option linter.unusedVariables false
set_option linter.unusedSimpArgs false
set_option linter.unusedSectionVars false
/-! Attackers of a node. -/
namespace Go.Dc
open Go.Proofs Go.Sort

def sf (l : List Int) : Nat → Int := fun i => l.getD i 0
theorem idx_sf {l : List Int} {i : Nat} (h : i < l.length) : idxM l (i : Int) = some (sf l i) := idxM_getD h
theorem sf_set {l : List Int} {i j : Nat} {x : Int} (h : i < l.length) : sf (l.set i x) j = if i = j then x else sf l j := getD_set h
def att (g : T_api_Graph) (a b : Int) : Prop := ∃ p ∈ g.L, p.From = a ∧ p.To = b

theorem tz_plain {s k : Nat} (hs : s < 2 ^ 64) (hk : s.testBit k = true) (hl : ∀ j, j < k → s.testBit j = false) : tzM (s : Int) = some (k : Int) := by
 have h0 : s ≠ 0 := fun e => by rw [e] at hk; simp at hk
 unfold tzM
 rw [if_pos ⟨by omega, by omega⟩, Int.toNat_natCast]
 have h1 := (Lib.lowest_bit 64 s h0 hs).1
 rw [low_neg hs hk hl] at h1
 rw [← (Nat.pow_right_inj (by omega)).1 h1]

theorem list_plain {m : Nat} (hm : m < 2 ^ 64) : graph_list_m (m : Int) = some ((bitsL m).map fun k : Nat => (k : Int)) := by
 unfold graph_list_m
 refine T.eq (T.bind (P := fun q => q = (bitsL m).map fun k : Nat => (k : Int)) ?_ fun q hq => .ret hq)
 refine T.loopM (fun s => ∃ t : Nat, s.1 = (t : Int) ∧ t < 2 ^ 64 ∧ s.2 ++ ((bitsL t).map fun k : Nat => (k : Int)) = (bitsL m).map fun k : Nat => (k : Int)) (fun s => s.1.toNat) ⟨m, rfl, hm, rfl⟩ ?_
 rintro ⟨_, out⟩ ⟨t, rfl, ht, ho⟩
 dsimp only [graph_list_l1] at ho ⊢
 have hlen : out.length ≤ 64 := by
  have := congrArg List.length ho
  simp only [List.length_append, List.length_map] at this
  have := bitsL_len (s := m)
  omega
 refine T.cond (fun c => ?_) fun c => ?_
 ·have h0 : t ≠ 0 := fun e => by rw [e] at c; simp at c
  obtain ⟨k, hk, hl⟩ := low_exists h0
  rw [tz_plain ht hk hl, some_bind, appM_eq (by simp; omega), some_bind, isub1_u ht (by omega), iand_u ht (by omega)]
  refine .ret ⟨⟨t &&& (t - 1), rfl, Nat.lt_of_le_of_lt Nat.and_le_left ht, ?_⟩, ?_⟩
  ·rw [bitsL_cons ht hk hl] at ho
   rw [← ho]; simp
  ·simp only [Int.toNat_natCast]; exact low_lt h0
 ·have h0 : t = 0 := by simpa using c
  subst h0
  rw [bitsL_zero, List.map_nil, List.append_nil] at ho
  exact .ret ho

theorem Attacked_plain {g : T_api_Graph} (h : GVal g) (hl : g.L.length ≤ 100000) {i : Nat} (hi : (i : Int) < g.N) : ∃ L, graph_Attacked_m g (i : Int) = some L ∧ (∀ j : Int, j ∈ L ↔ att g i j) ∧ L.Pairwise (· < ·) ∧ L.length ≤ 64 := by
 obtain ⟨N, hN⟩ : ∃ N : Nat, g.N = (N : Int) := ⟨g.N.toNat, by have := h.n0; omega⟩
 have h40 := h.n1
 suffices hm : T (graph_masks_m g) fun d => d.length = N ∧ ∀ a : Nat, a < N → ∃ m : Nat, sf d a = (m : Int) ∧ m < 2 ^ 64 ∧ ∀ j : Nat, m.testBit j = true ↔ att g a j by
  obtain ⟨d, e1, hd, hd2⟩ := hm
  obtain ⟨m, hm1, hm2, hm3⟩ := hd2 i (by omega)
  refine ⟨(bitsL m).map fun k : Nat => (k : Int), ?_, fun j => ?_, ?_, by rw [List.length_map]; exact bitsL_len⟩
  ·unfold graph_Attacked_m graph_proper_m
   rw [gValidate_plain h (by omega), some_bind, show ((0 : Int) != 0) = false from rfl, cond_false, some_bind, decide_eq_false (by omega), cond_false, decide_eq_false (by omega), cond_false, e1, some_bind, idx_sf (by omega), hm1, some_bind, list_plain hm2]; rfl
  ·rw [List.mem_map]
   constructor
   ·rintro ⟨k, hk, rfl⟩
    exact (hm3 k).1 ((mem_bitsL hm2).1 hk)
   ·intro hj
    obtain ⟨p, hp, h1, h2⟩ := hj
    have := h.v p hp
    exact ⟨j.toNat, (mem_bitsL hm2).2 ((hm3 j.toNat).2 ⟨p, hp, h1, by omega⟩), by omega⟩
  ·rw [List.pairwise_map]
   unfold bitsL
   refine List.Pairwise.imp ?_ (List.Pairwise.filter _ (List.pairwise_lt_range (n := 64)))
   intro a b hab
   omega
 unfold graph_masks_m
 rw [hN, mkM_T (by omega), some_bind]
 refine T.bind (P := fun d => d.length = N ∧ ∀ a : Nat, a < N → ∃ m : Nat, sf d a = (m : Int) ∧ m < 2 ^ 64 ∧ ∀ j : Nat, m.testBit j = true ↔ att g a j) ?_ fun d hd => .ret hd
 refine T.loopK g.L.length (fun k s => k ≤ g.L.length ∧ s.1 = (k : Int) ∧ s.2.length = N ∧ ∀ a : Nat, a < N → ∃ m : Nat, sf s.2 a = (m : Int) ∧ m < 2 ^ 64 ∧ ∀ j : Nat, m.testBit j = true ↔ ∃ p ∈ g.L.take k, p.From = a ∧ p.To = j) ⟨by omega, rfl, by simp, fun a ha => ⟨0, by simp [sf, ha], by omega, by simp⟩⟩ ?_
 rintro k ⟨_, d⟩ ⟨hk, rfl, hd, hd2⟩
 dsimp only [graph_masks_l1] at hd hd2 ⊢
 refine T.cond (fun c => ?_) fun c => ?_
 ·have hk2 : k < g.L.length := by have := of_decide_eq_true c; omega
  obtain ⟨v0, v1, v2, v3⟩ := h.v _ (List.getElem_mem hk2)
  obtain ⟨a, ha⟩ : ∃ a : Nat, g.L[k].From = (a : Int) := ⟨g.L[k].From.toNat, by omega⟩
  obtain ⟨t, ht⟩ : ∃ t : Nat, g.L[k].To = (t : Int) := ⟨g.L[k].To.toNat, by omega⟩
  obtain ⟨m, m1, m2, m3⟩ := hd2 a (by omega)
  have hsh : ishlM .u64 1 (t : Int) = some (((2 ^ t : Nat) : Int)) := by
   unfold ishlM
   rw [if_neg (by omega), ishl_u (by omega)]
  have p2 : 2 ^ t < 2 ^ 64 := Nat.pow_lt_pow_right (by omega) (by omega)
  rw [idxM_nat hk2, some_bind, ha, ht, idx_sf (by omega), some_bind, hsh, some_bind, some_bind, m1, ior_u m2 p2, iadd1 (by omega), Int.toNat_natCast]
  refine .ret ⟨hk2, hk2, rfl, by simp [hd], fun b hb => ?_⟩
  have htk : ∀ q : T_api_Pair, q ∈ g.L.take (k + 1) ↔ q ∈ g.L.take k ∨ q = g.L[k] := fun q => by
   rw [List.take_add_one, List.getElem?_eq_getElem hk2]; simp only [Option.toList_some, List.mem_append, List.mem_singleton]
  simp only
  rw [sf_set (by omega)]
  by_cases e : a = b
  ·subst e
   rw [if_pos rfl]
   refine ⟨_, rfl, or_lt m2 p2, fun j => ?_⟩
   rw [Nat.testBit_or, Bool.or_eq_true, m3, Nat.testBit_two_pow, decide_eq_true_iff]
   constructor
   ·rintro (⟨p, hp, q1, q2⟩ | rfl)
    ·exact ⟨p, (htk p).2 (.inl hp), q1, q2⟩
    ·exact ⟨_, (htk _).2 (.inr rfl), ha, ht⟩
   ·rintro ⟨p, hp, q1, q2⟩
    rcases (htk p).1 hp with hp | rfl
    ·exact .inl ⟨p, hp, q1, q2⟩
    ·exact .inr (by omega)
  ·rw [if_neg e]
   obtain ⟨m', n1, n2, n3⟩ := hd2 b hb
   refine ⟨m', n1, n2, fun j => ?_⟩
   rw [n3]
   constructor
   ·rintro ⟨p, hp, q1, q2⟩; exact ⟨p, (htk p).2 (.inl hp), q1, q2⟩
   ·rintro ⟨p, hp, q1, q2⟩
    rcases (htk p).1 hp with hp | rfl
    ·exact ⟨p, hp, q1, q2⟩
    ·exact absurd (by omega) e
 ·have e : k = g.L.length := by have := of_decide_eq_false c; omega
  subst e
  rw [List.take_length] at hd2
  exact .ret ⟨hd, hd2⟩

/-! ### attackers -/
def attsP (g : T_api_Graph) (i : Int) : List Int := (g.L.filter fun p => p.To == i).map (·.From)
theorem mem_attsP {g : T_api_Graph} {i j : Int} : j ∈ attsP g i ↔ att g j i := by
 unfold attsP att
 rw [List.mem_map]
 constructor
 ·rintro ⟨p, hp, rfl⟩
  rw [List.mem_filter] at hp
  exact ⟨p, hp.1, rfl, eq_of_beq hp.2⟩
 ·rintro ⟨p, hp, rfl, rfl⟩
  exact ⟨p, List.mem_filter.2 ⟨hp, by simp⟩, rfl⟩
theorem attsP_asc {g : T_api_Graph} (h : g.L.Pairwise plt) {i : Int} : (attsP g i).Pairwise (· < ·) := by
 unfold attsP
 rw [List.pairwise_map, List.pairwise_filter]
 refine h.imp fun {p q} hpq hp hq => ?_
 have := eq_of_beq hp; have := eq_of_beq hq
 unfold plt at hpq; omega
theorem asc_eq : ∀ {a b : List Int}, a.Pairwise (· < ·) → b.Pairwise (· < ·) → (∀ x, x ∈ a ↔ x ∈ b) → a = b
 | [], [], _, _, _ => rfl
 | [], y :: b, _, _, h => absurd ((h y).2 (by simp)) (by simp)
 | x :: a, [], _, _, h => absurd ((h x).1 (by simp)) (by simp)
 | x :: a, y :: b, ha, hb, h => by
  obtain ⟨a1, a2⟩ := List.pairwise_cons.1 ha
  obtain ⟨b1, b2⟩ := List.pairwise_cons.1 hb
  have e : x = y := by
   have h1 := (h x).1 (by simp)
   have h2 := (h y).2 (by simp)
   rcases List.mem_cons.1 h1 with h1 | h1
   ·exact h1
   ·rcases List.mem_cons.1 h2 with h2 | h2
    ·exact h2.symm
    ·have := b1 x h1; have := a1 y h2; omega
  subst e
  congr 1
  refine asc_eq a2 b2 fun z => ⟨fun hz => ?_, fun hz => ?_⟩
  ·rcases List.mem_cons.1 ((h z).1 (List.mem_cons_of_mem _ hz)) with e | e
   ·have := a1 z hz; omega
   ·exact e
  ·rcases List.mem_cons.1 ((h z).2 (List.mem_cons_of_mem _ hz)) with e | e
   ·have := b1 z hz; omega
   ·exact e

def swapP (p : T_api_Pair) : T_api_Pair := ⟨p.To, p.From⟩
theorem Reverse_plain {g : T_api_Graph} (h : GVal g) (hl : g.L.length ≤ 100000) : ∃ r, graph_Reverse_m g = some ⟨g.N, r⟩ ∧ r.Perm (g.L.map swapP) ∧ GVal ⟨g.N, r⟩ := by
 have hloop : loopC (graph_Reverse_l1 g) (0, []) = some (g.L.map swapP) := by
  refine T.eq (T.loopK g.L.length (fun k s => k ≤ g.L.length ∧ s.1 = (k : Int) ∧ s.2 = (g.L.take k).map swapP) ⟨by omega, rfl, by simp⟩ ?_)
  rintro k ⟨_, d⟩ ⟨hk, rfl, hd⟩
  dsimp only at hd
  subst hd
  dsimp only [graph_Reverse_l1]
  refine T.cond (fun c => ?_) fun c => ?_
  ·have hk2 : k < g.L.length := by simpa using c
   rw [idxM_nat hk2, some_bind, appM_eq (by simp; omega), some_bind, iadd1 (by omega)]
   refine .ret ⟨hk2, hk2, rfl, ?_⟩
   rw [List.take_add_one, List.getElem?_eq_getElem hk2, Option.toList_some, List.map_append]; rfl
  ·have e : k = g.L.length := by have : ¬ (k : Int) < g.L.length := of_decide_eq_false c; omega
   subst e
   exact .ret (by simp)
 obtain ⟨r, hr, hp, hs⟩ := sort_P (l := g.L.map swapP) (by simpa using hl)
 refine ⟨r, ?_, hp, h.n0, h.n1, fun p hp' => ?_, ?_⟩
 ·unfold graph_Reverse_m graph_proper_m
  rw [gValidate_plain h (by omega), some_bind, show ((0 : Int) != 0) = false from rfl, cond_false, some_bind, hloop, some_bind, hr]; rfl
 ·obtain ⟨q, hq, rfl⟩ := List.mem_map.1 (hp.mem_iff.1 hp')
  have := h.v q hq
  simp only [swapP]; omega
 ·have hn : r.Nodup := hp.nodup_iff.2 (by
   unfold List.Nodup
   rw [List.pairwise_map]
   refine h.s.imp fun {p q} hpq e => ?_
   have e1 := congrArg T_api_Pair.From e; have e2 := congrArg T_api_Pair.To e
   simp only [swapP] at e1 e2
   unfold plt at hpq; omega)
  have := List.Pairwise.and hs hn
  exact this.imp fun {p q} ⟨h1, h2⟩ => h1.resolve_right h2

theorem gAttackers_plain {g : T_api_Graph} (h : GVal g) (hl : g.L.length ≤ 100000) {i : Nat} (hi : (i : Int) < g.N) : graph_Attackers_m g (i : Int) = some (attsP g i) := by
 obtain ⟨r, h1, h2, h3⟩ := Reverse_plain h hl
 have hrl : r.length ≤ 100000 := by rw [h2.length_eq, List.length_map]; exact hl
 obtain ⟨L, e1, e2, e3, e4⟩ := Attacked_plain h3 hrl (i := i) hi
 unfold graph_Attackers_m
 rw [h1, some_bind, e1, some_bind]
 congr 1
 refine asc_eq e3 (attsP_asc h.s) fun j => ?_
 rw [e2, mem_attsP]
 unfold att
 constructor
 ·rintro ⟨p, hp, q1, q2⟩
  obtain ⟨q, hq, rfl⟩ := List.mem_map.1 (h2.mem_iff.1 hp)
  exact ⟨q, hq, q2, q1⟩
 ·rintro ⟨p, hp, q1, q2⟩
  exact ⟨swapP p, h2.mem_iff.2 (List.mem_map.2 ⟨p, hp, rfl⟩), q2, q1⟩

end Go.Dc

set_option linter.unusedVariables false
set_option linter.unusedSimpArgs false
/-! Loops that fold over a list. -/
namespace Go.Dc
variable {α β ρ : Type}

/-- numbers of Nat as numbers -/
abbrev il (l : List Nat) : List Int := l.map fun x : Nat => (x : Int)
/-! ### unions of bits over a list -/
def orL (g : Nat → Nat) (l : List Nat) : Nat := l.foldl (fun a i => a ||| g i) 0
/-! ### subsets, downward -/
def SubB (a b : Nat) : Prop := ∀ i, a.testBit i = true → b.testBit i = true
theorem SubB.refl (a : Nat) : SubB a a := fun _ h => h
theorem SubB.and {a b : Nat} : SubB (a &&& b) b := fun i h => by rw [Nat.testBit_and, Bool.and_eq_true] at h; exact h.2
theorem SubB.trans {a b c : Nat} (h : SubB a b) (k : SubB b c) : SubB a c := fun i hi => k i (h i hi)
theorem SubB.zero {a : Nat} : SubB 0 a := fun i h => by simp at h

end Go.Dc

set_option linter.unusedVariables false
set_option linter.unusedSimpArgs false
set_option linter.unusedSectionVars false
/-! Clauses that are valid. -/
namespace Go.Dc
section
variable {α β ρ R : Type}
theorem find_bind {l : List α} {f : Int → Option (Sum (Sum ρ Unit) Int)} (g : α → Option ρ)
  (h : ∀ i (hi : i < l.length), f (i : Int) = some (match g l[i] with | some r => .inl (.inl r) | none => .inr ((i : Int) + 1)))
  (hend : f (l.length : Int) = some (.inl (.inr ()))) {kr : ρ → Option R} {kb : Unit → Option R} :
  (loopC f 0).bind (sumK kr kb) = match l.findSome? g with | some r => kr r | none => kb () := by
 rw [find_loop g h hend]; cases l.findSome? g <;> rfl
end

theorem ineg64 {x : Int} (h0 : -4611686018427387904 ≤ x) (h1 : x ≤ 4611686018427387904) : ineg .i64 x = -x := by
 unfold ineg; rw [wrap64 (by omega) (by omega)]; omega
theorem imax_abs {x : Int} : imax x (-x) = (x.natAbs : Int) := by unfold imax; split <;> omega
theorem abs_plain {x : Int} (h0 : -4611686018427387904 ≤ x) (h1 : x ≤ 4611686018427387904) : proof_abs_m x = some (x.natAbs : Int) := by
 unfold proof_abs_m; rw [ineg64 h0 h1, imax_abs]
/-- an element of a clause over n variables -/
def inR (n x : Int) : Bool := x != 0 && decide (-n ≤ x) && decide (x ≤ n)
theorem inR_iff {n x : Int} : inR n x = true ↔ x ≠ 0 ∧ -n ≤ x ∧ x ≤ n := by simp [inR, and_assoc]
abbrev Asc (c : List Int) : Prop := c.Pairwise fun x y => x.natAbs < y.natAbs
/-- what is wrong with a clause -/
def clauseP (n : Int) (c : List Int) : Int := if 50 < c.length then 2 else if c.all (inR n) = true then if Asc c then 0 else 8 else 1
structure COk (n : Int) (c : List Int) : Prop where
 len : c.length ≤ 50
 rng : ∀ x ∈ c, x ≠ 0 ∧ -n ≤ x ∧ x ≤ n
 asc : Asc c
theorem clauseP_ok {n : Int} {c : List Int} : clauseP n c = 0 ↔ COk n c := by
 unfold clauseP
 constructor
 ·intro h
  split at h
  ·omega
  ·rename_i h1
   split at h
   ·rename_i h2
    split at h
    ·rename_i h3
     exact ⟨by omega, fun x hx => inR_iff.1 (List.all_eq_true.1 h2 x hx), h3⟩
    ·omega
   ·omega
 ·rintro ⟨h1, h2, h3⟩
  rw [if_neg (by omega), if_pos (List.all_eq_true.2 fun x hx => inR_iff.2 (h2 x hx)), if_pos h3]

theorem asc_snoc {c : List Int} {i : Nat} (hi : i + 1 < c.length) (h : Asc (c.take (i + 1))) (hx : c[i].natAbs < c[i + 1].natAbs) : Asc (c.take (i + 2)) := by
 rw [← List.take_append_getElem hi]
 refine List.pairwise_append.2 ⟨h, by simp, fun x hx' y hy => ?_⟩
 rw [List.mem_singleton.1 hy]
 rw [← List.take_append_getElem (show i < c.length by omega)] at h hx'
 rcases List.mem_append.1 hx' with h1 | h1
 ·have := (List.pairwise_append.1 h).2.2 x h1 c[i] (by simp)
  omega
 ·rw [List.mem_singleton.1 h1]; exact hx

theorem clause_l2_plain {n : Int} {c : List Int} (hc : c.length ≤ 50) (hr : ∀ x ∈ c, x ≠ 0 ∧ -n ≤ x ∧ x ≤ n) (hn : n ≤ 1000) :
  loopC (proof_clause_l2 c) 1 = some (if Asc c then .inr () else .inl 8) := by
 refine T.eq (T.loopK c.length (fun k s => s = (k : Int) + 1 ∧ Asc (c.take (k + 1))) ⟨rfl, ?_⟩ fun k s hs => ?_)
 ·cases c with
  | nil => simp
  | cons x c => simp
 ·obtain ⟨rfl, ha⟩ := hs
  unfold proof_clause_l2
  refine T.cond (fun h => ?_) fun h => ?_
  ·simp only [decide_eq_true_eq] at h
   have hk : k + 1 < c.length := by omega
   have h1 := hr _ (List.getElem_mem (show k < c.length by omega))
   have h2 := hr _ (List.getElem_mem hk)
   rw [isub64 (by omega) (by omega), show (k : Int) + 1 - 1 = ((k : Nat) : Int) by omega, show (k : Int) + 1 = ((k + 1 : Nat) : Int) by omega, idxM_nat (show k < c.length by omega), idxM_nat hk]
   simp only [Option.bind_some]
   rw [abs_plain (by omega) (by omega), abs_plain (by omega) (by omega)]
   simp only [Option.bind_some]
   refine T.cond (fun h3 => .ret ?_) fun h3 => .ret ?_
   ·simp only [ge_iff_le, decide_eq_true_eq] at h3
    show _ = _
    rw [if_neg]
    intro h4
    have := List.pairwise_iff_getElem.1 h4 k (k + 1) (by omega) hk (by omega)
    omega
   ·simp only [ge_iff_le, decide_eq_false_iff_not] at h3
    rw [iadd64 (by omega) (by omega)]
    exact ⟨by omega, by omega, asc_snoc hk ha (by omega)⟩
  ·simp only [decide_eq_false_iff_not] at h
   refine .ret ?_
   show _ = _
   rw [List.take_of_length_le (by omega)] at ha
   rw [if_pos ha]

theorem clause_plain {n : Int} {c : List Int} (hn0 : 0 ≤ n) (hn : n ≤ 1000) : proof_clause_m n c = some (clauseP n c) := by
 unfold proof_clause_m clauseP
 by_cases hl : 50 < c.length
 ·rw [if_pos hl, show decide ((c.length : Int) > 50) = true by simp; omega]; rfl
 ·rw [if_neg hl, show decide ((c.length : Int) > 50) = false by simp; omega, cond_false]
  rw [find_bind (l := c) (fun x => if inR n x = true then none else some 1) (fun i hi => by
   unfold proof_clause_l1
   rw [show decide ((i : Int) < (c.length : Int)) = true by simp [hi], cond_true, idxM_nat hi, ineg64 (by omega) (by omega), iadd64 (by omega) (by omega)]
   simp only [Option.bind_some]
   by_cases h0 : c[i] = 0
   ·have e : inR n c[i] = false := by simp [inR, h0]
    rw [e]; simp [h0]
   ·have e0 : (c[i] == 0) = false := beq_false_of_ne h0
    by_cases h1 : c[i] < -n
    ·have e : inR n c[i] = false := Bool.eq_false_iff.2 fun h => by have := inR_iff.1 h; omega
     rw [e, e0]; simp [h1]
    ·by_cases h2 : n < c[i]
     ·have e : inR n c[i] = false := Bool.eq_false_iff.2 fun h => by have := inR_iff.1 h; omega
      rw [e, e0]; simp [h1, h2]
     ·have e : inR n c[i] = true := inR_iff.2 ⟨h0, by omega, by omega⟩
      rw [e, e0]; simp [h1, h2]) (by unfold proof_clause_l1; simp)]
  ·by_cases ha : c.all (inR n) = true
   ·rw [if_pos ha]
    have h1 : c.findSome? (fun x => if inR n x = true then none else some (1 : Int)) = none := by
     rw [List.findSome?_eq_none_iff]; intro x hx; rw [if_pos (List.all_eq_true.1 ha x hx)]
    rw [h1]
    rw [clause_l2_plain (n := n) (by omega) (fun x hx => inR_iff.1 (List.all_eq_true.1 ha x hx)) hn]
    by_cases h3 : Asc c
    ·rw [if_pos h3, if_pos h3]; rfl
    ·rw [if_neg h3, if_neg h3]; rfl
   ·rw [if_neg ha]
    have h1 : c.findSome? (fun x => if inR n x = true then none else some (1 : Int)) = some 1 := by
     obtain ⟨x, hx, hx2⟩ := List.all_eq_false.1 (by simpa using ha)
     cases hf : c.findSome? (fun x => if inR n x = true then none else some (1 : Int)) with
     | none => rw [List.findSome?_eq_none_iff] at hf; have := hf x hx; rw [if_neg hx2] at this; cases this
     | some r =>
      obtain ⟨y, _, hy⟩ := List.exists_of_findSome?_eq_some hf
      split at hy
      ·cases hy
      ·exact hy ▸ rfl
    rw [h1]
theorem clause_s1_eq : @proof_clause_s1_m = @proof_clause_m := rfl


/-- what is wrong with clauses -/
def ValidP (n : Int) (l : List (List Int)) : Int := if n < 0 ∨ 200 < n then 1 else if 4000 < l.length then 2 else (l.findSome? fun c => if clauseP n c = 0 then none else some (clauseP n c)).getD 0
structure VOk (n : Int) (l : List (List Int)) : Prop where
 n0 : 0 ≤ n
 n1 : n ≤ 200
 len : l.length ≤ 4000
 cl : ∀ c ∈ l, COk n c
theorem ValidP_ok {n : Int} {l : List (List Int)} : ValidP n l = 0 ↔ VOk n l := by
 unfold ValidP
 constructor
 ·intro h
  split at h
  ·omega
  ·split at h
   ·omega
   ·refine ⟨by omega, by omega, by omega, fun c hc => ?_⟩
    cases hf : l.findSome? fun c => if clauseP n c = 0 then none else some (clauseP n c) with
    | none =>
     rw [List.findSome?_eq_none_iff] at hf
     have := hf c hc
     split at this
     ·rename_i h3; exact clauseP_ok.1 h3
     ·cases this
    | some r =>
     rw [hf] at h
     obtain ⟨y, _, hy⟩ := List.exists_of_findSome?_eq_some hf
     split at hy
     ·cases hy
     ·rename_i h3; cases hy; exact absurd h h3
 ·rintro ⟨h1, h2, h3, h4⟩
  rw [if_neg (by omega), if_neg (by omega)]
  have : (l.findSome? fun c => if clauseP n c = 0 then none else some (clauseP n c)) = none := by
   rw [List.findSome?_eq_none_iff]; intro c hc; rw [if_pos (clauseP_ok.2 (h4 c hc))]
  rw [this]; rfl

theorem Validate_plain {n : Int} {l : List (List Int)} : proof_Validate_s1_m n l = some (ValidP n l) := by
 unfold proof_Validate_s1_m ValidP
 by_cases h1 : n < 0
 ·rw [if_pos (.inl h1), decide_eq_true h1]; rfl
 ·by_cases h2 : 200 < n
  ·rw [if_pos (.inr h2), decide_eq_false h1, show decide (n > 200) = true by simp [h2]]; rfl
  ·rw [if_neg (by omega), decide_eq_false h1, show decide (n > 200) = false by simp; omega]
   by_cases h3 : 4000 < l.length
   ·rw [if_pos h3, show decide ((l.length : Int) > 4000) = true by simp; omega]; rfl
   ·rw [if_neg h3, show decide ((l.length : Int) > 4000) = false by simp; omega]
    simp only [cond_false]
    rw [find_bind (l := l) (fun c => if clauseP n c = 0 then none else some (clauseP n c)) (fun i hi => by
     unfold proof_Validate_s1_l1
     rw [show decide ((i : Int) < (l.length : Int)) = true by simp [hi], cond_true, idxM_nat hi, iadd64 (by omega) (by omega)]
     simp only [Option.bind_some]
     rw [clause_plain (by omega) (by omega)]
     simp only [Option.bind_some]
     by_cases h : clauseP n l[i] = 0
     ·rw [if_pos h, h]; rfl
     ·rw [if_neg h, show (clauseP n l[i] != 0) = true by simp [h]]; rfl) (by unfold proof_Validate_s1_l1; simp)]
    cases l.findSome? fun c => if clauseP n c = 0 then none else some (clauseP n c) <;> rfl
end Go.Dc

set_option linter.unusedVariables false
set_option linter.unusedSimpArgs false
set_option linter.unusedSectionVars false
/-! The clauses of a question. -/
namespace Go.Dc
open Go.Proofs Go.Sort

theorem asc_bound {l : List Int} : ∀ {lo n : Int}, lo ≤ n → l.Pairwise (· < ·) → (∀ x ∈ l, lo ≤ x ∧ x < n) → (l.length : Int) ≤ n - lo := by
 induction l with
 | nil => intro lo n h _ _; simp; omega
 | cons x l ih =>
  intro lo n h hp hx
  have h1 := hx x (by simp)
  obtain ⟨h2, h3⟩ := List.pairwise_cons.1 hp
  have := ih (lo := x + 1) (n := n) (by omega) h3 fun y hy => ⟨by have := h2 y hy; omega, (hx y (by simp [hy])).2⟩
  simp; omega
theorem attsP_rng {g : T_api_Graph} (h : GVal g) {i : Int} : ∀ a ∈ attsP g i, 0 ≤ a ∧ a < g.N := fun a ha => by
 obtain ⟨p, hp, rfl, _⟩ := mem_attsP.1 ha
 have := h.v p hp; omega
theorem attsP_len {g : T_api_Graph} (h : GVal g) {i : Int} : (attsP g i).length ≤ 40 := by
 have := asc_bound (lo := 0) (n := g.N) h.n0 (attsP_asc h.s (i := i)) (attsP_rng h)
 have := h.n1; omega

def c2 (x y : Int) : List Int := [x, y]
/-- the clauses of a node -/
def nodeC (g : T_api_Graph) (i : Int) (st : Bool) : List (List Int) :=
 [[-(i + 1), -(g.N + i + 1)]] ++ (attsP g i).map (fun a => [-(i + 1), g.N + a + 1]) ++ [(i + 1) :: (attsP g i).map (fun a => -(g.N + a + 1))] ++
  (attsP g i).map (fun a => [-(a + 1), g.N + i + 1]) ++ [(attsP g i).map (fun a => a + 1) ++ [-(g.N + i + 1)]] ++ (if st then [[i + 1, g.N + i + 1]] else [])
theorem nodeC_len {g : T_api_Graph} (h : GVal g) {i : Int} {st : Bool} : (nodeC g i st).length ≤ 84 := by
 have := attsP_len h (i := i)
 unfold nodeC
 cases st <;> simp <;> omega
theorem nodeC_small {g : T_api_Graph} (h : GVal g) {i : Int} {st : Bool} : ∀ c ∈ nodeC g i st, c.length ≤ 41 := fun c hc => by
 have := attsP_len h (i := i)
 unfold nodeC at hc
 simp only [List.mem_append, List.mem_singleton, List.mem_map] at hc
 rcases hc with ((((rfl | ⟨a, _, rfl⟩) | rfl) | ⟨a, _, rfl⟩) | rfl) | hc
 ·simp
 ·simp
 ·simp; omega
 ·simp
 ·simp; omega
 ·cases st <;> simp at hc; subst hc; simp

theorem take_map_succ {α β : Type} {l : List α} {f : α → β} {k : Nat} (hk : k < l.length) : (l.take (k + 1)).map f = (l.take k).map f ++ [f l[k]] := by
 rw [List.take_add_one, List.getElem?_eq_getElem hk, Option.toList_some, List.map_append]; rfl

section
variable {g : T_api_Graph} (h : GVal g) {i : Nat} (hi : (i : Int) < g.N) {l : List (List Int)} (hl : l.length ≤ 500000)
include h hi hl

theorem in_p {n : Int} {l : List (List Int)} {a : Int} (h0 : -1000 ≤ a) (h1 : a ≤ 1000) : verdict_encoder_in_s1_m n l a = some (a + 1) := by
 unfold verdict_encoder_in_s1_m; rw [iadd64 (by omega) (by omega)]
theorem out_p {n : Int} {l : List (List Int)} {a : Int} (h0 : -1000 ≤ a) (h1 : a ≤ 1000) (h2 : -1000 ≤ n) (h3 : n ≤ 1000) : verdict_encoder_out_s1_m n l a = some (n + a + 1) := by
 unfold verdict_encoder_out_s1_m; rw [show iadd .i64 n a = n + a from iadd64 (by omega) (by omega), iadd64 (by omega) (by omega)]
theorem add_p {n : Int} {l : List (List Int)} {c : List Int} (hl : l.length ≤ 1000000) : verdict_encoder_add_s1_m n l c = some (n, l ++ [c]) := by
 unfold verdict_encoder_add_s1_m; rw [appM_eq (by simp; omega), some_bind]

theorem node_l1 : loopC (verdict_encoder_node_s1_l1 (i : Int) (attsP g i)) (0, g.N, [(i : Int) + 1], [], l) =
  some (g.N, ((i : Int) + 1) :: (attsP g i).map (fun a => -(g.N + a + 1)), (attsP g i).map (fun a => a + 1), l ++ (attsP g i).map (fun a => [-((i : Int) + 1), g.N + a + 1])) := by
 have hn0 := h.n0; have hn1 := h.n1; have hal := attsP_len h (i := i)
 refine T.eq (T.loopK (attsP g i).length (fun k s => k ≤ (attsP g i).length ∧ s = ((k : Int), g.N, ((i : Int) + 1) :: ((attsP g i).take k).map (fun a => -(g.N + a + 1)), ((attsP g i).take k).map (fun a => a + 1), l ++ ((attsP g i).take k).map (fun a => [-((i : Int) + 1), g.N + a + 1])))
  ⟨by omega, by simp⟩ ?_)
 rintro k _ ⟨hk, rfl⟩
 dsimp only [verdict_encoder_node_s1_l1]
 refine T.cond (fun c => ?_) fun c => ?_
 ·have hk2 : k < (attsP g i).length := by simpa using c
  have hr := attsP_rng h _ (List.getElem_mem hk2)
  have e1 : ∀ f : Int → List Int, (l ++ ((attsP g i).take k).map f).length ≤ 1000000 := fun f => by simp; omega
  rw [idxM_nat hk2, some_bind, in_p h hi hl (by omega) (by omega), some_bind, out_p h hi hl (by omega) (by omega) (by omega) (by omega), some_bind, add_p h hi hl (e1 _), some_bind,
   out_p h hi hl (by omega) (by omega) (by omega) (by omega), some_bind, appM_eq (by simp; omega), some_bind, in_p h hi hl (by omega) (by omega), some_bind, appM_eq (by simp; omega), some_bind, iadd1 (by omega), ineg64 (by omega) (by omega), ineg64 (by omega) (by omega)]
  refine .ret ⟨hk2, hk2, ?_⟩
  rw [take_map_succ hk2, take_map_succ hk2, take_map_succ hk2]
  simp
 ·have e : k = (attsP g i).length := by have : ¬ (k : Int) < (attsP g i).length := of_decide_eq_false c; omega
  subst e
  exact .ret (by simp)
theorem node_l2 : loopC (verdict_encoder_node_s1_l2 (i : Int) (attsP g i)) (0, g.N, l) = some (g.N, l ++ (attsP g i).map (fun a => [-(a + 1), g.N + (i : Int) + 1])) := by
 have hn0 := h.n0; have hn1 := h.n1; have hal := attsP_len h (i := i)
 refine T.eq (T.loopK (attsP g i).length (fun k s => k ≤ (attsP g i).length ∧ s = ((k : Int), g.N, l ++ ((attsP g i).take k).map (fun a => [-(a + 1), g.N + (i : Int) + 1]))) ⟨by omega, by simp⟩ ?_)
 rintro k _ ⟨hk, rfl⟩
 dsimp only [verdict_encoder_node_s1_l2]
 refine T.cond (fun c => ?_) fun c => ?_
 ·have hk2 : k < (attsP g i).length := by simpa using c
  have hr := attsP_rng h _ (List.getElem_mem hk2)
  have e1 : ∀ f : Int → List Int, (l ++ ((attsP g i).take k).map f).length ≤ 1000000 := fun f => by simp; omega
  rw [idxM_nat hk2, some_bind, in_p h hi hl (by omega) (by omega), some_bind, out_p h hi hl (by omega) (by omega) (by omega) (by omega), some_bind, add_p h hi hl (e1 _), some_bind, iadd1 (by omega), ineg64 (by omega) (by omega)]
  refine .ret ⟨hk2, hk2, ?_⟩
  rw [take_map_succ hk2]
  simp
 ·have e : k = (attsP g i).length := by have : ¬ (k : Int) < (attsP g i).length := of_decide_eq_false c; omega
  subst e
  exact .ret (by simp)

theorem node_plain (hg : g.L.length ≤ 100000) (hl2 : l.length ≤ 400000) {st : Bool} : verdict_encoder_node_s1_m g.N l g (i : Int) st = some (g.N, l ++ nodeC g i st) := by
 have hn0 := h.n0; have hn1 := h.n1; have hal := attsP_len h (i := i)
 unfold verdict_encoder_node_s1_m
 rw [gAttackers_plain h hg hi, some_bind, in_p h hi hl (by omega) (by omega), some_bind, out_p h hi hl (by omega) (by omega) (by omega) (by omega), some_bind, add_p h hi hl (by omega), some_bind, in_p h hi hl (by omega) (by omega), some_bind]
 rw [node_l1 h hi (by simp; omega), some_bind, add_p h hi hl (by simp; omega), some_bind, node_l2 h hi (by simp; omega), some_bind, out_p h hi hl (by omega) (by omega) (by omega) (by omega), some_bind, appM_eq (by simp; omega), some_bind, add_p h hi hl (by simp; omega), some_bind]
 rw [ineg64 (by omega) (by omega), ineg64 (by omega) (by omega)]
 unfold nodeC
 cases st with
 | false => simp
 | true =>
  rw [cond_true, in_p h hi hl (by omega) (by omega), some_bind, out_p h hi hl (by omega) (by omega) (by omega) (by omega), some_bind, add_p h hi hl (by simp; omega), some_bind]
  simp
end
end Go.Dc

set_option linter.unusedVariables false
set_option linter.unusedSimpArgs false
set_option linter.unusedSectionVars false
/-! Encode and its reference are one. -/
namespace Go.Dc
open Go.Proofs Go.Sort

/-- the clauses of a question -/
def nodesC (g : T_api_Graph) (q : Int) (k : Nat) : List (List Int) := (List.range k).flatMap fun i : Nat => nodeC g (i : Int) (q != 1)
def encP (g : T_api_Graph) (q n : Int) : List (List Int) := nodesC g q g.N.toNat ++ [[if q = 3 then -(n + 1) else n + 1]]
theorem nodesC_succ {g : T_api_Graph} {q : Int} {k : Nat} : nodesC g q (k + 1) = nodesC g q k ++ nodeC g (k : Int) (q != 1) := by
 unfold nodesC; rw [List.range_succ, List.flatMap_append]; simp
theorem nodesC_len {g : T_api_Graph} (h : GVal g) {q : Int} : ∀ {k : Nat}, (nodesC g q k).length ≤ 84 * k
 | 0 => by simp [nodesC]
 | k + 1 => by rw [nodesC_succ, List.length_append]; have := nodesC_len h (q := q) (k := k); have := nodeC_len h (i := (k : Int)) (st := q != 1); omega
theorem nodesC_small {g : T_api_Graph} (h : GVal g) {q : Int} {k : Nat} : ∀ c ∈ nodesC g q k, c.length ≤ 41 := fun c hc => by
 unfold nodesC at hc
 obtain ⟨i, _, hi⟩ := List.mem_flatMap.1 hc
 exact nodeC_small h c hi

section
variable {g : T_api_Graph} (h : GVal g) (hg : g.L.length ≤ 100000)
include h hg

theorem enc_loop {q : Int} : loopC (verdict_Encode_l1 g q) (0, g.N, []) = some (g.N, nodesC g q g.N.toNat) := by
 have hn0 := h.n0; have hn1 := h.n1
 refine T.eq (T.loopK g.N.toNat (fun k s => k ≤ g.N.toNat ∧ s = ((k : Int), g.N, nodesC g q k)) ⟨by omega, by simp [nodesC]⟩ ?_)
 rintro k _ ⟨hk, rfl⟩
 have hlen := nodesC_len h (q := q) (k := k)
 dsimp only [verdict_Encode_l1]
 refine T.cond (fun c => ?_) fun c => ?_
 ·have hk2 : (k : Int) < g.N := of_decide_eq_true c
  rw [node_plain h hk2 (by omega) hg (by omega), some_bind, iadd1 (by omega)]
  exact .ret ⟨by omega, by omega, by rw [nodesC_succ]⟩
 ·have e : k = g.N.toNat := by have := of_decide_eq_false c; omega
  subst e
  exact .ret rfl

end

/-! ### both -/
theorem asked_plain {g : T_api_Graph} (hg : g.L.length ≤ 100000) {n : Int} : T (verdict_asked_m g n) fun r => (r = 0 ∧ GVal g ∧ 0 ≤ n ∧ n < g.N) ∨ (r = 1 ∧ ¬ (GVal g ∧ 0 ≤ n ∧ n < g.N)) := by
 unfold verdict_asked_m
 refine T.bind (gValidate_all (by omega)) fun r hr => ?_
 refine T.cond (fun c => .ret (.inr ⟨rfl, fun h => ?_⟩)) fun c => ?_
 ·rw [hr.2 h.1] at c; simp at c
 ·have hv := hr.1 (by simpa using c)
  refine T.cond (fun c1 => .ret (.inr ⟨rfl, fun h => ?_⟩)) fun c1 => T.cond (fun c2 => .ret (.inr ⟨rfl, fun h => ?_⟩)) fun c2 => .ret (.inl ⟨rfl, hv, ?_, ?_⟩)
  ·have := of_decide_eq_true c1; omega
  ·have := of_decide_eq_true c2; omega
  ·have := of_decide_eq_false c1; omega
  ·have := of_decide_eq_false c2; omega

/-- the answer of Encode -/
def EncR (g : T_api_Graph) (q n : Int) (r : Int × Int × List (List Int)) : Prop :=
 (GVal g ∧ 0 ≤ n ∧ n < g.N ∧ 1 ≤ q ∧ q ≤ 3 ∧ r = (2 * g.N, 0, encP g q n)) ∨ (GVal g ∧ 0 ≤ n ∧ n < g.N ∧ ¬ (1 ≤ q ∧ q ≤ 3) ∧ r = (0, 4, [])) ∨ (¬ (GVal g ∧ 0 ≤ n ∧ n < g.N) ∧ r = (0, 1, []))
theorem EncR.len {g : T_api_Graph} {q n : Int} {r : Int × Int × List (List Int)} (h : EncR g q n r) : r.2.2.length ≤ 4000 ∧ ∀ c ∈ r.2.2, c.length ≤ 41 := by
 rcases h with ⟨a, b, c, d, e, rfl⟩ | ⟨a, b, c, d, rfl⟩ | ⟨a, rfl⟩
 ·have := nodesC_len a (q := q) (k := g.N.toNat); have := a.n1
  refine ⟨by simp [encP]; omega, fun c hc => ?_⟩
  simp only [encP, List.mem_append, List.mem_singleton] at hc
  rcases hc with hc | rfl
  ·exact nodesC_small a c hc
  ·simp
 ·simp
 ·simp

theorem Encode_plain {g : T_api_Graph} (hg : g.L.length ≤ 100000) {q n : Int} : T (verdict_Encode_m g q n) (EncR g q n) := by
 unfold verdict_Encode_m
 refine T.bind (asked_plain hg) fun r hr => ?_
 rcases hr with ⟨rfl, hv, h0, h1⟩ | ⟨rfl, hn⟩
 ·have hn1 := hv.n1; have hn0 := hv.n0
  rw [show ((0 : Int) != 0) = false from rfl, cond_false]
  have hin : verdict_encoder_in_m g.N n = some (n + 1) := by unfold verdict_encoder_in_m; rw [iadd64 (by omega) (by omega)]
  rw [hin, some_bind]
  have hlen := nodesC_len hv (q := q) (k := g.N.toNat)
  have k6 : ∀ j : Int, (Option.bind (loopC (verdict_Encode_l1 g q) ((0, g.N, []))) fun q24 : Int × (List (List Int)) =>
    Option.bind (verdict_encoder_add_s1_m q24.1 q24.2 [j]) fun t25 => some ((imul .i64 2 g.N, (0 : Int), t25.2))) = some (2 * g.N, 0, nodesC g q g.N.toNat ++ [[j]]) := fun j => by
   rw [enc_loop hv hg, some_bind]
   unfold verdict_encoder_add_s1_m
   rw [appM_eq (by simp; omega), some_bind, some_bind, imul64 (by omega) (by omega)]
  simp only [joinM_eq, k6]
  by_cases h1q : q = 1
  ·subst h1q
   refine .ret (.inl ⟨hv, h0, h1, by omega, by omega, ?_⟩)
   unfold encP; rw [if_neg (by omega)]
  ·by_cases h2q : q = 2
   ·subst h2q
    refine .ret (.inl ⟨hv, h0, h1, by omega, by omega, ?_⟩)
    unfold encP; rw [if_neg (by omega)]
   ·by_cases h3q : q = 3
    ·subst h3q
     refine .ret (.inl ⟨hv, h0, h1, by omega, by omega, ?_⟩)
     unfold encP; rw [if_pos rfl, ineg64 (by omega) (by omega)]
    ·have e1 : ((q : Int) == 1) = false := by simp [h1q]
     have e2 : ((q : Int) == 2) = false := by simp [h2q]
     have e3 : ((q : Int) == 3) = false := by simp [h3q]
     rw [e1, e2, e3]
     exact .ret (.inr (.inl ⟨hv, h0, h1, by omega, rfl⟩))
 ·exact .ret (.inr (.inr ⟨hn, rfl⟩))

end Go.Dc

set_option linter.unusedVariables false
set_option linter.unusedSimpArgs false
set_option linter.unusedSectionVars false
/-! Graphs that the source makes, and equal lists. -/
namespace Go.Dc
open Go.Proofs Go.Sort

/-- ahead of (a, b) -/
def Ahead (n : Int) (a b : Nat) (l : List T_api_Pair) : Prop :=
 l.length ≤ a * n.toNat + b ∧ (∀ p ∈ l, 0 ≤ p.From ∧ p.From < n ∧ 0 ≤ p.To ∧ p.To < n ∧ (p.From < a ∨ p.From = a ∧ p.To < b)) ∧ l.Pairwise plt
theorem Ahead.up {n : Int} {a b : Nat} {l : List T_api_Pair} (h : Ahead n a b l) : Ahead n a (b + 1) l :=
 ⟨by have := h.1; omega, fun p hp => by have := h.2.1 p hp; omega, h.2.2⟩
theorem Ahead.add {n : Int} {a b : Nat} {l : List T_api_Pair} (h : Ahead n a b l) (ha : (a : Int) < n) (hb : (b : Int) < n) : Ahead n a (b + 1) (l ++ [⟨(a : Int), (b : Int)⟩]) := by
 obtain ⟨l1, l2, l3⟩ := h
 refine ⟨by simp; omega, fun p hp => ?_, ?_⟩
 ·rcases List.mem_append.1 hp with hp | hp
  ·have := l2 p hp; omega
  ·rw [List.mem_singleton.1 hp]
   exact ⟨Int.natCast_nonneg _, ha, Int.natCast_nonneg _, hb, .inr ⟨rfl, (by omega : (b : Int) < ((b + 1 : Nat) : Int))⟩⟩
 ·refine List.pairwise_append.2 ⟨l3, List.pairwise_singleton _ _, fun p hp q hq => ?_⟩
  rw [List.mem_singleton.1 hq]
  have := (l2 p hp).2.2.2.2
  unfold plt; simp only; omega

theorem Graph_plain {s : T_deliberationkeep_Src} (h : RdOk s) {n : Int} (h1 : 0 ≤ n) (h2 : n ≤ 40) : T (keep_Src_Graph_m s n) fun r => GVal r.1 ∧ r.1.N ≤ n ∧ r.1.L.length ≤ 1640 ∧ RdOk r.2 := by
 unfold keep_Src_Graph_m
 rw [iadd64 (by omega) (by omega)]
 refine T.bind (N_plain h (by omega)) fun t ⟨ht, hb⟩ => ?_
 have hb := hb (by omega)
 refine T.bind (N_plain ht (by omega)) fun d ⟨hd, hdb⟩ => ?_
 have hdb := hdb (by omega)
 obtain ⟨N, hN⟩ : ∃ N : Nat, t.1 = (N : Int) := ⟨t.1.toNat, by omega⟩
 refine T.bind (P := fun q : List Int × Int × List T_api_Pair => RdOk ⟨q.1, q.2.1⟩ ∧ Ahead t.1 N 0 q.2.2) ?_ fun q ⟨hq1, hq2, hq3, hq4⟩ => .ret ⟨⟨by simp only; omega, by simp only; omega, fun p hp => ?_, hq4⟩, by simp only; omega, ?_, hq1⟩
 ·refine T.loopK N (fun a s => s.1 = (a : Int) ∧ a ≤ N ∧ RdOk ⟨s.2.1, s.2.2.1⟩ ∧ Ahead t.1 a 0 s.2.2.2) ⟨rfl, by omega, hd, by simp [Ahead]⟩ ?_
  rintro a ⟨_, sl, sa, l⟩ ⟨rfl, ha, hsr, hl⟩
  dsimp only [keep_Src_Graph_l2] at *
  refine T.cond (fun c => ?_) fun c => ?_
  ·have hc := of_decide_eq_true c
   refine T.bind (P := fun q : List Int × Int × List T_api_Pair => RdOk ⟨q.1, q.2.1⟩ ∧ Ahead t.1 a N q.2.2) ?_ fun q ⟨hq1, hq2, hq3, hq4⟩ => ?_
   ·refine T.loopK N (fun b s => s.1 = (b : Int) ∧ b ≤ N ∧ RdOk ⟨s.2.1, s.2.2.1⟩ ∧ Ahead t.1 a b s.2.2.2) ⟨rfl, by omega, hsr, hl⟩ ?_
    rintro b ⟨_, sl', sa', l'⟩ ⟨rfl, hb', hsr', hl'⟩
    dsimp only [keep_Src_Graph_l1] at *
    refine T.cond (fun c2 => ?_) fun c2 => ?_
    ·have hc2 := of_decide_eq_true c2
     refine T.bind (N_plain hsr' (by omega)) fun k ⟨hk, hkb⟩ => ?_
     have hmul : a * t.1.toNat ≤ 40 * 40 := Nat.mul_le_mul (by omega) (by omega)
     have key : ∀ j : Bool, T (bif j then Option.bind (appM 16 l' [(T_api_Pair.mk (a : Int) (b : Int))]) fun t62 => some (Sum.inr (iadd .i64 (b : Int) 1, k.2.L, k.2.At, t62)) else some (Sum.inr (iadd .i64 (b : Int) 1, k.2.L, k.2.At, l')) : Option (Sum (List Int × Int × List T_api_Pair) (Int × List Int × Int × List T_api_Pair)))
       (onO (fun r => RdOk ⟨r.1, r.2.1⟩ ∧ Ahead t.1 a N r.2.2) fun s' => b < N ∧ s'.1 = ((b + 1 : Nat) : Int) ∧ b + 1 ≤ N ∧ RdOk ⟨s'.2.1, s'.2.2.1⟩ ∧ Ahead t.1 a (b + 1) s'.2.2.2) := by
      intro j
      rw [iadd1 (by omega)]
      have l1 := hl'.1
      refine T.cond (fun _ => ?_) fun _ => .ret ⟨by omega, rfl, by omega, hk, hl'.up⟩
      rw [appM_eq (by simp; omega), some_bind]
      exact .ret ⟨by omega, rfl, by omega, hk, hl'.add (by omega) (by omega)⟩
     exact T.join (T.cond (fun _ => T.cond (fun _ => key _) fun _ => key _) fun _ => key _)
    ·have e : b = N := by have := of_decide_eq_false c2; omega
     subst e
     exact .ret ⟨hsr', hl'⟩
   ·rw [iadd1 (by omega)]
    refine .ret ⟨by omega, rfl, by omega, hq1, ?_, fun p hp => ?_, hq4⟩
    ·have e : (a + 1) * t.1.toNat = a * t.1.toNat + t.1.toNat := by rw [Nat.add_mul, Nat.one_mul]
     simp only; omega
    ·have := hq3 p hp; omega
  ·have e : a = N := by have := of_decide_eq_false c; omega
   subst e
   exact .ret ⟨hsr, hl⟩
 ·have := hq3 p hp; simp only; omega
 ·have hmul : N * t.1.toNat ≤ 40 * 40 := Nat.mul_le_mul (by omega) (by omega)
  simp only; omega

/-! ### equal lists -/
end Go.Dc

set_option linter.unusedVariables false
set_option linter.unusedSimpArgs false
set_option linter.unusedSectionVars false
/-! Labellings, complete ones, and for which question they are. -/
namespace Go.Dc
open Go.Proofs Go.Sort

theorem all_cg {α : Type} : ∀ {l : List α} {p q : α → Bool}, (∀ a ∈ l, p a = q a) → l.all p = l.all q
 | [], _, _, _ => rfl
 | x :: l, p, q, h => by rw [List.all_cons, List.all_cons, h x (by simp), all_cg fun a ha => h a (List.mem_cons_of_mem _ ha)]
theorem any_cg {α : Type} : ∀ {l : List α} {p q : α → Bool}, (∀ a ∈ l, p a = q a) → l.any p = l.any q
 | [], _, _, _ => rfl
 | x :: l, p, q, h => by rw [List.any_cons, List.any_cons, h x (by simp), any_cg fun a ha => h a (List.mem_cons_of_mem _ ha)]

structure LOk (N : Nat) (y : List Int) : Prop where
 len : y.length = N
 rng : ∀ x ∈ y, 1 ≤ x ∧ x ≤ 3
theorem LOk.at {N : Nat} {y : List Int} (h : LOk N y) {i : Nat} (hi : i < N) : sf y i = 1 ∨ sf y i = 2 ∨ sf y i = 3 := by
 have h1 : i < y.length := by rw [h.len]; exact hi
 have e : sf y i = y[i] := by unfold sf; simp [List.getD, h1]
 have := h.rng _ (List.getElem_mem h1)
 rw [e]; omega

def uOf (y : List Int) (a : Int) : Int := sf y a.toNat
def legalP (g : T_api_Graph) (y : List Int) (i : Nat) : Bool :=
 if sf y i = 1 then (attsP g i).all (fun a => uOf y a == 2) else if sf y i = 2 then (attsP g i).any (fun a => uOf y a == 1) else !((attsP g i).any fun a => uOf y a == 1) && !((attsP g i).all fun a => uOf y a == 2)

def compP (g : T_api_Graph) (y : List Int) : Bool := (List.range g.N.toNat).all (legalP g y)
theorem range_all {n : Nat} {p : Nat → Bool} : (List.range n).all p = true ↔ ∀ i, i < n → p i = true := by simp [List.all_eq_true]

def forP (g : T_api_Graph) (q : Int) (n : Nat) (y : List Int) : Bool := compP g y && (q == 1 || !(y.any fun z => z == 3)) && ((sf y n == 1) == (q != 3))
/-! ### all labellings -/
end Go.Dc

set_option linter.unusedVariables false
set_option linter.unusedSimpArgs false
set_option linter.unusedSectionVars false
/-! Models of the clauses are labellings for the question. -/
namespace Go.Dc
open Go.Proofs Go.Sort

/-- an element of a clause is true -/
def litT (m : List Bool) (x : Int) : Bool := m.getD (x.natAbs - 1) false == decide (x > 0)
/-- a labelling as a model -/
structure MOk (N : Nat) (y : List Int) (m : List Bool) : Prop where
 len : m.length = 2 * N
 i : ∀ j, j < N → m.getD j false = (sf y j == 1)
 o : ∀ j, j < N → m.getD (N + j) false = (sf y j == 2)

section
variable {N : Nat} {y : List Int} {m : List Bool} (hm : MOk N y m)
include hm
theorem lit_in {a : Int} (h0 : 0 ≤ a) (h1 : a < N) : litT m (a + 1) = (uOf y a == 1) := by
 unfold litT uOf
 rw [show (a + 1).natAbs - 1 = a.toNat by omega, hm.i _ (by omega), show decide (a + 1 > 0) = true by simp; omega]; simp
theorem lit_nin {a : Int} (h0 : 0 ≤ a) (h1 : a < N) : litT m (-(a + 1)) = !(uOf y a == 1) := by
 unfold litT uOf
 rw [show (-(a + 1)).natAbs - 1 = a.toNat by omega, hm.i _ (by omega), show decide (-(a + 1) > 0) = false by simp; omega]; simp
theorem lit_out {n a : Int} (hn : n = N) (h0 : 0 ≤ a) (h1 : a < N) : litT m (n + a + 1) = (uOf y a == 2) := by
 unfold litT uOf
 rw [show (n + a + 1).natAbs - 1 = N + a.toNat by omega, hm.o _ (by omega), show decide (n + a + 1 > 0) = true by simp; omega]; simp
theorem lit_nout {n a : Int} (hn : n = N) (h0 : 0 ≤ a) (h1 : a < N) : litT m (-(n + a + 1)) = !(uOf y a == 2) := by
 unfold litT uOf
 rw [show (-(n + a + 1)).natAbs - 1 = N + a.toNat by omega, hm.o _ (by omega), show decide (-(n + a + 1) > 0) = false by simp; omega]; simp
end

def satB (m : List Bool) (l : List (List Int)) : Bool := l.all fun c => c.any (litT m)
theorem node_sat {g : T_api_Graph} (h : GVal g) {y : List Int} (hy : LOk g.N.toNat y) {m : List Bool} (hm : MOk g.N.toNat y m) {i : Nat} (hi : i < g.N.toNat) {st : Bool} :
  satB m (nodeC g (i : Int) st) = (legalP g y i && (!st || !(sf y i == 3))) := by
 have hn0 := h.n0
 have hN : g.N = (g.N.toNat : Int) := by omega
 have r := attsP_rng h (i := (i : Int))
 have ui : uOf y (i : Int) = sf y i := by unfold uOf; rw [Int.toNat_natCast]
 have ii := lit_in hm (a := (i : Int)) (by omega) (by omega)
 have ni := lit_nin hm (a := (i : Int)) (by omega) (by omega)
 have oi := lit_out hm hN (a := (i : Int)) (by omega) (by omega)
 have no := lit_nout hm hN (a := (i : Int)) (by omega) (by omega)
 rw [ui] at ii ni oi no
 have e1 : ((attsP g i).map fun a => [-((i : Int) + 1), g.N + a + 1]).all (fun c => c.any (litT m)) = (attsP g i).all fun a => !(sf y i == 1) || uOf y a == 2 := by
  rw [List.all_map]
  exact all_cg fun a ha => by have := r a ha; simp only [Function.comp, List.any_cons, List.any_nil, Bool.or_false, ni, lit_out hm hN (a := a) (by omega) (by omega)]
 have e2 : ((attsP g i).map fun a => -(g.N + a + 1)).any (litT m) = (attsP g i).any fun a => !(uOf y a == 2) := by
  rw [List.any_map]
  exact any_cg fun a ha => by have := r a ha; simp only [Function.comp, lit_nout hm hN (a := a) (by omega) (by omega)]
 have e3 : ((attsP g i).map fun a => [-(a + 1), g.N + (i : Int) + 1]).all (fun c => c.any (litT m)) = (attsP g i).all fun a => !(uOf y a == 1) || sf y i == 2 := by
  rw [List.all_map]
  exact all_cg fun a ha => by have := r a ha; simp only [Function.comp, List.any_cons, List.any_nil, Bool.or_false, oi, lit_nin hm (a := a) (by omega) (by omega)]
 have e4 : ((attsP g i).map fun a => a + 1).any (litT m) = (attsP g i).any fun a => uOf y a == 1 := by
  rw [List.any_map]
  exact any_cg fun a ha => by have := r a ha; simp only [Function.comp, lit_in hm (a := a) (by omega) (by omega)]
 have e5 : (if st = true then [[(i : Int) + 1, g.N + (i : Int) + 1]] else []).all (fun c => c.any (litT m)) = (!st || (sf y i == 1 || sf y i == 2)) := by
  cases st
  ·rfl
  ·simp only [if_true, List.all_cons, List.all_nil, List.any_cons, List.any_nil, ii, oi, Bool.or_false, Bool.and_true, Bool.not_true, Bool.false_or]
 unfold satB nodeC
 simp only [List.all_append, List.all_cons, List.all_nil, List.any_cons, List.any_append, List.any_nil, Bool.or_false, Bool.and_true, ii, ni, no, e1, e2, e3, e4, e5]
 have nall : ((attsP g i).any fun a => !(uOf y a == 2)) = !((attsP g i).all fun a => uOf y a == 2) := by rw [List.not_all_eq_any_not]
 have nany : ((attsP g i).all fun a => !(uOf y a == 1)) = !((attsP g i).any fun a => uOf y a == 1) := by rw [List.not_any_eq_all_not]
 unfold legalP
 rcases hy.at hi with e | e | e
 ·rw [e, if_pos rfl]
  simp only [show ((1 : Int) == 1) = true from rfl, show ((1 : Int) == 2) = false from rfl, show ((1 : Int) == 3) = false from rfl, Bool.not_true, Bool.not_false, Bool.false_or, Bool.or_true, Bool.true_or, Bool.true_and, Bool.and_true, Bool.or_false]
  rw [nany]
  cases ha : (attsP g i).all fun a => uOf y a == 2 with
  | false => rfl
  | true =>
   have : ((attsP g i).any fun a => uOf y a == 1) = false := by
    rw [List.any_eq_false]
    intro a haa
    have := eq_of_beq (List.all_eq_true.1 ha a haa)
    rw [this]; decide
   rw [this]; rfl
 ·rw [e, if_neg (by omega), if_pos rfl]
  simp only [show ((2 : Int) == 1) = false from rfl, show ((2 : Int) == 2) = true from rfl, show ((2 : Int) == 3) = false from rfl, Bool.not_true, Bool.not_false, Bool.false_or, Bool.or_true, Bool.true_or, Bool.true_and, Bool.and_true, Bool.or_false]
  rw [nall]
  cases ha : (attsP g i).any fun a => uOf y a == 1 with
  | false => simp
  | true =>
   have : ((attsP g i).all fun a => uOf y a == 2) = false := by
    cases hb : (attsP g i).all fun a => uOf y a == 2 with
    | false => rfl
    | true =>
     obtain ⟨a, haa, hab⟩ := List.any_eq_true.1 ha
     have h1 := eq_of_beq hab
     have h2 := eq_of_beq (List.all_eq_true.1 hb a haa)
     omega
   rw [this]; simp
 ·rw [e, if_neg (by omega), if_neg (by omega)]
  simp only [show ((3 : Int) == 1) = false from rfl, show ((3 : Int) == 2) = false from rfl, show ((3 : Int) == 3) = true from rfl, Bool.not_true, Bool.not_false, Bool.false_or, Bool.or_true, Bool.true_or, Bool.true_and, Bool.and_true, Bool.or_false]
  rw [nall, nany]
  have tt : ((attsP g i).all fun _ : Int => true) = true := List.all_eq_true.2 fun _ _ => rfl
  simp only [tt]
  cases st <;> cases (attsP g i).any (fun a => uOf y a == 1) <;> cases (attsP g i).all (fun a => uOf y a == 2) <;> rfl

theorem satB_append {m : List Bool} {a b : List (List Int)} : satB m (a ++ b) = (satB m a && satB m b) := by unfold satB; rw [List.all_append]
theorem nodes_sat {g : T_api_Graph} (h : GVal g) {y : List Int} (hy : LOk g.N.toNat y) {m : List Bool} (hm : MOk g.N.toNat y m) {q : Int} : ∀ {k : Nat}, k ≤ g.N.toNat → 
  satB m (nodesC g q k) = (List.range k).all fun i => legalP g y i && (!(q != 1) || !(sf y i == 3))
 | 0, _ => rfl
 | k + 1, hk => by rw [nodesC_succ, satB_append, nodes_sat h hy hm (by omega), node_sat h hy hm (by omega), List.range_succ, List.all_append]; simp

theorem enc_sat {g : T_api_Graph} (h : GVal g) {y : List Int} (hy : LOk g.N.toNat y) {m : List Bool} (hm : MOk g.N.toNat y m) {q : Int} {n : Nat} (hn : n < g.N.toNat) : satB m (encP g q (n : Int)) = forP g q n y := by
 have hN : g.N = (g.N.toNat : Int) := by have := h.n0; omega
 have un : uOf y (n : Int) = sf y n := by unfold uOf; rw [Int.toNat_natCast]
 have hl := hy.len
 unfold encP
 rw [satB_append, nodes_sat h hy hm (Nat.le_refl _)]
 unfold forP
 congr 1
 ·rw [Bool.eq_iff_iff, range_all, Bool.and_eq_true]
  unfold compP
  rw [range_all]
  have st : ((q == 1 || !(y.any fun z => z == 3)) = true) ↔ ∀ i, i < g.N.toNat → (!(q != 1) || !(sf y i == 3)) = true := by
   by_cases hq : q = 1
   ·subst hq; simp
   ·rw [show (q == 1) = false by simp [hq], show (q != 1) = true by simp [hq]]
    simp only [Bool.false_or, Bool.not_true, Bool.not_eq_true']
    rw [List.any_eq_false]
    constructor
    ·intro h1 i hi
     have h2 : i < y.length := by omega
     have e : sf y i = y[i] := by unfold sf; simp [List.getD, h2]
     rw [e]
     simpa using h1 _ (List.getElem_mem h2)
    ·intro h1 x hx
     obtain ⟨i, hi, rfl⟩ := List.getElem_of_mem hx
     have e : sf y i = y[i] := by unfold sf; simp [List.getD, hi]
     rw [← e]
     have := h1 i (by omega)
     simpa using this
  rw [st]
  constructor
  ·intro h1
   exact ⟨fun i hi => (Bool.and_eq_true _ _ ▸ h1 i hi).1, fun i hi => (Bool.and_eq_true _ _ ▸ h1 i hi).2⟩
  ·rintro ⟨h1, h2⟩ i hi
   rw [Bool.and_eq_true]; exact ⟨h1 i hi, h2 i hi⟩
 ·unfold satB
  by_cases hq : q = 3
  ·subst hq
   rw [if_pos rfl]
   simp only [List.all_cons, List.all_nil, List.any_cons, List.any_nil, Bool.or_false, Bool.and_true, lit_nin hm (a := (n : Int)) (by omega) (by omega), un]
   cases (sf y n == 1) <;> rfl
  ·rw [if_neg hq]
   simp only [List.all_cons, List.all_nil, List.any_cons, List.any_nil, Bool.or_false, Bool.and_true, lit_in hm (a := (n : Int)) (by omega) (by omega), un]
   rw [show (q != 3) = true by simp [hq]]
   cases (sf y n == 1) <;> rfl

/-! ### the clauses are valid -/
theorem node_ok {g : T_api_Graph} (h : GVal g) {i : Nat} (hi : i < g.N.toNat) {st : Bool} : ∀ c ∈ nodeC g (i : Int) st, COk (2 * g.N) c := fun c hc => by
 have hal := attsP_len h (i := (i : Int)); have r := attsP_rng h (i := (i : Int)); have hasc := attsP_asc h.s (i := (i : Int)); have hn0 := h.n0; have hn1 := h.n1
 unfold nodeC at hc
 simp only [List.mem_append, List.mem_singleton, List.mem_map] at hc
 rcases hc with ((((rfl | ⟨a, ha, rfl⟩) | rfl) | ⟨a, ha, rfl⟩) | rfl) | hc
 ·exact ⟨by simp, fun x hx => by simp only [List.mem_cons, List.not_mem_nil, or_false] at hx; rcases hx with rfl | rfl <;> omega, by simp [Asc]; omega⟩
 ·have := r a ha
  exact ⟨by simp, fun x hx => by simp only [List.mem_cons, List.not_mem_nil, or_false] at hx; rcases hx with rfl | rfl <;> omega, by simp [Asc]; omega⟩
 ·refine ⟨by simp; omega, fun x hx => ?_, ?_⟩
  ·rcases List.mem_cons.1 hx with rfl | hx
   ·omega
   ·obtain ⟨a, ha, rfl⟩ := List.mem_map.1 hx
    have := r a ha; omega
  ·refine List.pairwise_cons.2 ⟨fun x hx => ?_, ?_⟩
   ·obtain ⟨a, ha, rfl⟩ := List.mem_map.1 hx
    have := r a ha; omega
   ·rw [List.pairwise_map]
    refine List.Pairwise.imp_of_mem (fun {a b} ha hb hab => ?_) hasc
    have := r a ha; have := r b hb; omega
 ·have := r a ha
  exact ⟨by simp, fun x hx => by simp only [List.mem_cons, List.not_mem_nil, or_false] at hx; rcases hx with rfl | rfl <;> omega, by simp [Asc]; omega⟩
 ·refine ⟨by simp; omega, fun x hx => ?_, ?_⟩
  ·rcases List.mem_append.1 hx with hx | hx
   ·obtain ⟨a, ha, rfl⟩ := List.mem_map.1 hx
    have := r a ha; omega
   ·rw [List.mem_singleton.1 hx]; omega
  ·refine List.pairwise_append.2 ⟨?_, List.pairwise_singleton _ _, fun x hx z hz => ?_⟩
   ·rw [List.pairwise_map]
    refine List.Pairwise.imp_of_mem (fun {a b} ha hb hab => ?_) hasc
    have := r a ha; have := r b hb; omega
   ·obtain ⟨a, ha, rfl⟩ := List.mem_map.1 hx
    rw [List.mem_singleton.1 hz]
    have := r a ha; omega
 ·cases st
  ·simp at hc
  ·simp only [if_true, List.mem_singleton] at hc
   subst hc
   exact ⟨by simp, fun x hx => by simp only [List.mem_cons, List.not_mem_nil, or_false] at hx; rcases hx with rfl | rfl <;> omega, by simp [Asc]; omega⟩
theorem enc_ok {g : T_api_Graph} (h : GVal g) {q : Int} {n : Nat} (hn : n < g.N.toNat) : VOk (2 * g.N) (encP g q (n : Int)) := by
 have hn0 := h.n0; have hn1 := h.n1; have hl := nodesC_len h (q := q) (k := g.N.toNat)
 refine ⟨by omega, by omega, by simp [encP]; omega, fun c hc => ?_⟩
 unfold encP at hc
 rcases List.mem_append.1 hc with hc | hc
 ·unfold nodesC at hc
  obtain ⟨i, hi, hci⟩ := List.mem_flatMap.1 hc
  exact node_ok h (List.mem_range.1 hi) c hci
 ·rw [List.mem_singleton.1 hc]
  exact ⟨by simp, fun x hx => by rw [List.mem_singleton.1 hx]; split <;> omega, by simp [Asc]⟩
end Go.Dc

/-! What the compacted list is, in plain words. -/
set_option linter.unusedVariables false
namespace Go.Dc
open Go.Proofs

theorem compact_get {zs : List Int} : Lib.compact zs = ((List.range zs.length).filter (Lib.keeps zs.toArray)).map (fun j => zs[j]?.getD 0) := by
 unfold Lib.compact Lib.compactUpTo
 apply List.map_congr_left
 intro j hj
 have : j < zs.length := by have := (List.mem_filter.1 hj).1; simpa using this
 simp [this]

theorem keeps_iff {zs : List Int} {j : Nat} (hj : j < zs.length) : Lib.keeps zs.toArray j = true ↔ j = 0 ∨ zs[j]?.getD 0 ≠ zs[j - 1]?.getD 0 := by
 have h1 : j - 1 < zs.length := by omega
 unfold Lib.keeps
 by_cases h : j = 0
 ·simp [h]
 ·simp [h, hj, h1]

theorem mem_compact {zs : List Int} {x : Int} : x ∈ Lib.compact zs ↔ x ∈ zs := by
 rw [compact_get, List.mem_map]
 constructor
 ·rintro ⟨j, hj, rfl⟩
  have hj : j < zs.length := by simpa using (List.mem_filter.1 hj).1
  rw [List.getElem?_eq_getElem hj]; exact List.getElem_mem hj
 ·intro hx
  obtain ⟨j, hj, rfl⟩ := List.getElem_of_mem hx
  suffices ∀ n j (hj : j < zs.length), j ≤ n → ∃ i, i ∈ (List.range zs.length).filter (Lib.keeps zs.toArray) ∧ zs[i]?.getD 0 = zs[j] from this j j hj (Nat.le_refl _)
  intro n
  induction n with
  | zero =>
   intro j hj hn
   exact ⟨j, List.mem_filter.2 ⟨by simpa using hj, (keeps_iff hj).2 (.inl (by omega))⟩, by simp [hj]⟩
  | succ n ih =>
   intro j hj hn
   by_cases hk : Lib.keeps zs.toArray j = true
   ·exact ⟨j, List.mem_filter.2 ⟨by simpa using hj, hk⟩, by simp [hj]⟩
   ·have h2 := fun h => hk ((keeps_iff hj).2 h)
    have h0 : j ≠ 0 := fun h => h2 (.inl h)
    have h3 : zs[j]?.getD 0 = zs[j - 1]?.getD 0 := Classical.byContradiction fun h => h2 (.inr h)
    obtain ⟨i, hi, he⟩ := ih (j - 1) (by omega) (by omega)
    refine ⟨i, hi, he.trans ?_⟩
    have h4 : j - 1 < zs.length := by omega
    simpa [hj, h4] using h3.symm

theorem compact_rel {lt : Int → Int → Prop} (tr : ∀ x y z, lt x y → lt y z → lt x z) {zs : List Int} (h : zs.Pairwise fun x y => lt x y ∨ x = y) : (Lib.compact zs).Pairwise lt := by
 rw [compact_get, List.pairwise_map]
 have hp : ((List.range zs.length).filter (Lib.keeps zs.toArray)).Pairwise (· < ·) := List.Pairwise.filter _ List.pairwise_lt_range
 refine List.Pairwise.imp_of_mem ?_ hp
 intro i j hi hj hij
 have hi' : i < zs.length := by simpa using (List.mem_filter.1 hi).1
 have hj' : j < zs.length := by simpa using (List.mem_filter.1 hj).1
 have hk := (keeps_iff hj').1 (List.mem_filter.1 hj).2
 have hg := List.pairwise_iff_getElem.1 h
 have h1 : j - 1 < zs.length := by omega
 have h2 : lt zs[i] zs[j - 1] ∨ zs[i] = zs[j - 1] := by
  by_cases e : i = j - 1
  ·subst e; exact .inr rfl
  ·exact hg i (j - 1) hi' h1 (by omega)
 have h3 : lt zs[j - 1] zs[j] ∨ zs[j - 1] = zs[j] := hg (j - 1) j h1 hj' (by omega)
 rcases hk with hk | hk
 ·omega
 ·simp [hi', hj', h1] at hk ⊢
  rcases h3 with h3 | h3
  ·rcases h2 with h2 | h2
   ·exact tr _ _ _ h2 h3
   ·rw [h2]; exact h3
  ·exact absurd h3.symm hk

end Go.Dc

set_option linter.unusedVariables false
set_option linter.unusedSimpArgs false
set_option linter.unusedSectionVars false
/-! Resolvents. -/
namespace Go.Dc
open Go.Proofs Go.Sort Go.Shelf

/-! ### lists that ascend -/
theorem asc_ext : ∀ {a b : List Int}, Asc a → Asc b → (∀ x, x ∈ a ↔ x ∈ b) → a = b
 | [], [], _, _, _ => rfl
 | [], y :: b, _, _, h => by have := (h y).2 (by simp); simp at this
 | x :: a, [], _, _, h => by have := (h x).1 (by simp); simp at this
 | x :: a, y :: b, ha, hb, h => by
  have ha' := List.pairwise_cons.1 ha
  have hb' := List.pairwise_cons.1 hb
  have hxy : x = y := by
   rcases List.mem_cons.1 ((h x).1 (by simp)) with e | e
   ·exact e
   ·rcases List.mem_cons.1 ((h y).2 (by simp)) with e2 | e2
    ·exact e2.symm
    ·have := ha'.1 y e2; have := hb'.1 x e; omega
  subst hxy
  congr 1
  refine asc_ext ha'.2 hb'.2 fun z => ⟨fun hz => ?_, fun hz => ?_⟩
  ·rcases List.mem_cons.1 ((h z).1 (by simp [hz])) with e | e
   ·have := ha'.1 z hz; subst e; omega
   ·exact e
  ·rcases List.mem_cons.1 ((h z).2 (by simp [hz])) with e | e
   ·have := hb'.1 z hz; subst e; omega
   ·exact e

/-! ### the order -/
def absW (x : Int) : Int := imax x (ineg .i64 x)
theorem absW_eq {x : Int} (h0 : -1000 ≤ x) (h1 : x ≤ 1000) : absW x = x.natAbs := by unfold absW; rw [ineg64 (by omega) (by omega), imax_abs]
def cmpI (x y : Int) : Int := if x < y then -1 else if y < x then 1 else 0
theorem Compare_plain {x y : Int} : cmp_Compare_int_m x y = some (cmpI x y) := by
 unfold cmp_Compare_int_m cmp_isNaN_int_m cmpI
 simp only [bne_self_eq_false, Option.bind_some, cond_false]
 by_cases h : x < y
 ·simp [h]
 ·by_cases h2 : y < x
  ·simp [h, h2]
  ·simp [h, h2]
def cmpR (x y : Int) : Int := if cmpI (absW x) (absW y) = 0 then cmpI x y else cmpI (absW x) (absW y)
theorem Or_plain {x y : Int} : cmp_Or_int_m [x, y] = some (if x = 0 then y else x) := by
 unfold cmp_Or_int_m
 rw [find_bind (l := [x, y]) (fun a => if a = 0 then none else some a) (fun i hi => by
  unfold cmp_Or_int_l1
  rw [show decide ((i : Int) < (([x, y] : List Int).length : Int)) = true by simp at hi ⊢; omega, cond_true, idxM_nat hi, iadd64 (by simp at hi; omega) (by simp at hi; omega)]
  simp only [Option.bind_some]
  by_cases h : [x, y][i] = 0
  ·rw [if_pos h, h]; rfl
  ·rw [if_neg h, show ([x, y][i] != 0) = true from by simpa using h]; rfl) (by unfold cmp_Or_int_l1; simp)]
 by_cases hx : x = 0
 ·by_cases hy : y = 0
  ·simp [hx, hy]
  ·simp [hx, hy]
 ·simp [hx]
theorem Resolve_1_plain {x y : Int} : proof_Resolve_1_m x y = some (cmpR x y) := by
 unfold proof_Resolve_1_m proof_abs_m
 simp only [Option.bind_some, Compare_plain, Or_plain]
 rfl

def ltR (x y : Int) : Prop := absW x < absW y ∨ absW x = absW y ∧ x < y
theorem cmpR_lt {x y : Int} : cmpR x y < 0 ↔ ltR x y := by
 unfold cmpR cmpI ltR
 by_cases h1 : absW x < absW y
 ·simp [h1]
 ·by_cases h2 : absW y < absW x
  ·simp [h1, h2]; omega
  ·have : absW x = absW y := by omega
   simp only [this, Int.lt_irrefl, if_false, if_true, false_or, true_and]
   by_cases h3 : x < y
   ·simp [h3]
   ·by_cases h4 : y < x <;> simp [h3, h4]
theorem cfo_R {x y : Int} : cfo proof_Resolve_1_m x y = cmpR x y := by unfold cfo; rw [Resolve_1_plain]; rfl
theorem ltOf_R {x y : Int} : ltOf (cfo proof_Resolve_1_m) x y = true ↔ ltR x y := by unfold ltOf; rw [decide_eq_true_iff, cfo_R, cmpR_lt]
theorem ltOf_Rf {x y : Int} : ltOf (cfo proof_Resolve_1_m) x y = false ↔ ¬ ltR x y := by rw [← ltOf_R]; simp
theorem ltR_trans (x y z : Int) (h1 : ltR x y) (h2 : ltR y z) : ltR x z := by unfold ltR at *; omega
theorem cmpOk_R : CmpOk proof_Resolve_1_m where
 tot := fun x y => by rw [cfo_R, Resolve_1_plain]
 swo := ⟨fun x => by rw [ltOf_Rf]; unfold ltR; omega, fun x y z h1 h2 => by rw [ltOf_R] at *; exact ltR_trans x y z h1 h2, fun x y z h1 h2 => by rw [ltOf_Rf] at *; unfold ltR at *; omega⟩
 sep := fun x y h1 h2 => by rw [ltOf_Rf] at *; unfold ltR at *; omega

theorem sort_R {l : List Int} (h : l.length ≤ 1000) : ∃ r, sortFM proof_Resolve_1_m l = some r ∧ r.Perm l ∧ r.Pairwise fun x y => ltR x y ∨ x = y := by
 refine ⟨sortL proof_Resolve_1_m l, by unfold sortFM; rw [if_pos ⟨by omega, cmpOk_R⟩], List.mergeSort_perm _ _, ?_⟩
 have hs := List.pairwise_mergeSort (le := fun x y => !(ltOf (cfo proof_Resolve_1_m)) y x)
  (fun a b c h1 h2 => by simp only [Bool.not_eq_true', ltOf_Rf] at *; unfold ltR at *; omega)
  (fun a b => by
   cases h1 : ltOf (cfo proof_Resolve_1_m) b a with
   | false => rfl
   | true =>
    cases h2 : ltOf (cfo proof_Resolve_1_m) a b with
    | false => rfl
    | true => rw [ltOf_R] at h1 h2; unfold ltR at h1 h2; omega) l
 refine hs.imp fun {x y} h => ?_
 simp only [Bool.not_eq_true', ltOf_Rf] at h
 unfold ltR at *
 omega

/-! ### the resolvent -/
def litsR (a b : List Int) (p : Int) : List Int := (a ++ b).filter fun x => decide ((x.natAbs : Int) ≠ p)
def pickV (L : List Int) (v : Nat) : Option Int := if (v : Int) ∈ L then some v else if -(v : Int) ∈ L then some (-(v : Int)) else none
def outR (L : List Int) : List Int := (List.range' 1 200).filterMap (pickV L)
def tautR (L : List Int) : Bool := L.any fun x => L.contains (-x)
def ResolveP (a b : List Int) (p : Int) : Bool × List Int :=
 if p < 1 ∨ clauseP 200 a ≠ 0 ∨ clauseP 200 b ≠ 0 ∨ p ∉ a ∨ -p ∉ b then (false, []) else
 if tautR (litsR a b p) = true then (false, []) else if 50 < (outR (litsR a b p)).length then (false, []) else (true, outR (litsR a b p))

theorem mem_lits {a b : List Int} {p x : Int} : x ∈ litsR a b p ↔ (x ∈ a ∨ x ∈ b) ∧ (x.natAbs : Int) ≠ p := by
 simp only [litsR, List.mem_filter, List.mem_append, decide_eq_true_eq]
theorem lits_rng {a b : List Int} {p x : Int} (ha : COk 200 a) (hb : COk 200 b) (h : x ∈ litsR a b p) : x ≠ 0 ∧ -200 ≤ x ∧ x ≤ 200 := by
 rcases (mem_lits.1 h).1 with h1 | h1
 ·exact ha.rng x h1
 ·exact hb.rng x h1
theorem pickV_abs {L : List Int} {v : Nat} {x : Int} (h : pickV L v = some x) : x.natAbs = v ∧ x ∈ L := by
 unfold pickV at h
 split at h
 ·cases h; exact ⟨by omega, by assumption⟩
 ·split at h
  ·cases h; exact ⟨by omega, by assumption⟩
  ·cases h
theorem outR_asc {L : List Int} : Asc (outR L) := by
 unfold outR
 refine List.pairwise_filterMap.2 ?_
 refine (List.pairwise_lt_range' (s := 1) (n := 200)).imp fun {u v} huv x hx y hy => ?_
 rw [(pickV_abs hx).1, (pickV_abs hy).1]; exact huv
theorem tautR_iff {L : List Int} : tautR L = true ↔ ∃ x ∈ L, -x ∈ L := by simp [tautR]
theorem mem_outR {L : List Int} (hr : ∀ x ∈ L, x ≠ 0 ∧ -200 ≤ x ∧ x ≤ 200) (ht : tautR L = false) {x : Int} : x ∈ outR L ↔ x ∈ L := by
 unfold outR
 rw [List.mem_filterMap]
 constructor
 ·rintro ⟨v, _, hv⟩; exact (pickV_abs hv).2
 ·intro hx
  have h1 := hr x hx
  refine ⟨x.natAbs, List.mem_range'_1.2 ⟨by omega, by omega⟩, ?_⟩
  have hno : ¬ (-x ∈ L) := fun h => by rw [tautR_iff.2 ⟨x, hx, h⟩] at ht; cases ht
  unfold pickV
  by_cases hp : 0 < x
  ·rw [show ((x.natAbs : Nat) : Int) = x by omega, if_pos hx]
  ·have e : ((x.natAbs : Nat) : Int) = -x := by omega
   rw [e, if_neg hno, Int.neg_neg, if_pos hx]

/-- what is said of a resolvent -/
theorem ResolveP_true {a b : List Int} {p : Int} {c : List Int} (h : ResolveP a b p = (true, c)) :
  1 ≤ p ∧ COk 200 a ∧ COk 200 b ∧ p ∈ a ∧ -p ∈ b ∧ COk 200 c ∧ ∀ x, x ∈ c ↔ x ∈ litsR a b p := by
 unfold ResolveP at h
 split at h
 ·cases h
 ·rename_i h1
  simp only [not_or, Classical.not_not] at h1
  obtain ⟨q1, q2, q3, q4, q5⟩ := h1
  split at h
  ·cases h
  ·rename_i h2
   split at h
   ·cases h
   ·rename_i h3
    cases h
    have ha := clauseP_ok.1 q2
    have hb := clauseP_ok.1 q3
    have hm : ∀ x, x ∈ outR (litsR a b p) ↔ x ∈ litsR a b p := fun x => mem_outR (fun x hx => lits_rng ha hb hx) (by simpa using h2)
    exact ⟨by omega, ha, hb, q4, q5, ⟨by omega, fun x hx => lits_rng ha hb ((hm x).1 hx), outR_asc⟩, hm⟩
theorem ResolveP_some {a b : List Int} {p : Int} (hp : 1 ≤ p) (ha : COk 200 a) (hb : COk 200 b) (h1 : p ∈ a) (h2 : -p ∈ b) (ht : ∀ x ∈ litsR a b p, -x ∉ litsR a b p) (hl : (outR (litsR a b p)).length ≤ 50) :
  ResolveP a b p = (true, outR (litsR a b p)) := by
 unfold ResolveP
 rw [if_neg (by simp only [not_or, Classical.not_not]; exact ⟨by omega, clauseP_ok.2 ha, clauseP_ok.2 hb, h1, h2⟩)]
 have : tautR (litsR a b p) = false := by
  cases h : tautR (litsR a b p) with
  | false => rfl
  | true => obtain ⟨x, hx, hy⟩ := tautR_iff.1 h; exact absurd hy (ht x hx)
 rw [this, if_neg (by simp), if_neg (by omega)]

theorem Contains_plain {l : List Int} {x : Int} (hl : l.length ≤ 1000) : slices_Contains_int_int_m l x = some (decide (x ∈ l)) := by
 have h : T (slices_Index_int_int_m l x) fun r => 0 ≤ r ↔ x ∈ l := by
  unfold slices_Index_int_int_m
  refine T.bind (P := fun r => match r with | .inl r => 0 ≤ r ∧ x ∈ l | .inr _ => x ∉ l) (T.loopK l.length (fun k s => s = (k : Int) ∧ x ∉ l.take k) ⟨rfl, by simp⟩ fun k s hs => ?_) fun r hr => ?_
  ·obtain ⟨rfl, hn⟩ := hs
   unfold slices_Index_int_int_l1
   refine T.cond (fun h => ?_) fun h => .ret ?_
   ·simp only [decide_eq_true_eq] at h
    have hk : k < l.length := by omega
    rw [idxM_nat hk, iadd64 (by omega) (by omega)]
    simp only [Option.bind_some]
    refine T.cond (fun h2 => .ret ⟨by omega, ?_⟩) fun h2 => .ret ⟨hk, by omega, ?_⟩
    ·rw [eq_of_beq h2]; exact List.getElem_mem hk
    ·rw [← List.take_append_getElem hk, List.mem_append, List.mem_singleton]
     rintro (h3 | h3)
     ·exact hn h3
     ·subst h3; simp at h2
   ·simp only [decide_eq_false_iff_not] at h
    rw [List.take_of_length_le (by omega)] at hn
    exact hn
  ·match r, hr with
   | .inl r, hr => exact .ret ⟨fun _ => hr.2, fun _ => hr.1⟩
   | .inr u, hr => exact .ret ⟨fun h => by omega, fun h => absurd h hr⟩
 unfold slices_Contains_int_int_m
 obtain ⟨r, h1, h2⟩ := h
 rw [h1]
 simp only [Option.bind_some]
 by_cases hx : x ∈ l
 ·rw [decide_eq_true hx]; simp [h2.2 hx]
 ·rw [decide_eq_false hx]; have : ¬ 0 ≤ r := fun h => hx (h2.1 h); simp [this]

theorem Resolve_l1_plain {p : Int} {t out : List Int} (ht : t.length ≤ 50) (hr : ∀ x ∈ t, -200 ≤ x ∧ x ≤ 200) (ho : out.length ≤ 50) :
  loopC (proof_Resolve_l1 p t) (0, out) = some (out ++ t.filter fun x => decide ((x.natAbs : Int) ≠ p)) := by
 refine T.eq (T.loopK t.length (fun k s => s.1 = (k : Int) ∧ k ≤ t.length ∧ s.2 = out ++ (t.take k).filter fun x => decide ((x.natAbs : Int) ≠ p)) ⟨rfl, by omega, by simp⟩ fun k s hs => ?_)
 obtain ⟨i, o⟩ := s
 obtain ⟨e1, e2, e3⟩ := hs
 dsimp only at e1 e3
 subst e1
 unfold proof_Resolve_l1
 dsimp only
 have hol : o.length ≤ 50 + k := by
  rw [e3, List.length_append]
  have := List.length_filter_le (fun x : Int => decide ((x.natAbs : Int) ≠ p)) (t.take k)
  simp only [List.length_take] at this
  omega
 refine T.cond (fun h => ?_) fun h => .ret ?_
 ·simp only [decide_eq_true_eq] at h
  have hk : k < t.length := by omega
  have h1 := hr _ (List.getElem_mem hk)
  rw [idxM_nat hk, iadd64 (by omega) (by omega)]
  simp only [Option.bind_some]
  rw [abs_plain (by omega) (by omega)]
  simp only [Option.bind_some]
  have e4 : (t.take (k + 1)).filter (fun x => decide ((x.natAbs : Int) ≠ p)) = (t.take k).filter (fun x => decide ((x.natAbs : Int) ≠ p)) ++ if (t[k].natAbs : Int) ≠ p then [t[k]] else [] := by
   rw [← List.take_append_getElem hk, List.filter_append]
   congr 1
   by_cases h2 : (t[k].natAbs : Int) = p
   ·simp [h2]
   ·simp [h2]
  refine T.cond (fun h2 => ?_) fun h2 => .ret ⟨hk, by omega, by omega, ?_⟩
  ·rw [appM_eq (by simp; omega)]
   refine .ret ⟨hk, by dsimp only; omega, by omega, ?_⟩
   rw [e4, if_pos (by simpa using h2), e3, List.append_assoc]
  ·rw [e4, if_neg (by simpa using h2), e3, List.append_nil]
 ·simp only [decide_eq_false_iff_not] at h
  rw [List.take_of_length_le (by omega)] at e3
  exact e3

theorem Resolve_l2_plain {a b : List Int} {p : Int} (ha : COk 200 a) (hb : COk 200 b) : loopC (proof_Resolve_l2 a b p) (0, []) = some (litsR a b p) := by
 have ra : ∀ x ∈ a, -200 ≤ x ∧ x ≤ 200 := fun x hx => (ha.rng x hx).2
 have rb : ∀ x ∈ b, -200 ≤ x ∧ x ≤ 200 := fun x hx => (hb.rng x hx).2
 have fa : (a.filter fun x => decide ((x.natAbs : Int) ≠ p)).length ≤ 50 := Nat.le_trans (List.length_filter_le _ _) ha.len
 have s0 : proof_Resolve_l2 a b p (0, []) = some (.inr (1, a.filter fun x => decide ((x.natAbs : Int) ≠ p))) := by
  unfold proof_Resolve_l2
  dsimp only
  rw [show idxM [a, b] 0 = some a from rfl, Option.bind_some, Resolve_l1_plain ha.len ra (by simp)]
  rfl
 have s1 : proof_Resolve_l2 a b p (1, a.filter fun x => decide ((x.natAbs : Int) ≠ p)) = some (.inr (2, litsR a b p)) := by
  unfold proof_Resolve_l2
  dsimp only
  rw [show idxM [a, b] 1 = some b from rfl, Option.bind_some, Resolve_l1_plain hb.len rb fa, Option.bind_some, litsR, List.filter_append]
  rfl
 have s2 : proof_Resolve_l2 a b p (2, litsR a b p) = some (.inl (litsR a b p)) := rfl
 rw [loopC_eq, s0]; simp only [Option.bind_some]
 rw [loopC_eq, s1]; simp only [Option.bind_some]
 rw [loopC_eq, s2]; rfl

theorem Resolve_plain {a b : List Int} {p : Int} : proof_Resolve_m a b p = some (ResolveP a b p) := by
 unfold proof_Resolve_m ResolveP
 by_cases h1 : p < 1
 ·rw [if_pos (.inl h1), decide_eq_true h1]; rfl
 rw [decide_eq_false h1, cond_false, clause_plain (by omega) (by omega), Option.bind_some]
 by_cases h2 : clauseP 200 a = 0
 rotate_left
 ·rw [if_pos (.inr (.inl h2)), show (clauseP 200 a != 0) = true by simp [h2]]; rfl
 rw [h2, clause_plain (by omega) (by omega)]
 simp only [bne_self_eq_false, cond_false, Option.bind_some]
 by_cases h3 : clauseP 200 b = 0
 rotate_left
 ·rw [if_pos (.inr (.inr (.inl h3))), show (clauseP 200 b != 0) = true by simp [h3]]; rfl
 have ha := clauseP_ok.1 h2
 have hb := clauseP_ok.1 h3
 rw [h3, Contains_plain (by have := ha.len; omega)]
 simp only [bne_self_eq_false, cond_false, Option.bind_some]
 by_cases h4 : p ∈ a
 rotate_left
 ·rw [if_pos (.inr (.inr (.inr (.inl h4)))), decide_eq_false h4]; rfl
 have hp := ha.rng p h4
 rw [decide_eq_true h4, Contains_plain (by have := hb.len; omega), ineg64 (by omega) (by omega)]
 simp only [Bool.not_true, cond_false, Option.bind_some]
 by_cases h5 : -p ∈ b
 rotate_left
 ·rw [if_pos (.inr (.inr (.inr (.inr h5)))), decide_eq_false h5]; rfl
 rw [decide_eq_true h5, Resolve_l2_plain ha hb]
 simp only [Bool.not_true, cond_false, Option.bind_some]
 rw [if_neg (by simp only [not_or, Classical.not_not]; exact ⟨h1, trivial, trivial, h4, h5⟩)]
 have hlen : (litsR a b p).length ≤ 100 := by
  have := List.length_filter_le (fun x : Int => decide ((x.natAbs : Int) ≠ p)) (a ++ b)
  have := ha.len; have := hb.len
  simp only [List.length_append] at *
  unfold litsR; omega
 obtain ⟨S, e1, e2, e3⟩ := sort_R (l := litsR a b p) (by omega)
 rw [e1, Option.bind_some]
 have e4 : compactM S = some (Lib.compact S) := by unfold compactM; rw [if_pos (by rw [e2.length_eq]; omega)]
 rw [e4, Option.bind_some, clause_s1_eq, clause_plain (by omega) (by omega), Option.bind_some]
 have hmem : ∀ x, x ∈ Lib.compact S ↔ x ∈ litsR a b p := fun x => by rw [mem_compact, e2.mem_iff]
 have hpw := compact_rel ltR_trans e3
 have hrng : ∀ x ∈ litsR a b p, x ≠ 0 ∧ -200 ≤ x ∧ x ≤ 200 := fun x hx => lits_rng ha hb hx
 by_cases ht : tautR (litsR a b p) = true
 ·rw [if_pos ht]
  obtain ⟨x, hx, hy⟩ := tautR_iff.1 ht
  have hnz := (hrng x hx).1
  have : clauseP 200 (Lib.compact S) ≠ 0 := fun h => by
   have hA := (clauseP_ok.1 h).asc
   have hne : x ≠ -x := by omega
   obtain ⟨i, hi, ei⟩ := List.getElem_of_mem ((hmem x).2 hx)
   obtain ⟨j, hj, ej⟩ := List.getElem_of_mem ((hmem (-x)).2 hy)
   have hij : i ≠ j := fun e => by subst e; omega
   rcases Nat.lt_or_gt_of_ne hij with q | q
   ·have := List.pairwise_iff_getElem.1 hA i j hi hj q; rw [ei, ej] at this; omega
   ·have := List.pairwise_iff_getElem.1 hA j i hj hi q; rw [ei, ej] at this; omega
  rw [show (clauseP 200 (Lib.compact S) != 0) = true by simp [this]]; rfl
 ·rw [if_neg ht]
  have ht' : tautR (litsR a b p) = false := by simpa using ht
  have hA : Asc (Lib.compact S) := by
   refine hpw.imp_of_mem fun {x y} hx hy hlt => ?_
   have hx' := (hmem x).1 hx
   have hy' := (hmem y).1 hy
   have q1 := hrng x hx'
   have q2 := hrng y hy'
   unfold ltR at hlt
   rw [absW_eq (by omega) (by omega), absW_eq (by omega) (by omega)] at hlt
   rcases hlt with hlt | ⟨hlt, hxy⟩
   ·omega
   ·have : y = -x := by omega
    subst this
    rw [tautR_iff.2 ⟨x, hx', hy'⟩] at ht'; cases ht'
  have he : Lib.compact S = outR (litsR a b p) := asc_ext hA outR_asc fun x => by rw [hmem x, mem_outR hrng ht']
  rw [he] at hA hmem ⊢
  by_cases hl : 50 < (outR (litsR a b p)).length
  ·rw [if_pos hl]
   have : clauseP 200 (outR (litsR a b p)) = 2 := by unfold clauseP; rw [if_pos hl]
   rw [this]; rfl
  ·rw [if_neg hl]
   have : clauseP 200 (outR (litsR a b p)) = 0 := clauseP_ok.2 ⟨by omega, fun x hx => hrng x ((hmem x).1 hx), hA⟩
   rw [this]; rfl
end Go.Dc

set_option linter.unusedVariables false
set_option maxHeartbeats 1000000
set_option linter.unusedSimpArgs false
set_option linter.unusedSectionVars false
/-! Answers that are looked at. -/
namespace Go.Dc


theorem litT_neg {m : List Bool} {x : Int} (h : x ≠ 0) : litT m (-x) = !litT m x := by
 unfold litT
 rw [Int.natAbs_neg]
 have : decide (-x > 0) = !decide (x > 0) := by
  by_cases h1 : x > 0
  ·simp [h1]; omega
  ·simp [h1]; omega
 rw [this]
 cases m.getD (x.natAbs - 1) false <;> cases decide (x > 0) <;> rfl

/-- a resolvent is true where both clauses are -/
theorem res_sound {a b c : List Int} {p : Int} {m : List Bool} (h : ResolveP a b p = (true, c)) (ha : a.any (litT m) = true) (hb : b.any (litT m) = true) : c.any (litT m) = true := by
 obtain ⟨h1, h2, h3, h4, h5, h6, h7⟩ := ResolveP_true h
 obtain ⟨x, hx, hxt⟩ := List.any_eq_true.1 ha
 obtain ⟨y, hy, hyt⟩ := List.any_eq_true.1 hb
 by_cases e1 : (x.natAbs : Int) = p
 ·by_cases e2 : (y.natAbs : Int) = p
  · -- x = p (a has no -p beside p), y = -p
   have ux : x = p := by
    by_cases e : x = p
    ·exact e
    ·obtain ⟨i, hi, ei⟩ := List.getElem_of_mem hx
     obtain ⟨j, hj, ej⟩ := List.getElem_of_mem h4
     have hij : i ≠ j := fun q => by subst q; rw [ei] at ej; exact absurd ej e
     rcases Nat.lt_or_gt_of_ne hij with q | q
     ·have := List.pairwise_iff_getElem.1 h2.asc i j hi hj q; rw [ei, ej] at this; omega
     ·have := List.pairwise_iff_getElem.1 h2.asc j i hj hi q; rw [ei, ej] at this; omega
   have uy : y = -p := by
    by_cases e : y = -p
    ·exact e
    ·obtain ⟨i, hi, ei⟩ := List.getElem_of_mem hy
     obtain ⟨j, hj, ej⟩ := List.getElem_of_mem h5
     have hij : i ≠ j := fun q => by subst q; rw [ei] at ej; exact absurd ej e
     rcases Nat.lt_or_gt_of_ne hij with q | q
     ·have := List.pairwise_iff_getElem.1 h3.asc i j hi hj q; rw [ei, ej] at this; omega
     ·have := List.pairwise_iff_getElem.1 h3.asc j i hj hi q; rw [ei, ej] at this; omega
   subst ux; subst uy
   rw [litT_neg (by omega), hxt] at hyt
   cases hyt
  ·exact List.any_eq_true.2 ⟨y, (h7 y).2 (mem_lits.2 ⟨.inr hy, e2⟩), hyt⟩
 ·exact List.any_eq_true.2 ⟨x, (h7 x).2 (mem_lits.2 ⟨.inl hx, e1⟩), hxt⟩


def satP (l : List (List Int)) (m : List Bool) : Bool := l.all fun c => c.any (litT m)
def stepP (all : List (List Int)) (s : T_api_Step) : Option (List (List Int)) :=
 if s.Left < 0 ∨ (all.length : Int) ≤ s.Left ∨ s.Right < 0 ∨ (all.length : Int) ≤ s.Right then none else
 if (ResolveP (all.getD s.Left.toNat []) (all.getD s.Right.toNat []) s.Pivot).1 = true then some (all ++ [(ResolveP (all.getD s.Left.toNat []) (all.getD s.Right.toNat []) s.Pivot).2]) else none
def runP : List (List Int) → List T_api_Step → Option (List (List Int))
 | all, [] => some all
 | all, s :: r => (stepP all s).bind fun a => runP a r
def refP (l : List (List Int)) (steps : List T_api_Step) : Bool := match runP l steps with
 | none => false
 | some all => if steps = [] then l.any List.isEmpty else (all.getD (all.length - 1) [1]).isEmpty
def CheckP (n : Int) (l : List (List Int)) (x : T_api_Answer) : Int :=
 if ValidP n l ≠ 0 then ValidP n l else
 if x.Sat = true then (if x.Steps ≠ [] ∨ (x.Model.length : Int) ≠ n then 4 else if satP l x.Model = true then 0 else 11) else
 if x.Model ≠ [] then 4 else if 20000 < x.Steps.length then 2 else if refP l x.Steps = true then 0 else 11

theorem stepP_len {all : List (List Int)} {s : T_api_Step} {a : List (List Int)} (h : stepP all s = some a) : a.length = all.length + 1 := by
 unfold stepP at h
 split at h
 ·cases h
 ·split at h
  ·cases h; simp
  ·cases h
theorem runP_len : ∀ {steps : List T_api_Step} {all a : List (List Int)}, runP all steps = some a → a.length = all.length + steps.length
 | [], all, a, h => by cases h; simp
 | s :: r, all, a, h => by
  simp only [runP, Option.bind_eq_some_iff] at h
  obtain ⟨b, h1, h2⟩ := h
  have := stepP_len h1
  have := runP_len h2
  simp; omega
theorem runP_app : ∀ {x y : List T_api_Step} {all : List (List Int)}, runP all (x ++ y) = (runP all x).bind fun a => runP a y
 | [], y, all => rfl
 | s :: r, y, all => by
  simp only [List.cons_append, runP, Option.bind_assoc]
  cases stepP all s with
  | none => rfl
  | some a => simp only [Option.bind_some]; exact runP_app
theorem runP_snoc {l all : List (List Int)} {steps : List T_api_Step} {k : Nat} (hk : k < steps.length) (h : runP l (steps.take k) = some all) : runP l (steps.take (k + 1)) = stepP all steps[k] := by
 rw [← List.take_append_getElem hk, runP_app, h]
 simp only [Option.bind_some, runP]
 cases stepP all steps[k] <;> rfl
/-- one step of a check -/
theorem stepP_of {all : List (List Int)} {s : T_api_Step} (h0 : 0 ≤ s.Left) (h1 : s.Left < all.length) (h2 : 0 ≤ s.Right) (h3 : s.Right < all.length) :
  stepP all s = if (ResolveP (all.getD s.Left.toNat []) (all.getD s.Right.toNat []) s.Pivot).1 = true then some (all ++ [(ResolveP (all.getD s.Left.toNat []) (all.getD s.Right.toNat []) s.Pivot).2]) else none := by
 unfold stepP; rw [if_neg (by omega)]

/-! ### the program's own check -/
theorem cont_of {r : Int} {b : Bool} (h : 0 ≤ r ↔ b = true) : (some r).bind (fun t1 => some (decide (t1 ≥ 0))) = some b := by
 cases b with
 | true => simp; exact h.2 rfl
 | false => simp; exact Int.lt_of_not_ge fun h1 => by have := h.1 h1; cases this
theorem indexf_loop {α : Type} {l : List α} {p : α → Bool} {f : Int → Option (Sum (Sum Int Unit) Int)} (hf : ∀ i (hi : i < l.length), f (i : Int) = some (bif p l[i] then .inl (.inl (i : Int)) else .inr ((i : Int) + 1)))
  (he : f (l.length : Int) = some (.inl (.inr ()))) : T ((loopC f 0).bind (sumK (fun a : Int => some a) fun _ : Unit => some (-1))) fun r => 0 ≤ r ↔ l.any p = true := by
 refine T.bind (P := fun r => match r with | .inl r => 0 ≤ r ∧ l.any p = true | .inr _ => l.any p = false) (T.loopK l.length (fun k s => s = (k : Int) ∧ k ≤ l.length ∧ (l.take k).any p = false) ⟨rfl, by omega, by simp⟩ ?_) fun r hr => ?_
 ·rintro k _ ⟨rfl, hk, hn⟩
  by_cases hk2 : k < l.length
  ·rw [hf k hk2]
   refine .ret ?_
   cases hp : p l[k] with
   | true => exact ⟨by omega, List.any_eq_true.2 ⟨_, List.getElem_mem hk2, hp⟩⟩
   | false =>
    refine ⟨hk2, by omega, hk2, ?_⟩
    rw [← List.take_append_getElem hk2, List.any_append, hn]; simp [hp]
  ·have : k = l.length := by omega
   subst this
   rw [he]
   refine .ret ?_
   rw [List.take_length] at hn; exact hn
 ·match r, hr with
  | .inl r, hr => exact .ret ⟨fun _ => hr.2, fun _ => hr.1⟩
  | .inr u, hr => exact .ret ⟨fun h => by omega, fun h => by rw [hr] at h; cases h⟩

/-- what is refuted has no model -/
theorem refP_sound {l : List (List Int)} {steps : List T_api_Step} {m : List Bool} (h : refP l steps = true) : satP l m = false := by
 cases hs : satP l m with
 | false => rfl
 | true =>
  exfalso
  have hall : ∀ (st : List T_api_Step) (all a : List (List Int)), (∀ c ∈ all, c.any (litT m) = true) → runP all st = some a → ∀ c ∈ a, c.any (litT m) = true := by
   intro st
   induction st with
   | nil => intro all a h1 h2; cases h2; exact h1
   | cons s r ih =>
    intro all a h1 h2
    simp only [runP, Option.bind_eq_some_iff] at h2
    obtain ⟨b, h3, h4⟩ := h2
    refine ih b a ?_ h4
    unfold stepP at h3
    split at h3
    ·cases h3
    ·rename_i hn
     split at h3
     ·rename_i hr
      cases h3
      intro c hc
      rcases List.mem_append.1 hc with h5 | h5
      ·exact h1 c h5
      ·rw [List.mem_singleton.1 h5]
       have mem : ∀ i : Int, ¬ i < 0 → ¬ (all.length : Int) ≤ i → all.getD i.toNat [] ∈ all := fun i h6 h7 => by
        have : i.toNat < all.length := by omega
        simp only [List.getD, List.getElem?_eq_getElem this, Option.getD_some]; exact List.getElem_mem this
       exact res_sound (p := s.Pivot) (a := all.getD s.Left.toNat []) (b := all.getD s.Right.toNat []) (by rw [← hr]) (h1 _ (mem _ (by omega) (by omega))) (h1 _ (mem _ (by omega) (by omega)))
     ·cases h3
  unfold refP at h
  cases hr : runP l steps with
  | none => rw [hr] at h; cases h
  | some a =>
   rw [hr] at h
   have hA := hall steps l a (fun c hc => List.all_eq_true.1 hs c hc) hr
   have hal := runP_len hr
   simp only at h
   by_cases h3 : steps = []
   ·rw [if_pos h3] at h
    obtain ⟨c, hc, he⟩ := List.any_eq_true.1 h
    have := List.all_eq_true.1 hs c hc
    rw [List.isEmpty_iff.1 he] at this; simp at this
   ·rw [if_neg h3] at h
    have hp := List.length_pos_iff.2 h3
    have hlt : a.length - 1 < a.length := by omega
    have hm : a.getD (a.length - 1) [1] ∈ a := by
     simp only [List.getD, List.getElem?_eq_getElem hlt, Option.getD_some]; exact List.getElem_mem hlt
    have := hA _ hm
    rw [List.isEmpty_iff.1 h] at this; simp at this
end Go.Dc

set_option linter.unusedVariables false
set_option linter.unusedSimpArgs false
set_option linter.unusedSectionVars false
/-! The program's own labellings. -/
namespace Go.Dc
open Go.Proofs Go.Sort

theorem Valid_1_plain {x : Int} : labelling_Valid_1_m x = some (decide (¬ (1 ≤ x ∧ x ≤ 3))) := by
 unfold labelling_Valid_1_m
 by_cases h1 : x = 1
 ·subst h1; rfl
 ·by_cases h2 : x = 2
  ·subst h2; rfl
  ·by_cases h3 : x = 3
   ·subst h3; rfl
   ·rw [show (x != 1) = true by simp [h1], show (x != 2) = true by simp [h2], show (x != 3) = true by simp [h3]]
    simp only [cond_true]
    congr 1
    rw [eq_comm, decide_eq_true_iff]; omega
def badL (y : List Int) : Bool := y.any fun x => decide (¬ (1 ≤ x ∧ x ≤ 3))
theorem contV_plain {y : List Int} (hl : y.length ≤ 1000000) : slices_ContainsFunc_int_int_m y = some (badL y) := by
 unfold slices_ContainsFunc_int_int_m
 have h : T (slices_IndexFunc_int_int_m y) fun r => 0 ≤ r ↔ badL y = true := by
  unfold slices_IndexFunc_int_int_m
  refine indexf_loop (l := y) (fun i hi => ?_) ?_
  ·unfold slices_IndexFunc_int_int_l1
   rw [show decide ((i : Int) < (y.length : Int)) = true by simp [hi], cond_true, idxM_nat hi, iadd64 (by omega) (by omega)]
   simp only [Option.bind_some]
   rw [Valid_1_plain, some_bind]
   cases decide (¬ (1 ≤ y[i] ∧ y[i] ≤ 3)) <;> rfl
  ·unfold slices_IndexFunc_int_int_l1; simp
 obtain ⟨r, h1, h2⟩ := h
 rw [h1]; exact cont_of h2
theorem lok_iff {N : Nat} {y : List Int} : LOk N y ↔ y.length = N ∧ badL y = false := by
 unfold badL
 constructor
 ·intro h
  refine ⟨h.len, ?_⟩
  rw [List.any_eq_false]
  intro x hx; have := h.rng x hx; simpa using this
 ·rintro ⟨h1, h2⟩
  refine ⟨h1, fun x hx => ?_⟩
  rw [List.any_eq_false] at h2
  have := h2 x hx; simpa using this
theorem LValid_plain {g : T_api_Graph} (h0 : 0 ≤ g.N) {y : List Int} (hl : y.length ≤ 1000000) : T (labelling_Valid_m g y) fun b => b = true ↔ LOk g.N.toNat y := by
 unfold labelling_Valid_m
 refine T.cond (fun c => ?_) fun c => .ret ?_
 ·have e : (y.length : Int) = g.N := eq_of_beq c
  rw [contV_plain hl, some_bind]
  refine .ret ?_
  rw [lok_iff]
  cases badL y <;> simp <;> omega
 ·have e : ¬ (y.length : Int) = g.N := fun e => by rw [e] at c; simp at c
  constructor
  ·intro h; cases h
  ·intro h; have := h.len; exact absurd (by omega) e

theorem llegal_plain {g : T_api_Graph} (h : GVal g) (hg : g.L.length ≤ 100000) {y : List Int} (hy : LOk g.N.toNat y) {i : Nat} (hi : i < g.N.toNat) : labelling_legal_m g y (i : Int) = some (legalP g y i) := by
 have hl := hy.len; have hn1 := h.n1; have hal := attsP_len h (i := (i : Int))
 unfold labelling_legal_m
 rw [gAttackers_plain h hg (by omega), some_bind]
 have : T (loopC (labelling_legal_l1 y (attsP g i)) (0, 0, 0, 0, 0)) fun q => q.2.2.1 = (((attsP g i).countP (fun a => uOf y a == 2) : Nat) : Int) ∧ q.2.1 = (((attsP g i).countP (fun a => uOf y a == 1) : Nat) : Int) := by
  refine T.loopK (attsP g i).length (fun k s => k ≤ (attsP g i).length ∧ s.1 = (k : Int) ∧ 0 ≤ s.2.1 ∧ s.2.1 ≤ (k : Int) ∧ s.2.2.1 = ((((attsP g i).take k).countP (fun a => uOf y a == 1) : Nat) : Int) ∧ s.2.2.2.1 = ((((attsP g i).take k).countP (fun a => uOf y a == 2) : Nat) : Int) ∧ 0 ≤ s.2.2.2.2 ∧ s.2.2.2.2 ≤ (k : Int)) ⟨by omega, rfl, by simp, by simp, by simp, by simp, by simp, by simp⟩ ?_
  rintro k ⟨_, c0, c1, c2, c3⟩ ⟨hk, rfl, p0, p1, p2, p3, p4, p5⟩
  dsimp only at p0 p1 p2 p3 p4 p5
  dsimp only [labelling_legal_l1]
  refine T.cond (fun c => ?_) fun c => ?_
  ·have hk2 : k < (attsP g i).length := by simpa using c
   have hr := attsP_rng h _ (List.getElem_mem hk2)
   obtain ⟨a, ha⟩ : ∃ a : Nat, (attsP g i)[k] = (a : Int) := ⟨((attsP g i)[k]).toNat, by omega⟩
   have hu : idxM y (attsP g i)[k] = some (uOf y (attsP g i)[k]) := by
    rw [ha]; unfold uOf; rw [Int.toNat_natCast]; exact idx_sf (by omega)
   have hv : uOf y (attsP g i)[k] = 1 ∨ uOf y (attsP g i)[k] = 2 ∨ uOf y (attsP g i)[k] = 3 := by
    rw [ha]; unfold uOf; rw [Int.toNat_natCast]; exact hy.at (by omega)
   have ht : ∀ p : Int → Bool, ((attsP g i).take (k + 1)).countP p = ((attsP g i).take k).countP p + if p (attsP g i)[k] then 1 else 0 := fun p => by
    rw [List.take_add_one, List.getElem?_eq_getElem hk2, Option.toList_some, List.countP_append, List.countP_singleton]
   have b1 : ∀ p : Int → Bool, ((attsP g i).take k).countP p ≤ 40 := fun p => by
    have h1 := List.countP_le_length (p := p) (l := (attsP g i).take k); simp at h1; omega
   have a1 := b1 fun a => uOf y a == 1; have a2 := b1 fun a => uOf y a == 2
   rw [idxM_nat hk2, some_bind, hu, some_bind, iadd1 (by omega), p2, p3, iadd1 (by omega), iadd1 (by omega), iadd64 (x := c0) (by omega) (by omega), iadd64 (x := c3) (by omega) (by omega)]
   rcases hv with e | e | e
   ·rw [e]
    refine .ret ⟨hk2, hk2, rfl, p0, by simp only; omega, ?_, ?_, p4, by simp only; omega⟩
    ·simp only; rw [ht, e]; simp
    ·simp only; rw [ht, e]; simp
   ·rw [e]
    refine .ret ⟨hk2, hk2, rfl, p0, by simp only; omega, ?_, ?_, p4, by simp only; omega⟩
    ·simp only; rw [ht, e]; simp
    ·simp only; rw [ht, e]; simp
   ·rw [e]
    refine .ret ⟨hk2, hk2, rfl, p0, by simp only; omega, ?_, ?_, by simp only; omega, by simp only; omega⟩
    ·simp only; rw [ht, e]; simp
    ·simp only; rw [ht, e]; simp
  ·have e : k = (attsP g i).length := by have : ¬ (k : Int) < (attsP g i).length := of_decide_eq_false c; omega
   subst e
   rw [List.take_length] at p2 p3
   exact .ret ⟨p3, p2⟩
 obtain ⟨⟨q0, q1, q2, q3⟩, e, f1, f2⟩ := this
 dsimp only at f1 f2
 subst f1; subst f2
 rw [e, some_bind, idx_sf (by omega), some_bind]
 dsimp only
 unfold legalP
 have all2 : ((((attsP g i).countP (fun a => uOf y a == 2) : Nat) : Int) == ((attsP g i).length : Int)) = (attsP g i).all fun a => uOf y a == 2 := by
  rw [Bool.eq_iff_iff, beq_iff_eq, List.all_eq_true]
  constructor
  ·intro h1; exact List.countP_eq_length.1 (by omega)
  ·intro h1; rw [List.countP_eq_length.2 h1]
 have any1 : decide ((((attsP g i).countP (fun a => uOf y a == 1) : Nat) : Int) > 0) = (attsP g i).any fun a => uOf y a == 1 := by
  rw [Bool.eq_iff_iff, decide_eq_true_iff, List.any_eq_true]
  constructor
  ·intro h1; exact List.countP_pos_iff.1 (by omega)
  ·intro h1; have := List.countP_pos_iff.2 h1; omega
 rcases hy.at hi with e | e | e
 ·rw [e, if_pos rfl, show ((1 : Int) == 1) = true from rfl, cond_true, all2]
 ·rw [e, if_neg (by omega), if_pos rfl, show ((2 : Int) == 1) = false from rfl, cond_false, show ((2 : Int) == 2) = true from rfl, cond_true, any1]
 ·rw [e, if_neg (by omega), if_neg (by omega), show ((3 : Int) == 1) = false from rfl, cond_false, show ((3 : Int) == 2) = false from rfl, cond_false]
  have z1 : ((((attsP g i).countP (fun a => uOf y a == 1) : Nat) : Int) == 0) = !((attsP g i).any fun a => uOf y a == 1) := by
   rw [← any1, Bool.eq_iff_iff]; simp
  have z2 : decide ((((attsP g i).countP (fun a => uOf y a == 2) : Nat) : Int) < ((attsP g i).length : Int)) = !((attsP g i).all fun a => uOf y a == 2) := by
   rw [← all2, Bool.eq_iff_iff]
   have := List.countP_le_length (p := fun a => uOf y a == 2) (l := attsP g i)
   simp; omega
  rw [z1, z2]
  cases !((attsP g i).any fun a => uOf y a == 1) <;> cases !((attsP g i).all fun a => uOf y a == 2) <;> rfl

theorem LComplete_plain {g : T_api_Graph} (h : GVal g) (hg : g.L.length ≤ 100000) {y : List Int} (hl : y.length ≤ 1000000) : T (labelling_IsComplete_m g y) fun b => b = true ↔ LOk g.N.toNat y ∧ compP g y = true := by
 have hn0 := h.n0; have hn1 := h.n1
 obtain ⟨b, eb, hb⟩ := LValid_plain hn0 hl (y := y)
 unfold labelling_IsComplete_m labelling_Illegal_m
 rw [eb, some_bind]
 refine T.cond (fun c => ?_) fun c => .ret ⟨fun h => (by cases h), fun h => by rw [hb.2 h.1] at c; cases c⟩
 have hy := hb.1 c
 have hyl := hy.len
 rw [some_bind, c, show (!true) = false from rfl, cond_false]
 have hI : T (loopC (labelling_Illegal_l1 g y) (0, [])) fun r => (r.length = 0 ↔ compP g y = true) := by
  refine T.loopK g.N.toNat (fun k s => k ≤ g.N.toNat ∧ s.1 = (k : Int) ∧ s.2.length ≤ k ∧ (s.2.length = 0 ↔ ∀ i, i < k → legalP g y i = true)) ⟨by omega, rfl, by simp, by simp⟩ ?_
  rintro k ⟨_, o⟩ ⟨hk, rfl, ho, hi⟩
  dsimp only at ho hi
  dsimp only [labelling_Illegal_l1]
  refine T.cond (fun c => ?_) fun c => ?_
  ·have hk2 : k < g.N.toNat := by have := of_decide_eq_true c; omega
   rw [llegal_plain h hg hy hk2, some_bind, iadd1 (by omega)]
   refine T.cond (fun c2 => ?_) fun c2 => ?_
   ·rw [appM_eq (by simp; omega), some_bind]
    refine .ret ⟨hk2, hk2, rfl, by simp; omega, ?_⟩
    simp only [List.length_append, List.length_singleton]
    constructor
    ·intro e; omega
    ·intro h1; have := h1 k (by omega); rw [this] at c2; cases c2
   ·have e : legalP g y k = true := by simpa using c2
    refine .ret ⟨hk2, hk2, rfl, by simp only; omega, ?_⟩
    simp only
    rw [hi]
    constructor
    ·intro h1 i hik
     by_cases e2 : i = k
     ·subst e2; exact e
     ·exact h1 i (by omega)
    ·intro h1 i hik; exact h1 i (by omega)
  ·have e : k = g.N.toNat := by have := of_decide_eq_false c; omega
   subst e
   refine .ret ?_
   show o.length = 0 ↔ _
   rw [hi]; unfold compP; exact range_all.symm
 obtain ⟨r, e, hr⟩ := hI
 rw [e, some_bind, some_bind]
 refine .ret ?_
 rw [show ((((r.length : Int) : Int) == 0) = true ↔ r.length = 0) by simp, hr]
 exact ⟨fun h => ⟨hy, h⟩, fun h => h.2⟩

end Go.Dc

set_option linter.unusedVariables false
/-! Keys tell clauses apart; maps. -/
namespace Go.Dc
section
variable {α β : Type} [DecidableEq α]
theorem mapGet_mem {d : List (α × β)} {x : α} {z : β} (h : mapHas d x = true) : (x, mapGet d x z) ∈ d := by
 unfold mapHas at h
 unfold mapGet
 cases e : mapIx d x with
 | none => rw [e] at h; cases h
 | some i =>
  have e' := e
  unfold mapIx at e'
  rw [List.findIdx?_eq_some_iff_getElem] at e'
  obtain ⟨hlt, hp, _⟩ := e'
  simp only [List.getElem?_eq_getElem hlt, Option.map_some, Option.getD_some]
  have : d[i].1 = x := by simpa using hp
  rw [← this]
  exact List.getElem_mem hlt
theorem mapPut_mem {d : List (α × β)} {x : α} {y : β} {p : α × β} (h : p ∈ mapPut d x y) : p ∈ d ∨ p = (x, y) := by
 unfold mapPut at h
 split at h
 ·exact List.mem_or_eq_of_mem_set h
 ·simpa using h
end

theorem decDigits_three {i : Nat} (h1 : ¬ i < 100) (h2 : i < 1000) : Lib.decDigits i = [UInt8.ofNat (48 + i / 10 / 10), UInt8.ofNat (48 + i / 10 % 10), UInt8.ofNat (48 + i % 10)] := by
 rw [Lib.decDigits, dif_neg (by omega), Lib.decDigits_two (by omega) (by omega)]
 rfl
def digS (u : Nat) : List UInt8 := if u < 10 then [UInt8.ofNat (48 + u)] else if u < 100 then [UInt8.ofNat (48 + u / 10), UInt8.ofNat (48 + u % 10)] else [UInt8.ofNat (48 + u / 10 / 10), UInt8.ofNat (48 + u / 10 % 10), UInt8.ofNat (48 + u % 10)]
theorem digS_eq {u : Nat} (h : u < 1000) : Lib.decDigits u = digS u := by
 unfold digS
 by_cases h1 : u < 10
 ·rw [if_pos h1, Lib.decDigits_one h1]
 ·by_cases h2 : u < 100
  ·rw [if_neg h1, if_pos h2, Lib.decDigits_two h1 h2]
  ·rw [if_neg h1, if_neg h2, decDigits_three h2 h]
/-- a number's text, by its natAbs and sign -/
def itoS (s : Bool) (u : Nat) : List UInt8 := if s then 45 :: digS u else digS u
theorem itoa_S {x : Int} (h : x.natAbs < 1000) : Lib.itoa x = itoS (decide (x < 0)) x.natAbs := by
 unfold Lib.itoa itoS
 by_cases hx : x < 0
 ·rw [if_pos hx, decide_eq_true hx, if_pos rfl, digS_eq h]
 ·rw [if_neg hx, decide_eq_false hx, show x.toNat = x.natAbs by omega, digS_eq h]; rfl
/-- what a text says -/
def rdS (l : List UInt8) : Bool × Nat := match l with
 | 45 :: r => (true, r.foldl (fun a d => a * 10 + (d.toNat - 48)) 0)
 | r => (false, r.foldl (fun a d => a * 10 + (d.toNat - 48)) 0)
theorem rdS_ok : ∀ u : Nat, u < 201 → ∀ s : Bool, rdS (itoS s u) = (s, u) ∧ (itoS s u).all (fun d => d != 32) = true := by decide +kernel

theorem split32 : ∀ {a b r s : List UInt8}, a.all (fun d => d != 32) = true → b.all (fun d => d != 32) = true → a ++ 32 :: r = b ++ 32 :: s → a = b ∧ r = s
 | [], [], r, s, _, _, h => ⟨rfl, by simpa using h⟩
 | [], y :: b, r, s, _, hb, h => by
  simp only [List.nil_append, List.cons_append, List.cons.injEq] at h
  rw [← h.1] at hb; simp at hb
 | x :: a, [], r, s, ha, _, h => by
  simp only [List.nil_append, List.cons_append, List.cons.injEq] at h
  rw [h.1] at ha; simp at ha
 | x :: a, y :: b, r, s, ha, hb, h => by
  simp only [List.cons_append, List.cons.injEq] at h
  simp only [List.all_cons, Bool.and_eq_true] at ha hb
  obtain ⟨h1, h2⟩ := split32 ha.2 hb.2 h.2
  exact ⟨by rw [h.1, h1], h2⟩

theorem keyBytes_inj : ∀ {a b : List Int}, (∀ x ∈ a, x.natAbs ≤ 200) → (∀ x ∈ b, x.natAbs ≤ 200) → keyBytes a = keyBytes b → a = b
 | [], [], _, _, _ => rfl
 | [], y :: b, _, _, h => by simp [keyBytes] at h
 | x :: a, [], _, _, h => by simp [keyBytes] at h
 | x :: a, y :: b, ha, hb, h => by
  have hx := ha x (by simp)
  have hy := hb y (by simp)
  have e : ∀ (z : Int) (l : List Int), keyBytes (z :: l) = Lib.itoa z ++ 32 :: keyBytes l := fun z l => by simp [keyBytes]
  rw [e, e, itoa_S (by omega), itoa_S (by omega)] at h
  have h1 := rdS_ok x.natAbs (by omega) (decide (x < 0))
  have h2 := rdS_ok y.natAbs (by omega) (decide (y < 0))
  obtain ⟨h3, h4⟩ := split32 h1.2 h2.2 h
  have h5 := h1.1
  rw [h3, h2.1] at h5
  simp only [Prod.mk.injEq, decide_eq_decide] at h5
  have hxy : x = y := by omega
  rw [hxy, keyBytes_inj (fun z hz => ha z (by simp [hz])) (fun z hz => hb z (by simp [hz])) h4]

theorem keyM_some {c : List Int} (hl : c.length ≤ 50) (h : ∀ x ∈ c, x.natAbs ≤ 200) : keyM c = some ⟨(keyBytes c).toArray⟩ := by
 unfold keyM
 rw [if_pos ⟨by omega, List.all_eq_true.2 fun x hx => by have := h x hx; simp [i64Ok]; omega⟩]
theorem keyM_inj {a b : List Int} {t : ByteArray} (la : a.length ≤ 50) (lb : b.length ≤ 50) (ha : ∀ x ∈ a, x.natAbs ≤ 200) (hb : ∀ x ∈ b, x.natAbs ≤ 200) (h1 : keyM a = some t) (h2 : keyM b = some t) : a = b := by
 rw [keyM_some la ha] at h1
 rw [keyM_some lb hb] at h2
 rw [← h2] at h1
 simp only [Option.some.injEq, ByteArray.mk.injEq] at h1
 exact keyBytes_inj ha hb (by simpa using congrArg Array.toList h1)
end Go.Dc

set_option linter.unusedVariables false
set_option linter.unusedSimpArgs false
set_option linter.unusedSectionVars false
/-! What a search sees under its values. -/
namespace Go.Dc

/-- values: 1, -1 or 0 -/
structure VV (n : Int) (V : List Int) : Prop where
 len : (V.length : Int) = n
 val : ∀ i, V.getD i 0 = 1 ∨ V.getD i 0 = -1 ∨ V.getD i 0 = 0
/-- the value of an element -/
def valP (V : List Int) (x : Int) : Int := if 0 < x then V.getD (x.natAbs - 1) 0 else -V.getD (x.natAbs - 1) 0
theorem valP_neg {V : List Int} {x : Int} (h : x ≠ 0) : valP V (-x) = -valP V x := by
 unfold valP
 rw [Int.natAbs_neg]
 by_cases h1 : 0 < x
 ·rw [if_pos h1, if_neg (by omega)]
 ·rw [if_neg h1, if_pos (by omega)]; omega
theorem VV.valP {n : Int} {V : List Int} (h : VV n V) (x : Int) : valP V x = 1 ∨ valP V x = -1 ∨ valP V x = 0 := by
 unfold Go.Dc.valP
 have := h.val (x.natAbs - 1)
 split <;> omega

section
variable {n : Int} {V : List Int} {C : List (List Int)} {K : List (ByteArray × Int)} {S : List T_api_Step} {nd : Int} {st : Bool}
theorem value_plain (hV : VV n V) (hn : n ≤ 200) {x : Int} (h0 : x ≠ 0) (h1 : -n ≤ x) (h2 : x ≤ n) : proof_search_value_m V C K S nd st x = some (valP V x) := by
 have hl := hV.len
 unfold proof_search_value_m valP
 by_cases hx : 0 < x
 ·rw [if_pos hx, show decide (x > 0) = true by simp [hx], cond_true, isub64 (by omega) (by omega), show x - 1 = ((x.natAbs - 1 : Nat) : Int) by omega, idxM_getD (z := 0) (by omega), some_bind]
 ·rw [if_neg hx, show decide (x > 0) = false by simp; omega, cond_false, ineg64 (by omega) (by omega), isub64 (by omega) (by omega), show -x - 1 = ((x.natAbs - 1 : Nat) : Int) by omega, idxM_getD (z := 0) (by omega), some_bind]
  have := hV.val (x.natAbs - 1)
  rw [ineg64 (by omega) (by omega)]

/-- a clause that is false -/
def FalC (V : List Int) (c : List Int) : Prop := ∀ y ∈ c, valP V y = -1
/-- a clause with one open element -/
def UniC (V : List Int) (c : List Int) (x : Int) : Prop := x ∈ c ∧ valP V x = 0 ∧ ∀ y ∈ c, y = x ∨ valP V y = -1
/-- a clause that is neither -/
def OpnC (V : List Int) (c : List Int) : Prop := ∃ y ∈ c, valP V y = 1 ∨ valP V y = 0

theorem look_l1 (hV : VV n V) (hn : n ≤ 200) {c : List Int} (hc : COk n c) :
  T (loopC (proof_search_look_l1 V C K S nd st c) (0, 0)) fun r => match r with
   | .inl (.inl _) => False
   | .inl (.inr _) => OpnC V c
   | .inr x => x = 0 ∧ FalC V c ∨ x ≠ 0 ∧ UniC V c x := by
 have hcl := hc.len
 refine T.loopK c.length (fun k s => s.2 = (k : Int) ∧ k ≤ c.length ∧ (s.1 = 0 ∧ FalC V (c.take k) ∨ s.1 ≠ 0 ∧ UniC V (c.take k) s.1)) ⟨rfl, by omega, .inl ⟨rfl, by simp [FalC]⟩⟩ ?_
 rintro k ⟨o, i⟩ ⟨e, hk, hI⟩
 dsimp only at e hI
 subst e
 unfold proof_search_look_l1
 dsimp only
 refine T.cond (fun h => ?_) fun h => .ret ?_
 ·have hk2 : k < c.length := by simpa using h
  have hr := hc.rng _ (List.getElem_mem hk2)
  have hm : c[k] ∈ c := List.getElem_mem hk2
  rw [idxM_nat hk2, some_bind, value_plain hV hn hr.1 hr.2.1 hr.2.2, some_bind, iadd1 (by omega)]
  have e5 : c.take (k + 1) = c.take k ++ [c[k]] := (List.take_append_getElem hk2).symm
  have hv := hV.valP c[k]
  simp only [joinM_eq]
  by_cases g1 : valP V c[k] > 0
  ·rw [decide_eq_true g1, cond_true, cond_true]
   exact .ret ⟨_, hm, .inl (by omega)⟩
  ·rw [decide_eq_false g1, cond_false]
   by_cases g2 : valP V c[k] = 0
   ·rw [g2, show ((0 : Int) == 0) = true from rfl, cond_true]
    rcases hI with ⟨rfl, hF⟩ | ⟨ho, hU⟩
    ·rw [show ((0 : Int) != 0) = false from rfl, cond_false, cond_true]
     refine .ret ⟨hk2, rfl, hk2, .inr ⟨hr.1, by rw [e5]; exact List.mem_append_right _ (List.mem_singleton.2 rfl), g2, fun y hy => ?_⟩⟩
     rw [e5] at hy
     rcases List.mem_append.1 hy with h2 | h2
     ·exact .inr (hF y h2)
     ·exact .inl (List.mem_singleton.1 h2)
    ·rw [show (o != 0) = true by simp [ho], cond_true]
     exact .ret ⟨_, hm, .inr g2⟩
   ·rw [show (valP V c[k] == 0) = false from beq_false_of_ne g2, cond_false, cond_false, cond_false]
    have g3 : valP V c[k] = -1 := by omega
    refine .ret ⟨hk2, rfl, hk2, ?_⟩
    rcases hI with ⟨rfl, hF⟩ | ⟨ho, hU⟩
    ·refine .inl ⟨rfl, fun y hy => ?_⟩
     rw [e5] at hy
     rcases List.mem_append.1 hy with h2 | h2
     ·exact hF y h2
     ·rw [List.mem_singleton.1 h2]; exact g3
    ·refine .inr ⟨ho, by rw [e5]; exact List.mem_append_left _ hU.1, hU.2.1, fun y hy => ?_⟩
     rw [e5] at hy
     rcases List.mem_append.1 hy with h2 | h2
     ·exact hU.2.2 y h2
     ·rw [List.mem_singleton.1 h2]; exact .inr g3
 ·have : k = c.length := by simp at h; omega
  subst this
  rw [List.take_length] at hI
  exact hI

/-- what look returns -/
def LookR (V : List Int) (C : List (List Int)) (r : Int × Int) : Prop :=
 r.1 = -1 ∧ r.2 = 0 ∧ (∀ c ∈ C, OpnC V c) ∨ 0 ≤ r.1 ∧ r.1 < C.length ∧ (r.2 = 0 ∧ FalC V (C.getD r.1.toNat []) ∨ r.2 ≠ 0 ∧ UniC V (C.getD r.1.toNat []) r.2)

theorem look_plain (hV : VV n V) (hn : n ≤ 200) (hC : ∀ c ∈ C, COk n c) (hl : C.length ≤ 100000) : T (proof_search_look_m V C K S nd st) (LookR V C) := by
 unfold proof_search_look_m
 refine T.bind (P := fun r => match r with | .inl r => LookR V C r | .inr r => LookR V C r) ?_ fun r hr => by
  match r, hr with
  | .inl r, hr => exact .ret hr
  | .inr r, hr => exact .ret hr
 refine T.loopK C.length (fun k (s : Int × Int × Int) => s.2.2 = (k : Int) ∧ k ≤ C.length ∧ (s.1 = -1 ∧ s.2.1 = 0 ∧ (∀ c ∈ C.take k, OpnC V c) ∨ 0 ≤ s.1 ∧ s.1 < C.length ∧ s.2.1 ≠ 0 ∧ UniC V (C.getD s.1.toNat []) s.2.1)) ⟨rfl, by omega, .inl ⟨rfl, rfl, by simp⟩⟩ ?_
 rintro k ⟨u, x, i⟩ ⟨e, hk, hI⟩
 dsimp only at e hI
 subst e
 unfold proof_search_look_l2
 dsimp only
 refine T.cond (fun h => ?_) fun h => .ret ?_
 ·have hk2 : k < C.length := by simpa using h
  rw [idxM_nat hk2, some_bind, iadd1 (by omega)]
  have hg : C.getD k [] = C[k] := by simp [List.getD, hk2]
  refine T.bind (look_l1 hV hn (hC _ (List.getElem_mem hk2))) fun r hr => ?_
  match r, hr with
  | .inl (.inr _), hr =>
   refine .ret ⟨hk2, rfl, hk2, ?_⟩
   rcases hI with ⟨h1, h2, h3⟩ | hI
   ·refine .inl ⟨h1, h2, fun c hc => ?_⟩
    rw [← List.take_append_getElem hk2] at hc
    rcases List.mem_append.1 hc with h4 | h4
    ·exact h3 c h4
    ·rw [List.mem_singleton.1 h4]; exact hr
   ·exact .inr hI
  | .inr y, hr =>
   simp only [sumK_inr]
   rcases hr with ⟨rfl, hF⟩ | ⟨hy, hU⟩
   ·refine .ret ?_
    exact .inr ⟨by simp, by simpa using hk2, .inl ⟨rfl, by show FalC V (C.getD (Int.toNat (k : Int)) []); rw [Int.toNat_natCast, hg]; exact hF⟩⟩
   ·rw [show (y == 0) = false from beq_false_of_ne hy, cond_false]
    refine T.cond (fun h5 => .ret ⟨hk2, rfl, hk2, .inr ⟨by simp, by simpa using hk2, hy, by show UniC V (C.getD (Int.toNat (k : Int)) []) y; rw [Int.toNat_natCast, hg]; exact hU⟩⟩) fun h5 => .ret ⟨hk2, rfl, hk2, ?_⟩
    simp only [decide_eq_false_iff_not] at h5
    rcases hI with ⟨h1, _⟩ | hI
    ·omega
    ·exact .inr hI
 ·have : k = C.length := by simp at h; omega
  subst this
  rcases hI with ⟨h1, h2, h3⟩ | ⟨h1, h2, h3, h4⟩
  ·exact .inl ⟨h1, h2, by simpa using h3⟩
  ·exact .inr ⟨h1, h2, .inr ⟨h3, h4⟩⟩

theorem branch_l1 (hV : VV n V) (hn : n ≤ 200) {c : List Int} (hc : COk n c) :
  T (loopC (proof_search_branch_l1 V C K S nd st c) (0, 0)) fun r => match r with
   | .inl (.inl _) => False
   | .inl (.inr _) => ∃ y ∈ c, valP V y = 1
   | .inr x => x = 0 ∧ FalC V c ∨ x ≠ 0 ∧ x ∈ c ∧ valP V x = 0 := by
 have hcl := hc.len
 refine T.loopK c.length (fun k s => s.2 = (k : Int) ∧ k ≤ c.length ∧ (s.1 = 0 ∧ FalC V (c.take k) ∨ s.1 ≠ 0 ∧ s.1 ∈ c ∧ valP V s.1 = 0)) ⟨rfl, by omega, .inl ⟨rfl, by simp [FalC]⟩⟩ ?_
 rintro k ⟨o, i⟩ ⟨e, hk, hI⟩
 dsimp only at e hI
 subst e
 unfold proof_search_branch_l1
 dsimp only
 refine T.cond (fun h => ?_) fun h => .ret ?_
 ·have hk2 : k < c.length := by simpa using h
  have hr := hc.rng _ (List.getElem_mem hk2)
  have hm : c[k] ∈ c := List.getElem_mem hk2
  rw [idxM_nat hk2, some_bind, value_plain hV hn hr.1 hr.2.1 hr.2.2, some_bind, iadd1 (by omega)]
  have e5 : c.take (k + 1) = c.take k ++ [c[k]] := (List.take_append_getElem hk2).symm
  have hv := hV.valP c[k]
  refine T.cond (fun g1 => .ret ⟨_, hm, eq_of_beq g1⟩) fun g1 => ?_
  refine T.cond (fun g2 => ?_) fun g2 => ?_
  ·have g2 := eq_of_beq g2
   refine T.cond (fun g3 => .ret ⟨hk2, rfl, hk2, .inr ⟨hr.1, hm, g2⟩⟩) fun g3 => .ret ⟨hk2, rfl, hk2, ?_⟩
   rcases hI with ⟨rfl, _⟩ | hI
   ·cases g3
   ·exact .inr hI
  ·have g3 : valP V c[k] = -1 := by
    have a1 : valP V c[k] ≠ 1 := fun e => by rw [e] at g1; cases g1
    have a2 : valP V c[k] ≠ 0 := fun e => by rw [e] at g2; cases g2
    omega
   refine .ret ⟨hk2, rfl, hk2, ?_⟩
   rcases hI with ⟨rfl, hF⟩ | hI
   ·refine .inl ⟨rfl, fun y hy => ?_⟩
    rw [e5] at hy
    rcases List.mem_append.1 hy with h2 | h2
    ·exact hF y h2
    ·rw [List.mem_singleton.1 h2]; exact g3
   ·exact .inr hI
 ·have : k = c.length := by simp at h; omega
  subst this
  rw [List.take_length] at hI
  exact hI

/-- where look found nothing, branch gives an open element or all clauses are true -/
theorem branch_plain (hV : VV n V) (hn : n ≤ 200) (hC : ∀ c ∈ C, COk n c) (hl : C.length ≤ 100000) (ho : ∀ c ∈ C, OpnC V c) :
  T (proof_search_branch_m V C K S nd st) fun x => x = 0 ∧ (∀ c ∈ C, ∃ y ∈ c, valP V y = 1) ∨ x ≠ 0 ∧ valP V x = 0 ∧ ∃ c ∈ C, x ∈ c := by
 unfold proof_search_branch_m
 refine T.bind (P := fun r => match r with | .inl x => x ≠ 0 ∧ valP V x = 0 ∧ ∃ c ∈ C, x ∈ c | .inr _ => ∀ c ∈ C, ∃ y ∈ c, valP V y = 1) ?_ fun r hr => by
  match r, hr with
  | .inl r, hr => exact .ret (.inr hr)
  | .inr r, hr => exact .ret (.inl ⟨rfl, hr⟩)
 refine T.loopK C.length (fun k s => s = (k : Int) ∧ k ≤ C.length ∧ ∀ c ∈ C.take k, ∃ y ∈ c, valP V y = 1) ⟨rfl, by omega, by simp⟩ ?_
 rintro k _ ⟨rfl, hk, hI⟩
 unfold proof_search_branch_l2
 refine T.cond (fun h => ?_) fun h => .ret ?_
 ·have hk2 : k < C.length := by simpa using h
  rw [idxM_nat hk2, some_bind, iadd1 (by omega)]
  refine T.bind (branch_l1 hV hn (hC _ (List.getElem_mem hk2))) fun r hr => ?_
  match r, hr with
  | .inl (.inr _), hr =>
   refine .ret ⟨hk2, rfl, hk2, fun c hc => ?_⟩
   rw [← List.take_append_getElem hk2] at hc
   rcases List.mem_append.1 hc with h4 | h4
   ·exact hI c h4
   ·rw [List.mem_singleton.1 h4]; exact hr
  | .inr y, hr =>
   simp only [sumK_inr]
   refine .ret ?_
   rcases hr with ⟨rfl, hF⟩ | ⟨hy, hm, hv⟩
   ·obtain ⟨z, hz, h5⟩ := ho _ (List.getElem_mem hk2)
    have := hF z hz
    omega
   ·exact ⟨hy, hv, _, List.getElem_mem hk2, hm⟩
 ·have : k = C.length := by simp at h; omega
  subst this
  simpa using hI

/-- values with the element x made b -/
def setP (V : List Int) (x b : Int) : List Int := V.set (x.natAbs - 1) (if x < 0 then -b else b)
theorem set_plain (hl : (V.length : Int) = n) (hn : n ≤ 200) {x b : Int} (h0 : x ≠ 0) (h1 : -n ≤ x) (h2 : x ≤ n) (hb : b = 0 ∨ b = 1) : proof_search_set_m V C K S nd st x b = some (setP V x b) := by
 unfold proof_search_set_m setP
 by_cases hx : x < 0
 ·rw [decide_eq_true hx, if_pos hx, cond_true, ineg64 (by omega) (by omega), isub64 (by omega) (by omega), show -x - 1 = ((x.natAbs - 1 : Nat) : Int) by omega, idxM_nat (show x.natAbs - 1 < V.length by omega), some_bind, ineg64 (by omega) (by omega)]
  rfl
 ·rw [decide_eq_false hx, if_neg hx, cond_false, isub64 (by omega) (by omega), show x - 1 = ((x.natAbs - 1 : Nat) : Int) by omega, idxM_nat (show x.natAbs - 1 < V.length by omega), some_bind]
  rfl

theorem setP_len {x b : Int} : (setP V x b).length = V.length := by simp [setP]
theorem setP_VV (hV : VV n V) {x b : Int} (hb : b = 0 ∨ b = 1) : VV n (setP V x b) := by
 refine ⟨by rw [setP_len]; exact hV.len, fun i => ?_⟩
 unfold setP
 by_cases hi : x.natAbs - 1 < V.length
 ·rw [getD_set hi]
  split
  ·split <;> omega
  ·exact hV.val i
 ·rw [List.set_eq_of_length_le (by omega)]; exact hV.val i
theorem setP_val (hl : (V.length : Int) = n) {x y b : Int} (h0 : x ≠ 0) (h1 : -n ≤ x) (h2 : x ≤ n) (hy : y ≠ 0) :
  valP (setP V x b) y = if y = x then b else if y = -x then -b else valP V y := by
 unfold valP setP
 rw [getD_set (by omega)]
 by_cases e1 : y = x
 ·subst e1
  rw [if_pos rfl, if_pos rfl]
  split <;> split <;> omega
 ·by_cases e2 : y = -x
  ·subst e2
   rw [if_neg e1, if_pos rfl, Int.natAbs_neg, if_pos rfl]
   split <;> split <;> omega
  ·rw [if_neg e1, if_neg e2, if_neg (show ¬ (x.natAbs - 1 = y.natAbs - 1) by omega)]
theorem setP_back (hl : (V.length : Int) = n) {x : Int} (h0 : x ≠ 0) (h1 : -n ≤ x) (h2 : x ≤ n) (hv : valP V x = 0) : setP (setP V x 1) x 0 = V := by
 unfold setP
 rw [List.set_set]
 unfold valP at hv
 have : V.getD (x.natAbs - 1) 0 = 0 := by split at hv <;> omega
 have hi : x.natAbs - 1 < V.length := by omega
 have e : (if x < 0 then -(0 : Int) else 0) = V[x.natAbs - 1] := by
  have h3 : V.getD (x.natAbs - 1) 0 = V[x.natAbs - 1] := by simp [List.getD, hi]
  rw [← h3, this]; split <;> rfl
 rw [e]; exact List.set_getElem_self hi
end
end Go.Dc
