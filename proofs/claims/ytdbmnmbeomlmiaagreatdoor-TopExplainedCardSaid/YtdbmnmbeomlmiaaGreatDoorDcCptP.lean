/- Part Dc.CptP of a proof: lemmas. -/
import Derived.Test.YtdbmnmbeomlmiaaGreatDoorLAWTXW
import Derived.Test.YtdbmnmbeomlmiaaGreatDoorDcSub
import Derived.Test.YtdbmnmbeomlmiaaGreatDoorDcCpt
set_option linter.unusedVariables false
set_option linter.unusedSimpArgs false
set_option linter.unusedSectionVars false
namespace Go.Dc

theorem Mod_plain {x n : Int} (hn : n ≤ 4611686018427387904) : T (keep_Mod_m x n) fun r => 1 ≤ n → 0 ≤ r ∧ r < n := by
 unfold keep_Mod_m
 refine T.cond (fun h => .ret fun h1 => ?_) fun h => ?_
 ·simp at h; omega
 ·simp at h
  have h1 : iremM .i64 x n = some (x.tmod n) := by unfold iremM; rw [if_neg (by omega)]; rfl
  have h2 := Int.tmod_lt_of_pos x (show 0 < n by omega)
  have h3 := Int.lt_tmod_of_pos x (show 0 < n by omega)
  rw [h1]
  refine T.bind (T.ret rfl) fun a ha => ?_
  subst ha
  refine T.cond (fun h => .letM (.ret fun _ => ?_)) fun h => .ret fun _ => ?_
  ·simp at h; rw [iadd64 (by omega) (by omega)]; omega
  ·simp at h; omega

def RdOk (s : T_deliberationkeep_Src) : Prop := 0 ≤ s.At ∧ s.L.length ≤ 2000

theorem Raw_plain {s : T_deliberationkeep_Src} (h : RdOk s) : T (keep_Src_Raw_m s) fun r => RdOk r.2 := by
 unfold keep_Src_Raw_m
 obtain ⟨h1, h2⟩ := h
 refine T.cond (fun h => .ret ⟨h1, h2⟩) fun h => ?_
 simp at h
 rw [iadd64 (by omega) (by omega), isub64 (by omega) (by omega), idxM_eq (by omega) (by omega)]
 exact T.bind (T.ret rfl) fun a _ => .ret ⟨by simp only; omega, h2⟩

theorem N_plain {s : T_deliberationkeep_Src} (h : RdOk s) {n : Int} (hn : n ≤ 4611686018427387904) : T (keep_Src_N_m s n) fun r => RdOk r.2 ∧ (1 ≤ n → 0 ≤ r.1 ∧ r.1 < n) := by
 unfold keep_Src_N_m
 exact T.bind (Raw_plain h) fun t ht => T.bind (Mod_plain hn) fun a ha => .ret ⟨ht, ha⟩

theorem New_plain {l : List Int} : T (keep_New_m l) fun r => RdOk ⟨r.1, r.2⟩ := by
 unfold keep_New_m
 have h : imin (l.length : Int) 2000 = (l.length : Int) ∨ imin (l.length : Int) 2000 = 2000 := by unfold imin; split <;> simp
 have h2 : 0 ≤ imin (l.length : Int) 2000 ∧ imin (l.length : Int) 2000 ≤ l.length ∧ imin (l.length : Int) 2000 ≤ 2000 := by unfold imin; split <;> omega
 rw [slM_eq (by omega) (by omega) (by omega)]
 exact T.bind (T.ret rfl) fun a ha => .ret ⟨by simp, by subst ha; simp; omega⟩
end Go.Dc

namespace Go.Dc

theorem wrapU {n : Nat} (h : n < 2 ^ 64) : IntKind.wrap .u64 (n : Int) = (n : Int) := by
 simp [IntKind.wrap, IntKind.signed, IntKind.bits]; omega

def andn (a b : Nat) : Nat := (BitVec.ofNat 64 a &&& ~~~BitVec.ofNat 64 b).toNat

theorem andn_lt {a b : Nat} : andn a b < 2 ^ 64 := BitVec.isLt _
theorem andn_bit {a b i : Nat} (ha : a < 2 ^ 64) : (andn a b).testBit i = (a.testBit i && !b.testBit i) := by
 unfold andn
 rw [BitVec.testBit_toNat]
 simp only [BitVec.getLsbD_and, BitVec.getLsbD_not, BitVec.getLsbD_ofNat]
 by_cases h : i < 64
 ·simp [h]
 ·have : a.testBit i = false := Nat.testBit_lt_two_pow (Nat.lt_of_lt_of_le ha (Nat.pow_le_pow_right (by decide) (by omega)))
  simp [h, this]

theorem and_lt {a b : Nat} (ha : a < 2 ^ 64) : a &&& b < 2 ^ 64 := Nat.lt_of_le_of_lt Nat.and_le_left ha
theorem or_lt {a b : Nat} (ha : a < 2 ^ 64) (hb : b < 2 ^ 64) : a ||| b < 2 ^ 64 := Nat.or_lt_two_pow ha hb

theorem iand_u {a b : Nat} (ha : a < 2 ^ 64) (hb : b < 2 ^ 64) : iand .u64 (a : Int) (b : Int) = ((a &&& b : Nat) : Int) := by
 unfold iand
 have : (BitVec.ofInt 64 (a : Int) &&& BitVec.ofInt 64 (b : Int)).toNat = a &&& b := by
  simp only [BitVec.toNat_and, BitVec.ofInt_natCast, BitVec.toNat_ofNat]
  rw [Nat.mod_eq_of_lt ha, Nat.mod_eq_of_lt hb]
 rw [show IntKind.bits .u64 = 64 from rfl, this, wrapU (and_lt ha)]
theorem ior_u {a b : Nat} (ha : a < 2 ^ 64) (hb : b < 2 ^ 64) : ior .u64 (a : Int) (b : Int) = ((a ||| b : Nat) : Int) := by
 unfold ior
 have : (BitVec.ofInt 64 (a : Int) ||| BitVec.ofInt 64 (b : Int)).toNat = a ||| b := by
  simp only [BitVec.toNat_or, BitVec.ofInt_natCast, BitVec.toNat_ofNat]
  rw [Nat.mod_eq_of_lt ha, Nat.mod_eq_of_lt hb]
 rw [show IntKind.bits .u64 = 64 from rfl, this, wrapU (or_lt ha hb)]
theorem iandn_u {a b : Nat} : iandn .u64 (a : Int) (b : Int) = ((andn a b : Nat) : Int) := by
 unfold iandn andn
 rw [show IntKind.bits .u64 = 64 from rfl, BitVec.ofInt_natCast, BitVec.ofInt_natCast, wrapU (BitVec.isLt _)]
theorem isub_u {a b : Nat} (ha : a < 2 ^ 64) (hb : b ≤ a) : isub .u64 (a : Int) (b : Int) = ((a - b : Nat) : Int) := by
 unfold isub
 rw [show (a : Int) - (b : Int) = ((a - b : Nat) : Int) by omega, wrapU (by omega)]
theorem isub1_u {a : Nat} (ha : a < 2 ^ 64) (hb : 1 ≤ a) : isub .u64 (a : Int) 1 = ((a - 1 : Nat) : Int) := isub_u (b := 1) ha hb
theorem ishl_u {n : Nat} (h : n < 64) : ishl .u64 1 (n : Int) = ((2 ^ n : Nat) : Int) := by
 unfold ishl
 rw [show min ((n : Int).toNat) (IntKind.bits .u64) = n by simp [IntKind.bits]; omega, Int.one_mul]
 rw [show (2 : Int) ^ n = ((2 ^ n : Nat) : Int) by simp]
 exact wrapU (Nat.pow_lt_pow_right (by decide) h)
theorem ishr_u {a n : Nat} (h : n ≤ 64) : ishr .u64 (a : Int) (n : Int) = ((a >>> n : Nat) : Int) := by
 unfold ishr
 rw [show min ((n : Int).toNat) (IntKind.bits .u64) = n by simp [IntKind.bits]; omega, Int.fdiv_eq_ediv_of_nonneg _ (Int.le_of_lt (Int.pow_pos (show (0 : Int) < 2 by decide))), Nat.shiftRight_eq_div_pow]
 simp

theorem low_exists {s : Nat} (h : s ≠ 0) : ∃ k, s.testBit k = true ∧ ∀ j, j < k → s.testBit j = false := by
 obtain ⟨i, hi⟩ := Nat.exists_testBit_of_ne_zero h
 induction i using Nat.strongRecOn with
 | _ i ih =>
  by_cases hx : ∃ j, j < i ∧ s.testBit j = true
  ·obtain ⟨j, hj, hb⟩ := hx; exact ih j hj hb
  ·exact ⟨i, hi, fun j hj => by cases hb : s.testBit j; rfl; exact absurd ⟨j, hj, hb⟩ hx⟩

section low
variable {s k : Nat}
theorem low_form (hk : s.testBit k = true) (hl : ∀ j, j < k → s.testBit j = false) : s = 2 ^ (k + 1) * (s / 2 ^ (k + 1)) + 2 ^ k := by
 have h1 : s % 2 ^ (k + 1) = 2 ^ k := by
  apply Nat.eq_of_testBit_eq
  intro j
  rw [Nat.testBit_mod_two_pow, Nat.testBit_two_pow]
  by_cases e : j < k
  ·simp [hl j e]; omega
  ·by_cases e2 : j = k
   ·subst e2; simp [hk]
   ·have : ¬ j < k + 1 := by omega
    have h3 : ¬ k = j := fun h => e2 h.symm
    simp [this, h3]
 have := Nat.div_add_mod s (2 ^ (k + 1))
 omega

theorem low_pred (hk : s.testBit k = true) (hl : ∀ j, j < k → s.testBit j = false) (j : Nat) : (s - 1).testBit j = if j < k then true else if j = k then false else s.testBit j := by
 have hf := low_form hk hl
 have hp : 0 < 2 ^ k := Nat.two_pow_pos k
 have h2 : 2 ^ k - 1 < 2 ^ (k + 1) := by rw [Nat.pow_succ]; omega
 have h3 : 2 ^ k < 2 ^ (k + 1) := by rw [Nat.pow_succ]; omega
 have e : s - 1 = 2 ^ (k + 1) * (s / 2 ^ (k + 1)) + (2 ^ k - 1) := by omega
 rw [e, Nat.testBit_two_pow_mul_add _ h2, Nat.testBit_two_pow_sub_one]
 have hs : s.testBit j = if j < k + 1 then (2 ^ k).testBit j else (s / 2 ^ (k + 1)).testBit (j - (k + 1)) := by
  conv => lhs; rw [hf]
  rw [Nat.testBit_two_pow_mul_add _ h3]
 by_cases h1 : j < k
 ·simp [h1, show j < k + 1 by omega]
 ·by_cases h4 : j = k
  ·subst h4; simp
  ·rw [hs, if_neg h1, if_neg h4, if_neg (by omega), if_neg (by omega)]

theorem low_clear (hk : s.testBit k = true) (hl : ∀ j, j < k → s.testBit j = false) (j : Nat) : (s &&& (s - 1)).testBit j = if j ≤ k then false else s.testBit j := by
 rw [Nat.testBit_and, low_pred hk hl]
 by_cases h1 : j < k
 ·simp [h1, hl j h1, show j ≤ k by omega]
 ·by_cases h4 : j = k
  ·subst h4; simp
  ·simp [h1, h4, show ¬ j ≤ k by omega]

theorem low_neg (hs : s < 2 ^ 64) (hk : s.testBit k = true) (hl : ∀ j, j < k → s.testBit j = false) : s &&& (2 ^ 64 - s) = 2 ^ k := by
 have h0 : s ≠ 0 := fun e => by rw [e] at hk; simp at hk
 have hk64 : k < 64 := by
  by_cases h : k < 64
  ·exact h
  ·have := Nat.testBit_lt_two_pow (Nat.lt_of_lt_of_le hs (Nat.pow_le_pow_right (by decide : 0 < 2) (by omega : 64 ≤ k)))
   rw [this] at hk; cases hk
 apply Nat.eq_of_testBit_eq
 intro j
 rw [Nat.testBit_and, Nat.testBit_two_pow, show 2 ^ 64 - s = 2 ^ 64 - ((s - 1) + 1) by omega, Nat.testBit_two_pow_sub_succ (by omega), low_pred hk hl]
 by_cases h1 : j < k
 ·simp [hl j h1]; omega
 ·by_cases h4 : j = k
  ·subst h4; simp [hk, hk64]
  ·have h5 : ¬ k = j := fun h => h4 h.symm
   simp only [if_neg h1, if_neg h4, h5, decide_false]
   cases s.testBit j <;> simp
end low

theorem bit_lt {s i : Nat} (hs : s < 2 ^ 64) (h : s.testBit i = true) : i < 64 := by
 by_cases h1 : i < 64
 ·exact h1
 ·have := Nat.testBit_lt_two_pow (Nat.lt_of_lt_of_le hs (Nat.pow_le_pow_right (by decide : 0 < 2) (by omega : 64 ≤ i)))
  rw [this] at h; cases h

def bitsL (s : Nat) : List Nat := (List.range 64).filter s.testBit

theorem mem_bitsL {s i : Nat} (hs : s < 2 ^ 64) : i ∈ bitsL s ↔ s.testBit i = true := by
 unfold bitsL
 rw [List.mem_filter, List.mem_range]
 exact ⟨fun h => h.2, fun h => ⟨bit_lt hs h, h⟩⟩

theorem bitsL_zero : bitsL 0 = [] := by
 unfold bitsL
 rw [List.filter_eq_nil_iff]; simp

theorem bitsL_cons {s k : Nat} (hs : s < 2 ^ 64) (hk : s.testBit k = true) (hl : ∀ j, j < k → s.testBit j = false) : bitsL s = k :: bitsL (s &&& (s - 1)) := by
 have hk64 := bit_lt hs hk
 have hr : List.range 64 = List.range k ++ (k :: (List.range (63 - k)).map (k + 1 + ·)) := by
  rw [show 64 = (k + 1) + (63 - k) by omega, List.range_add, List.range_succ]; simp
 unfold bitsL
 rw [hr, List.filter_append, List.filter_append, List.filter_cons_of_pos hk]
 have h1 : (List.range k).filter s.testBit = [] := List.filter_eq_nil_iff.2 fun j hj => by simp [hl j (List.mem_range.1 hj)]
 have h2 : (List.range k).filter (s &&& (s - 1)).testBit = [] := List.filter_eq_nil_iff.2 fun j hj => by
  rw [low_clear hk hl, if_pos (by have := List.mem_range.1 hj; omega)]; simp
 have h3 : ¬ (s &&& (s - 1)).testBit k = true := by rw [low_clear hk hl]; simp
 rw [h1, h2, List.filter_cons_of_neg h3]
 simp only [List.nil_append]
 congr 1
 refine List.filter_congr fun j hj => ?_
 obtain ⟨m, _, rfl⟩ := List.mem_map.1 hj
 rw [low_clear hk hl, if_neg (by omega)]

theorem bitsL_len {s : Nat} : (bitsL s).length ≤ 64 := by
 unfold bitsL
 exact Nat.le_trans (List.length_filter_le _ _) (by simp)

theorem low_lt {s : Nat} (h : s ≠ 0) : s &&& (s - 1) < s := Nat.lt_of_le_of_lt Nat.and_le_right (by omega)

theorem eq_of_bits {a b : Nat} (h : ∀ i, a.testBit i = b.testBit i) : a = b := Nat.eq_of_testBit_eq h
theorem zero_bits {a : Nat} : a = 0 ↔ ∀ i, a.testBit i = false := by
 constructor
 ·rintro rfl i; simp
 ·intro h; exact Nat.eq_of_testBit_eq fun i => by rw [h i]; simp

end Go.Dc

namespace Go.Dc
open Go.Proofs Go.Sort

def plt (p q : T_api_Pair) : Prop := p.From < q.From ∨ p.From = q.From ∧ p.To < q.To
instance : DecidablePred fun x : T_api_Pair × T_api_Pair => plt x.1 x.2 := fun _ => inferInstanceAs (Decidable (_ ∨ _))
instance (p q : T_api_Pair) : Decidable (plt p q) := inferInstanceAs (Decidable (_ ∨ _))
theorem plt_trans {p q r : T_api_Pair} (h : plt p q) (k : plt q r) : plt p r := by unfold plt at *; omega
theorem plt_irr {p : T_api_Pair} : ¬ plt p p := by unfold plt; omega
theorem pair_ext {p q : T_api_Pair} (h : p.From = q.From) (k : p.To = q.To) : p = q := by cases p; cases q; simp_all
theorem plt_tri {p q : T_api_Pair} (h : ¬ plt p q) (k : ¬ plt q p) : p = q := pair_ext (by unfold plt at *; omega) (by unfold plt at *; omega)

structure GVal (g : T_api_Graph) : Prop where
 n0 : 0 ≤ g.N
 n1 : g.N ≤ 40
 v : ∀ p ∈ g.L, 0 ≤ p.From ∧ p.From < g.N ∧ 0 ≤ p.To ∧ p.To < g.N
 s : g.L.Pairwise plt

theorem cmp_plain {x y : Int} : cmp_Compare_int_m x y = some (if x < y then -1 else if y < x then 1 else 0) := by
 unfold cmp_Compare_int_m cmp_isNaN_int_m
 simp only [some_bind, bne_self_eq_false, cond_false]
 by_cases h : x < y
 ·simp [h]
 ·by_cases h2 : y < x <;> simp [h, h2]

theorem or_plain {a b : Int} : cmp_Or_int_m [a, b] = some (if a = 0 then b else a) := by
 have h0 : cmp_Or_int_l1 [a, b] 0 = some (bif a != 0 then .inl (.inl a) else .inr 1) := by
  unfold cmp_Or_int_l1
  rw [show decide ((0 : Int) < (([a, b] : List Int).length : Int)) = true from rfl, show idxM [a, b] 0 = some a from rfl, iadd64 (by omega) (by omega)]
  simp only [cond_true, some_bind]
  cases a != 0 <;> rfl
 have h1 : cmp_Or_int_l1 [a, b] 1 = some (bif b != 0 then .inl (.inl b) else .inr 2) := by
  unfold cmp_Or_int_l1
  rw [show decide ((1 : Int) < (([a, b] : List Int).length : Int)) = true from rfl, show idxM [a, b] 1 = some b from rfl, iadd64 (by omega) (by omega)]
  simp only [cond_true, some_bind]
  cases b != 0 <;> rfl
 have h2 : cmp_Or_int_l1 [a, b] 2 = some (.inl (.inr ())) := by
  unfold cmp_Or_int_l1
  rw [show decide ((2 : Int) < (([a, b] : List Int).length : Int)) = false from rfl]; rfl
 unfold cmp_Or_int_m
 rw [loopC_eq, h0]
 by_cases ha : a = 0
 ·subst ha
  rw [if_pos rfl, show ((0 : Int) != 0) = false from rfl]
  simp only [cond_false, Option.bind_some]
  rw [loopC_eq, h1]
  by_cases hb : b = 0
  ·subst hb
   rw [show ((0 : Int) != 0) = false from rfl]
   simp only [cond_false, Option.bind_some]
   rw [loopC_eq, h2]; rfl
  ·rw [show (b != 0) = true from by simp [hb]]; rfl
 ·rw [if_neg ha, show (a != 0) = true from by simp [ha]]; rfl

def pcmp (p q : T_api_Pair) : Int := if plt p q then -1 else if plt q p then 1 else 0
theorem pcmp_all {p q : T_api_Pair} : graph_compare_m p q = some (pcmp p q) := by
 unfold graph_compare_m
 rw [cmp_plain, some_bind, cmp_plain, some_bind, or_plain, some_bind]
 unfold pcmp plt
 congr 1
 by_cases h1 : p.From < q.From <;> by_cases h2 : q.From < p.From <;> by_cases h3 : p.To < q.To <;> by_cases h4 : q.To < p.To <;> simp [h1, h2, h3, h4] <;> omega

theorem cfo_P {p q : T_api_Pair} : cfo graph_compare_m p q = pcmp p q := by unfold cfo; rw [pcmp_all]; rfl
theorem ltOf_P {p q : T_api_Pair} : ltOf (cfo graph_compare_m) p q = true ↔ plt p q := by
 unfold ltOf; rw [cfo_P, decide_eq_true_iff]; unfold pcmp; split
 ·simp [*]
 ·split <;> simp [*]
theorem ltOf_Pf {p q : T_api_Pair} : ltOf (cfo graph_compare_m) p q = false ↔ ¬ plt p q := by
 rw [← ltOf_P]; simp
theorem cmpOk_P : CmpOk graph_compare_m where
 tot := fun x y => by rw [cfo_P, pcmp_all]
 swo := ⟨fun x => by rw [ltOf_Pf]; exact plt_irr, fun x y z h1 h2 => by rw [ltOf_P] at *; exact plt_trans h1 h2, fun x y z h1 h2 => by rw [ltOf_Pf] at *; unfold plt at *; omega⟩
 sep := fun x y h1 h2 => by rw [ltOf_Pf] at *; exact plt_tri h1 h2

theorem sort_P {l : List T_api_Pair} (h : l.length ≤ 100000) : ∃ r, sortFM graph_compare_m l = some r ∧ r.Perm l ∧ r.Pairwise fun x y => plt x y ∨ x = y := by
 refine ⟨sortL graph_compare_m l, by unfold sortFM; rw [if_pos ⟨by omega, cmpOk_P⟩], List.mergeSort_perm _ _, ?_⟩
 have hs := List.pairwise_mergeSort (le := fun x y => !(ltOf (cfo graph_compare_m)) y x)
  (fun a b c h1 h2 => by simp only [Bool.not_eq_true', ltOf_Pf] at *; unfold plt at *; omega)
  (fun a b => by
   cases h1 : ltOf (cfo graph_compare_m) b a with
   | false => rfl
   | true =>
    cases h2 : ltOf (cfo graph_compare_m) a b with
    | false => rfl
    | true => rw [ltOf_P] at h1 h2; exact absurd (plt_trans h1 h2) plt_irr) l
 refine hs.imp fun {x y} h => ?_
 simp only [Bool.not_eq_true', ltOf_Pf] at h
 by_cases hx : plt x y
 ·exact .inl hx
 ·exact .inr (plt_tri hx h)

def pOk (N : Int) (p : T_api_Pair) : Prop := 0 ≤ p.From ∧ p.From < N ∧ 0 ≤ p.To ∧ p.To < N
def Fine (g : T_api_Graph) (i : Nat) : Prop := ∀ k (hk : k < g.L.length), k < i → pOk g.N g.L[k] ∧ ∀ h : 1 ≤ k, plt (g.L[k - 1]'(by omega)) g.L[k]
theorem pw_of {l : List T_api_Pair} (h : ∀ k (hk : k < l.length), ∀ h1 : 1 ≤ k, plt (l[k - 1]'(by omega)) l[k]) : l.Pairwise plt := by
 rw [List.pairwise_iff_getElem]
 intro i j hi hj hij
 induction j with
 | zero => omega
 | succ j ih =>
  have h1 := h (j + 1) hj (by omega)
  simp only [Nat.add_sub_cancel] at h1
  by_cases e : i = j
  ·subst e; exact h1
  ·exact plt_trans (ih (by omega) (by omega)) h1
theorem gval_of {g : T_api_Graph} (h0 : 0 ≤ g.N) (h1 : g.N ≤ 40) (h : Fine g g.L.length) : GVal g :=
 ⟨h0, h1, fun p hp => by obtain ⟨i, hi, rfl⟩ := List.getElem_of_mem hp; exact (h i hi hi).1, pw_of fun k hk h1 => (h k hk hk).2 h1⟩
theorem GVal.pw {g : T_api_Graph} (h : GVal g) {i : Nat} (h0 : 1 ≤ i) (hi : i < g.L.length) : plt (g.L[i - 1]'(by omega)) g.L[i] :=
 List.pairwise_iff_getElem.1 h.s (i - 1) i (by omega) hi (by omega)
theorem Fine.step {g : T_api_Graph} {i : Nat} (h : Fine g i) (hi : i < g.L.length) (h1 : pOk g.N g.L[i]) (h2 : ∀ h : 1 ≤ i, plt (g.L[i - 1]'(by omega)) g.L[i]) : Fine g (i + 1) := fun k hk hki => by
 by_cases e : k = i
 ·subst e; exact ⟨h1, h2⟩
 ·exact h k hk (by omega)

theorem gValidate_all {g : T_api_Graph} (hl : g.L.length ≤ 1000000) : T (graph_Validate_m g) fun r => r = 0 ↔ GVal g := by
 unfold graph_Validate_m
 refine T.cond (fun c => .ret ⟨fun h => (by cases h), fun h => by have := h.n0; simp at c; omega⟩) fun c0 => T.cond (fun c => .ret ⟨fun h => (by cases h), fun h => by have := h.n1; simp at c; omega⟩) fun c1 => ?_
 simp at c0 c1
 refine T.bind (P := fun r => match r with | .inl a => a ≠ 0 ∧ ¬ GVal g | .inr _ => GVal g) ?_ fun q hq => ?_
 ·refine T.loopK g.L.length (fun i s => s = (i : Int) ∧ i ≤ g.L.length ∧ Fine g i) ⟨rfl, by omega, fun k hk hk0 => by omega⟩ ?_
  rintro i _ ⟨rfl, hi, hf⟩
  dsimp only [graph_Validate_l1]
  refine T.cond (fun g1 => ?_) fun g1 => .ret ?_
  ·have hlt : i < g.L.length := by simpa using g1
   rw [idxM_nat hlt, some_bind, iadd1 (by omega)]
   have hmn : imin g.L[i].From g.L[i].To < 0 ↔ g.L[i].From < 0 ∨ g.L[i].To < 0 := by unfold imin; split <;> omega
   have hmx : imax g.L[i].From g.L[i].To ≥ g.N ↔ g.L[i].From ≥ g.N ∨ g.L[i].To ≥ g.N := by unfold imax; split <;> omega
   have bad : ¬ pOk g.N g.L[i] → ¬ GVal g := fun hb hv => hb (hv.v _ (List.getElem_mem hlt))
   refine T.cond (fun g2 => .ret ⟨by decide, bad fun hp => ?_⟩) fun g2 => T.cond (fun g3 => .ret ⟨by decide, bad fun hp => ?_⟩) fun g3 => ?_
   ·have := hmn.1 (of_decide_eq_true g2); obtain ⟨a, b, c, d⟩ := hp; omega
   ·have := hmx.1 (of_decide_eq_true g3); obtain ⟨a, b, c, d⟩ := hp; omega
   have h2 : ¬ (g.L[i].From < 0 ∨ g.L[i].To < 0) := fun h => of_decide_eq_false g2 (hmn.2 h)
   have h3 : ¬ (g.L[i].From ≥ g.N ∨ g.L[i].To ≥ g.N) := fun h => of_decide_eq_false g3 (hmx.2 h)
   have hp : pOk g.N g.L[i] := by unfold pOk; omega
   refine T.cond (fun g4 => ?_) fun g4 => .ret ⟨hlt, rfl, by omega, hf.step hlt hp fun h => by simp at g4; omega⟩
   simp at g4
   rw [isub1 (by omega), show (i : Int) - 1 = ((i - 1 : Nat) : Int) from by omega, idxM_nat (by omega), some_bind, pcmp_all, some_bind]
   refine T.cond (fun g5 => .ret ⟨by decide, fun hv => ?_⟩) fun g5 => .ret ⟨hlt, rfl, by omega, hf.step hlt hp fun h => ?_⟩
   ·have := hv.pw (by omega : 1 ≤ i) hlt
    have g5 := of_decide_eq_true g5
    unfold pcmp at g5; rw [if_pos this] at g5; omega
   ·have g5 := of_decide_eq_false g5
    unfold pcmp at g5
    refine Classical.byContradiction fun hn => g5 ?_
    rw [if_neg hn]; split <;> omega
  ·have e : i = g.L.length := by have : ¬ (i : Int) < g.L.length := of_decide_eq_false g1; omega
   subst e
   exact gval_of (by omega) (by omega) hf
 ·cases q with
  | inl a => exact .ret ⟨fun h => absurd h hq.1, fun h => absurd h hq.2⟩
  | inr a => exact .ret ⟨fun _ => hq, fun _ => rfl⟩
theorem gValidate_plain {g : T_api_Graph} (h : GVal g) (hl : g.L.length ≤ 1000000) : graph_Validate_m g = some 0 := by
 obtain ⟨r, e, hr⟩ := gValidate_all (g := g) hl
 rw [e, hr.2 h]

end Go.Dc

namespace Go.Dc
open Go.Proofs Go.Sort

def sf (l : List Int) : Nat → Int := fun i => l.getD i 0
theorem idx_sf {l : List Int} {i : Nat} (h : i < l.length) : idxM l (i : Int) = some (sf l i) := idxM_getD h
theorem sf_set {l : List Int} {i j : Nat} {x : Int} (h : i < l.length) : sf (l.set i x) j = if i = j then x else sf l j := getD_set h
def att (g : T_api_Graph) (a b : Int) : Prop := ∃ p ∈ g.L, p.From = a ∧ p.To = b

theorem tz_plain {s k : Nat} (hs : s < 2 ^ 64) (hk : s.testBit k = true) (hl : ∀ j, j < k → s.testBit j = false) : tzM (s : Int) = some (k : Int) := by
 have h0 : s ≠ 0 := fun e => by rw [e] at hk; simp at hk
 unfold tzM
 rw [if_pos ⟨by omega, by omega⟩, Int.toNat_natCast]
 have h1 := (Lib.lowest_bit 64 s h0 hs).1
 rw [low_neg hs hk hl] at h1
 rw [← (Nat.pow_right_inj (by omega)).1 h1]

theorem list_plain {m : Nat} (hm : m < 2 ^ 64) : graph_list_m (m : Int) = some ((bitsL m).map fun k : Nat => (k : Int)) := by
 unfold graph_list_m
 refine T.eq (T.bind (P := fun q => q = (bitsL m).map fun k : Nat => (k : Int)) ?_ fun q hq => .ret hq)
 refine T.loopM (fun s => ∃ t : Nat, s.1 = (t : Int) ∧ t < 2 ^ 64 ∧ s.2 ++ ((bitsL t).map fun k : Nat => (k : Int)) = (bitsL m).map fun k : Nat => (k : Int)) (fun s => s.1.toNat) ⟨m, rfl, hm, rfl⟩ ?_
 rintro ⟨_, out⟩ ⟨t, rfl, ht, ho⟩
 dsimp only [graph_list_l1] at ho ⊢
 have hlen : out.length ≤ 64 := by
  have := congrArg List.length ho
  simp only [List.length_append, List.length_map] at this
  have := bitsL_len (s := m)
  omega
 refine T.cond (fun c => ?_) fun c => ?_
 ·have h0 : t ≠ 0 := fun e => by rw [e] at c; simp at c
  obtain ⟨k, hk, hl⟩ := low_exists h0
  rw [tz_plain ht hk hl, some_bind, appM_eq (by simp; omega), some_bind, isub1_u ht (by omega), iand_u ht (by omega)]
  refine .ret ⟨⟨t &&& (t - 1), rfl, Nat.lt_of_le_of_lt Nat.and_le_left ht, ?_⟩, ?_⟩
  ·rw [bitsL_cons ht hk hl] at ho
   rw [← ho]; simp
  ·simp only [Int.toNat_natCast]; exact low_lt h0
 ·have h0 : t = 0 := by simpa using c
  subst h0
  rw [bitsL_zero, List.map_nil, List.append_nil] at ho
  exact .ret ho

theorem Attacked_plain {g : T_api_Graph} (h : GVal g) (hl : g.L.length ≤ 100000) {i : Nat} (hi : (i : Int) < g.N) : ∃ L, graph_Attacked_m g (i : Int) = some L ∧ (∀ j : Int, j ∈ L ↔ att g i j) ∧ L.Pairwise (· < ·) ∧ L.length ≤ 64 := by
 obtain ⟨N, hN⟩ : ∃ N : Nat, g.N = (N : Int) := ⟨g.N.toNat, by have := h.n0; omega⟩
 have h40 := h.n1
 suffices hm : T (graph_masks_m g) fun d => d.length = N ∧ ∀ a : Nat, a < N → ∃ m : Nat, sf d a = (m : Int) ∧ m < 2 ^ 64 ∧ ∀ j : Nat, m.testBit j = true ↔ att g a j by
  obtain ⟨d, e1, hd, hd2⟩ := hm
  obtain ⟨m, hm1, hm2, hm3⟩ := hd2 i (by omega)
  refine ⟨(bitsL m).map fun k : Nat => (k : Int), ?_, fun j => ?_, ?_, by rw [List.length_map]; exact bitsL_len⟩
  ·unfold graph_Attacked_m graph_proper_m
   rw [gValidate_plain h (by omega), some_bind, show ((0 : Int) != 0) = false from rfl, cond_false, some_bind, decide_eq_false (by omega), cond_false, decide_eq_false (by omega), cond_false, e1, some_bind, idx_sf (by omega), hm1, some_bind, list_plain hm2]; rfl
  ·rw [List.mem_map]
   constructor
   ·rintro ⟨k, hk, rfl⟩
    exact (hm3 k).1 ((mem_bitsL hm2).1 hk)
   ·intro hj
    obtain ⟨p, hp, h1, h2⟩ := hj
    have := h.v p hp
    exact ⟨j.toNat, (mem_bitsL hm2).2 ((hm3 j.toNat).2 ⟨p, hp, h1, by omega⟩), by omega⟩
  ·rw [List.pairwise_map]
   unfold bitsL
   refine List.Pairwise.imp ?_ (List.Pairwise.filter _ (List.pairwise_lt_range (n := 64)))
   intro a b hab
   omega
 unfold graph_masks_m
 rw [hN, mkM_T (by omega), some_bind]
 refine T.bind (P := fun d => d.length = N ∧ ∀ a : Nat, a < N → ∃ m : Nat, sf d a = (m : Int) ∧ m < 2 ^ 64 ∧ ∀ j : Nat, m.testBit j = true ↔ att g a j) ?_ fun d hd => .ret hd
 refine T.loopK g.L.length (fun k s => k ≤ g.L.length ∧ s.1 = (k : Int) ∧ s.2.length = N ∧ ∀ a : Nat, a < N → ∃ m : Nat, sf s.2 a = (m : Int) ∧ m < 2 ^ 64 ∧ ∀ j : Nat, m.testBit j = true ↔ ∃ p ∈ g.L.take k, p.From = a ∧ p.To = j) ⟨by omega, rfl, by simp, fun a ha => ⟨0, by simp [sf, ha], by omega, by simp⟩⟩ ?_
 rintro k ⟨_, d⟩ ⟨hk, rfl, hd, hd2⟩
 dsimp only [graph_masks_l1] at hd hd2 ⊢
 refine T.cond (fun c => ?_) fun c => ?_
 ·have hk2 : k < g.L.length := by have := of_decide_eq_true c; omega
  obtain ⟨v0, v1, v2, v3⟩ := h.v _ (List.getElem_mem hk2)
  obtain ⟨a, ha⟩ : ∃ a : Nat, g.L[k].From = (a : Int) := ⟨g.L[k].From.toNat, by omega⟩
  obtain ⟨t, ht⟩ : ∃ t : Nat, g.L[k].To = (t : Int) := ⟨g.L[k].To.toNat, by omega⟩
  obtain ⟨m, m1, m2, m3⟩ := hd2 a (by omega)
  have hsh : ishlM .u64 1 (t : Int) = some (((2 ^ t : Nat) : Int)) := by
   unfold ishlM
   rw [if_neg (by omega), ishl_u (by omega)]
  have p2 : 2 ^ t < 2 ^ 64 := Nat.pow_lt_pow_right (by omega) (by omega)
  rw [idxM_nat hk2, some_bind, ha, ht, idx_sf (by omega), some_bind, hsh, some_bind, some_bind, m1, ior_u m2 p2, iadd1 (by omega), Int.toNat_natCast]
  refine .ret ⟨hk2, hk2, rfl, by simp [hd], fun b hb => ?_⟩
  have htk : ∀ q : T_api_Pair, q ∈ g.L.take (k + 1) ↔ q ∈ g.L.take k ∨ q = g.L[k] := fun q => by
   rw [List.take_add_one, List.getElem?_eq_getElem hk2]; simp only [Option.toList_some, List.mem_append, List.mem_singleton]
  simp only
  rw [sf_set (by omega)]
  by_cases e : a = b
  ·subst e
   rw [if_pos rfl]
   refine ⟨_, rfl, or_lt m2 p2, fun j => ?_⟩
   rw [Nat.testBit_or, Bool.or_eq_true, m3, Nat.testBit_two_pow, decide_eq_true_iff]
   constructor
   ·rintro (⟨p, hp, q1, q2⟩ | rfl)
    ·exact ⟨p, (htk p).2 (.inl hp), q1, q2⟩
    ·exact ⟨_, (htk _).2 (.inr rfl), ha, ht⟩
   ·rintro ⟨p, hp, q1, q2⟩
    rcases (htk p).1 hp with hp | rfl
    ·exact .inl ⟨p, hp, q1, q2⟩
    ·exact .inr (by omega)
  ·rw [if_neg e]
   obtain ⟨m', n1, n2, n3⟩ := hd2 b hb
   refine ⟨m', n1, n2, fun j => ?_⟩
   rw [n3]
   constructor
   ·rintro ⟨p, hp, q1, q2⟩; exact ⟨p, (htk p).2 (.inl hp), q1, q2⟩
   ·rintro ⟨p, hp, q1, q2⟩
    rcases (htk p).1 hp with hp | rfl
    ·exact ⟨p, hp, q1, q2⟩
    ·exact absurd (by omega) e
 ·have e : k = g.L.length := by have := of_decide_eq_false c; omega
  subst e
  rw [List.take_length] at hd2
  exact .ret ⟨hd, hd2⟩

def attsP (g : T_api_Graph) (i : Int) : List Int := (g.L.filter fun p => p.To == i).map (·.From)
theorem mem_attsP {g : T_api_Graph} {i j : Int} : j ∈ attsP g i ↔ att g j i := by
 unfold attsP att
 rw [List.mem_map]
 constructor
 ·rintro ⟨p, hp, rfl⟩
  rw [List.mem_filter] at hp
  exact ⟨p, hp.1, rfl, eq_of_beq hp.2⟩
 ·rintro ⟨p, hp, rfl, rfl⟩
  exact ⟨p, List.mem_filter.2 ⟨hp, by simp⟩, rfl⟩
theorem attsP_asc {g : T_api_Graph} (h : g.L.Pairwise plt) {i : Int} : (attsP g i).Pairwise (· < ·) := by
 unfold attsP
 rw [List.pairwise_map, List.pairwise_filter]
 refine h.imp fun {p q} hpq hp hq => ?_
 have := eq_of_beq hp; have := eq_of_beq hq
 unfold plt at hpq; omega
theorem asc_eq : ∀ {a b : List Int}, a.Pairwise (· < ·) → b.Pairwise (· < ·) → (∀ x, x ∈ a ↔ x ∈ b) → a = b
 | [], [], _, _, _ => rfl
 | [], y :: b, _, _, h => absurd ((h y).2 (by simp)) (by simp)
 | x :: a, [], _, _, h => absurd ((h x).1 (by simp)) (by simp)
 | x :: a, y :: b, ha, hb, h => by
  obtain ⟨a1, a2⟩ := List.pairwise_cons.1 ha
  obtain ⟨b1, b2⟩ := List.pairwise_cons.1 hb
  have e : x = y := by
   have h1 := (h x).1 (by simp)
   have h2 := (h y).2 (by simp)
   rcases List.mem_cons.1 h1 with h1 | h1
   ·exact h1
   ·rcases List.mem_cons.1 h2 with h2 | h2
    ·exact h2.symm
    ·have := b1 x h1; have := a1 y h2; omega
  subst e
  congr 1
  refine asc_eq a2 b2 fun z => ⟨fun hz => ?_, fun hz => ?_⟩
  ·rcases List.mem_cons.1 ((h z).1 (List.mem_cons_of_mem _ hz)) with e | e
   ·have := a1 z hz; omega
   ·exact e
  ·rcases List.mem_cons.1 ((h z).2 (List.mem_cons_of_mem _ hz)) with e | e
   ·have := b1 z hz; omega
   ·exact e

def swapP (p : T_api_Pair) : T_api_Pair := ⟨p.To, p.From⟩
theorem Reverse_plain {g : T_api_Graph} (h : GVal g) (hl : g.L.length ≤ 100000) : ∃ r, graph_Reverse_m g = some ⟨g.N, r⟩ ∧ r.Perm (g.L.map swapP) ∧ GVal ⟨g.N, r⟩ := by
 have hloop : loopC (graph_Reverse_l1 g) (0, []) = some (g.L.map swapP) := by
  refine T.eq (T.loopK g.L.length (fun k s => k ≤ g.L.length ∧ s.1 = (k : Int) ∧ s.2 = (g.L.take k).map swapP) ⟨by omega, rfl, by simp⟩ ?_)
  rintro k ⟨_, d⟩ ⟨hk, rfl, hd⟩
  dsimp only at hd
  subst hd
  dsimp only [graph_Reverse_l1]
  refine T.cond (fun c => ?_) fun c => ?_
  ·have hk2 : k < g.L.length := by simpa using c
   rw [idxM_nat hk2, some_bind, appM_eq (by simp; omega), some_bind, iadd1 (by omega)]
   refine .ret ⟨hk2, hk2, rfl, ?_⟩
   rw [List.take_add_one, List.getElem?_eq_getElem hk2, Option.toList_some, List.map_append]; rfl
  ·have e : k = g.L.length := by have : ¬ (k : Int) < g.L.length := of_decide_eq_false c; omega
   subst e
   exact .ret (by simp)
 obtain ⟨r, hr, hp, hs⟩ := sort_P (l := g.L.map swapP) (by simpa using hl)
 refine ⟨r, ?_, hp, h.n0, h.n1, fun p hp' => ?_, ?_⟩
 ·unfold graph_Reverse_m graph_proper_m
  rw [gValidate_plain h (by omega), some_bind, show ((0 : Int) != 0) = false from rfl, cond_false, some_bind, hloop, some_bind, hr]; rfl
 ·obtain ⟨q, hq, rfl⟩ := List.mem_map.1 (hp.mem_iff.1 hp')
  have := h.v q hq
  simp only [swapP]; omega
 ·have hn : r.Nodup := hp.nodup_iff.2 (by
   unfold List.Nodup
   rw [List.pairwise_map]
   refine h.s.imp fun {p q} hpq e => ?_
   have e1 := congrArg T_api_Pair.From e; have e2 := congrArg T_api_Pair.To e
   simp only [swapP] at e1 e2
   unfold plt at hpq; omega)
  have := List.Pairwise.and hs hn
  exact this.imp fun {p q} ⟨h1, h2⟩ => h1.resolve_right h2

theorem gAttackers_plain {g : T_api_Graph} (h : GVal g) (hl : g.L.length ≤ 100000) {i : Nat} (hi : (i : Int) < g.N) : graph_Attackers_m g (i : Int) = some (attsP g i) := by
 obtain ⟨r, h1, h2, h3⟩ := Reverse_plain h hl
 have hrl : r.length ≤ 100000 := by rw [h2.length_eq, List.length_map]; exact hl
 obtain ⟨L, e1, e2, e3, e4⟩ := Attacked_plain h3 hrl (i := i) hi
 unfold graph_Attackers_m
 rw [h1, some_bind, e1, some_bind]
 congr 1
 refine asc_eq e3 (attsP_asc h.s) fun j => ?_
 rw [e2, mem_attsP]
 unfold att
 constructor
 ·rintro ⟨p, hp, q1, q2⟩
  obtain ⟨q, hq, rfl⟩ := List.mem_map.1 (h2.mem_iff.1 hp)
  exact ⟨q, hq, q2, q1⟩
 ·rintro ⟨p, hp, q1, q2⟩
  exact ⟨swapP p, h2.mem_iff.2 (List.mem_map.2 ⟨p, hp, rfl⟩), q2, q1⟩

end Go.Dc

namespace Go.Dc
variable {α β ρ : Type}

theorem fold_loop {l : List α} {f : β × Int → Option (Sum ρ (β × Int))} (g : β → α → β) (fin : β → ρ) (I : β → Prop) {b0 : β} (h0 : I b0)
  (h : ∀ b i (hi : i < l.length), I b → f (b, (i : Int)) = some (.inr (g b l[i], ((i + 1 : Nat) : Int))) ∧ I (g b l[i])) (he : ∀ b, I b → f (b, (l.length : Int)) = some (.inl (fin b))) :
  loopC f (b0, 0) = some (fin (l.foldl g b0)) ∧ I (l.foldl g b0) := by
 suffices hh : ∀ m i b, l.length - i ≤ m → i ≤ l.length → I b → loopC f (b, (i : Int)) = some (fin ((l.drop i).foldl g b)) ∧ I ((l.drop i).foldl g b) by
  simpa using hh _ 0 b0 (Nat.le_refl _) (Nat.zero_le _) h0
 intro m
 induction m with
 | zero =>
  intro i b h1 h2 hb
  have e : i = l.length := by omega
  subst e
  rw [loopC_eq, he b hb, List.drop_length]; exact ⟨rfl, hb⟩
 | succ m ih =>
  intro i b h1 h2 hb
  by_cases e : i = l.length
  ·subst e; rw [loopC_eq, he b hb, List.drop_length]; exact ⟨rfl, hb⟩
  ·have hi : i < l.length := by omega
   obtain ⟨h3, h4⟩ := h b i hi hb
   rw [loopC_eq, h3, List.drop_eq_getElem_cons hi, List.foldl_cons]
   exact ih (i + 1) (g b l[i]) (by omega) (by omega) h4

abbrev il (l : List Nat) : List Int := l.map fun x : Nat => (x : Int)
theorem il_idx {l : List Nat} {i : Nat} (h : i < l.length) : idxM (il l) (i : Int) = some ((l.getD i 0 : Nat) : Int) := by
 rw [idxM_nat (by simpa using h)]; simp [List.getD, h]
theorem il_set {l : List Nat} {i : Nat} {x : Nat} : (il l).set i (x : Int) = il (l.set i x) := by simp [il, List.map_set]
theorem il_len {l : List Nat} : (il l).length = l.length := by simp
theorem il_mem {l : List Nat} {x : Int} : x ∈ il l ↔ ∃ n ∈ l, x = (n : Int) := by
 simp [il]; constructor
 ·rintro ⟨n, h, e⟩; exact ⟨n, h, e.symm⟩
 ·rintro ⟨n, h, e⟩; exact ⟨n, h, e.symm⟩

def orL (g : Nat → Nat) (l : List Nat) : Nat := l.foldl (fun a i => a ||| g i) 0
theorem orL_from {g : Nat → Nat} {l : List Nat} {a j : Nat} : (l.foldl (fun a i => a ||| g i) a).testBit j = (a.testBit j || l.any fun i => (g i).testBit j) := by
 induction l generalizing a with
 | nil => simp
 | cons x l ih => rw [List.foldl_cons, ih, Nat.testBit_or, List.any_cons, Bool.or_assoc]
theorem orL_bit {g : Nat → Nat} {l : List Nat} {j : Nat} : (orL g l).testBit j = true ↔ ∃ i ∈ l, (g i).testBit j = true := by
 unfold orL
 rw [orL_from]; simp
theorem lt_of_bits {a n : Nat} (h : ∀ j, a.testBit j = true → j < n) : a < 2 ^ n := Nat.lt_pow_two_of_testBit a fun j hj => by
 cases hb : a.testBit j
 ·rfl
 ·have := h j hb; omega
theorem bits_lt {a n j : Nat} (ha : a < 2 ^ n) (h : a.testBit j = true) : j < n := by
 by_cases h1 : j < n
 ·exact h1
 ·have := Nat.testBit_lt_two_pow (Nat.lt_of_lt_of_le ha (Nat.pow_le_pow_right (by decide : 0 < 2) (by omega : n ≤ j)))
  rw [this] at h; cases h
theorem lt64 {a n : Nat} (ha : a < 2 ^ n) (hn : n ≤ 64) : a < 2 ^ 64 := Nat.lt_of_lt_of_le ha (Nat.pow_le_pow_right (by decide) hn)

def SubB (a b : Nat) : Prop := ∀ i, a.testBit i = true → b.testBit i = true
theorem SubB.refl (a : Nat) : SubB a a := fun _ h => h
theorem SubB.and {a b : Nat} : SubB (a &&& b) b := fun i h => by rw [Nat.testBit_and, Bool.and_eq_true] at h; exact h.2
theorem SubB.trans {a b c : Nat} (h : SubB a b) (k : SubB b c) : SubB a c := fun i hi => k i (h i hi)
theorem SubB.zero {a : Nat} : SubB 0 a := fun i h => by simp at h

theorem top_diff {a b n : Nat} (ha : a < 2 ^ n) (hb : b < 2 ^ n) (h : a ≠ b) : ∃ m, a.testBit m ≠ b.testBit m ∧ ∀ j, m < j → a.testBit j = b.testBit j := by
 suffices hh : ∀ k, (∀ j, k ≤ j → a.testBit j = b.testBit j) → ∃ m, a.testBit m ≠ b.testBit m ∧ ∀ j, m < j → a.testBit j = b.testBit j from hh n fun j hj => by
  rw [Nat.testBit_lt_two_pow (Nat.lt_of_lt_of_le ha (Nat.pow_le_pow_right (by decide) hj)), Nat.testBit_lt_two_pow (Nat.lt_of_lt_of_le hb (Nat.pow_le_pow_right (by decide) hj))]
 intro k
 induction k with
 | zero => intro hk; exact absurd (eq_of_bits fun i => hk i (by omega)) h
 | succ k ih =>
  intro hk
  by_cases e : a.testBit k = b.testBit k
  ·exact ih fun j hj => by
    by_cases e2 : j = k
    ·rw [e2]; exact e
    ·exact hk j (by omega)
  ·exact ⟨k, e, fun j hj => hk j (by omega)⟩

theorem lt_of_bit {x y : Nat} (i : Nat) (hx : x.testBit i = false) (hy : y.testBit i = true) (hj : ∀ j, i < j → x.testBit j = y.testBit j) : x < y := by
 have h1 : x / 2 ^ (i + 1) = y / 2 ^ (i + 1) := eq_of_bits fun j => by
  rw [Nat.testBit_div_two_pow, Nat.testBit_div_two_pow]; exact hj _ (by omega)
 have h2 : x % 2 ^ (i + 1) < 2 ^ i := Nat.lt_pow_two_of_testBit _ fun j h => by
  rw [Nat.testBit_mod_two_pow]
  by_cases e : j = i
  ·rw [e, hx]; simp
  ·simp [show ¬ j < i + 1 by omega]
 have h3 : 2 ^ i ≤ y % 2 ^ (i + 1) := by
  refine Nat.le_of_not_lt fun h => ?_
  have := Nat.testBit_lt_two_pow h
  rw [Nat.testBit_mod_two_pow, hy] at this
  simp at this
 have h4 := Nat.div_add_mod x (2 ^ (i + 1))
 have h5 := Nat.div_add_mod y (2 ^ (i + 1))
 rw [h1] at h4
 omega

theorem sub_next {s x y : Nat} (hs : s < 2 ^ 64) (hx : SubB x s) (hy : SubB y s) (hlt : y < x) : y ≤ (x - 1) &&& s := by
 have hx64 : x < 2 ^ 64 := lt_of_bits fun j hj => bits_lt hs (hx j hj)
 obtain ⟨k, hk, hl⟩ := low_exists (show x ≠ 0 by omega)
 obtain ⟨m, hm, hab⟩ := top_diff (n := 64) (show y < 2 ^ 64 by omega) hx64 (by omega)
 have hym : y.testBit m = false ∧ x.testBit m = true := by
  cases h1 : y.testBit m <;> cases h2 : x.testBit m
  ·rw [h1, h2] at hm; exact absurd rfl hm
  ·exact ⟨rfl, rfl⟩
  ·have := lt_of_bit m h2 h1 fun j hj => (hab j hj).symm
   omega
  ·rw [h1, h2] at hm; exact absurd rfl hm
 have hmk : k ≤ m := by
  rcases Nat.lt_or_ge m k with h | h
  ·have := hl m h; rw [hym.2] at this; cases this
  ·exact h
 have hbit : ∀ j, ((x - 1) &&& s).testBit j = ((if j < k then true else if j = k then false else x.testBit j) && s.testBit j) := fun j => by rw [Nat.testBit_and, low_pred hk hl]
 rcases Nat.lt_or_ge k m with h | h
 ·refine Nat.le_of_lt (lt_of_bit m hym.1 ?_ fun j hj => ?_)
  ·rw [hbit, if_neg (by omega), if_neg (by omega), hym.2, hx m hym.2]; rfl
  ·rw [hbit, if_neg (by omega), if_neg (by omega), hab j hj]
   cases hj2 : x.testBit j
   ·rfl
   ·rw [hx j hj2]; rfl
 ·have e : m = k := by omega
  subst e
  refine Nat.le_of_not_lt fun hgt => ?_
  obtain ⟨q, hq, hq2⟩ := top_diff (n := 64) (a := (x - 1) &&& s) (b := y) (Nat.lt_of_le_of_lt Nat.and_le_right hs) (by omega) (by omega)
  have h4 : y.testBit q = true ∧ ((x - 1) &&& s).testBit q = false := by
   cases h1 : y.testBit q <;> cases h2 : ((x - 1) &&& s).testBit q
   ·rw [h1, h2] at hq; exact absurd rfl hq
   ·have := lt_of_bit q h1 h2 fun j hj => (hq2 j hj).symm
    omega
   ·exact ⟨rfl, rfl⟩
   ·rw [h1, h2] at hq; exact absurd rfl hq
  obtain ⟨h5, h6⟩ := h4
  rw [hbit, hy q h5, Bool.and_true] at h6
  by_cases c1 : q < m
  ·rw [if_pos c1] at h6; cases h6
  ·by_cases c2 : q = m
   ·subst c2; rw [hym.1] at h5; cases h5
   ·rw [if_neg c1, if_neg c2, ← hab q (by omega), h5] at h6; cases h6
end Go.Dc

namespace Go.Dc

theorem nWith_plain {s n : Nat} (hs : s < 2 ^ 64) (hn : n < 64) : network_Set_With_m (s : Int) (n : Int) = some ((s ||| 2 ^ n : Nat) : Int) := by
 unfold network_Set_With_m ishlM
 rw [wrapU (by omega), if_neg (by omega), some_bind, ishl_u hn, ior_u hs (Nat.pow_lt_pow_right (by decide) hn)]

theorem Has_plain {s n : Nat} (hs : s < 2 ^ 64) (hn : n < 64) : network_Set_Has_m (s : Int) (n : Int) = some (s.testBit n) := by
 unfold network_Set_Has_m ishrM
 rw [wrapU (by omega), if_neg (by omega), some_bind, ishr_u (by omega)]
 have h1 : s >>> n < 2 ^ 64 := Nat.lt_of_le_of_lt (Nat.shiftRight_le _ _) hs
 have h2 := iand_u (a := s >>> n) (b := 1) h1 (by decide)
 rw [show ((1 : Nat) : Int) = 1 from rfl] at h2
 rw [h2]
 congr 1
 rw [Bool.eq_iff_iff]
 simp only [beq_iff_eq, Nat.testBit, bne_iff_ne]
 have : s >>> n &&& 1 = (s >>> n) % 2 := Nat.and_one_is_mod _
 rw [Nat.and_comm 1, this]
 omega

theorem List_plain {s : Nat} (hs : s < 2 ^ 64) : network_Set_List_m (s : Int) = some (il (bitsL s)) := by
 rw [show network_Set_List_m = graph_list_m from rfl]; exact list_plain hs

def setOf (l : List Nat) : Nat := orL (fun i => 2 ^ i) l
theorem setOf_bit {l : List Nat} {j : Nat} : (setOf l).testBit j = true ↔ j ∈ l := by
 unfold setOf
 rw [orL_bit]
 constructor
 ·rintro ⟨i, hi, hb⟩; rw [Nat.testBit_two_pow] at hb; have : i = j := by simpa using hb
  rw [← this]; exact hi
 ·intro h; exact ⟨j, h, by rw [Nat.testBit_two_pow]; simp⟩
theorem Of_plain {l : List Nat} (h : ∀ x ∈ l, x < 64) (hl : l.length ≤ 1000000) : network_Of_s1_m (il l) = some ((setOf l : Nat) : Int) := by
 unfold network_Of_s1_m
 have := (fold_loop (l := l) (f := network_Of_s1_l1 (il l)) (b0 := ((0 : Nat) : Int)) (fun (b : Int) (i : Nat) => ((b.toNat ||| 2 ^ i : Nat) : Int)) (fun b : Int => b) (fun b => ∃ n : Nat, b = (n : Int) ∧ n < 2 ^ 64) ⟨0, rfl, by decide⟩ ?_ ?_)
 ·have e0 : loopC (network_Of_s1_l1 (il l)) (0, 0) = _ := this.1
  rw [e0, some_bind]
  congr 1
  have hh : ∀ (l : List Nat) (a : Nat), l.foldl (fun (b : Int) (i : Nat) => ((b.toNat ||| 2 ^ i : Nat) : Int)) (a : Int) = ((l.foldl (fun a i => a ||| 2 ^ i) a : Nat) : Int) := by
   intro l
   induction l with
   | nil => intro a; rfl
   | cons x l ih => intro a; rw [List.foldl_cons, List.foldl_cons, Int.toNat_natCast, ih]
  exact hh l 0
 ·rintro b i hi ⟨n, rfl, hn⟩
  unfold network_Of_s1_l1
  have hx : l[i] < 64 := h _ (List.getElem_mem hi)
  rw [show decide ((i : Int) < ((il l).length : Int)) = true from decide_eq_true (by simp; omega)]
  simp only [cond_true]
  rw [il_idx hi, some_bind]
  have e : l.getD i 0 = l[i] := by simp [List.getD, hi]
  rw [e, nWith_plain hn hx, some_bind, iadd1 (by omega), Int.toNat_natCast]
  exact ⟨rfl, _, rfl, or_lt hn (Nat.pow_lt_pow_right (by decide) hx)⟩
 ·rintro b ⟨n, rfl, hn⟩
  unfold network_Of_s1_l1
  rw [show decide ((l.length : Int) < ((il l).length : Int)) = false from decide_eq_false (by simp)]; rfl

structure Nt where
 all : Nat
 by_ : List Nat
 out : List Nat
def Nt.t (n : Nt) : T_network_Net := ⟨(n.all : Int), il n.by_, il n.out⟩
def Nt.a (n : Nt) (i j : Nat) : Prop := (n.out.getD i 0).testBit j = true

structure NtOk (N : Nat) (n : Nt) : Prop where
 hN : N ≤ 40
 lb : n.by_.length = N
 lo : n.out.length = N
 al : ∀ i, n.all.testBit i = true → i < N
 ab : ∀ i j, n.a i j → n.all.testBit i = true ∧ n.all.testBit j = true
 sy : ∀ i j, (n.by_.getD j 0).testBit i = true ↔ n.a i j

section
variable {N : Nat} {n : Nt} (h : NtOk N n)
include h
theorem NtOk.allLt : n.all < 2 ^ 64 := lt64 (lt_of_bits h.al) (by have := h.hN; omega)
theorem NtOk.sub {s : Nat} (hs : SubB s n.all) : s < 2 ^ 64 := lt64 (lt_of_bits fun j hj => h.al j (hs j hj)) (by have := h.hN; omega)
theorem NtOk.outLt (i : Nat) : n.out.getD i 0 < 2 ^ 64 := lt64 (lt_of_bits fun j hj => h.al j (h.ab i j hj).2) (by have := h.hN; omega)
theorem NtOk.byLt (i : Nat) : n.by_.getD i 0 < 2 ^ 64 := lt64 (lt_of_bits fun j hj => h.al j (h.ab j i ((h.sy j i).1 hj)).1) (by have := h.hN; omega)
end

def hit (n : Nt) (s : Nat) : Nat := orL (fun i => n.out.getD i 0) (bitsL s)
def atk (n : Nt) (s : Nat) : Nat := orL (fun i => n.by_.getD i 0) (bitsL s)

section
variable {N : Nat} {n : Nt} (h : NtOk N n) {s : Nat} (hs : SubB s n.all)
include h hs
theorem hit_bit {j : Nat} : (hit n s).testBit j = true ↔ ∃ i, s.testBit i = true ∧ n.a i j := by
 unfold hit
 rw [orL_bit]
 exact ⟨fun ⟨i, h1, h2⟩ => ⟨i, (mem_bitsL (h.sub hs)).1 h1, h2⟩, fun ⟨i, h1, h2⟩ => ⟨i, (mem_bitsL (h.sub hs)).2 h1, h2⟩⟩
theorem atk_bit {j : Nat} : (atk n s).testBit j = true ↔ ∃ i, s.testBit i = true ∧ n.a j i := by
 unfold atk
 rw [orL_bit]
 exact ⟨fun ⟨i, h1, h2⟩ => ⟨i, (mem_bitsL (h.sub hs)).1 h1, (h.sy j i).1 h2⟩, fun ⟨i, h1, h2⟩ => ⟨i, (mem_bitsL (h.sub hs)).2 h1, (h.sy j i).2 h2⟩⟩
theorem hit_sub : SubB (hit n s) n.all := fun j hj => by obtain ⟨i, _, h2⟩ := (hit_bit h hs).1 hj; exact (h.ab i j h2).2
theorem atk_sub : SubB (atk n s) n.all := fun j hj => by obtain ⟨i, _, h2⟩ := (atk_bit h hs).1 hj; exact (h.ab j i h2).1

theorem or_loop {f : Int × Int → Option (Sum Int (Int × Int))} {L : List Nat} {g : Nat → Nat} (hg : ∀ i, g i < 2 ^ 64)
  (hf : ∀ (a i : Nat) (hi : i < L.length), a < 2 ^ 64 → f ((a : Int), (i : Int)) = some (.inr (((a ||| g L[i] : Nat) : Int), ((i + 1 : Nat) : Int)))) (he : ∀ a : Nat, f ((a : Int), (L.length : Int)) = some (.inl (a : Int))) :
  loopC f (0, 0) = some ((orL g L : Nat) : Int) := by
 have := (fold_loop (l := L) (f := f) (b0 := ((0 : Nat) : Int)) (fun (b : Int) (i : Nat) => ((b.toNat ||| g i : Nat) : Int)) (fun b : Int => b) (fun b => ∃ n : Nat, b = (n : Int) ∧ n < 2 ^ 64) ⟨0, rfl, by decide⟩ ?_ ?_)
 ·refine (show loopC f (0, 0) = _ from this.1).trans ?_
  congr 1
  have hh : ∀ (l : List Nat) (a : Nat), l.foldl (fun (b : Int) (i : Nat) => ((b.toNat ||| g i : Nat) : Int)) (a : Int) = ((l.foldl (fun a i => a ||| g i) a : Nat) : Int) := by
   intro l
   induction l with
   | nil => intro a; rfl
   | cons x l ih => intro a; rw [List.foldl_cons, List.foldl_cons, Int.toNat_natCast, ih]
  exact hh L 0
 ·rintro b i hi ⟨n, rfl, hn⟩
  rw [hf n i hi hn, Int.toNat_natCast]
  exact ⟨rfl, _, rfl, or_lt hn (hg _)⟩
 ·rintro b ⟨n, rfl, hn⟩
  exact he n

theorem Hit_plain : network_Net_Hit_m n.t (s : Int) = some ((hit n s : Nat) : Int) := by
 unfold network_Net_Hit_m
 rw [List_plain (h.sub hs), some_bind]
 have hb := bitsL_len (s := s)
 rw [or_loop h hs (L := bitsL s) (g := fun i => n.out.getD i 0) (fun i => h.outLt i) (fun a i hi ha => ?_) (fun a => ?_)]
 ·rfl
 ·unfold network_Net_Hit_l1
  have hx : (bitsL s)[i] < N := h.al _ (hs _ ((mem_bitsL (h.sub hs)).1 (List.getElem_mem hi)))
  rw [show decide ((i : Int) < ((il (bitsL s)).length : Int)) = true from decide_eq_true (by simp; omega)]
  simp only [cond_true]
  rw [il_idx hi, some_bind, show (bitsL s).getD i 0 = (bitsL s)[i] by simp [List.getD, hi]]
  rw [show n.t.Out = il n.out from rfl, il_idx (by rw [h.lo]; exact hx), some_bind, ior_u ha (h.outLt _), iadd1 (by omega)]
 ·unfold network_Net_Hit_l1
  rw [show decide (((bitsL s).length : Int) < ((il (bitsL s)).length : Int)) = false from decide_eq_false (by simp)]; rfl

theorem Attackers_plain : network_Net_Attackers_m n.t (s : Int) = some ((atk n s : Nat) : Int) := by
 unfold network_Net_Attackers_m
 rw [List_plain (h.sub hs), some_bind]
 have hb := bitsL_len (s := s)
 rw [or_loop h hs (L := bitsL s) (g := fun i => n.by_.getD i 0) (fun i => h.byLt i) (fun a i hi ha => ?_) (fun a => ?_)]
 ·rfl
 ·unfold network_Net_Attackers_l1
  have hx : (bitsL s)[i] < N := h.al _ (hs _ ((mem_bitsL (h.sub hs)).1 (List.getElem_mem hi)))
  rw [show decide ((i : Int) < ((il (bitsL s)).length : Int)) = true from decide_eq_true (by simp; omega)]
  simp only [cond_true]
  rw [il_idx hi, some_bind, show (bitsL s).getD i 0 = (bitsL s)[i] by simp [List.getD, hi]]
  rw [show n.t.By = il n.by_ from rfl, il_idx (by rw [h.lb]; exact hx), some_bind, ior_u ha (h.byLt _), iadd1 (by omega)]
 ·unfold network_Net_Attackers_l1
  rw [show decide (((bitsL s).length : Int) < ((il (bitsL s)).length : Int)) = false from decide_eq_false (by simp)]; rfl
end

def FreeP (n : Nt) (s : Nat) : Prop := ∀ i j, s.testBit i = true → s.testBit j = true → ¬ n.a i j
def AdmP (n : Nt) (s : Nat) : Prop := FreeP n s ∧ ∀ i j, s.testBit j = true → n.a i j → ∃ k, s.testBit k = true ∧ n.a k i
def StbP (n : Nt) (s : Nat) : Prop := FreeP n s ∧ ∀ i, n.all.testBit i = true → s.testBit i = false → ∃ k, s.testBit k = true ∧ n.a k i

section
open Classical
variable {N : Nat} {n : Nt} (h : NtOk N n) {s : Nat} (hs : SubB s n.all)
include h hs
theorem Free_plain : network_Net_Free_m n.t (s : Int) = some (decide (FreeP n s)) := by
 unfold network_Net_Free_m
 rw [Hit_plain h hs, some_bind, iand_u (h.sub (hit_sub h hs)) (h.sub hs)]
 congr 1
 rw [Bool.eq_iff_iff, beq_iff_eq, decide_eq_true_eq, show (((hit n s &&& s : Nat) : Int) = 0 ↔ hit n s &&& s = 0) by omega, zero_bits]
 constructor
 ·intro h0 i j hi hj ha
  have := h0 j
  rw [Nat.testBit_and, hj, (hit_bit h hs).2 ⟨i, hi, ha⟩] at this
  cases this
 ·intro hf j
  rw [Nat.testBit_and]
  cases h1 : (hit n s).testBit j
  ·rfl
  ·cases h2 : s.testBit j
   ·rfl
   ·obtain ⟨i, hi, ha⟩ := (hit_bit h hs).1 h1
    exact absurd ha (hf i j hi h2)

theorem Admissible_plain : network_Net_Admissible_m n.t (s : Int) = some (decide (AdmP n s)) := by
 unfold network_Net_Admissible_m
 rw [Free_plain h hs, some_bind]
 by_cases hf : FreeP n s
 ·rw [decide_eq_true hf, cond_true, Attackers_plain h hs, some_bind, Hit_plain h hs, some_bind, iandn_u]
  congr 1
  rw [Bool.eq_iff_iff, beq_iff_eq, decide_eq_true_eq, show (((andn (atk n s) (hit n s) : Nat) : Int) = 0 ↔ andn (atk n s) (hit n s) = 0) by omega, zero_bits]
  have ha := h.sub (atk_sub h hs)
  constructor
  ·intro h0
   refine ⟨hf, fun i j hj hij => ?_⟩
   have h1 := h0 i
   rw [andn_bit ha, (atk_bit h hs).2 ⟨j, hj, hij⟩] at h1
   exact (hit_bit h hs).1 (by simpa using h1)
  ·rintro ⟨_, hd⟩ i
   rw [andn_bit ha]
   cases h1 : (atk n s).testBit i
   ·rfl
   ·obtain ⟨j, hj, hij⟩ := (atk_bit h hs).1 h1
    rw [(hit_bit h hs).2 (hd i j hj hij)]; rfl
 ·rw [decide_eq_false hf, cond_false]
  congr 1
  symm
  exact decide_eq_false fun h1 => hf h1.1

theorem Stable_plain : network_Net_Stable_m n.t (s : Int) = some (decide (StbP n s)) := by
 unfold network_Net_Stable_m
 rw [Free_plain h hs, some_bind]
 by_cases hf : FreeP n s
 ·rw [decide_eq_true hf, cond_true, Hit_plain h hs, some_bind, show n.t.All = (n.all : Int) from rfl, iandn_u, iandn_u]
  congr 1
  rw [Bool.eq_iff_iff, beq_iff_eq, decide_eq_true_eq, show (((andn (andn n.all s) (hit n s) : Nat) : Int) = 0 ↔ andn (andn n.all s) (hit n s) = 0) by omega, zero_bits]
  constructor
  ·intro h0
   refine ⟨hf, fun i hi hns => ?_⟩
   have h1 := h0 i
   rw [andn_bit andn_lt, andn_bit h.allLt, hi, hns] at h1
   exact (hit_bit h hs).1 (by simpa using h1)
  ·rintro ⟨_, hd⟩ i
   rw [andn_bit andn_lt, andn_bit h.allLt]
   cases h1 : n.all.testBit i
   ·rfl
   ·cases h2 : s.testBit i
    ·rw [(hit_bit h hs).2 (hd i h1 h2)]; rfl
    ·rfl
 ·rw [decide_eq_false hf, cond_false]
  congr 1
  symm
  exact decide_eq_false fun h1 => hf h1.1
end
end Go.Dc

namespace Go.Dc

theorem SubB.le {a b : Nat} (h : SubB a b) : a ≤ b := by
 have : a = a &&& b := eq_of_bits fun i => by
  rw [Nat.testBit_and]
  cases ha : a.testBit i
  ·rfl
  ·rw [h i ha]; rfl
 rw [this]; exact Nat.and_le_right

def DefP (n : Nt) (s i : Nat) : Prop := ∀ k, n.a k i → ∃ m, s.testBit m = true ∧ n.a m k
def ClsP (n : Nt) (s : Nat) : Prop := ∀ i, n.all.testBit i = true → DefP n s i → s.testBit i = true
structure GrdN (n : Nt) (G : Nat) : Prop where
 sub : SubB G n.all
 adm : AdmP n G
 cls : ClsP n G
 least : ∀ S, ClsP n S → SubB G S
def growF (n : Nt) (s a i : Nat) : Nat := if andn (n.by_.getD i 0) (hit n s) = 0 then a ||| 2 ^ i else a
def grow (n : Nt) (s : Nat) : Nat := (bitsL n.all).foldl (growF n s) s

section
variable {N : Nat} {n : Nt} (h : NtOk N n) {s : Nat} (hs : SubB s n.all)
include h hs
theorem def_iff {i : Nat} : andn (n.by_.getD i 0) (hit n s) = 0 ↔ DefP n s i := by
 rw [zero_bits]
 constructor
 ·intro h0 k hk
  have h1 := h0 k
  rw [andn_bit (h.byLt i), (h.sy k i).2 hk] at h1
  exact (hit_bit h hs).1 (by simpa using h1)
 ·intro hd k
  rw [andn_bit (h.byLt i)]
  cases h1 : (n.by_.getD i 0).testBit k
  ·rfl
  ·rw [(hit_bit h hs).2 (hd k ((h.sy k i).1 h1))]; rfl

theorem grow_from {l : List Nat} {a j : Nat} : (l.foldl (growF n s) a).testBit j = true ↔ a.testBit j = true ∨ (j ∈ l ∧ DefP n s j) := by
 induction l generalizing a with
 | nil => simp
 | cons x l ih =>
  rw [List.foldl_cons, ih]
  unfold growF
  by_cases hd : DefP n s x
  ·rw [if_pos ((def_iff h hs).2 hd), Nat.testBit_or, Nat.testBit_two_pow]
   by_cases e : x = j
   ·subst e; simp [hd]
   ·have e2 : ¬ j = x := fun h => e h.symm
    simp [e, e2]
  ·rw [if_neg (fun h0 => hd ((def_iff h hs).1 h0))]
   constructor
   ·rintro (h1 | ⟨h1, h2⟩)
    ·exact .inl h1
    ·exact .inr ⟨by simp [h1], h2⟩
   ·rintro (h1 | ⟨h1, h2⟩)
    ·exact .inl h1
    ·rcases List.mem_cons.1 h1 with e | e
     ·subst e; exact absurd h2 hd
     ·exact .inr ⟨e, h2⟩

theorem grow_bit {j : Nat} : (grow n s).testBit j = true ↔ s.testBit j = true ∨ (n.all.testBit j = true ∧ DefP n s j) := by
 unfold grow
 rw [grow_from h hs, mem_bitsL h.allLt]
theorem grow_sub : SubB (grow n s) n.all := fun j hj => by
 rcases (grow_bit h hs).1 hj with h1 | h1
 ·exact hs j h1
 ·exact h1.1
theorem grow_up : SubB s (grow n s) := fun j hj => (grow_bit h hs).2 (.inl hj)

theorem grow_loop : loopC (network_Net_Grounded_l1 n.t ((hit n s : Nat) : Int) (il (bitsL n.all))) ((s : Int), 0) = some ((grow n s : Nat) : Int) := by
 have hb := bitsL_len (s := n.all)
 have := (fold_loop (l := bitsL n.all) (f := network_Net_Grounded_l1 n.t ((hit n s : Nat) : Int) (il (bitsL n.all))) (b0 := ((s : Nat) : Int)) (fun (b : Int) (i : Nat) => ((growF n s b.toNat i : Nat) : Int)) (fun b : Int => b) (fun b => ∃ m : Nat, b = (m : Int) ∧ m < 2 ^ 64) ⟨s, rfl, h.sub hs⟩ ?_ ?_)
 ·rw [this.1]
  congr 1
  have hh : ∀ (l : List Nat) (a : Nat), l.foldl (fun (b : Int) (i : Nat) => ((growF n s b.toNat i : Nat) : Int)) (a : Int) = ((l.foldl (growF n s) a : Nat) : Int) := by
   intro l
   induction l with
   | nil => intro a; rfl
   | cons x l ih => intro a; rw [List.foldl_cons, List.foldl_cons, Int.toNat_natCast, ih]
  exact hh _ s
 ·rintro b i hi ⟨m, rfl, hm⟩
  have hx : (bitsL n.all)[i] < N := h.al _ ((mem_bitsL h.allLt).1 (List.getElem_mem hi))
  have hN := h.hN
  unfold network_Net_Grounded_l1
  rw [show decide ((i : Int) < ((il (bitsL n.all)).length : Int)) = true from decide_eq_true (by simp; omega)]
  simp only [cond_true]
  rw [il_idx hi, some_bind, show (bitsL n.all).getD i 0 = (bitsL n.all)[i] by simp [List.getD, hi], show n.t.By = il n.by_ from rfl, il_idx (by rw [h.lb]; exact hx), some_bind, iandn_u, Int.toNat_natCast, iadd1 (by omega)]
  unfold growF
  by_cases h0 : andn (n.by_.getD (bitsL n.all)[i] 0) (hit n s) = 0
  ·rw [h0, show (((0 : Nat) : Int) == 0) = true from rfl, if_pos rfl, cond_true, nWith_plain hm (by omega), some_bind]
   exact ⟨rfl, _, rfl, or_lt hm (Nat.pow_lt_pow_right (by decide) (by omega))⟩
  ·rw [show (((andn (n.by_.getD (bitsL n.all)[i] 0) (hit n s) : Nat) : Int) == 0) = false from by simpa using h0, if_neg h0]
   exact ⟨rfl, _, rfl, hm⟩
 ·rintro b ⟨m, rfl, hm⟩
  unfold network_Net_Grounded_l1
  rw [show decide (((bitsL n.all).length : Int) < ((il (bitsL n.all)).length : Int)) = false from decide_eq_false (by simp)]; rfl

theorem grow_adm (ha : AdmP n s) : AdmP n (grow n s) := by
 have hd : ∀ j, (grow n s).testBit j = true → DefP n s j := fun j hj => by
  rcases (grow_bit h hs).1 hj with h1 | h1
  ·exact fun k hk => ha.2 k j h1 hk
  ·exact h1.2
 refine ⟨fun i j hi hj hij => ?_, fun i j hj hij => ?_⟩
 ·obtain ⟨m, hm, hmi⟩ := hd j hj i hij
  obtain ⟨m', hm', hmm⟩ := hd i hi m hmi
  exact ha.1 m' m hm' hm hmm
 ·obtain ⟨m, hm, hmi⟩ := hd j hj i hij
  exact ⟨m, grow_up h hs m hm, hmi⟩
end

section
variable {N : Nat} {n : Nt} (h : NtOk N n)
include h
theorem zero_adm : AdmP n 0 := ⟨fun i j hi => by simp at hi, fun i j hj => by simp at hj⟩

def RndOk (n : Nt) (G : Nat) (r : List Int) : Prop := r.length ≤ G ∧ (r = [] ∧ G = 0 ∨ ∃ q, r = q ++ [(G : Int)])

theorem Grounded_plain : T (network_Net_Grounded_m n.t) fun r => ∃ G, GrdN n G ∧ RndOk n G r := by
 unfold network_Net_Grounded_m
 refine T.bind (P := fun r => ∃ G, GrdN n G ∧ RndOk n G r) ?_ fun r hr => .ret hr
 have hN := h.hN
 have hal : n.all < 2 ^ 40 := lt_of_bits fun j hj => by have := h.al j hj; omega
 refine T.loopM (fun s => ∃ G : Nat, s.1 = (G : Int) ∧ SubB G n.all ∧ AdmP n G ∧ (∀ S, ClsP n S → SubB G S) ∧ RndOk n G s.2) (fun s => 2 ^ 64 - s.1.toNat) ⟨0, rfl, SubB.zero, zero_adm h, fun _ _ => SubB.zero, by simp [RndOk]⟩ ?_
 rintro ⟨_, r⟩ ⟨G, rfl, hs, ha, hl, hr⟩
 dsimp only [network_Net_Grounded_l2] at *
 rw [Hit_plain h hs, some_bind, show n.t.All = (n.all : Int) from rfl, List_plain h.allLt, some_bind, grow_loop h hs, some_bind]
 refine T.cond (fun g => .ret ?_) fun g => ?_
 ·have g' : grow n G = G := by have := eq_of_beq g; omega
  exact ⟨G, ⟨hs, ha, fun i hi hd => by rw [← g']; exact (grow_bit h hs).2 (.inr ⟨hi, hd⟩), hl⟩, hr⟩
 ·have g' : grow n G ≠ G := fun e => by rw [e] at g; simp at g
  have hle := (grow_up h hs).le
  have hlt := (grow_sub h hs).le
  have hr1 := hr.1
  rw [appM_eq (by simp; omega), some_bind]
  refine .ret ⟨⟨grow n G, rfl, grow_sub h hs, grow_adm h hs ha, fun S hS j hj => ?_, ?_, .inr ⟨r, rfl⟩⟩, ?_⟩
  ·rcases (grow_bit h hs).1 hj with h1 | h1
   ·exact hl S hS j h1
   ·exact hS j h1.1 fun k hk => by obtain ⟨m, hm, hmk⟩ := h1.2 k hk; exact ⟨m, hl S hS m hm, hmk⟩
  ·simp; omega
  ·simp only [Int.toNat_natCast]; omega

theorem In_plain' : ∃ G, GrdN n G ∧ network_Net_In_m n.t = some (G : Int) := by
 obtain ⟨r, h1, G, hG, hlen, hr⟩ := Grounded_plain h
 refine ⟨G, hG, ?_⟩
 have hN := h.hN
 have hal : n.all < 2 ^ 40 := lt_of_bits fun j hj => by have := h.al j hj; omega
 have hle := hG.sub.le
 unfold network_Net_In_m
 rw [h1, some_bind]
 rcases hr with ⟨rfl, rfl⟩ | ⟨q, rfl⟩
 ·rfl
 ·have hl : (q ++ [(G : Int)]).length = q.length + 1 := by simp
  rw [hl] at hlen ⊢
  rw [show ((((q.length + 1 : Nat) : Int)) == 0) = false by simp; omega, isub1 (by omega), show (((q.length + 1 : Nat) : Int) - 1) = (q.length : Int) by omega, idxM_nat (by simp)]
  simp
end

noncomputable def grd (n : Nt) : Nat := ((network_Net_In_m n.t).getD 0).toNat
theorem In_plain2 {N : Nat} {n : Nt} (h : NtOk N n) : network_Net_In_m n.t = some ((grd n : Nat) : Int) ∧ GrdN n (grd n) := by
 obtain ⟨G, hG, e⟩ := In_plain' h
 have : grd n = G := by unfold grd; rw [e]; rfl
 rw [this]; exact ⟨e, hG⟩

open Classical in
noncomputable def fitB (n : Nt) (q : Int) (s : Nat) : Bool := if q = 1 then decide (AdmP n s) else decide (StbP n s)

theorem Answer1_plain {N : Nat} {n : Nt} (h : NtOk N n) {s : Nat} (hs : SubB s n.all) {q : Int} {node : Nat} (hn : node < 64) {al out : Bool} :
  network_Net_Answer_1_m (s : Int) q (n.all : Int) (il n.by_) (il n.out) (node : Int) al out = some (if fitB n q s = true ∧ s.testBit node ≠ al then (false, !al) else (true, out)) := by
 unfold network_Net_Answer_1_m fitB
 rw [show T_network_Net.mk (n.all : Int) (il n.by_) (il n.out) = n.t from rfl]
 simp only [joinM_eq, Admissible_plain h hs, Stable_plain h hs, Has_plain (h.sub hs) hn, some_bind]
 by_cases hq : q = 1
 ·subst hq
  by_cases ha : AdmP n s
  ·simp only [ha, beq_self_eq_true, cond_true, decide_true, if_true]
   cases hb : s.testBit node <;> cases al <;> simp
  ·simp [ha]
 ·have hq' : (q == 1) = false := by simp [hq]
  have hq2 : (q != 1) = true := by simp [hq]
  by_cases ha : StbP n s
  ·simp only [hq', hq2, ha, cond_true, cond_false, decide_true, if_neg hq]
   cases hb : s.testBit node <;> cases al <;> simp
  ·simp [hq', hq2, ha, hq]

open Classical in
theorem subsets_plain {N : Nat} {n : Nt} (h : NtOk N n) {q : Int} {node : Nat} (hn : node < 64) {al : Bool} :
  network_subsets_m (n.all : Int) q (n.all : Int) (il n.by_) (il n.out) (node : Int) al al = some (if ∃ y, SubB y n.all ∧ fitB n q y = true ∧ y.testBit node ≠ al then !al else al) := by
 unfold network_subsets_m
 refine T.eq (T.bind (P := fun r => r = (if ∃ y, SubB y n.all ∧ fitB n q y = true ∧ y.testBit node ≠ al then !al else al)) ?_ fun r hr => .ret hr)
 refine T.loopM (fun s => ∃ x : Nat, s = ((x : Int), al) ∧ SubB x n.all ∧ ∀ y, SubB y n.all → x < y → ¬ (fitB n q y = true ∧ y.testBit node ≠ al)) (fun s => s.1.toNat) ⟨n.all, rfl, SubB.refl _, fun y hy hlt => by have := hy.le; omega⟩ ?_
 rintro _ ⟨x, rfl, hx, hy⟩
 dsimp only [network_subsets_l1] at *
 rw [Answer1_plain h hx hn, some_bind]
 by_cases hh : fitB n q x = true ∧ x.testBit node ≠ al
 ·rw [if_pos hh]
  refine T.cond (fun _ => .ret ?_) fun g => by simp at g
  rw [if_pos ⟨x, hx, hh⟩]
 ·rw [if_neg hh]
  refine T.cond (fun g => by simp at g) fun _ => T.cond (fun g => .ret ?_) fun g => ?_
  ·have hx0 : x = 0 := by have := eq_of_beq g; omega
   rw [if_neg]
   rintro ⟨y, h1, h2⟩
   by_cases e : y = x
   ·subst e; exact hh h2
   ·exact hy y h1 (by omega) h2
  ·have hx0 : x ≠ 0 := fun e => by subst e; simp at g
   have hlt := h.sub hx
   rw [isub1_u hlt (by omega), iand_u (by omega) h.allLt]
   refine .ret ( ⟨⟨_, rfl, SubB.and, fun y h1 h2 => ?_⟩, ?_⟩)
   ·by_cases e : y = x
    ·subst e; exact hh
    ·by_cases e2 : x < y
     ·exact hy y h1 e2
     ·have := sub_next h.allLt hx h1 (by omega)
      omega
   ·simp only [Int.toNat_natCast]
    have : (x - 1) &&& n.all ≤ x - 1 := Nat.and_le_left
    omega

def ansP (n : Nt) (q : Int) (node : Nat) : Prop :=
 if q = 4 then (grd n).testBit node = true
 else if q = 1 then ∃ y, SubB y n.all ∧ AdmP n y ∧ y.testBit node = true
 else if q = 3 then ∀ y, SubB y n.all → StbP n y → y.testBit node = true
 else ∃ y, SubB y n.all ∧ StbP n y ∧ y.testBit node = true

open Classical in
theorem Answer_plain {N : Nat} {n : Nt} (h : NtOk N n) {q : Int} {node : Nat} (hn : node < 64) : network_Net_Answer_m n.t q (node : Int) = some (decide (ansP n q node)) := by
 unfold network_Net_Answer_m ansP
 by_cases h4 : q = 4
 ·subst h4
  obtain ⟨e, hG⟩ := In_plain2 h
  rw [show ((4 : Int) == 4) = true from rfl, cond_true, e, some_bind, Has_plain (h.sub hG.sub) hn, some_bind, if_pos rfl]
  congr 1
  cases hb : (grd n).testBit node <;> simp
 ·rw [show (q == 4) = false by simp [h4], cond_false, show n.t.All = (n.all : Int) from rfl, show n.t.By = il n.by_ from rfl, show n.t.Out = il n.out from rfl, show (((q : Int) == 3)) = (q == 3) from rfl, subsets_plain h hn, some_bind, if_neg h4]
  congr 1
  by_cases h1 : q = 1
  ·subst h1
   rw [if_pos rfl, show ((1 : Int) == 3) = false from rfl]
   by_cases hx : ∃ y, SubB y n.all ∧ AdmP n y ∧ y.testBit node = true
   ·rw [decide_eq_true hx, if_pos]; rfl
    obtain ⟨y, a, b, c⟩ := hx
    exact ⟨y, a, by simp [fitB, b], by simp [c]⟩
   ·rw [decide_eq_false hx, if_neg]
    rintro ⟨y, a, b, c⟩
    exact hx ⟨y, a, by simpa [fitB] using b, by simpa using c⟩
  ·rw [if_neg h1]
   by_cases h3 : q = 3
   ·subst h3
    rw [if_pos rfl, show ((3 : Int) == 3) = true from rfl]
    by_cases hx : ∀ y, SubB y n.all → StbP n y → y.testBit node = true
    ·rw [decide_eq_true hx, if_neg]
     rintro ⟨y, a, b, c⟩
     exact c (hx y a (by simpa [fitB] using b))
    ·rw [decide_eq_false hx, if_pos]; rfl
     simp only [Classical.not_forall] at hx
     obtain ⟨y, a, b, c⟩ := hx
     exact ⟨y, a, by simp [fitB, b], by simpa using c⟩
   ·rw [if_neg h3, show (q == 3) = false by simp [h3]]
    by_cases hx : ∃ y, SubB y n.all ∧ StbP n y ∧ y.testBit node = true
    ·rw [decide_eq_true hx, if_pos]; rfl
     obtain ⟨y, a, b, c⟩ := hx
     exact ⟨y, a, by simp [fitB, b, h1], by simp [c]⟩
    ·rw [decide_eq_false hx, if_neg]
     rintro ⟨y, a, b, c⟩
     exact hx ⟨y, a, by simpa [fitB, h1] using b, by simpa using c⟩

end Go.Dc

namespace Go.Dc
abbrev Pr := T_api_Pair

def atL (l : List Pr) (i j : Nat) : Prop := ∃ p ∈ l, p.From = (i : Int) ∧ p.To = (j : Int)

theorem getD_setN {l : List Nat} {i j x : Nat} (h : i < l.length) : (l.set i x).getD j 0 = if i = j then x else l.getD j 0 := getD_set h

theorem New_plain2 {N : Nat} {l : List Pr} (hN : N ≤ 40) (hv : ∀ p ∈ l, 0 ≤ p.From ∧ p.From < N ∧ 0 ≤ p.To ∧ p.To < N) (hl : l.length ≤ 1000000) :
  T (network_New_m ⟨(N : Int), l⟩) fun t => ∃ n : Nt, t = n.t ∧ NtOk N n ∧ (∀ i, n.all.testBit i = true ↔ i < N) ∧ ∀ i j, n.a i j ↔ atL l i j := by
 unfold network_New_m
 have hmk : mkM 8 (0 : Int) (N : Int) = some (List.replicate N 0) := mkM_T (by omega)
 simp only [joinM_eq, hmk, some_bind, meetO_self]
 rw [show List.replicate N (0 : Int) = il (List.replicate N 0) by simp [il]]
 refine T.bind (P := fun q : Int => ∃ a : Nat, q = (a : Int) ∧ ∀ i, a.testBit i = true ↔ i < N) ?_ ?_
 ·refine T.loopK N (fun k s => k ≤ N ∧ s.1 = (k : Int) ∧ ∃ a : Nat, s.2 = (a : Int) ∧ ∀ i, a.testBit i = true ↔ i < k) ⟨by omega, rfl, 0, rfl, fun i => by simp⟩ ?_
  rintro k ⟨_, _⟩ ⟨hk, rfl, a, rfl, ha⟩
  dsimp only [network_New_l1] at *
  refine T.cond (fun g => ?_) fun g => ?_
  ·simp at g
   have ha64 : a < 2 ^ 64 := lt64 (n := 40) (lt_of_bits fun j hj => by have := (ha j).1 hj; omega) (by omega)
   rw [nWith_plain ha64 (by omega), some_bind, iadd1 (by omega)]
   refine .ret ⟨g, by omega, rfl, _, rfl, fun i => ?_⟩
   rw [Nat.testBit_or, Nat.testBit_two_pow]
   simp only [Bool.or_eq_true, ha i, decide_eq_true_eq]; omega
  ·simp at g
   have e : k = N := by omega
   exact .ret ⟨a, rfl, e ▸ ha⟩
 ·rintro _ ⟨al, rfl, hal⟩
  refine T.bind (P := fun q : List Int × List Int => ∃ b o : List Nat, q = (il b, il o) ∧ b.length = N ∧ o.length = N ∧ (∀ i j, (b.getD j 0).testBit i = true ↔ atL l i j) ∧ ∀ i j, (o.getD i 0).testBit j = true ↔ atL l i j) ?_ ?_
  ·refine T.loopK l.length (fun k s => k ≤ l.length ∧ s.1 = (k : Int) ∧ ∃ b o : List Nat, s.2 = (il b, il o) ∧ b.length = N ∧ o.length = N ∧ (∀ i j, (b.getD j 0).testBit i = true ↔ atL (l.take k) i j) ∧ ∀ i j, (o.getD i 0).testBit j = true ↔ atL (l.take k) i j)
    ⟨by omega, rfl, List.replicate N 0, List.replicate N 0, rfl, by simp, by simp, fun i j => by rw [getD_rep]; simp [atL], fun i j => by rw [getD_rep]; simp [atL]⟩ ?_
   rintro k ⟨_, _, _⟩ ⟨hk, rfl, b, o, he, hb, ho, hb2, ho2⟩
   cases he
   dsimp only [network_New_l2] at *
   refine T.cond (fun g => ?_) fun g => ?_
   ·simp at g
    have hp := hv _ (List.getElem_mem g)
    have htk : l.take (k + 1) = l.take k ++ [l[k]] := by rw [List.take_add_one, List.getElem?_eq_getElem g]; rfl
    rw [idxM_nat g, some_bind]
    generalize hgp : l[k] = p at *
    obtain ⟨F, hF⟩ := Int.eq_ofNat_of_zero_le hp.1
    obtain ⟨U, hU⟩ := Int.eq_ofNat_of_zero_le hp.2.2.1
    have hFN : F < N := by have := hp.2.1; rw [hF] at this; omega
    have hUN : U < N := by have := hp.2.2.2; rw [hU] at this; omega
    have atk : ∀ i j, atL (l.take (k + 1)) i j ↔ atL (l.take k) i j ∨ i = F ∧ j = U := fun i j => by
     unfold atL
     rw [htk]
     constructor
     ·rintro ⟨q, hq, h1, h2⟩
      rcases List.mem_append.1 hq with hq | hq
      ·exact .inl ⟨q, hq, h1, h2⟩
      ·rw [List.mem_singleton.1 hq] at h1 h2; rw [hF] at h1; rw [hU] at h2; exact .inr ⟨by omega, by omega⟩
     ·rintro (⟨q, hq, h1, h2⟩ | ⟨rfl, rfl⟩)
      ·exact ⟨q, List.mem_append_left _ hq, h1, h2⟩
      ·exact ⟨p, List.mem_append_right _ (by simp), hF, hU⟩
    have lb : ∀ j, b.getD j 0 < 2 ^ 64 := fun j => lt64 (n := 40) (lt_of_bits fun i hi => by
     obtain ⟨q, hq, h1, h2⟩ := (hb2 i j).1 hi
     have := hv q (List.mem_of_mem_take hq); omega) (by omega)
    have lo : ∀ i, o.getD i 0 < 2 ^ 64 := fun i => lt64 (n := 40) (lt_of_bits fun j hj => by
     obtain ⟨q, hq, h1, h2⟩ := (ho2 i j).1 hj
     have := hv q (List.mem_of_mem_take hq); omega) (by omega)
    rw [hF, hU]
    simp only [Int.toNat_natCast]
    rw [il_idx (by omega), some_bind, nWith_plain (lb U) (by omega), some_bind, some_bind, il_idx (by omega), some_bind, nWith_plain (lo F) (by omega), some_bind, some_bind, il_set, il_set, iadd1 (by omega)]
    refine .ret ⟨g, by omega, rfl, _, _, rfl, by simpa using hb, by simpa using ho, fun i j => ?_, fun i j => ?_⟩
    ·rw [getD_setN (by omega), atk]
     by_cases e : U = j
     ·subst e
      rw [if_pos rfl, Nat.testBit_or, Nat.testBit_two_pow, Bool.or_eq_true, hb2, decide_eq_true_eq]
      simp [eq_comm]
     ·rw [if_neg e, hb2]
      simp [show ¬ j = U from fun h => e h.symm]
    ·rw [getD_setN (by omega), atk]
     by_cases e : F = i
     ·subst e
      rw [if_pos rfl, Nat.testBit_or, Nat.testBit_two_pow, Bool.or_eq_true, ho2, decide_eq_true_eq]
      simp [eq_comm]
     ·rw [if_neg e, ho2]
      simp [show ¬ i = F from fun h => e h.symm]
   ·simp at g
    have e : k = l.length := by omega
    rw [e, List.take_length] at hb2 ho2
    exact .ret ⟨b, o, rfl, hb, ho, hb2, ho2⟩
  ·rintro _ ⟨b, o, rfl, hb, ho, hb2, ho2⟩
   refine .ret ⟨⟨al, b, o⟩, rfl, ⟨hN, hb, ho, fun i hi => (hal i).1 hi, fun i j hij => ?_, fun i j => ?_⟩, hal, fun i j => ho2 i j⟩
   ·obtain ⟨p, hp, h1, h2⟩ := (ho2 i j).1 hij
    have := hv p hp
    exact ⟨(hal i).2 (by omega), (hal j).2 (by omega)⟩
   ·exact (hb2 i j).trans (ho2 i j).symm

theorem Within_plain {N : Nat} {n : Nt} (h : NtOk N n) {s : Nat} (hs : s < 2 ^ 64) :
  T (network_Net_Within_m n.t (s : Int)) fun t => ∃ n' : Nt, t = n'.t ∧ NtOk N n' ∧ (∀ i, n'.all.testBit i = true ↔ n.all.testBit i = true ∧ s.testBit i = true) ∧
   ∀ i j, n'.a i j ↔ n.a i j ∧ s.testBit i = true ∧ s.testBit j = true := by
 have hN := h.hN
 unfold network_Net_Within_m
 have hmk : mkM 8 (0 : Int) (N : Int) = some (List.replicate N 0) := mkM_T (by omega)
 rw [show n.t.By = il n.by_ from rfl, show n.t.All = (n.all : Int) from rfl, il_len, h.lb]
 simp only [joinM_eq, hmk, some_bind, meetO_self]
 rw [show List.replicate N (0 : Int) = il (List.replicate N 0) by simp [il]]
 have hal := h.allLt
 have hA : ∀ i, (n.all &&& s).testBit i = true ↔ n.all.testBit i = true ∧ s.testBit i = true := fun i => by rw [Nat.testBit_and, Bool.and_eq_true]
 refine T.bind (P := fun q : List Int × List Int => ∃ b o : List Nat, q = (il b, il o) ∧ b.length = N ∧ o.length = N ∧
  (∀ i, i < N → b.getD i 0 = (if (n.all &&& s).testBit i then n.by_.getD i 0 &&& s else 0)) ∧ ∀ i, i < N → o.getD i 0 = (if (n.all &&& s).testBit i then n.out.getD i 0 &&& s else 0)) ?_ ?_
 ·refine T.loopK N (fun k st => k ≤ N ∧ st.1 = (k : Int) ∧ ∃ b o : List Nat, st.2 = (il b, il o) ∧ b.length = N ∧ o.length = N ∧
   (∀ i, b.getD i 0 = (if i < k ∧ (n.all &&& s).testBit i then n.by_.getD i 0 &&& s else 0)) ∧ ∀ i, o.getD i 0 = (if i < k ∧ (n.all &&& s).testBit i then n.out.getD i 0 &&& s else 0))
   ⟨by omega, rfl, List.replicate N 0, List.replicate N 0, rfl, by simp, by simp, fun i => by rw [getD_rep]; simp, fun i => by rw [getD_rep]; simp⟩ ?_
  rintro k ⟨_, _, _⟩ ⟨hk, rfl, b, o, he, hb, ho, hb2, ho2⟩
  cases he
  dsimp only [network_Net_Within_l1] at *
  rw [show n.t.By = il n.by_ from rfl, show n.t.Out = il n.out from rfl, il_len, h.lb]
  refine T.cond (fun g => ?_) fun g => ?_
  ·simp at g
   rw [iand_u hal hs, Has_plain (and_lt hal) (by omega), some_bind, iadd1 (by omega)]
   cases hc : (n.all &&& s).testBit k with
   | true =>
    rw [cond_true, il_idx (by rw [h.lb]; exact g), some_bind, il_idx (by rw [h.lo]; exact g), some_bind, il_idx (by omega), some_bind, il_idx (by omega), some_bind, iand_u (h.byLt k) hs, iand_u (h.outLt k) hs]
    simp only [Int.toNat_natCast]
    rw [il_set, il_set]
    refine .ret ⟨g, by omega, rfl, _, _, rfl, by simpa using hb, by simpa using ho, fun i => ?_, fun i => ?_⟩
    ·rw [getD_setN (by omega), hb2]
     by_cases e : k = i
     ·subst e; rw [if_pos rfl, if_pos ⟨by omega, hc⟩]
     ·rw [if_neg e]
      have : (i < k + 1) = (i < k) := propext (by omega)
      simp only [this]
    ·rw [getD_setN (by omega), ho2]
     by_cases e : k = i
     ·subst e; rw [if_pos rfl, if_pos ⟨by omega, hc⟩]
     ·rw [if_neg e]
      have : (i < k + 1) = (i < k) := propext (by omega)
      simp only [this]
   | false =>
    rw [cond_false]
    have key : ∀ i, (i < k + 1 ∧ (n.all &&& s).testBit i = true) ↔ (i < k ∧ (n.all &&& s).testBit i = true) := fun i => by
     constructor
     ·rintro ⟨h1, h2⟩
      by_cases e : i = k
      ·subst e; rw [hc] at h2; cases h2
      ·exact ⟨by omega, h2⟩
     ·rintro ⟨h1, h2⟩; exact ⟨by omega, h2⟩
    refine .ret ⟨g, by omega, rfl, b, o, rfl, hb, ho, fun i => ?_, fun i => ?_⟩
    ·rw [hb2]; simp only [key i]
    ·rw [ho2]; simp only [key i]
  ·simp at g
   have e : k = N := by omega
   exact .ret ⟨b, o, rfl, hb, ho, fun i hi => by rw [hb2 i, e]; simp [hi], fun i hi => by rw [ho2 i, e]; simp [hi]⟩
 ·rintro _ ⟨b, o, rfl, hb, ho, hb2, ho2⟩
  have hbit : ∀ i j, (o.getD i 0).testBit j = true ↔ n.a i j ∧ s.testBit i = true ∧ s.testBit j = true := fun i j => by
   by_cases hi : i < N
   ·rw [ho2 i hi]
    by_cases hc : (n.all &&& s).testBit i = true
    ·rw [if_pos hc, Nat.testBit_and, Bool.and_eq_true]
     exact ⟨fun ⟨h1, h2⟩ => ⟨h1, ((hA i).1 hc).2, h2⟩, fun ⟨h1, h2, h3⟩ => ⟨h1, h3⟩⟩
    ·rw [if_neg hc]
     simp only [Nat.zero_testBit, Bool.false_eq_true, false_iff]
     rintro ⟨h1, h2, h3⟩
     exact hc ((hA i).2 ⟨(h.ab i j h1).1, h2⟩)
   ·rw [show o.getD i 0 = 0 by rw [List.getD_eq_getElem?_getD, List.getElem?_eq_none (by omega)]; rfl]
    simp only [Nat.zero_testBit, Bool.false_eq_true, false_iff]
    rintro ⟨h1, h2, h3⟩
    exact hi (h.al i (h.ab i j h1).1)
  have hbit2 : ∀ i j, (b.getD j 0).testBit i = true ↔ n.a i j ∧ s.testBit i = true ∧ s.testBit j = true := fun i j => by
   by_cases hi : j < N
   ·rw [hb2 j hi]
    by_cases hc : (n.all &&& s).testBit j = true
    ·rw [if_pos hc, Nat.testBit_and, Bool.and_eq_true, h.sy]
     exact ⟨fun ⟨h1, h2⟩ => ⟨h1, h2, ((hA j).1 hc).2⟩, fun ⟨h1, h2, h3⟩ => ⟨h1, h2⟩⟩
    ·rw [if_neg hc]
     simp only [Nat.zero_testBit, Bool.false_eq_true, false_iff]
     rintro ⟨h1, h2, h3⟩
     exact hc ((hA j).2 ⟨(h.ab i j h1).2, h3⟩)
   ·rw [show b.getD j 0 = 0 by rw [List.getD_eq_getElem?_getD, List.getElem?_eq_none (by omega)]; rfl]
    simp only [Nat.zero_testBit, Bool.false_eq_true, false_iff]
    rintro ⟨h1, h2, h3⟩
    exact hi (h.al j (h.ab i j h1).2)
  rw [iand_u hal hs]
  refine .ret ⟨⟨n.all &&& s, b, o⟩, rfl, ⟨hN, hb, ho, fun i hi => h.al i ((hA i).1 hi).1, fun i j hij => ?_, fun i j => ?_⟩, hA, hbit⟩
  ·have h1 := (hbit i j).1 hij
   exact ⟨(hA i).2 ⟨(h.ab i j h1.1).1, h1.2.1⟩, (hA j).2 ⟨(h.ab i j h1.1).2, h1.2.2⟩⟩
  ·exact (hbit2 i j).trans (hbit i j).symm

end Go.Dc

namespace Go.Dc
section
variable {α β ρ R : Type}
theorem find_bind {l : List α} {f : Int → Option (Sum (Sum ρ Unit) Int)} (g : α → Option ρ)
  (h : ∀ i (hi : i < l.length), f (i : Int) = some (match g l[i] with | some r => .inl (.inl r) | none => .inr ((i : Int) + 1)))
  (hend : f (l.length : Int) = some (.inl (.inr ()))) {kr : ρ → Option R} {kb : Unit → Option R} :
  (loopC f 0).bind (sumK kr kb) = match l.findSome? g with | some r => kr r | none => kb () := by
 rw [find_loop g h hend]; cases l.findSome? g <;> rfl
end

theorem ineg64 {x : Int} (h0 : -4611686018427387904 ≤ x) (h1 : x ≤ 4611686018427387904) : ineg .i64 x = -x := by
 unfold ineg; rw [wrap64 (by omega) (by omega)]; omega
theorem imax_abs {x : Int} : imax x (-x) = (x.natAbs : Int) := by unfold imax; split <;> omega
theorem abs_plain {x : Int} (h0 : -4611686018427387904 ≤ x) (h1 : x ≤ 4611686018427387904) : proof_abs_m x = some (x.natAbs : Int) := by
 unfold proof_abs_m; rw [ineg64 h0 h1, imax_abs]
def inR (n x : Int) : Bool := x != 0 && decide (-n ≤ x) && decide (x ≤ n)
theorem inR_iff {n x : Int} : inR n x = true ↔ x ≠ 0 ∧ -n ≤ x ∧ x ≤ n := by simp [inR, and_assoc]
abbrev Asc (c : List Int) : Prop := c.Pairwise fun x y => x.natAbs < y.natAbs
def clauseP (n : Int) (c : List Int) : Int := if 50 < c.length then 2 else if c.all (inR n) = true then if Asc c then 0 else 8 else 1
structure COk (n : Int) (c : List Int) : Prop where
 len : c.length ≤ 50
 rng : ∀ x ∈ c, x ≠ 0 ∧ -n ≤ x ∧ x ≤ n
 asc : Asc c
theorem clauseP_ok {n : Int} {c : List Int} : clauseP n c = 0 ↔ COk n c := by
 unfold clauseP
 constructor
 ·intro h
  split at h
  ·omega
  ·rename_i h1
   split at h
   ·rename_i h2
    split at h
    ·rename_i h3
     exact ⟨by omega, fun x hx => inR_iff.1 (List.all_eq_true.1 h2 x hx), h3⟩
    ·omega
   ·omega
 ·rintro ⟨h1, h2, h3⟩
  rw [if_neg (by omega), if_pos (List.all_eq_true.2 fun x hx => inR_iff.2 (h2 x hx)), if_pos h3]

theorem asc_snoc {c : List Int} {i : Nat} (hi : i + 1 < c.length) (h : Asc (c.take (i + 1))) (hx : c[i].natAbs < c[i + 1].natAbs) : Asc (c.take (i + 2)) := by
 rw [← List.take_append_getElem hi]
 refine List.pairwise_append.2 ⟨h, by simp, fun x hx' y hy => ?_⟩
 rw [List.mem_singleton.1 hy]
 rw [← List.take_append_getElem (show i < c.length by omega)] at h hx'
 rcases List.mem_append.1 hx' with h1 | h1
 ·have := (List.pairwise_append.1 h).2.2 x h1 c[i] (by simp)
  omega
 ·rw [List.mem_singleton.1 h1]; exact hx

theorem clause_l2_plain {n : Int} {c : List Int} (hc : c.length ≤ 50) (hr : ∀ x ∈ c, x ≠ 0 ∧ -n ≤ x ∧ x ≤ n) (hn : n ≤ 1000) :
  loopC (proof_clause_l2 c) 1 = some (if Asc c then .inr () else .inl 8) := by
 refine T.eq (T.loopK c.length (fun k s => s = (k : Int) + 1 ∧ Asc (c.take (k + 1))) ⟨rfl, ?_⟩ fun k s hs => ?_)
 ·cases c with
  | nil => simp
  | cons x c => simp
 ·obtain ⟨rfl, ha⟩ := hs
  unfold proof_clause_l2
  refine T.cond (fun h => ?_) fun h => ?_
  ·simp only [decide_eq_true_eq] at h
   have hk : k + 1 < c.length := by omega
   have h1 := hr _ (List.getElem_mem (show k < c.length by omega))
   have h2 := hr _ (List.getElem_mem hk)
   rw [isub64 (by omega) (by omega), show (k : Int) + 1 - 1 = ((k : Nat) : Int) by omega, show (k : Int) + 1 = ((k + 1 : Nat) : Int) by omega, idxM_nat (show k < c.length by omega), idxM_nat hk]
   simp only [Option.bind_some]
   rw [abs_plain (by omega) (by omega), abs_plain (by omega) (by omega)]
   simp only [Option.bind_some]
   refine T.cond (fun h3 => .ret ?_) fun h3 => .ret ?_
   ·simp only [ge_iff_le, decide_eq_true_eq] at h3
    show _ = _
    rw [if_neg]
    intro h4
    have := List.pairwise_iff_getElem.1 h4 k (k + 1) (by omega) hk (by omega)
    omega
   ·simp only [ge_iff_le, decide_eq_false_iff_not] at h3
    rw [iadd64 (by omega) (by omega)]
    exact ⟨by omega, by omega, asc_snoc hk ha (by omega)⟩
  ·simp only [decide_eq_false_iff_not] at h
   refine .ret ?_
   show _ = _
   rw [List.take_of_length_le (by omega)] at ha
   rw [if_pos ha]

theorem clause_plain {n : Int} {c : List Int} (hn0 : 0 ≤ n) (hn : n ≤ 1000) : proof_clause_m n c = some (clauseP n c) := by
 unfold proof_clause_m clauseP
 by_cases hl : 50 < c.length
 ·rw [if_pos hl, show decide ((c.length : Int) > 50) = true by simp; omega]; rfl
 ·rw [if_neg hl, show decide ((c.length : Int) > 50) = false by simp; omega, cond_false]
  rw [find_bind (l := c) (fun x => if inR n x = true then none else some 1) (fun i hi => by
   unfold proof_clause_l1
   rw [show decide ((i : Int) < (c.length : Int)) = true by simp [hi], cond_true, idxM_nat hi, ineg64 (by omega) (by omega), iadd64 (by omega) (by omega)]
   simp only [Option.bind_some]
   by_cases h0 : c[i] = 0
   ·have e : inR n c[i] = false := by simp [inR, h0]
    rw [e]; simp [h0]
   ·have e0 : (c[i] == 0) = false := beq_false_of_ne h0
    by_cases h1 : c[i] < -n
    ·have e : inR n c[i] = false := Bool.eq_false_iff.2 fun h => by have := inR_iff.1 h; omega
     rw [e, e0]; simp [h1]
    ·by_cases h2 : n < c[i]
     ·have e : inR n c[i] = false := Bool.eq_false_iff.2 fun h => by have := inR_iff.1 h; omega
      rw [e, e0]; simp [h1, h2]
     ·have e : inR n c[i] = true := inR_iff.2 ⟨h0, by omega, by omega⟩
      rw [e, e0]; simp [h1, h2]) (by unfold proof_clause_l1; simp)]
  ·by_cases ha : c.all (inR n) = true
   ·rw [if_pos ha]
    have h1 : c.findSome? (fun x => if inR n x = true then none else some (1 : Int)) = none := by
     rw [List.findSome?_eq_none_iff]; intro x hx; rw [if_pos (List.all_eq_true.1 ha x hx)]
    rw [h1]
    rw [clause_l2_plain (n := n) (by omega) (fun x hx => inR_iff.1 (List.all_eq_true.1 ha x hx)) hn]
    by_cases h3 : Asc c
    ·rw [if_pos h3, if_pos h3]; rfl
    ·rw [if_neg h3, if_neg h3]; rfl
   ·rw [if_neg ha]
    have h1 : c.findSome? (fun x => if inR n x = true then none else some (1 : Int)) = some 1 := by
     obtain ⟨x, hx, hx2⟩ := List.all_eq_false.1 (by simpa using ha)
     cases hf : c.findSome? (fun x => if inR n x = true then none else some (1 : Int)) with
     | none => rw [List.findSome?_eq_none_iff] at hf; have := hf x hx; rw [if_neg hx2] at this; cases this
     | some r =>
      obtain ⟨y, _, hy⟩ := List.exists_of_findSome?_eq_some hf
      split at hy
      ·cases hy
      ·exact hy ▸ rfl
    rw [h1]
theorem clause_s1_eq : @proof_clause_s1_m = @proof_clause_m := rfl


def ValidP (n : Int) (l : List (List Int)) : Int := if n < 0 ∨ 200 < n then 1 else if 4000 < l.length then 2 else (l.findSome? fun c => if clauseP n c = 0 then none else some (clauseP n c)).getD 0
structure VOk (n : Int) (l : List (List Int)) : Prop where
 n0 : 0 ≤ n
 n1 : n ≤ 200
 len : l.length ≤ 4000
 cl : ∀ c ∈ l, COk n c
theorem ValidP_ok {n : Int} {l : List (List Int)} : ValidP n l = 0 ↔ VOk n l := by
 unfold ValidP
 constructor
 ·intro h
  split at h
  ·omega
  ·split at h
   ·omega
   ·refine ⟨by omega, by omega, by omega, fun c hc => ?_⟩
    cases hf : l.findSome? fun c => if clauseP n c = 0 then none else some (clauseP n c) with
    | none =>
     rw [List.findSome?_eq_none_iff] at hf
     have := hf c hc
     split at this
     ·rename_i h3; exact clauseP_ok.1 h3
     ·cases this
    | some r =>
     rw [hf] at h
     obtain ⟨y, _, hy⟩ := List.exists_of_findSome?_eq_some hf
     split at hy
     ·cases hy
     ·rename_i h3; cases hy; exact absurd h h3
 ·rintro ⟨h1, h2, h3, h4⟩
  rw [if_neg (by omega), if_neg (by omega)]
  have : (l.findSome? fun c => if clauseP n c = 0 then none else some (clauseP n c)) = none := by
   rw [List.findSome?_eq_none_iff]; intro c hc; rw [if_pos (clauseP_ok.2 (h4 c hc))]
  rw [this]; rfl

theorem Validate_plain {n : Int} {l : List (List Int)} : proof_Validate_s1_m n l = some (ValidP n l) := by
 unfold proof_Validate_s1_m ValidP
 by_cases h1 : n < 0
 ·rw [if_pos (.inl h1), decide_eq_true h1]; rfl
 ·by_cases h2 : 200 < n
  ·rw [if_pos (.inr h2), decide_eq_false h1, show decide (n > 200) = true by simp [h2]]; rfl
  ·rw [if_neg (by omega), decide_eq_false h1, show decide (n > 200) = false by simp; omega]
   by_cases h3 : 4000 < l.length
   ·rw [if_pos h3, show decide ((l.length : Int) > 4000) = true by simp; omega]; rfl
   ·rw [if_neg h3, show decide ((l.length : Int) > 4000) = false by simp; omega]
    simp only [cond_false]
    rw [find_bind (l := l) (fun c => if clauseP n c = 0 then none else some (clauseP n c)) (fun i hi => by
     unfold proof_Validate_s1_l1
     rw [show decide ((i : Int) < (l.length : Int)) = true by simp [hi], cond_true, idxM_nat hi, iadd64 (by omega) (by omega)]
     simp only [Option.bind_some]
     rw [clause_plain (by omega) (by omega)]
     simp only [Option.bind_some]
     by_cases h : clauseP n l[i] = 0
     ·rw [if_pos h, h]; rfl
     ·rw [if_neg h, show (clauseP n l[i] != 0) = true by simp [h]]; rfl) (by unfold proof_Validate_s1_l1; simp)]
    cases l.findSome? fun c => if clauseP n c = 0 then none else some (clauseP n c) <;> rfl
end Go.Dc

namespace Go.Dc
open Go.Proofs Go.Sort

theorem asc_bound {l : List Int} : ∀ {lo n : Int}, lo ≤ n → l.Pairwise (· < ·) → (∀ x ∈ l, lo ≤ x ∧ x < n) → (l.length : Int) ≤ n - lo := by
 induction l with
 | nil => intro lo n h _ _; simp; omega
 | cons x l ih =>
  intro lo n h hp hx
  have h1 := hx x (by simp)
  obtain ⟨h2, h3⟩ := List.pairwise_cons.1 hp
  have := ih (lo := x + 1) (n := n) (by omega) h3 fun y hy => ⟨by have := h2 y hy; omega, (hx y (by simp [hy])).2⟩
  simp; omega
theorem attsP_rng {g : T_api_Graph} (h : GVal g) {i : Int} : ∀ a ∈ attsP g i, 0 ≤ a ∧ a < g.N := fun a ha => by
 obtain ⟨p, hp, rfl, _⟩ := mem_attsP.1 ha
 have := h.v p hp; omega
theorem attsP_len {g : T_api_Graph} (h : GVal g) {i : Int} : (attsP g i).length ≤ 40 := by
 have := asc_bound (lo := 0) (n := g.N) h.n0 (attsP_asc h.s (i := i)) (attsP_rng h)
 have := h.n1; omega

def c2 (x y : Int) : List Int := [x, y]
def nodeC (g : T_api_Graph) (i : Int) (st : Bool) : List (List Int) :=
 [[-(i + 1), -(g.N + i + 1)]] ++ (attsP g i).map (fun a => [-(i + 1), g.N + a + 1]) ++ [(i + 1) :: (attsP g i).map (fun a => -(g.N + a + 1))] ++
  (attsP g i).map (fun a => [-(a + 1), g.N + i + 1]) ++ [(attsP g i).map (fun a => a + 1) ++ [-(g.N + i + 1)]] ++ (if st then [[i + 1, g.N + i + 1]] else [])
theorem nodeC_len {g : T_api_Graph} (h : GVal g) {i : Int} {st : Bool} : (nodeC g i st).length ≤ 84 := by
 have := attsP_len h (i := i)
 unfold nodeC
 cases st <;> simp <;> omega
theorem nodeC_small {g : T_api_Graph} (h : GVal g) {i : Int} {st : Bool} : ∀ c ∈ nodeC g i st, c.length ≤ 41 := fun c hc => by
 have := attsP_len h (i := i)
 unfold nodeC at hc
 simp only [List.mem_append, List.mem_singleton, List.mem_map] at hc
 rcases hc with ((((rfl | ⟨a, _, rfl⟩) | rfl) | ⟨a, _, rfl⟩) | rfl) | hc
 ·simp
 ·simp
 ·simp; omega
 ·simp
 ·simp; omega
 ·cases st <;> simp at hc; subst hc; simp

theorem take_map_succ {α β : Type} {l : List α} {f : α → β} {k : Nat} (hk : k < l.length) : (l.take (k + 1)).map f = (l.take k).map f ++ [f l[k]] := by
 rw [List.take_add_one, List.getElem?_eq_getElem hk, Option.toList_some, List.map_append]; rfl

section
variable {g : T_api_Graph} (h : GVal g) {i : Nat} (hi : (i : Int) < g.N) {l : List (List Int)} (hl : l.length ≤ 500000)
include h hi hl

theorem in_p {n : Int} {l : List (List Int)} {a : Int} (h0 : -1000 ≤ a) (h1 : a ≤ 1000) : verdict_encoder_in_s1_m n l a = some (a + 1) := by
 unfold verdict_encoder_in_s1_m; rw [iadd64 (by omega) (by omega)]
theorem out_p {n : Int} {l : List (List Int)} {a : Int} (h0 : -1000 ≤ a) (h1 : a ≤ 1000) (h2 : -1000 ≤ n) (h3 : n ≤ 1000) : verdict_encoder_out_s1_m n l a = some (n + a + 1) := by
 unfold verdict_encoder_out_s1_m; rw [show iadd .i64 n a = n + a from iadd64 (by omega) (by omega), iadd64 (by omega) (by omega)]
theorem add_p {n : Int} {l : List (List Int)} {c : List Int} (hl : l.length ≤ 1000000) : verdict_encoder_add_s1_m n l c = some (n, l ++ [c]) := by
 unfold verdict_encoder_add_s1_m; rw [appM_eq (by simp; omega), some_bind]

theorem node_l1 : loopC (verdict_encoder_node_s1_l1 (i : Int) (attsP g i)) (0, g.N, [(i : Int) + 1], [], l) =
  some (g.N, ((i : Int) + 1) :: (attsP g i).map (fun a => -(g.N + a + 1)), (attsP g i).map (fun a => a + 1), l ++ (attsP g i).map (fun a => [-((i : Int) + 1), g.N + a + 1])) := by
 have hn0 := h.n0; have hn1 := h.n1; have hal := attsP_len h (i := i)
 refine T.eq (T.loopK (attsP g i).length (fun k s => k ≤ (attsP g i).length ∧ s = ((k : Int), g.N, ((i : Int) + 1) :: ((attsP g i).take k).map (fun a => -(g.N + a + 1)), ((attsP g i).take k).map (fun a => a + 1), l ++ ((attsP g i).take k).map (fun a => [-((i : Int) + 1), g.N + a + 1])))
  ⟨by omega, by simp⟩ ?_)
 rintro k _ ⟨hk, rfl⟩
 dsimp only [verdict_encoder_node_s1_l1]
 refine T.cond (fun c => ?_) fun c => ?_
 ·have hk2 : k < (attsP g i).length := by simpa using c
  have hr := attsP_rng h _ (List.getElem_mem hk2)
  have e1 : ∀ f : Int → List Int, (l ++ ((attsP g i).take k).map f).length ≤ 1000000 := fun f => by simp; omega
  rw [idxM_nat hk2, some_bind, in_p h hi hl (by omega) (by omega), some_bind, out_p h hi hl (by omega) (by omega) (by omega) (by omega), some_bind, add_p h hi hl (e1 _), some_bind,
   out_p h hi hl (by omega) (by omega) (by omega) (by omega), some_bind, appM_eq (by simp; omega), some_bind, in_p h hi hl (by omega) (by omega), some_bind, appM_eq (by simp; omega), some_bind, iadd1 (by omega), ineg64 (by omega) (by omega), ineg64 (by omega) (by omega)]
  refine .ret ⟨hk2, hk2, ?_⟩
  rw [take_map_succ hk2, take_map_succ hk2, take_map_succ hk2]
  simp
 ·have e : k = (attsP g i).length := by have : ¬ (k : Int) < (attsP g i).length := of_decide_eq_false c; omega
  subst e
  exact .ret (by simp)
theorem node_l2 : loopC (verdict_encoder_node_s1_l2 (i : Int) (attsP g i)) (0, g.N, l) = some (g.N, l ++ (attsP g i).map (fun a => [-(a + 1), g.N + (i : Int) + 1])) := by
 have hn0 := h.n0; have hn1 := h.n1; have hal := attsP_len h (i := i)
 refine T.eq (T.loopK (attsP g i).length (fun k s => k ≤ (attsP g i).length ∧ s = ((k : Int), g.N, l ++ ((attsP g i).take k).map (fun a => [-(a + 1), g.N + (i : Int) + 1]))) ⟨by omega, by simp⟩ ?_)
 rintro k _ ⟨hk, rfl⟩
 dsimp only [verdict_encoder_node_s1_l2]
 refine T.cond (fun c => ?_) fun c => ?_
 ·have hk2 : k < (attsP g i).length := by simpa using c
  have hr := attsP_rng h _ (List.getElem_mem hk2)
  have e1 : ∀ f : Int → List Int, (l ++ ((attsP g i).take k).map f).length ≤ 1000000 := fun f => by simp; omega
  rw [idxM_nat hk2, some_bind, in_p h hi hl (by omega) (by omega), some_bind, out_p h hi hl (by omega) (by omega) (by omega) (by omega), some_bind, add_p h hi hl (e1 _), some_bind, iadd1 (by omega), ineg64 (by omega) (by omega)]
  refine .ret ⟨hk2, hk2, ?_⟩
  rw [take_map_succ hk2]
  simp
 ·have e : k = (attsP g i).length := by have : ¬ (k : Int) < (attsP g i).length := of_decide_eq_false c; omega
  subst e
  exact .ret (by simp)

theorem node_plain (hg : g.L.length ≤ 100000) (hl2 : l.length ≤ 400000) {st : Bool} : verdict_encoder_node_s1_m g.N l g (i : Int) st = some (g.N, l ++ nodeC g i st) := by
 have hn0 := h.n0; have hn1 := h.n1; have hal := attsP_len h (i := i)
 unfold verdict_encoder_node_s1_m
 rw [gAttackers_plain h hg hi, some_bind, in_p h hi hl (by omega) (by omega), some_bind, out_p h hi hl (by omega) (by omega) (by omega) (by omega), some_bind, add_p h hi hl (by omega), some_bind, in_p h hi hl (by omega) (by omega), some_bind]
 rw [node_l1 h hi (by simp; omega), some_bind, add_p h hi hl (by simp; omega), some_bind, node_l2 h hi (by simp; omega), some_bind, out_p h hi hl (by omega) (by omega) (by omega) (by omega), some_bind, appM_eq (by simp; omega), some_bind, add_p h hi hl (by simp; omega), some_bind]
 rw [ineg64 (by omega) (by omega), ineg64 (by omega) (by omega)]
 unfold nodeC
 cases st with
 | false => simp
 | true =>
  rw [cond_true, in_p h hi hl (by omega) (by omega), some_bind, out_p h hi hl (by omega) (by omega) (by omega) (by omega), some_bind, add_p h hi hl (by simp; omega), some_bind]
  simp
end
end Go.Dc

namespace Go.Dc
open Go.Proofs Go.Sort

def nodesC (g : T_api_Graph) (q : Int) (k : Nat) : List (List Int) := (List.range k).flatMap fun i : Nat => nodeC g (i : Int) (q != 1)
def encP (g : T_api_Graph) (q n : Int) : List (List Int) := nodesC g q g.N.toNat ++ [[if q = 3 then -(n + 1) else n + 1]]
theorem nodesC_succ {g : T_api_Graph} {q : Int} {k : Nat} : nodesC g q (k + 1) = nodesC g q k ++ nodeC g (k : Int) (q != 1) := by
 unfold nodesC; rw [List.range_succ, List.flatMap_append]; simp
theorem nodesC_len {g : T_api_Graph} (h : GVal g) {q : Int} : ∀ {k : Nat}, (nodesC g q k).length ≤ 84 * k
 | 0 => by simp [nodesC]
 | k + 1 => by rw [nodesC_succ, List.length_append]; have := nodesC_len h (q := q) (k := k); have := nodeC_len h (i := (k : Int)) (st := q != 1); omega
theorem nodesC_small {g : T_api_Graph} (h : GVal g) {q : Int} {k : Nat} : ∀ c ∈ nodesC g q k, c.length ≤ 41 := fun c hc => by
 unfold nodesC at hc
 obtain ⟨i, _, hi⟩ := List.mem_flatMap.1 hc
 exact nodeC_small h c hi

section
variable {g : T_api_Graph} (h : GVal g) (hg : g.L.length ≤ 100000)
include h hg

theorem enc_loop {q : Int} : loopC (verdict_Encode_l1 g q) (0, g.N, []) = some (g.N, nodesC g q g.N.toNat) := by
 have hn0 := h.n0; have hn1 := h.n1
 refine T.eq (T.loopK g.N.toNat (fun k s => k ≤ g.N.toNat ∧ s = ((k : Int), g.N, nodesC g q k)) ⟨by omega, by simp [nodesC]⟩ ?_)
 rintro k _ ⟨hk, rfl⟩
 have hlen := nodesC_len h (q := q) (k := k)
 dsimp only [verdict_Encode_l1]
 refine T.cond (fun c => ?_) fun c => ?_
 ·have hk2 : (k : Int) < g.N := of_decide_eq_true c
  rw [node_plain h hk2 (by omega) hg (by omega), some_bind, iadd1 (by omega)]
  exact .ret ⟨by omega, by omega, by rw [nodesC_succ]⟩
 ·have e : k = g.N.toNat := by have := of_decide_eq_false c; omega
  subst e
  exact .ret rfl

end

theorem asked_plain {g : T_api_Graph} (hg : g.L.length ≤ 100000) {n : Int} : T (verdict_asked_m g n) fun r => (r = 0 ∧ GVal g ∧ 0 ≤ n ∧ n < g.N) ∨ (r = 1 ∧ ¬ (GVal g ∧ 0 ≤ n ∧ n < g.N)) := by
 unfold verdict_asked_m
 refine T.bind (gValidate_all (by omega)) fun r hr => ?_
 refine T.cond (fun c => .ret (.inr ⟨rfl, fun h => ?_⟩)) fun c => ?_
 ·rw [hr.2 h.1] at c; simp at c
 ·have hv := hr.1 (by simpa using c)
  refine T.cond (fun c1 => .ret (.inr ⟨rfl, fun h => ?_⟩)) fun c1 => T.cond (fun c2 => .ret (.inr ⟨rfl, fun h => ?_⟩)) fun c2 => .ret (.inl ⟨rfl, hv, ?_, ?_⟩)
  ·have := of_decide_eq_true c1; omega
  ·have := of_decide_eq_true c2; omega
  ·have := of_decide_eq_false c1; omega
  ·have := of_decide_eq_false c2; omega

def EncR (g : T_api_Graph) (q n : Int) (r : Int × Int × List (List Int)) : Prop :=
 (GVal g ∧ 0 ≤ n ∧ n < g.N ∧ 1 ≤ q ∧ q ≤ 3 ∧ r = (2 * g.N, 0, encP g q n)) ∨ (GVal g ∧ 0 ≤ n ∧ n < g.N ∧ ¬ (1 ≤ q ∧ q ≤ 3) ∧ r = (0, 4, [])) ∨ (¬ (GVal g ∧ 0 ≤ n ∧ n < g.N) ∧ r = (0, 1, []))
theorem EncR.len {g : T_api_Graph} {q n : Int} {r : Int × Int × List (List Int)} (h : EncR g q n r) : r.2.2.length ≤ 4000 ∧ ∀ c ∈ r.2.2, c.length ≤ 41 := by
 rcases h with ⟨a, b, c, d, e, rfl⟩ | ⟨a, b, c, d, rfl⟩ | ⟨a, rfl⟩
 ·have := nodesC_len a (q := q) (k := g.N.toNat); have := a.n1
  refine ⟨by simp [encP]; omega, fun c hc => ?_⟩
  simp only [encP, List.mem_append, List.mem_singleton] at hc
  rcases hc with hc | rfl
  ·exact nodesC_small a c hc
  ·simp
 ·simp
 ·simp

theorem Encode_plain {g : T_api_Graph} (hg : g.L.length ≤ 100000) {q n : Int} : T (verdict_Encode_m g q n) (EncR g q n) := by
 unfold verdict_Encode_m
 refine T.bind (asked_plain hg) fun r hr => ?_
 rcases hr with ⟨rfl, hv, h0, h1⟩ | ⟨rfl, hn⟩
 ·have hn1 := hv.n1; have hn0 := hv.n0
  rw [show ((0 : Int) != 0) = false from rfl, cond_false]
  have hin : verdict_encoder_in_m g.N n = some (n + 1) := by unfold verdict_encoder_in_m; rw [iadd64 (by omega) (by omega)]
  rw [hin, some_bind]
  have hlen := nodesC_len hv (q := q) (k := g.N.toNat)
  have k6 : ∀ j : Int, (Option.bind (loopC (verdict_Encode_l1 g q) ((0, g.N, []))) fun q24 : Int × (List (List Int)) =>
    Option.bind (verdict_encoder_add_s1_m q24.1 q24.2 [j]) fun t25 => some ((imul .i64 2 g.N, (0 : Int), t25.2))) = some (2 * g.N, 0, nodesC g q g.N.toNat ++ [[j]]) := fun j => by
   rw [enc_loop hv hg, some_bind]
   unfold verdict_encoder_add_s1_m
   rw [appM_eq (by simp; omega), some_bind, some_bind, imul64 (by omega) (by omega)]
  simp only [joinM_eq, k6]
  by_cases h1q : q = 1
  ·subst h1q
   refine .ret (.inl ⟨hv, h0, h1, by omega, by omega, ?_⟩)
   unfold encP; rw [if_neg (by omega)]
  ·by_cases h2q : q = 2
   ·subst h2q
    refine .ret (.inl ⟨hv, h0, h1, by omega, by omega, ?_⟩)
    unfold encP; rw [if_neg (by omega)]
   ·by_cases h3q : q = 3
    ·subst h3q
     refine .ret (.inl ⟨hv, h0, h1, by omega, by omega, ?_⟩)
     unfold encP; rw [if_pos rfl, ineg64 (by omega) (by omega)]
    ·have e1 : ((q : Int) == 1) = false := by simp [h1q]
     have e2 : ((q : Int) == 2) = false := by simp [h2q]
     have e3 : ((q : Int) == 3) = false := by simp [h3q]
     rw [e1, e2, e3]
     exact .ret (.inr (.inl ⟨hv, h0, h1, by omega, rfl⟩))
 ·exact .ret (.inr (.inr ⟨hn, rfl⟩))

end Go.Dc

namespace Go.Dc
open Go.Proofs Go.Sort

def Ahead (n : Int) (a b : Nat) (l : List T_api_Pair) : Prop :=
 l.length ≤ a * n.toNat + b ∧ (∀ p ∈ l, 0 ≤ p.From ∧ p.From < n ∧ 0 ≤ p.To ∧ p.To < n ∧ (p.From < a ∨ p.From = a ∧ p.To < b)) ∧ l.Pairwise plt
theorem Ahead.up {n : Int} {a b : Nat} {l : List T_api_Pair} (h : Ahead n a b l) : Ahead n a (b + 1) l :=
 ⟨by have := h.1; omega, fun p hp => by have := h.2.1 p hp; omega, h.2.2⟩
theorem Ahead.add {n : Int} {a b : Nat} {l : List T_api_Pair} (h : Ahead n a b l) (ha : (a : Int) < n) (hb : (b : Int) < n) : Ahead n a (b + 1) (l ++ [⟨(a : Int), (b : Int)⟩]) := by
 obtain ⟨l1, l2, l3⟩ := h
 refine ⟨by simp; omega, fun p hp => ?_, ?_⟩
 ·rcases List.mem_append.1 hp with hp | hp
  ·have := l2 p hp; omega
  ·rw [List.mem_singleton.1 hp]
   exact ⟨Int.natCast_nonneg _, ha, Int.natCast_nonneg _, hb, .inr ⟨rfl, (by omega : (b : Int) < ((b + 1 : Nat) : Int))⟩⟩
 ·refine List.pairwise_append.2 ⟨l3, List.pairwise_singleton _ _, fun p hp q hq => ?_⟩
  rw [List.mem_singleton.1 hq]
  have := (l2 p hp).2.2.2.2
  unfold plt; simp only; omega

theorem Graph_plain {s : T_deliberationkeep_Src} (h : RdOk s) {n : Int} (h1 : 0 ≤ n) (h2 : n ≤ 40) : T (keep_Src_Graph_m s n) fun r => GVal r.1 ∧ r.1.N ≤ n ∧ r.1.L.length ≤ 1640 ∧ RdOk r.2 := by
 unfold keep_Src_Graph_m
 rw [iadd64 (by omega) (by omega)]
 refine T.bind (N_plain h (by omega)) fun t ⟨ht, hb⟩ => ?_
 have hb := hb (by omega)
 refine T.bind (N_plain ht (by omega)) fun d ⟨hd, hdb⟩ => ?_
 have hdb := hdb (by omega)
 obtain ⟨N, hN⟩ : ∃ N : Nat, t.1 = (N : Int) := ⟨t.1.toNat, by omega⟩
 refine T.bind (P := fun q : List Int × Int × List T_api_Pair => RdOk ⟨q.1, q.2.1⟩ ∧ Ahead t.1 N 0 q.2.2) ?_ fun q ⟨hq1, hq2, hq3, hq4⟩ => .ret ⟨⟨by simp only; omega, by simp only; omega, fun p hp => ?_, hq4⟩, by simp only; omega, ?_, hq1⟩
 ·refine T.loopK N (fun a s => s.1 = (a : Int) ∧ a ≤ N ∧ RdOk ⟨s.2.1, s.2.2.1⟩ ∧ Ahead t.1 a 0 s.2.2.2) ⟨rfl, by omega, hd, by simp [Ahead]⟩ ?_
  rintro a ⟨_, sl, sa, l⟩ ⟨rfl, ha, hsr, hl⟩
  dsimp only [keep_Src_Graph_l2] at *
  refine T.cond (fun c => ?_) fun c => ?_
  ·have hc := of_decide_eq_true c
   refine T.bind (P := fun q : List Int × Int × List T_api_Pair => RdOk ⟨q.1, q.2.1⟩ ∧ Ahead t.1 a N q.2.2) ?_ fun q ⟨hq1, hq2, hq3, hq4⟩ => ?_
   ·refine T.loopK N (fun b s => s.1 = (b : Int) ∧ b ≤ N ∧ RdOk ⟨s.2.1, s.2.2.1⟩ ∧ Ahead t.1 a b s.2.2.2) ⟨rfl, by omega, hsr, hl⟩ ?_
    rintro b ⟨_, sl', sa', l'⟩ ⟨rfl, hb', hsr', hl'⟩
    dsimp only [keep_Src_Graph_l1] at *
    refine T.cond (fun c2 => ?_) fun c2 => ?_
    ·have hc2 := of_decide_eq_true c2
     refine T.bind (N_plain hsr' (by omega)) fun k ⟨hk, hkb⟩ => ?_
     have hmul : a * t.1.toNat ≤ 40 * 40 := Nat.mul_le_mul (by omega) (by omega)
     have key : ∀ j : Bool, T (bif j then Option.bind (appM 16 l' [(T_api_Pair.mk (a : Int) (b : Int))]) fun t62 => some (Sum.inr (iadd .i64 (b : Int) 1, k.2.L, k.2.At, t62)) else some (Sum.inr (iadd .i64 (b : Int) 1, k.2.L, k.2.At, l')) : Option (Sum (List Int × Int × List T_api_Pair) (Int × List Int × Int × List T_api_Pair)))
       (onO (fun r => RdOk ⟨r.1, r.2.1⟩ ∧ Ahead t.1 a N r.2.2) fun s' => b < N ∧ s'.1 = ((b + 1 : Nat) : Int) ∧ b + 1 ≤ N ∧ RdOk ⟨s'.2.1, s'.2.2.1⟩ ∧ Ahead t.1 a (b + 1) s'.2.2.2) := by
      intro j
      rw [iadd1 (by omega)]
      have l1 := hl'.1
      refine T.cond (fun _ => ?_) fun _ => .ret ⟨by omega, rfl, by omega, hk, hl'.up⟩
      rw [appM_eq (by simp; omega), some_bind]
      exact .ret ⟨by omega, rfl, by omega, hk, hl'.add (by omega) (by omega)⟩
     exact T.join (T.cond (fun _ => T.cond (fun _ => key _) fun _ => key _) fun _ => key _)
    ·have e : b = N := by have := of_decide_eq_false c2; omega
     subst e
     exact .ret ⟨hsr', hl'⟩
   ·rw [iadd1 (by omega)]
    refine .ret ⟨by omega, rfl, by omega, hq1, ?_, fun p hp => ?_, hq4⟩
    ·have e : (a + 1) * t.1.toNat = a * t.1.toNat + t.1.toNat := by rw [Nat.add_mul, Nat.one_mul]
     simp only; omega
    ·have := hq3 p hp; omega
  ·have e : a = N := by have := of_decide_eq_false c; omega
   subst e
   exact .ret ⟨hsr, hl⟩
 ·have := hq3 p hp; simp only; omega
 ·have hmul : N * t.1.toNat ≤ 40 * 40 := Nat.mul_le_mul (by omega) (by omega)
  simp only; omega

end Go.Dc

namespace Go.Dc
open Go.Proofs Go.Sort

theorem all_cg {α : Type} : ∀ {l : List α} {p q : α → Bool}, (∀ a ∈ l, p a = q a) → l.all p = l.all q
 | [], _, _, _ => rfl
 | x :: l, p, q, h => by rw [List.all_cons, List.all_cons, h x (by simp), all_cg fun a ha => h a (List.mem_cons_of_mem _ ha)]
theorem any_cg {α : Type} : ∀ {l : List α} {p q : α → Bool}, (∀ a ∈ l, p a = q a) → l.any p = l.any q
 | [], _, _, _ => rfl
 | x :: l, p, q, h => by rw [List.any_cons, List.any_cons, h x (by simp), any_cg fun a ha => h a (List.mem_cons_of_mem _ ha)]

structure LOk (N : Nat) (y : List Int) : Prop where
 len : y.length = N
 rng : ∀ x ∈ y, 1 ≤ x ∧ x ≤ 3
theorem LOk.at {N : Nat} {y : List Int} (h : LOk N y) {i : Nat} (hi : i < N) : sf y i = 1 ∨ sf y i = 2 ∨ sf y i = 3 := by
 have h1 : i < y.length := by rw [h.len]; exact hi
 have e : sf y i = y[i] := by unfold sf; simp [List.getD, h1]
 have := h.rng _ (List.getElem_mem h1)
 rw [e]; omega

def uOf (y : List Int) (a : Int) : Int := sf y a.toNat
def legalP (g : T_api_Graph) (y : List Int) (i : Nat) : Bool :=
 if sf y i = 1 then (attsP g i).all (fun a => uOf y a == 2) else if sf y i = 2 then (attsP g i).any (fun a => uOf y a == 1) else !((attsP g i).any fun a => uOf y a == 1) && !((attsP g i).all fun a => uOf y a == 2)

def compP (g : T_api_Graph) (y : List Int) : Bool := (List.range g.N.toNat).all (legalP g y)
theorem range_all {n : Nat} {p : Nat → Bool} : (List.range n).all p = true ↔ ∀ i, i < n → p i = true := by simp [List.all_eq_true]

def forP (g : T_api_Graph) (q : Int) (n : Nat) (y : List Int) : Bool := compP g y && (q == 1 || !(y.any fun z => z == 3)) && ((sf y n == 1) == (q != 3))
end Go.Dc

namespace Go.Dc
open Go.Proofs Go.Sort

def litT (m : List Bool) (x : Int) : Bool := m.getD (x.natAbs - 1) false == decide (x > 0)
structure MOk (N : Nat) (y : List Int) (m : List Bool) : Prop where
 len : m.length = 2 * N
 i : ∀ j, j < N → m.getD j false = (sf y j == 1)
 o : ∀ j, j < N → m.getD (N + j) false = (sf y j == 2)

section
variable {N : Nat} {y : List Int} {m : List Bool} (hm : MOk N y m)
include hm
theorem lit_in {a : Int} (h0 : 0 ≤ a) (h1 : a < N) : litT m (a + 1) = (uOf y a == 1) := by
 unfold litT uOf
 rw [show (a + 1).natAbs - 1 = a.toNat by omega, hm.i _ (by omega), show decide (a + 1 > 0) = true by simp; omega]; simp
theorem lit_nin {a : Int} (h0 : 0 ≤ a) (h1 : a < N) : litT m (-(a + 1)) = !(uOf y a == 1) := by
 unfold litT uOf
 rw [show (-(a + 1)).natAbs - 1 = a.toNat by omega, hm.i _ (by omega), show decide (-(a + 1) > 0) = false by simp; omega]; simp
theorem lit_out {n a : Int} (hn : n = N) (h0 : 0 ≤ a) (h1 : a < N) : litT m (n + a + 1) = (uOf y a == 2) := by
 unfold litT uOf
 rw [show (n + a + 1).natAbs - 1 = N + a.toNat by omega, hm.o _ (by omega), show decide (n + a + 1 > 0) = true by simp; omega]; simp
theorem lit_nout {n a : Int} (hn : n = N) (h0 : 0 ≤ a) (h1 : a < N) : litT m (-(n + a + 1)) = !(uOf y a == 2) := by
 unfold litT uOf
 rw [show (-(n + a + 1)).natAbs - 1 = N + a.toNat by omega, hm.o _ (by omega), show decide (-(n + a + 1) > 0) = false by simp; omega]; simp
end

def satB (m : List Bool) (l : List (List Int)) : Bool := l.all fun c => c.any (litT m)
theorem node_sat {g : T_api_Graph} (h : GVal g) {y : List Int} (hy : LOk g.N.toNat y) {m : List Bool} (hm : MOk g.N.toNat y m) {i : Nat} (hi : i < g.N.toNat) {st : Bool} :
  satB m (nodeC g (i : Int) st) = (legalP g y i && (!st || !(sf y i == 3))) := by
 have hn0 := h.n0
 have hN : g.N = (g.N.toNat : Int) := by omega
 have r := attsP_rng h (i := (i : Int))
 have ui : uOf y (i : Int) = sf y i := by unfold uOf; rw [Int.toNat_natCast]
 have ii := lit_in hm (a := (i : Int)) (by omega) (by omega)
 have ni := lit_nin hm (a := (i : Int)) (by omega) (by omega)
 have oi := lit_out hm hN (a := (i : Int)) (by omega) (by omega)
 have no := lit_nout hm hN (a := (i : Int)) (by omega) (by omega)
 rw [ui] at ii ni oi no
 have e1 : ((attsP g i).map fun a => [-((i : Int) + 1), g.N + a + 1]).all (fun c => c.any (litT m)) = (attsP g i).all fun a => !(sf y i == 1) || uOf y a == 2 := by
  rw [List.all_map]
  exact all_cg fun a ha => by have := r a ha; simp only [Function.comp, List.any_cons, List.any_nil, Bool.or_false, ni, lit_out hm hN (a := a) (by omega) (by omega)]
 have e2 : ((attsP g i).map fun a => -(g.N + a + 1)).any (litT m) = (attsP g i).any fun a => !(uOf y a == 2) := by
  rw [List.any_map]
  exact any_cg fun a ha => by have := r a ha; simp only [Function.comp, lit_nout hm hN (a := a) (by omega) (by omega)]
 have e3 : ((attsP g i).map fun a => [-(a + 1), g.N + (i : Int) + 1]).all (fun c => c.any (litT m)) = (attsP g i).all fun a => !(uOf y a == 1) || sf y i == 2 := by
  rw [List.all_map]
  exact all_cg fun a ha => by have := r a ha; simp only [Function.comp, List.any_cons, List.any_nil, Bool.or_false, oi, lit_nin hm (a := a) (by omega) (by omega)]
 have e4 : ((attsP g i).map fun a => a + 1).any (litT m) = (attsP g i).any fun a => uOf y a == 1 := by
  rw [List.any_map]
  exact any_cg fun a ha => by have := r a ha; simp only [Function.comp, lit_in hm (a := a) (by omega) (by omega)]
 have e5 : (if st = true then [[(i : Int) + 1, g.N + (i : Int) + 1]] else []).all (fun c => c.any (litT m)) = (!st || (sf y i == 1 || sf y i == 2)) := by
  cases st
  ·rfl
  ·simp only [if_true, List.all_cons, List.all_nil, List.any_cons, List.any_nil, ii, oi, Bool.or_false, Bool.and_true, Bool.not_true, Bool.false_or]
 unfold satB nodeC
 simp only [List.all_append, List.all_cons, List.all_nil, List.any_cons, List.any_append, List.any_nil, Bool.or_false, Bool.and_true, ii, ni, no, e1, e2, e3, e4, e5]
 have nall : ((attsP g i).any fun a => !(uOf y a == 2)) = !((attsP g i).all fun a => uOf y a == 2) := by rw [List.not_all_eq_any_not]
 have nany : ((attsP g i).all fun a => !(uOf y a == 1)) = !((attsP g i).any fun a => uOf y a == 1) := by rw [List.not_any_eq_all_not]
 unfold legalP
 rcases hy.at hi with e | e | e
 ·rw [e, if_pos rfl]
  simp only [show ((1 : Int) == 1) = true from rfl, show ((1 : Int) == 2) = false from rfl, show ((1 : Int) == 3) = false from rfl, Bool.not_true, Bool.not_false, Bool.false_or, Bool.or_true, Bool.true_or, Bool.true_and, Bool.and_true, Bool.or_false]
  rw [nany]
  cases ha : (attsP g i).all fun a => uOf y a == 2 with
  | false => rfl
  | true =>
   have : ((attsP g i).any fun a => uOf y a == 1) = false := by
    rw [List.any_eq_false]
    intro a haa
    have := eq_of_beq (List.all_eq_true.1 ha a haa)
    rw [this]; decide
   rw [this]; rfl
 ·rw [e, if_neg (by omega), if_pos rfl]
  simp only [show ((2 : Int) == 1) = false from rfl, show ((2 : Int) == 2) = true from rfl, show ((2 : Int) == 3) = false from rfl, Bool.not_true, Bool.not_false, Bool.false_or, Bool.or_true, Bool.true_or, Bool.true_and, Bool.and_true, Bool.or_false]
  rw [nall]
  cases ha : (attsP g i).any fun a => uOf y a == 1 with
  | false => simp
  | true =>
   have : ((attsP g i).all fun a => uOf y a == 2) = false := by
    cases hb : (attsP g i).all fun a => uOf y a == 2 with
    | false => rfl
    | true =>
     obtain ⟨a, haa, hab⟩ := List.any_eq_true.1 ha
     have h1 := eq_of_beq hab
     have h2 := eq_of_beq (List.all_eq_true.1 hb a haa)
     omega
   rw [this]; simp
 ·rw [e, if_neg (by omega), if_neg (by omega)]
  simp only [show ((3 : Int) == 1) = false from rfl, show ((3 : Int) == 2) = false from rfl, show ((3 : Int) == 3) = true from rfl, Bool.not_true, Bool.not_false, Bool.false_or, Bool.or_true, Bool.true_or, Bool.true_and, Bool.and_true, Bool.or_false]
  rw [nall, nany]
  have tt : ((attsP g i).all fun _ : Int => true) = true := List.all_eq_true.2 fun _ _ => rfl
  simp only [tt]
  cases st <;> cases (attsP g i).any (fun a => uOf y a == 1) <;> cases (attsP g i).all (fun a => uOf y a == 2) <;> rfl

theorem satB_append {m : List Bool} {a b : List (List Int)} : satB m (a ++ b) = (satB m a && satB m b) := by unfold satB; rw [List.all_append]
theorem nodes_sat {g : T_api_Graph} (h : GVal g) {y : List Int} (hy : LOk g.N.toNat y) {m : List Bool} (hm : MOk g.N.toNat y m) {q : Int} : ∀ {k : Nat}, k ≤ g.N.toNat → 
  satB m (nodesC g q k) = (List.range k).all fun i => legalP g y i && (!(q != 1) || !(sf y i == 3))
 | 0, _ => rfl
 | k + 1, hk => by rw [nodesC_succ, satB_append, nodes_sat h hy hm (by omega), node_sat h hy hm (by omega), List.range_succ, List.all_append]; simp

theorem enc_sat {g : T_api_Graph} (h : GVal g) {y : List Int} (hy : LOk g.N.toNat y) {m : List Bool} (hm : MOk g.N.toNat y m) {q : Int} {n : Nat} (hn : n < g.N.toNat) : satB m (encP g q (n : Int)) = forP g q n y := by
 have hN : g.N = (g.N.toNat : Int) := by have := h.n0; omega
 have un : uOf y (n : Int) = sf y n := by unfold uOf; rw [Int.toNat_natCast]
 have hl := hy.len
 unfold encP
 rw [satB_append, nodes_sat h hy hm (Nat.le_refl _)]
 unfold forP
 congr 1
 ·rw [Bool.eq_iff_iff, range_all, Bool.and_eq_true]
  unfold compP
  rw [range_all]
  have st : ((q == 1 || !(y.any fun z => z == 3)) = true) ↔ ∀ i, i < g.N.toNat → (!(q != 1) || !(sf y i == 3)) = true := by
   by_cases hq : q = 1
   ·subst hq; simp
   ·rw [show (q == 1) = false by simp [hq], show (q != 1) = true by simp [hq]]
    simp only [Bool.false_or, Bool.not_true, Bool.not_eq_true']
    rw [List.any_eq_false]
    constructor
    ·intro h1 i hi
     have h2 : i < y.length := by omega
     have e : sf y i = y[i] := by unfold sf; simp [List.getD, h2]
     rw [e]
     simpa using h1 _ (List.getElem_mem h2)
    ·intro h1 x hx
     obtain ⟨i, hi, rfl⟩ := List.getElem_of_mem hx
     have e : sf y i = y[i] := by unfold sf; simp [List.getD, hi]
     rw [← e]
     have := h1 i (by omega)
     simpa using this
  rw [st]
  constructor
  ·intro h1
   exact ⟨fun i hi => (Bool.and_eq_true _ _ ▸ h1 i hi).1, fun i hi => (Bool.and_eq_true _ _ ▸ h1 i hi).2⟩
  ·rintro ⟨h1, h2⟩ i hi
   rw [Bool.and_eq_true]; exact ⟨h1 i hi, h2 i hi⟩
 ·unfold satB
  by_cases hq : q = 3
  ·subst hq
   rw [if_pos rfl]
   simp only [List.all_cons, List.all_nil, List.any_cons, List.any_nil, Bool.or_false, Bool.and_true, lit_nin hm (a := (n : Int)) (by omega) (by omega), un]
   cases (sf y n == 1) <;> rfl
  ·rw [if_neg hq]
   simp only [List.all_cons, List.all_nil, List.any_cons, List.any_nil, Bool.or_false, Bool.and_true, lit_in hm (a := (n : Int)) (by omega) (by omega), un]
   rw [show (q != 3) = true by simp [hq]]
   cases (sf y n == 1) <;> rfl

theorem node_ok {g : T_api_Graph} (h : GVal g) {i : Nat} (hi : i < g.N.toNat) {st : Bool} : ∀ c ∈ nodeC g (i : Int) st, COk (2 * g.N) c := fun c hc => by
 have hal := attsP_len h (i := (i : Int)); have r := attsP_rng h (i := (i : Int)); have hasc := attsP_asc h.s (i := (i : Int)); have hn0 := h.n0; have hn1 := h.n1
 unfold nodeC at hc
 simp only [List.mem_append, List.mem_singleton, List.mem_map] at hc
 rcases hc with ((((rfl | ⟨a, ha, rfl⟩) | rfl) | ⟨a, ha, rfl⟩) | rfl) | hc
 ·exact ⟨by simp, fun x hx => by simp only [List.mem_cons, List.not_mem_nil, or_false] at hx; rcases hx with rfl | rfl <;> omega, by simp [Asc]; omega⟩
 ·have := r a ha
  exact ⟨by simp, fun x hx => by simp only [List.mem_cons, List.not_mem_nil, or_false] at hx; rcases hx with rfl | rfl <;> omega, by simp [Asc]; omega⟩
 ·refine ⟨by simp; omega, fun x hx => ?_, ?_⟩
  ·rcases List.mem_cons.1 hx with rfl | hx
   ·omega
   ·obtain ⟨a, ha, rfl⟩ := List.mem_map.1 hx
    have := r a ha; omega
  ·refine List.pairwise_cons.2 ⟨fun x hx => ?_, ?_⟩
   ·obtain ⟨a, ha, rfl⟩ := List.mem_map.1 hx
    have := r a ha; omega
   ·rw [List.pairwise_map]
    refine List.Pairwise.imp_of_mem (fun {a b} ha hb hab => ?_) hasc
    have := r a ha; have := r b hb; omega
 ·have := r a ha
  exact ⟨by simp, fun x hx => by simp only [List.mem_cons, List.not_mem_nil, or_false] at hx; rcases hx with rfl | rfl <;> omega, by simp [Asc]; omega⟩
 ·refine ⟨by simp; omega, fun x hx => ?_, ?_⟩
  ·rcases List.mem_append.1 hx with hx | hx
   ·obtain ⟨a, ha, rfl⟩ := List.mem_map.1 hx
    have := r a ha; omega
   ·rw [List.mem_singleton.1 hx]; omega
  ·refine List.pairwise_append.2 ⟨?_, List.pairwise_singleton _ _, fun x hx z hz => ?_⟩
   ·rw [List.pairwise_map]
    refine List.Pairwise.imp_of_mem (fun {a b} ha hb hab => ?_) hasc
    have := r a ha; have := r b hb; omega
   ·obtain ⟨a, ha, rfl⟩ := List.mem_map.1 hx
    rw [List.mem_singleton.1 hz]
    have := r a ha; omega
 ·cases st
  ·simp at hc
  ·simp only [if_true, List.mem_singleton] at hc
   subst hc
   exact ⟨by simp, fun x hx => by simp only [List.mem_cons, List.not_mem_nil, or_false] at hx; rcases hx with rfl | rfl <;> omega, by simp [Asc]; omega⟩
theorem enc_ok {g : T_api_Graph} (h : GVal g) {q : Int} {n : Nat} (hn : n < g.N.toNat) : VOk (2 * g.N) (encP g q (n : Int)) := by
 have hn0 := h.n0; have hn1 := h.n1; have hl := nodesC_len h (q := q) (k := g.N.toNat)
 refine ⟨by omega, by omega, by simp [encP]; omega, fun c hc => ?_⟩
 unfold encP at hc
 rcases List.mem_append.1 hc with hc | hc
 ·unfold nodesC at hc
  obtain ⟨i, hi, hci⟩ := List.mem_flatMap.1 hc
  exact node_ok h (List.mem_range.1 hi) c hci
 ·rw [List.mem_singleton.1 hc]
  exact ⟨by simp, fun x hx => by rw [List.mem_singleton.1 hx]; split <;> omega, by simp [Asc]⟩
end Go.Dc

namespace Go.Dc
open Go.Proofs

theorem compact_get {zs : List Int} : Lib.compact zs = ((List.range zs.length).filter (Lib.keeps zs.toArray)).map (fun j => zs[j]?.getD 0) := by
 unfold Lib.compact Lib.compactUpTo
 apply List.map_congr_left
 intro j hj
 have : j < zs.length := by have := (List.mem_filter.1 hj).1; simpa using this
 simp [this]

theorem keeps_iff {zs : List Int} {j : Nat} (hj : j < zs.length) : Lib.keeps zs.toArray j = true ↔ j = 0 ∨ zs[j]?.getD 0 ≠ zs[j - 1]?.getD 0 := by
 have h1 : j - 1 < zs.length := by omega
 unfold Lib.keeps
 by_cases h : j = 0
 ·simp [h]
 ·simp [h, hj, h1]

theorem mem_compact {zs : List Int} {x : Int} : x ∈ Lib.compact zs ↔ x ∈ zs := by
 rw [compact_get, List.mem_map]
 constructor
 ·rintro ⟨j, hj, rfl⟩
  have hj : j < zs.length := by simpa using (List.mem_filter.1 hj).1
  rw [List.getElem?_eq_getElem hj]; exact List.getElem_mem hj
 ·intro hx
  obtain ⟨j, hj, rfl⟩ := List.getElem_of_mem hx
  suffices ∀ n j (hj : j < zs.length), j ≤ n → ∃ i, i ∈ (List.range zs.length).filter (Lib.keeps zs.toArray) ∧ zs[i]?.getD 0 = zs[j] from this j j hj (Nat.le_refl _)
  intro n
  induction n with
  | zero =>
   intro j hj hn
   exact ⟨j, List.mem_filter.2 ⟨by simpa using hj, (keeps_iff hj).2 (.inl (by omega))⟩, by simp [hj]⟩
  | succ n ih =>
   intro j hj hn
   by_cases hk : Lib.keeps zs.toArray j = true
   ·exact ⟨j, List.mem_filter.2 ⟨by simpa using hj, hk⟩, by simp [hj]⟩
   ·have h2 := fun h => hk ((keeps_iff hj).2 h)
    have h0 : j ≠ 0 := fun h => h2 (.inl h)
    have h3 : zs[j]?.getD 0 = zs[j - 1]?.getD 0 := Classical.byContradiction fun h => h2 (.inr h)
    obtain ⟨i, hi, he⟩ := ih (j - 1) (by omega) (by omega)
    refine ⟨i, hi, he.trans ?_⟩
    have h4 : j - 1 < zs.length := by omega
    simpa [hj, h4] using h3.symm

theorem compact_rel {lt : Int → Int → Prop} (tr : ∀ x y z, lt x y → lt y z → lt x z) {zs : List Int} (h : zs.Pairwise fun x y => lt x y ∨ x = y) : (Lib.compact zs).Pairwise lt := by
 rw [compact_get, List.pairwise_map]
 have hp : ((List.range zs.length).filter (Lib.keeps zs.toArray)).Pairwise (· < ·) := List.Pairwise.filter _ List.pairwise_lt_range
 refine List.Pairwise.imp_of_mem ?_ hp
 intro i j hi hj hij
 have hi' : i < zs.length := by simpa using (List.mem_filter.1 hi).1
 have hj' : j < zs.length := by simpa using (List.mem_filter.1 hj).1
 have hk := (keeps_iff hj').1 (List.mem_filter.1 hj).2
 have hg := List.pairwise_iff_getElem.1 h
 have h1 : j - 1 < zs.length := by omega
 have h2 : lt zs[i] zs[j - 1] ∨ zs[i] = zs[j - 1] := by
  by_cases e : i = j - 1
  ·subst e; exact .inr rfl
  ·exact hg i (j - 1) hi' h1 (by omega)
 have h3 : lt zs[j - 1] zs[j] ∨ zs[j - 1] = zs[j] := hg (j - 1) j h1 hj' (by omega)
 rcases hk with hk | hk
 ·omega
 ·simp [hi', hj', h1] at hk ⊢
  rcases h3 with h3 | h3
  ·rcases h2 with h2 | h2
   ·exact tr _ _ _ h2 h3
   ·rw [h2]; exact h3
  ·exact absurd h3.symm hk

end Go.Dc
