/- Part P51.SortC of a proof: lemmas. -/
import Derived.Test.YtpnhpildieghpaaGreatDoorLAWTPW
import Derived.Test.YtpnhpildieghpaaGreatDoorMAsk
import Derived.Test.YtpnhpildieghpaaGreatDoorDcEqS
import Derived.Shelf.Slices.CompactI
import Derived.Test.YtpnhpildieghpaaGreatDoorMRepW
import Derived.Test.YtpnhpildieghpaaGreatDoorMEv2
set_option linter.unusedVariables false
set_option linter.unusedSimpArgs false
set_option linter.unusedSectionVars false
/-! The source of numbers, in plain words. -/
namespace Go.Dc

theorem Mod_plain {x n : Int} (hn : n ≤ 4611686018427387904) : T (keep_Mod_m x n) fun r => 1 ≤ n → 0 ≤ r ∧ r < n := by
  unfold keep_Mod_m
  refine T.cond (fun h => .ret fun h1 => ?_) fun h => ?_
  · simp at h; omega
  · simp at h
    have h1 : iremM .i64 x n = some (x.tmod n) := by unfold iremM; rw [if_neg (by omega)]; rfl
    have h2 := Int.tmod_lt_of_pos x (show 0 < n by omega)
    have h3 := Int.lt_tmod_of_pos x (show 0 < n by omega)
    rw [h1]
    refine T.bind (T.ret rfl) fun a ha => ?_
    subst ha
    refine T.cond (fun h => .letM (.ret fun _ => ?_)) fun h => .ret fun _ => ?_
    · simp at h; rw [iadd64 (by omega) (by omega)]; omega
    · simp at h; omega

def RdOk (s : T_deliberationkeep_Src) : Prop := 0 ≤ s.At ∧ s.L.length ≤ 2000

theorem Raw_plain {s : T_deliberationkeep_Src} (h : RdOk s) : T (keep_Src_Raw_m s) fun r => RdOk r.2 := by
  unfold keep_Src_Raw_m
  obtain ⟨h1, h2⟩ := h
  refine T.cond (fun h => .ret ⟨h1, h2⟩) fun h => ?_
  simp at h
  rw [iadd64 (by omega) (by omega), isub64 (by omega) (by omega), idxM_eq (by omega) (by omega)]
  exact T.bind (T.ret rfl) fun a _ => .ret ⟨by simp only; omega, h2⟩

theorem N_plain {s : T_deliberationkeep_Src} (h : RdOk s) {n : Int} (hn : n ≤ 4611686018427387904) : T (keep_Src_N_m s n) fun r => RdOk r.2 ∧ (1 ≤ n → 0 ≤ r.1 ∧ r.1 < n) := by
  unfold keep_Src_N_m
  exact T.bind (Raw_plain h) fun t ht => T.bind (Mod_plain hn) fun a ha => .ret ⟨ht, ha⟩

theorem New_plain {l : List Int} : T (keep_New_m l) fun r => RdOk ⟨r.1, r.2⟩ := by
  unfold keep_New_m
  have h : imin (l.length : Int) 2000 = (l.length : Int) ∨ imin (l.length : Int) 2000 = 2000 := by unfold imin; split <;> simp
  have h2 : 0 ≤ imin (l.length : Int) 2000 ∧ imin (l.length : Int) 2000 ≤ l.length ∧ imin (l.length : Int) 2000 ≤ 2000 := by unfold imin; split <;> omega
  rw [slM_eq (by omega) (by omega) (by omega)]
  exact T.bind (T.ret rfl) fun a ha => .ret ⟨by simp, by subst ha; simp; omega⟩
end Go.Dc

/-! Sets of bits: numbers of 64 bits as sets of numbers below 64. -/
namespace Go.Dc

theorem wrapU {n : Nat} (h : n < 2 ^ 64) : IntKind.wrap .u64 (n : Int) = (n : Int) := by
  simp [IntKind.wrap, IntKind.signed, IntKind.bits]; omega

/-- the bits of a that b has not -/
def andn (a b : Nat) : Nat := (BitVec.ofNat 64 a &&& ~~~BitVec.ofNat 64 b).toNat

theorem andn_bit {a b i : Nat} (ha : a < 2 ^ 64) : (andn a b).testBit i = (a.testBit i && !b.testBit i) := by
  unfold andn
  rw [BitVec.testBit_toNat]
  simp only [BitVec.getLsbD_and, BitVec.getLsbD_not, BitVec.getLsbD_ofNat]
  by_cases h : i < 64
  · simp [h]
  · have : a.testBit i = false := Nat.testBit_lt_two_pow (Nat.lt_of_lt_of_le ha (Nat.pow_le_pow_right (by decide) (by omega)))
    simp [h, this]

theorem and_lt {a b : Nat} (ha : a < 2 ^ 64) : a &&& b < 2 ^ 64 := Nat.lt_of_le_of_lt Nat.and_le_left ha
theorem or_lt {a b : Nat} (ha : a < 2 ^ 64) (hb : b < 2 ^ 64) : a ||| b < 2 ^ 64 := Nat.or_lt_two_pow ha hb

theorem iand_u {a b : Nat} (ha : a < 2 ^ 64) (hb : b < 2 ^ 64) : iand .u64 (a : Int) (b : Int) = ((a &&& b : Nat) : Int) := by
  unfold iand
  have : (BitVec.ofInt 64 (a : Int) &&& BitVec.ofInt 64 (b : Int)).toNat = a &&& b := by
    simp only [BitVec.toNat_and, BitVec.ofInt_natCast, BitVec.toNat_ofNat]
    rw [Nat.mod_eq_of_lt ha, Nat.mod_eq_of_lt hb]
  rw [show IntKind.bits .u64 = 64 from rfl, this, wrapU (and_lt ha)]
theorem ior_u {a b : Nat} (ha : a < 2 ^ 64) (hb : b < 2 ^ 64) : ior .u64 (a : Int) (b : Int) = ((a ||| b : Nat) : Int) := by
  unfold ior
  have : (BitVec.ofInt 64 (a : Int) ||| BitVec.ofInt 64 (b : Int)).toNat = a ||| b := by
    simp only [BitVec.toNat_or, BitVec.ofInt_natCast, BitVec.toNat_ofNat]
    rw [Nat.mod_eq_of_lt ha, Nat.mod_eq_of_lt hb]
  rw [show IntKind.bits .u64 = 64 from rfl, this, wrapU (or_lt ha hb)]
theorem iandn_u {a b : Nat} : iandn .u64 (a : Int) (b : Int) = ((andn a b : Nat) : Int) := by
  unfold iandn andn
  rw [show IntKind.bits .u64 = 64 from rfl, BitVec.ofInt_natCast, BitVec.ofInt_natCast, wrapU (BitVec.isLt _)]
theorem isub_u {a b : Nat} (ha : a < 2 ^ 64) (hb : b ≤ a) : isub .u64 (a : Int) (b : Int) = ((a - b : Nat) : Int) := by
  unfold isub
  rw [show (a : Int) - (b : Int) = ((a - b : Nat) : Int) by omega, wrapU (by omega)]
theorem isub1_u {a : Nat} (ha : a < 2 ^ 64) (hb : 1 ≤ a) : isub .u64 (a : Int) 1 = ((a - 1 : Nat) : Int) := isub_u (b := 1) ha hb
theorem ishl_u {n : Nat} (h : n < 64) : ishl .u64 1 (n : Int) = ((2 ^ n : Nat) : Int) := by
  unfold ishl
  rw [show min ((n : Int).toNat) (IntKind.bits .u64) = n by simp [IntKind.bits]; omega, Int.one_mul]
  rw [show (2 : Int) ^ n = ((2 ^ n : Nat) : Int) by simp]
  exact wrapU (Nat.pow_lt_pow_right (by decide) h)
theorem ishr_u {a n : Nat} (h : n ≤ 64) : ishr .u64 (a : Int) (n : Int) = ((a >>> n : Nat) : Int) := by
  unfold ishr
  rw [show min ((n : Int).toNat) (IntKind.bits .u64) = n by simp [IntKind.bits]; omega, Int.fdiv_eq_ediv_of_nonneg _ (Int.le_of_lt (Int.pow_pos (show (0 : Int) < 2 by decide))), Nat.shiftRight_eq_div_pow]
  simp

/-! ### the lowest bit -/
theorem low_exists {s : Nat} (h : s ≠ 0) : ∃ k, s.testBit k = true ∧ ∀ j, j < k → s.testBit j = false := by
  obtain ⟨i, hi⟩ := Nat.exists_testBit_of_ne_zero h
  induction i using Nat.strongRecOn with
  | _ i ih =>
    by_cases hx : ∃ j, j < i ∧ s.testBit j = true
    · obtain ⟨j, hj, hb⟩ := hx; exact ih j hj hb
    · exact ⟨i, hi, fun j hj => by cases hb : s.testBit j; rfl; exact absurd ⟨j, hj, hb⟩ hx⟩

section low
variable {s k : Nat}
theorem low_form (hk : s.testBit k = true) (hl : ∀ j, j < k → s.testBit j = false) : s = 2 ^ (k + 1) * (s / 2 ^ (k + 1)) + 2 ^ k := by
  have h1 : s % 2 ^ (k + 1) = 2 ^ k := by
    apply Nat.eq_of_testBit_eq
    intro j
    rw [Nat.testBit_mod_two_pow, Nat.testBit_two_pow]
    by_cases e : j < k
    · simp [hl j e]; omega
    · by_cases e2 : j = k
      · subst e2; simp [hk]
      · have : ¬ j < k + 1 := by omega
        have h3 : ¬ k = j := fun h => e2 h.symm
        simp [this, h3]
  have := Nat.div_add_mod s (2 ^ (k + 1))
  omega

theorem low_pred (hk : s.testBit k = true) (hl : ∀ j, j < k → s.testBit j = false) (j : Nat) : (s - 1).testBit j = if j < k then true else if j = k then false else s.testBit j := by
  have hf := low_form hk hl
  have hp : 0 < 2 ^ k := Nat.two_pow_pos k
  have h2 : 2 ^ k - 1 < 2 ^ (k + 1) := by rw [Nat.pow_succ]; omega
  have h3 : 2 ^ k < 2 ^ (k + 1) := by rw [Nat.pow_succ]; omega
  have e : s - 1 = 2 ^ (k + 1) * (s / 2 ^ (k + 1)) + (2 ^ k - 1) := by omega
  rw [e, Nat.testBit_two_pow_mul_add _ h2, Nat.testBit_two_pow_sub_one]
  have hs : s.testBit j = if j < k + 1 then (2 ^ k).testBit j else (s / 2 ^ (k + 1)).testBit (j - (k + 1)) := by
    conv => lhs; rw [hf]
    rw [Nat.testBit_two_pow_mul_add _ h3]
  by_cases h1 : j < k
  · simp [h1, show j < k + 1 by omega]
  · by_cases h4 : j = k
    · subst h4; simp
    · rw [hs, if_neg h1, if_neg h4, if_neg (by omega), if_neg (by omega)]

theorem low_clear (hk : s.testBit k = true) (hl : ∀ j, j < k → s.testBit j = false) (j : Nat) : (s &&& (s - 1)).testBit j = if j ≤ k then false else s.testBit j := by
  rw [Nat.testBit_and, low_pred hk hl]
  by_cases h1 : j < k
  · simp [h1, hl j h1, show j ≤ k by omega]
  · by_cases h4 : j = k
    · subst h4; simp
    · simp [h1, h4, show ¬ j ≤ k by omega]

theorem low_neg (hs : s < 2 ^ 64) (hk : s.testBit k = true) (hl : ∀ j, j < k → s.testBit j = false) : s &&& (2 ^ 64 - s) = 2 ^ k := by
  have h0 : s ≠ 0 := fun e => by rw [e] at hk; simp at hk
  have hk64 : k < 64 := by
    by_cases h : k < 64
    · exact h
    · have := Nat.testBit_lt_two_pow (Nat.lt_of_lt_of_le hs (Nat.pow_le_pow_right (by decide : 0 < 2) (by omega : 64 ≤ k)))
      rw [this] at hk; cases hk
  apply Nat.eq_of_testBit_eq
  intro j
  rw [Nat.testBit_and, Nat.testBit_two_pow, show 2 ^ 64 - s = 2 ^ 64 - ((s - 1) + 1) by omega, Nat.testBit_two_pow_sub_succ (by omega), low_pred hk hl]
  by_cases h1 : j < k
  · simp [hl j h1]; omega
  · by_cases h4 : j = k
    · subst h4; simp [hk, hk64]
    · have h5 : ¬ k = j := fun h => h4 h.symm
      simp only [if_neg h1, if_neg h4, h5, decide_false]
      cases s.testBit j <;> simp
end low

theorem bit_lt {s i : Nat} (hs : s < 2 ^ 64) (h : s.testBit i = true) : i < 64 := by
  by_cases h1 : i < 64
  · exact h1
  · have := Nat.testBit_lt_two_pow (Nat.lt_of_lt_of_le hs (Nat.pow_le_pow_right (by decide : 0 < 2) (by omega : 64 ≤ i)))
    rw [this] at h; cases h

/-- the table of TrailingZeros64 -/
def tzTab : List Int := [0, 1, 56, 2, 57, 49, 28, 3, 61, 58, 42, 50, 38, 29, 17, 4, 62, 47, 59, 36, 45, 43, 51, 22, 53, 39, 33, 30, 24, 18, 12, 5, 63, 55, 48, 27, 60, 41, 37, 16, 46, 35, 44, 21, 52, 32, 23, 11, 54, 26, 40, 15, 34, 20, 31, 10, 25, 14, 19, 9, 13, 8, 7, 6]
/-! ### the list of the bits -/
def bitsL (s : Nat) : List Nat := (List.range 64).filter s.testBit

theorem mem_bitsL {s i : Nat} (hs : s < 2 ^ 64) : i ∈ bitsL s ↔ s.testBit i = true := by
  unfold bitsL
  rw [List.mem_filter, List.mem_range]
  exact ⟨fun h => h.2, fun h => ⟨bit_lt hs h, h⟩⟩

theorem bitsL_zero : bitsL 0 = [] := by
  unfold bitsL
  rw [List.filter_eq_nil_iff]; simp

theorem bitsL_cons {s k : Nat} (hs : s < 2 ^ 64) (hk : s.testBit k = true) (hl : ∀ j, j < k → s.testBit j = false) : bitsL s = k :: bitsL (s &&& (s - 1)) := by
  have hk64 := bit_lt hs hk
  have hr : List.range 64 = List.range k ++ (k :: (List.range (63 - k)).map (k + 1 + ·)) := by
    rw [show 64 = (k + 1) + (63 - k) by omega, List.range_add, List.range_succ]; simp
  unfold bitsL
  rw [hr, List.filter_append, List.filter_append, List.filter_cons_of_pos hk]
  have h1 : (List.range k).filter s.testBit = [] := List.filter_eq_nil_iff.2 fun j hj => by simp [hl j (List.mem_range.1 hj)]
  have h2 : (List.range k).filter (s &&& (s - 1)).testBit = [] := List.filter_eq_nil_iff.2 fun j hj => by
    rw [low_clear hk hl, if_pos (by have := List.mem_range.1 hj; omega)]; simp
  have h3 : ¬ (s &&& (s - 1)).testBit k = true := by rw [low_clear hk hl]; simp
  rw [h1, h2, List.filter_cons_of_neg h3]
  simp only [List.nil_append]
  congr 1
  refine List.filter_congr fun j hj => ?_
  obtain ⟨m, _, rfl⟩ := List.mem_map.1 hj
  rw [low_clear hk hl, if_neg (by omega)]

theorem bitsL_len {s : Nat} : (bitsL s).length ≤ 64 := by
  unfold bitsL
  exact Nat.le_trans (List.length_filter_le _ _) (by simp)

theorem low_lt {s : Nat} (h : s ≠ 0) : s &&& (s - 1) < s := Nat.lt_of_le_of_lt Nat.and_le_right (by omega)

theorem eq_of_bits {a b : Nat} (h : ∀ i, a.testBit i = b.testBit i) : a = b := Nat.eq_of_testBit_eq h
theorem zero_bits {a : Nat} : a = 0 ↔ ∀ i, a.testBit i = false := by
  constructor
  · rintro rfl i; simp
  · intro h; exact Nat.eq_of_testBit_eq fun i => by rw [h i]; simp

end Go.Dc

/-! Graphs in plain words: order, validity. -/
namespace Go.Dc
open Go.Proofs Go.Sort

def plt (p q : T_api_Pair) : Prop := p.From < q.From ∨ p.From = q.From ∧ p.To < q.To
instance : DecidablePred fun x : T_api_Pair × T_api_Pair => plt x.1 x.2 := fun _ => inferInstanceAs (Decidable (_ ∨ _))
instance (p q : T_api_Pair) : Decidable (plt p q) := inferInstanceAs (Decidable (_ ∨ _))
theorem plt_trans {p q r : T_api_Pair} (h : plt p q) (k : plt q r) : plt p r := by unfold plt at *; omega
theorem plt_irr {p : T_api_Pair} : ¬ plt p p := by unfold plt; omega
theorem pair_ext {p q : T_api_Pair} (h : p.From = q.From) (k : p.To = q.To) : p = q := by cases p; cases q; simp_all
theorem plt_tri {p q : T_api_Pair} (h : ¬ plt p q) (k : ¬ plt q p) : p = q := pair_ext (by unfold plt at *; omega) (by unfold plt at *; omega)

structure GVal (g : T_api_Graph) : Prop where
  n0 : 0 ≤ g.N
  n1 : g.N ≤ 40
  v : ∀ p ∈ g.L, 0 ≤ p.From ∧ p.From < g.N ∧ 0 ≤ p.To ∧ p.To < g.N
  s : g.L.Pairwise plt

theorem cmp_plain {x y : Int} : cmp_Compare_int_m x y = some (if x < y then -1 else if y < x then 1 else 0) := by
  unfold cmp_Compare_int_m cmp_isNaN_int_m
  simp only [some_bind, bne_self_eq_false, cond_false]
  by_cases h : x < y
  · simp [h]
  · by_cases h2 : y < x <;> simp [h, h2]

theorem or_plain {a b : Int} : cmp_Or_int_m [a, b] = some (if a = 0 then b else a) := by
  have h0 : cmp_Or_int_l1 [a, b] 0 = some (bif a != 0 then .inl (.inl a) else .inr 1) := by
    unfold cmp_Or_int_l1
    rw [show decide ((0 : Int) < (([a, b] : List Int).length : Int)) = true from rfl, show idxM [a, b] 0 = some a from rfl, iadd64 (by omega) (by omega)]
    simp only [cond_true, some_bind]
    cases a != 0 <;> rfl
  have h1 : cmp_Or_int_l1 [a, b] 1 = some (bif b != 0 then .inl (.inl b) else .inr 2) := by
    unfold cmp_Or_int_l1
    rw [show decide ((1 : Int) < (([a, b] : List Int).length : Int)) = true from rfl, show idxM [a, b] 1 = some b from rfl, iadd64 (by omega) (by omega)]
    simp only [cond_true, some_bind]
    cases b != 0 <;> rfl
  have h2 : cmp_Or_int_l1 [a, b] 2 = some (.inl (.inr ())) := by
    unfold cmp_Or_int_l1
    rw [show decide ((2 : Int) < (([a, b] : List Int).length : Int)) = false from rfl]; rfl
  unfold cmp_Or_int_m
  rw [loopC_eq, h0]
  by_cases ha : a = 0
  · subst ha
    rw [if_pos rfl, show ((0 : Int) != 0) = false from rfl]
    simp only [cond_false, Option.bind_some]
    rw [loopC_eq, h1]
    by_cases hb : b = 0
    · subst hb
      rw [show ((0 : Int) != 0) = false from rfl]
      simp only [cond_false, Option.bind_some]
      rw [loopC_eq, h2]; rfl
    · rw [show (b != 0) = true from by simp [hb]]; rfl
  · rw [if_neg ha, show (a != 0) = true from by simp [ha]]; rfl

def pcmp (p q : T_api_Pair) : Int := if plt p q then -1 else if plt q p then 1 else 0
theorem pcmp_all {p q : T_api_Pair} : graph_compare_m p q = some (pcmp p q) := by
  unfold graph_compare_m
  rw [cmp_plain, some_bind, cmp_plain, some_bind, or_plain, some_bind]
  unfold pcmp plt
  congr 1
  by_cases h1 : p.From < q.From <;> by_cases h2 : q.From < p.From <;> by_cases h3 : p.To < q.To <;> by_cases h4 : q.To < p.To <;> simp [h1, h2, h3, h4] <;> omega

theorem cfo_P {p q : T_api_Pair} : cfo graph_compare_m p q = pcmp p q := by unfold cfo; rw [pcmp_all]; rfl
theorem ltOf_P {p q : T_api_Pair} : ltOf (cfo graph_compare_m) p q = true ↔ plt p q := by
  unfold ltOf; rw [cfo_P, decide_eq_true_iff]; unfold pcmp; split
  · simp [*]
  · split <;> simp [*]
theorem ltOf_Pf {p q : T_api_Pair} : ltOf (cfo graph_compare_m) p q = false ↔ ¬ plt p q := by
  rw [← ltOf_P]; simp
theorem cmpOk_P : CmpOk graph_compare_m where
  tot := fun x y => by rw [cfo_P, pcmp_all]
  swo := ⟨fun x => by rw [ltOf_Pf]; exact plt_irr, fun x y z h1 h2 => by rw [ltOf_P] at *; exact plt_trans h1 h2, fun x y z h1 h2 => by rw [ltOf_Pf] at *; unfold plt at *; omega⟩
  sep := fun x y h1 h2 => by rw [ltOf_Pf] at *; exact plt_tri h1 h2

theorem sort_P {l : List T_api_Pair} (h : l.length ≤ 100000) : ∃ r, sortFM graph_compare_m l = some r ∧ r.Perm l ∧ r.Pairwise fun x y => plt x y ∨ x = y := by
  refine ⟨sortL graph_compare_m l, by unfold sortFM; rw [if_pos ⟨by omega, cmpOk_P⟩], List.mergeSort_perm _ _, ?_⟩
  have hs := List.pairwise_mergeSort (le := fun x y => !(ltOf (cfo graph_compare_m)) y x)
    (fun a b c h1 h2 => by simp only [Bool.not_eq_true', ltOf_Pf] at *; unfold plt at *; omega)
    (fun a b => by
      cases h1 : ltOf (cfo graph_compare_m) b a with
      | false => rfl
      | true =>
        cases h2 : ltOf (cfo graph_compare_m) a b with
        | false => rfl
        | true => rw [ltOf_P] at h1 h2; exact absurd (plt_trans h1 h2) plt_irr) l
  refine hs.imp fun {x y} h => ?_
  simp only [Bool.not_eq_true', ltOf_Pf] at h
  by_cases hx : plt x y
  · exact .inl hx
  · exact .inr (plt_tri hx h)

/-! ### validity -/
def pOk (N : Int) (p : T_api_Pair) : Prop := 0 ≤ p.From ∧ p.From < N ∧ 0 ≤ p.To ∧ p.To < N
/-- the first i pairs are fine -/
def Fine (g : T_api_Graph) (i : Nat) : Prop := ∀ k (hk : k < g.L.length), k < i → pOk g.N g.L[k] ∧ ∀ h : 1 ≤ k, plt (g.L[k - 1]'(by omega)) g.L[k]
theorem pw_of {l : List T_api_Pair} (h : ∀ k (hk : k < l.length), ∀ h1 : 1 ≤ k, plt (l[k - 1]'(by omega)) l[k]) : l.Pairwise plt := by
  rw [List.pairwise_iff_getElem]
  intro i j hi hj hij
  induction j with
  | zero => omega
  | succ j ih =>
    have h1 := h (j + 1) hj (by omega)
    simp only [Nat.add_sub_cancel] at h1
    by_cases e : i = j
    · subst e; exact h1
    · exact plt_trans (ih (by omega) (by omega)) h1
theorem gval_of {g : T_api_Graph} (h0 : 0 ≤ g.N) (h1 : g.N ≤ 40) (h : Fine g g.L.length) : GVal g :=
  ⟨h0, h1, fun p hp => by obtain ⟨i, hi, rfl⟩ := List.getElem_of_mem hp; exact (h i hi hi).1, pw_of fun k hk h1 => (h k hk hk).2 h1⟩
theorem GVal.pw {g : T_api_Graph} (h : GVal g) {i : Nat} (h0 : 1 ≤ i) (hi : i < g.L.length) : plt (g.L[i - 1]'(by omega)) g.L[i] :=
  List.pairwise_iff_getElem.1 h.s (i - 1) i (by omega) hi (by omega)
theorem Fine.step {g : T_api_Graph} {i : Nat} (h : Fine g i) (hi : i < g.L.length) (h1 : pOk g.N g.L[i]) (h2 : ∀ h : 1 ≤ i, plt (g.L[i - 1]'(by omega)) g.L[i]) : Fine g (i + 1) := fun k hk hki => by
  by_cases e : k = i
  · subst e; exact ⟨h1, h2⟩
  · exact h k hk (by omega)

theorem gValidate_all {g : T_api_Graph} (hl : g.L.length ≤ 1000000) : T (graph_Validate_m g) fun r => r = 0 ↔ GVal g := by
  unfold graph_Validate_m
  refine T.cond (fun c => .ret ⟨fun h => (by cases h), fun h => by have := h.n0; simp at c; omega⟩) fun c0 => T.cond (fun c => .ret ⟨fun h => (by cases h), fun h => by have := h.n1; simp at c; omega⟩) fun c1 => ?_
  simp at c0 c1
  refine T.bind (P := fun r => match r with | .inl a => a ≠ 0 ∧ ¬ GVal g | .inr _ => GVal g) ?_ fun q hq => ?_
  · refine T.loopK g.L.length (fun i s => s = (i : Int) ∧ i ≤ g.L.length ∧ Fine g i) ⟨rfl, by omega, fun k hk hk0 => by omega⟩ ?_
    rintro i _ ⟨rfl, hi, hf⟩
    dsimp only [graph_Validate_l1]
    refine T.cond (fun g1 => ?_) fun g1 => .ret ?_
    · have hlt : i < g.L.length := by simpa using g1
      rw [idxM_nat hlt, some_bind, iadd1 (by omega)]
      have hmn : imin g.L[i].From g.L[i].To < 0 ↔ g.L[i].From < 0 ∨ g.L[i].To < 0 := by unfold imin; split <;> omega
      have hmx : imax g.L[i].From g.L[i].To ≥ g.N ↔ g.L[i].From ≥ g.N ∨ g.L[i].To ≥ g.N := by unfold imax; split <;> omega
      have bad : ¬ pOk g.N g.L[i] → ¬ GVal g := fun hb hv => hb (hv.v _ (List.getElem_mem hlt))
      refine T.cond (fun g2 => .ret ⟨by decide, bad fun hp => ?_⟩) fun g2 => T.cond (fun g3 => .ret ⟨by decide, bad fun hp => ?_⟩) fun g3 => ?_
      · have := hmn.1 (of_decide_eq_true g2); obtain ⟨a, b, c, d⟩ := hp; omega
      · have := hmx.1 (of_decide_eq_true g3); obtain ⟨a, b, c, d⟩ := hp; omega
      have h2 : ¬ (g.L[i].From < 0 ∨ g.L[i].To < 0) := fun h => of_decide_eq_false g2 (hmn.2 h)
      have h3 : ¬ (g.L[i].From ≥ g.N ∨ g.L[i].To ≥ g.N) := fun h => of_decide_eq_false g3 (hmx.2 h)
      have hp : pOk g.N g.L[i] := by unfold pOk; omega
      refine T.cond (fun g4 => ?_) fun g4 => .ret ⟨hlt, rfl, by omega, hf.step hlt hp fun h => by simp at g4; omega⟩
      simp at g4
      rw [isub1 (by omega), show (i : Int) - 1 = ((i - 1 : Nat) : Int) from by omega, idxM_nat (by omega), some_bind, pcmp_all, some_bind]
      refine T.cond (fun g5 => .ret ⟨by decide, fun hv => ?_⟩) fun g5 => .ret ⟨hlt, rfl, by omega, hf.step hlt hp fun h => ?_⟩
      · have := hv.pw (by omega : 1 ≤ i) hlt
        have g5 := of_decide_eq_true g5
        unfold pcmp at g5; rw [if_pos this] at g5; omega
      · have g5 := of_decide_eq_false g5
        unfold pcmp at g5
        refine Classical.byContradiction fun hn => g5 ?_
        rw [if_neg hn]; split <;> omega
    · have e : i = g.L.length := by have : ¬ (i : Int) < g.L.length := of_decide_eq_false g1; omega
      subst e
      exact gval_of (by omega) (by omega) hf
  · cases q with
    | inl a => exact .ret ⟨fun h => absurd h hq.1, fun h => absurd h hq.2⟩
    | inr a => exact .ret ⟨fun _ => hq, fun _ => rfl⟩
theorem gValidate_plain {g : T_api_Graph} (h : GVal g) (hl : g.L.length ≤ 1000000) : graph_Validate_m g = some 0 := by
  obtain ⟨r, e, hr⟩ := gValidate_all (g := g) hl
  rw [e, hr.2 h]

end Go.Dc

/-! Attackers of a node. -/
namespace Go.Dc
open Go.Proofs Go.Sort

def sf (l : List Int) : Nat → Int := fun i => l.getD i 0
theorem idx_sf {l : List Int} {i : Nat} (h : i < l.length) : idxM l (i : Int) = some (sf l i) := idxM_getD h
theorem sf_set {l : List Int} {i j : Nat} {x : Int} (h : i < l.length) : sf (l.set i x) j = if i = j then x else sf l j := getD_set h
def att (g : T_api_Graph) (a b : Int) : Prop := ∃ p ∈ g.L, p.From = a ∧ p.To = b

theorem tz_plain {s k : Nat} (hs : s < 2 ^ 64) (hk : s.testBit k = true) (hl : ∀ j, j < k → s.testBit j = false) : tzM (s : Int) = some (k : Int) := by
  have h0 : s ≠ 0 := fun e => by rw [e] at hk; simp at hk
  unfold tzM
  rw [if_pos ⟨by omega, by omega⟩, Int.toNat_natCast]
  have h1 := (Lib.lowest_bit 64 s h0 hs).1
  rw [low_neg hs hk hl] at h1
  rw [← (Nat.pow_right_inj (by omega)).1 h1]

theorem list_plain {m : Nat} (hm : m < 2 ^ 64) : graph_list_m (m : Int) = some ((bitsL m).map fun k : Nat => (k : Int)) := by
  unfold graph_list_m
  refine T.eq (T.bind (P := fun q => q = (bitsL m).map fun k : Nat => (k : Int)) ?_ fun q hq => .ret hq)
  refine T.loopM (fun s => ∃ t : Nat, s.1 = (t : Int) ∧ t < 2 ^ 64 ∧ s.2 ++ ((bitsL t).map fun k : Nat => (k : Int)) = (bitsL m).map fun k : Nat => (k : Int)) (fun s => s.1.toNat) ⟨m, rfl, hm, rfl⟩ ?_
  rintro ⟨_, out⟩ ⟨t, rfl, ht, ho⟩
  dsimp only [graph_list_l1] at ho ⊢
  have hlen : out.length ≤ 64 := by
    have := congrArg List.length ho
    simp only [List.length_append, List.length_map] at this
    have := bitsL_len (s := m)
    omega
  refine T.cond (fun c => ?_) fun c => ?_
  · have h0 : t ≠ 0 := fun e => by rw [e] at c; simp at c
    obtain ⟨k, hk, hl⟩ := low_exists h0
    rw [tz_plain ht hk hl, some_bind, appM_eq (by simp; omega), some_bind, isub1_u ht (by omega), iand_u ht (by omega)]
    refine .ret ⟨⟨t &&& (t - 1), rfl, Nat.lt_of_le_of_lt Nat.and_le_left ht, ?_⟩, ?_⟩
    · rw [bitsL_cons ht hk hl] at ho
      rw [← ho]; simp
    · simp only [Int.toNat_natCast]; exact low_lt h0
  · have h0 : t = 0 := by simpa using c
    subst h0
    rw [bitsL_zero, List.map_nil, List.append_nil] at ho
    exact .ret ho

theorem Attacked_plain {g : T_api_Graph} (h : GVal g) (hl : g.L.length ≤ 100000) {i : Nat} (hi : (i : Int) < g.N) : ∃ L, graph_Attacked_m g (i : Int) = some L ∧ (∀ j : Int, j ∈ L ↔ att g i j) ∧ L.Pairwise (· < ·) ∧ L.length ≤ 64 := by
  obtain ⟨N, hN⟩ : ∃ N : Nat, g.N = (N : Int) := ⟨g.N.toNat, by have := h.n0; omega⟩
  have h40 := h.n1
  suffices hm : T (graph_masks_m g) fun d => d.length = N ∧ ∀ a : Nat, a < N → ∃ m : Nat, sf d a = (m : Int) ∧ m < 2 ^ 64 ∧ ∀ j : Nat, m.testBit j = true ↔ att g a j by
    obtain ⟨d, e1, hd, hd2⟩ := hm
    obtain ⟨m, hm1, hm2, hm3⟩ := hd2 i (by omega)
    refine ⟨(bitsL m).map fun k : Nat => (k : Int), ?_, fun j => ?_, ?_, by rw [List.length_map]; exact bitsL_len⟩
    · unfold graph_Attacked_m graph_proper_m
      rw [gValidate_plain h (by omega), some_bind, show ((0 : Int) != 0) = false from rfl, cond_false, some_bind, decide_eq_false (by omega), cond_false, decide_eq_false (by omega), cond_false, e1, some_bind, idx_sf (by omega), hm1, some_bind, list_plain hm2]; rfl
    · rw [List.mem_map]
      constructor
      · rintro ⟨k, hk, rfl⟩
        exact (hm3 k).1 ((mem_bitsL hm2).1 hk)
      · intro hj
        obtain ⟨p, hp, h1, h2⟩ := hj
        have := h.v p hp
        exact ⟨j.toNat, (mem_bitsL hm2).2 ((hm3 j.toNat).2 ⟨p, hp, h1, by omega⟩), by omega⟩
    · rw [List.pairwise_map]
      unfold bitsL
      refine List.Pairwise.imp ?_ (List.Pairwise.filter _ (List.pairwise_lt_range (n := 64)))
      intro a b hab
      omega
  unfold graph_masks_m
  rw [hN, mkM_T (by omega), some_bind]
  refine T.bind (P := fun d => d.length = N ∧ ∀ a : Nat, a < N → ∃ m : Nat, sf d a = (m : Int) ∧ m < 2 ^ 64 ∧ ∀ j : Nat, m.testBit j = true ↔ att g a j) ?_ fun d hd => .ret hd
  refine T.loopK g.L.length (fun k s => k ≤ g.L.length ∧ s.1 = (k : Int) ∧ s.2.length = N ∧ ∀ a : Nat, a < N → ∃ m : Nat, sf s.2 a = (m : Int) ∧ m < 2 ^ 64 ∧ ∀ j : Nat, m.testBit j = true ↔ ∃ p ∈ g.L.take k, p.From = a ∧ p.To = j) ⟨by omega, rfl, by simp, fun a ha => ⟨0, by simp [sf, ha], by omega, by simp⟩⟩ ?_
  rintro k ⟨_, d⟩ ⟨hk, rfl, hd, hd2⟩
  dsimp only [graph_masks_l1] at hd hd2 ⊢
  refine T.cond (fun c => ?_) fun c => ?_
  · have hk2 : k < g.L.length := by have := of_decide_eq_true c; omega
    obtain ⟨v0, v1, v2, v3⟩ := h.v _ (List.getElem_mem hk2)
    obtain ⟨a, ha⟩ : ∃ a : Nat, g.L[k].From = (a : Int) := ⟨g.L[k].From.toNat, by omega⟩
    obtain ⟨t, ht⟩ : ∃ t : Nat, g.L[k].To = (t : Int) := ⟨g.L[k].To.toNat, by omega⟩
    obtain ⟨m, m1, m2, m3⟩ := hd2 a (by omega)
    have hsh : ishlM .u64 1 (t : Int) = some (((2 ^ t : Nat) : Int)) := by
      unfold ishlM
      rw [if_neg (by omega), ishl_u (by omega)]
    have p2 : 2 ^ t < 2 ^ 64 := Nat.pow_lt_pow_right (by omega) (by omega)
    rw [idxM_nat hk2, some_bind, ha, ht, idx_sf (by omega), some_bind, hsh, some_bind, some_bind, m1, ior_u m2 p2, iadd1 (by omega), Int.toNat_natCast]
    refine .ret ⟨hk2, hk2, rfl, by simp [hd], fun b hb => ?_⟩
    have htk : ∀ q : T_api_Pair, q ∈ g.L.take (k + 1) ↔ q ∈ g.L.take k ∨ q = g.L[k] := fun q => by
      rw [List.take_add_one, List.getElem?_eq_getElem hk2]; simp only [Option.toList_some, List.mem_append, List.mem_singleton]
    simp only
    rw [sf_set (by omega)]
    by_cases e : a = b
    · subst e
      rw [if_pos rfl]
      refine ⟨_, rfl, or_lt m2 p2, fun j => ?_⟩
      rw [Nat.testBit_or, Bool.or_eq_true, m3, Nat.testBit_two_pow, decide_eq_true_iff]
      constructor
      · rintro (⟨p, hp, q1, q2⟩ | rfl)
        · exact ⟨p, (htk p).2 (.inl hp), q1, q2⟩
        · exact ⟨_, (htk _).2 (.inr rfl), ha, ht⟩
      · rintro ⟨p, hp, q1, q2⟩
        rcases (htk p).1 hp with hp | rfl
        · exact .inl ⟨p, hp, q1, q2⟩
        · exact .inr (by omega)
    · rw [if_neg e]
      obtain ⟨m', n1, n2, n3⟩ := hd2 b hb
      refine ⟨m', n1, n2, fun j => ?_⟩
      rw [n3]
      constructor
      · rintro ⟨p, hp, q1, q2⟩; exact ⟨p, (htk p).2 (.inl hp), q1, q2⟩
      · rintro ⟨p, hp, q1, q2⟩
        rcases (htk p).1 hp with hp | rfl
        · exact ⟨p, hp, q1, q2⟩
        · exact absurd (by omega) e
  · have e : k = g.L.length := by have := of_decide_eq_false c; omega
    subst e
    rw [List.take_length] at hd2
    exact .ret ⟨hd, hd2⟩

/-! ### attackers -/
def attsP (g : T_api_Graph) (i : Int) : List Int := (g.L.filter fun p => p.To == i).map (·.From)
theorem mem_attsP {g : T_api_Graph} {i j : Int} : j ∈ attsP g i ↔ att g j i := by
  unfold attsP att
  rw [List.mem_map]
  constructor
  · rintro ⟨p, hp, rfl⟩
    rw [List.mem_filter] at hp
    exact ⟨p, hp.1, rfl, eq_of_beq hp.2⟩
  · rintro ⟨p, hp, rfl, rfl⟩
    exact ⟨p, List.mem_filter.2 ⟨hp, by simp⟩, rfl⟩
theorem attsP_asc {g : T_api_Graph} (h : g.L.Pairwise plt) {i : Int} : (attsP g i).Pairwise (· < ·) := by
  unfold attsP
  rw [List.pairwise_map, List.pairwise_filter]
  refine h.imp fun {p q} hpq hp hq => ?_
  have := eq_of_beq hp; have := eq_of_beq hq
  unfold plt at hpq; omega
theorem asc_eq : ∀ {a b : List Int}, a.Pairwise (· < ·) → b.Pairwise (· < ·) → (∀ x, x ∈ a ↔ x ∈ b) → a = b
  | [], [], _, _, _ => rfl
  | [], y :: b, _, _, h => absurd ((h y).2 (by simp)) (by simp)
  | x :: a, [], _, _, h => absurd ((h x).1 (by simp)) (by simp)
  | x :: a, y :: b, ha, hb, h => by
    obtain ⟨a1, a2⟩ := List.pairwise_cons.1 ha
    obtain ⟨b1, b2⟩ := List.pairwise_cons.1 hb
    have e : x = y := by
      have h1 := (h x).1 (by simp)
      have h2 := (h y).2 (by simp)
      rcases List.mem_cons.1 h1 with h1 | h1
      · exact h1
      · rcases List.mem_cons.1 h2 with h2 | h2
        · exact h2.symm
        · have := b1 x h1; have := a1 y h2; omega
    subst e
    congr 1
    refine asc_eq a2 b2 fun z => ⟨fun hz => ?_, fun hz => ?_⟩
    · rcases List.mem_cons.1 ((h z).1 (List.mem_cons_of_mem _ hz)) with e | e
      · have := a1 z hz; omega
      · exact e
    · rcases List.mem_cons.1 ((h z).2 (List.mem_cons_of_mem _ hz)) with e | e
      · have := b1 z hz; omega
      · exact e

def swapP (p : T_api_Pair) : T_api_Pair := ⟨p.To, p.From⟩
theorem Reverse_plain {g : T_api_Graph} (h : GVal g) (hl : g.L.length ≤ 100000) : ∃ r, graph_Reverse_m g = some ⟨g.N, r⟩ ∧ r.Perm (g.L.map swapP) ∧ GVal ⟨g.N, r⟩ := by
  have hloop : loopC (graph_Reverse_l1 g) (0, []) = some (g.L.map swapP) := by
    refine T.eq (T.loopK g.L.length (fun k s => k ≤ g.L.length ∧ s.1 = (k : Int) ∧ s.2 = (g.L.take k).map swapP) ⟨by omega, rfl, by simp⟩ ?_)
    rintro k ⟨_, d⟩ ⟨hk, rfl, hd⟩
    dsimp only at hd
    subst hd
    dsimp only [graph_Reverse_l1]
    refine T.cond (fun c => ?_) fun c => ?_
    · have hk2 : k < g.L.length := by simpa using c
      rw [idxM_nat hk2, some_bind, appM_eq (by simp; omega), some_bind, iadd1 (by omega)]
      refine .ret ⟨hk2, hk2, rfl, ?_⟩
      rw [List.take_add_one, List.getElem?_eq_getElem hk2, Option.toList_some, List.map_append]; rfl
    · have e : k = g.L.length := by have : ¬ (k : Int) < g.L.length := of_decide_eq_false c; omega
      subst e
      exact .ret (by simp)
  obtain ⟨r, hr, hp, hs⟩ := sort_P (l := g.L.map swapP) (by simpa using hl)
  refine ⟨r, ?_, hp, h.n0, h.n1, fun p hp' => ?_, ?_⟩
  · unfold graph_Reverse_m graph_proper_m
    rw [gValidate_plain h (by omega), some_bind, show ((0 : Int) != 0) = false from rfl, cond_false, some_bind, hloop, some_bind, hr]; rfl
  · obtain ⟨q, hq, rfl⟩ := List.mem_map.1 (hp.mem_iff.1 hp')
    have := h.v q hq
    simp only [swapP]; omega
  · have hn : r.Nodup := hp.nodup_iff.2 (by
      unfold List.Nodup
      rw [List.pairwise_map]
      refine h.s.imp fun {p q} hpq e => ?_
      have e1 := congrArg T_api_Pair.From e; have e2 := congrArg T_api_Pair.To e
      simp only [swapP] at e1 e2
      unfold plt at hpq; omega)
    have := List.Pairwise.and hs hn
    exact this.imp fun {p q} ⟨h1, h2⟩ => h1.resolve_right h2

theorem gAttackers_plain {g : T_api_Graph} (h : GVal g) (hl : g.L.length ≤ 100000) {i : Nat} (hi : (i : Int) < g.N) : graph_Attackers_m g (i : Int) = some (attsP g i) := by
  obtain ⟨r, h1, h2, h3⟩ := Reverse_plain h hl
  have hrl : r.length ≤ 100000 := by rw [h2.length_eq, List.length_map]; exact hl
  obtain ⟨L, e1, e2, e3, e4⟩ := Attacked_plain h3 hrl (i := i) hi
  unfold graph_Attackers_m
  rw [h1, some_bind, e1, some_bind]
  congr 1
  refine asc_eq e3 (attsP_asc h.s) fun j => ?_
  rw [e2, mem_attsP]
  unfold att
  constructor
  · rintro ⟨p, hp, q1, q2⟩
    obtain ⟨q, hq, rfl⟩ := List.mem_map.1 (h2.mem_iff.1 hp)
    exact ⟨q, hq, q2, q1⟩
  · rintro ⟨p, hp, q1, q2⟩
    exact ⟨swapP p, h2.mem_iff.2 (List.mem_map.2 ⟨p, hp, rfl⟩), q2, q1⟩

end Go.Dc

/-! Loops that fold over a list. -/
namespace Go.Dc
variable {α β ρ : Type}

/-- for _, x := range l: the state beside the index -/
theorem fold_loop {l : List α} {f : β × Int → Option (Sum ρ (β × Int))} (g : β → α → β) (fin : β → ρ) (I : β → Prop) {b0 : β} (h0 : I b0)
    (h : ∀ b i (hi : i < l.length), I b → f (b, (i : Int)) = some (.inr (g b l[i], ((i + 1 : Nat) : Int))) ∧ I (g b l[i])) (he : ∀ b, I b → f (b, (l.length : Int)) = some (.inl (fin b))) :
    loopC f (b0, 0) = some (fin (l.foldl g b0)) ∧ I (l.foldl g b0) := by
  suffices hh : ∀ m i b, l.length - i ≤ m → i ≤ l.length → I b → loopC f (b, (i : Int)) = some (fin ((l.drop i).foldl g b)) ∧ I ((l.drop i).foldl g b) by
    simpa using hh _ 0 b0 (Nat.le_refl _) (Nat.zero_le _) h0
  intro m
  induction m with
  | zero =>
    intro i b h1 h2 hb
    have e : i = l.length := by omega
    subst e
    rw [loopC_eq, he b hb, List.drop_length]; exact ⟨rfl, hb⟩
  | succ m ih =>
    intro i b h1 h2 hb
    by_cases e : i = l.length
    · subst e; rw [loopC_eq, he b hb, List.drop_length]; exact ⟨rfl, hb⟩
    · have hi : i < l.length := by omega
      obtain ⟨h3, h4⟩ := h b i hi hb
      rw [loopC_eq, h3, List.drop_eq_getElem_cons hi, List.foldl_cons]
      exact ih (i + 1) (g b l[i]) (by omega) (by omega) h4

/-- numbers of Nat as numbers -/
abbrev il (l : List Nat) : List Int := l.map fun x : Nat => (x : Int)
theorem il_idx {l : List Nat} {i : Nat} (h : i < l.length) : idxM (il l) (i : Int) = some ((l.getD i 0 : Nat) : Int) := by
  rw [idxM_nat (by simpa using h)]; simp [List.getD, h]
theorem il_set {l : List Nat} {i : Nat} {x : Nat} : (il l).set i (x : Int) = il (l.set i x) := by simp [il, List.map_set]
theorem il_len {l : List Nat} : (il l).length = l.length := by simp
theorem il_mem {l : List Nat} {x : Int} : x ∈ il l ↔ ∃ n ∈ l, x = (n : Int) := by
  simp [il]; constructor
  · rintro ⟨n, h, e⟩; exact ⟨n, h, e.symm⟩
  · rintro ⟨n, h, e⟩; exact ⟨n, h, e.symm⟩

/-! ### unions of bits over a list -/
def orL (g : Nat → Nat) (l : List Nat) : Nat := l.foldl (fun a i => a ||| g i) 0
theorem orL_from {g : Nat → Nat} {l : List Nat} {a j : Nat} : (l.foldl (fun a i => a ||| g i) a).testBit j = (a.testBit j || l.any fun i => (g i).testBit j) := by
  induction l generalizing a with
  | nil => simp
  | cons x l ih => rw [List.foldl_cons, ih, Nat.testBit_or, List.any_cons, Bool.or_assoc]
theorem orL_bit {g : Nat → Nat} {l : List Nat} {j : Nat} : (orL g l).testBit j = true ↔ ∃ i ∈ l, (g i).testBit j = true := by
  unfold orL
  rw [orL_from]; simp
theorem lt_of_bits {a n : Nat} (h : ∀ j, a.testBit j = true → j < n) : a < 2 ^ n := Nat.lt_pow_two_of_testBit a fun j hj => by
  cases hb : a.testBit j
  · rfl
  · have := h j hb; omega
theorem lt64 {a n : Nat} (ha : a < 2 ^ n) (hn : n ≤ 64) : a < 2 ^ 64 := Nat.lt_of_lt_of_le ha (Nat.pow_le_pow_right (by decide) hn)

/-! ### subsets, downward -/
def SubB (a b : Nat) : Prop := ∀ i, a.testBit i = true → b.testBit i = true
theorem SubB.refl (a : Nat) : SubB a a := fun _ h => h
theorem SubB.and {a b : Nat} : SubB (a &&& b) b := fun i h => by rw [Nat.testBit_and, Bool.and_eq_true] at h; exact h.2
theorem SubB.trans {a b c : Nat} (h : SubB a b) (k : SubB b c) : SubB a c := fun i hi => k i (h i hi)
theorem SubB.zero {a : Nat} : SubB 0 a := fun i h => by simp at h

end Go.Dc

/-! Small graphs as sets of bits. -/
namespace Go.Dc

theorem nWith_plain {s n : Nat} (hs : s < 2 ^ 64) (hn : n < 64) : network_Set_With_m (s : Int) (n : Int) = some ((s ||| 2 ^ n : Nat) : Int) := by
  unfold network_Set_With_m ishlM
  rw [wrapU (by omega), if_neg (by omega), some_bind, ishl_u hn, ior_u hs (Nat.pow_lt_pow_right (by decide) hn)]

theorem Has_plain {s n : Nat} (hs : s < 2 ^ 64) (hn : n < 64) : network_Set_Has_m (s : Int) (n : Int) = some (s.testBit n) := by
  unfold network_Set_Has_m ishrM
  rw [wrapU (by omega), if_neg (by omega), some_bind, ishr_u (by omega)]
  have h1 : s >>> n < 2 ^ 64 := Nat.lt_of_le_of_lt (Nat.shiftRight_le _ _) hs
  have h2 := iand_u (a := s >>> n) (b := 1) h1 (by decide)
  rw [show ((1 : Nat) : Int) = 1 from rfl] at h2
  rw [h2]
  congr 1
  rw [Bool.eq_iff_iff]
  simp only [beq_iff_eq, Nat.testBit, bne_iff_ne]
  have : s >>> n &&& 1 = (s >>> n) % 2 := Nat.and_one_is_mod _
  rw [Nat.and_comm 1, this]
  omega

theorem List_plain {s : Nat} (hs : s < 2 ^ 64) : network_Set_List_m (s : Int) = some (il (bitsL s)) := by
  rw [show network_Set_List_m = graph_list_m from rfl]; exact list_plain hs

/-- the set of a list -/
def setOf (l : List Nat) : Nat := orL (fun i => 2 ^ i) l
theorem setOf_bit {l : List Nat} {j : Nat} : (setOf l).testBit j = true ↔ j ∈ l := by
  unfold setOf
  rw [orL_bit]
  constructor
  · rintro ⟨i, hi, hb⟩; rw [Nat.testBit_two_pow] at hb; have : i = j := by simpa using hb
    rw [← this]; exact hi
  · intro h; exact ⟨j, h, by rw [Nat.testBit_two_pow]; simp⟩
/-! ### nets -/
structure Nt where
  all : Nat
  by_ : List Nat
  out : List Nat
def Nt.t (n : Nt) : T_network_Net := ⟨(n.all : Int), il n.by_, il n.out⟩
def Nt.a (n : Nt) (i j : Nat) : Prop := (n.out.getD i 0).testBit j = true

structure NtOk (N : Nat) (n : Nt) : Prop where
  hN : N ≤ 40
  lb : n.by_.length = N
  lo : n.out.length = N
  al : ∀ i, n.all.testBit i = true → i < N
  ab : ∀ i j, n.a i j → n.all.testBit i = true ∧ n.all.testBit j = true
  sy : ∀ i j, (n.by_.getD j 0).testBit i = true ↔ n.a i j

section
variable {N : Nat} {n : Nt} (h : NtOk N n)
include h
theorem NtOk.allLt : n.all < 2 ^ 64 := lt64 (lt_of_bits h.al) (by have := h.hN; omega)
theorem NtOk.sub {s : Nat} (hs : SubB s n.all) : s < 2 ^ 64 := lt64 (lt_of_bits fun j hj => h.al j (hs j hj)) (by have := h.hN; omega)
theorem NtOk.outLt (i : Nat) : n.out.getD i 0 < 2 ^ 64 := lt64 (lt_of_bits fun j hj => h.al j (h.ab i j hj).2) (by have := h.hN; omega)
theorem NtOk.byLt (i : Nat) : n.by_.getD i 0 < 2 ^ 64 := lt64 (lt_of_bits fun j hj => h.al j (h.ab j i ((h.sy j i).1 hj)).1) (by have := h.hN; omega)
end

def hit (n : Nt) (s : Nat) : Nat := orL (fun i => n.out.getD i 0) (bitsL s)
def atk (n : Nt) (s : Nat) : Nat := orL (fun i => n.by_.getD i 0) (bitsL s)

section
variable {N : Nat} {n : Nt} (h : NtOk N n) {s : Nat} (hs : SubB s n.all)
include h hs
theorem hit_bit {j : Nat} : (hit n s).testBit j = true ↔ ∃ i, s.testBit i = true ∧ n.a i j := by
  unfold hit
  rw [orL_bit]
  exact ⟨fun ⟨i, h1, h2⟩ => ⟨i, (mem_bitsL (h.sub hs)).1 h1, h2⟩, fun ⟨i, h1, h2⟩ => ⟨i, (mem_bitsL (h.sub hs)).2 h1, h2⟩⟩
theorem or_loop {f : Int × Int → Option (Sum Int (Int × Int))} {L : List Nat} {g : Nat → Nat} (hg : ∀ i, g i < 2 ^ 64)
    (hf : ∀ (a i : Nat) (hi : i < L.length), a < 2 ^ 64 → f ((a : Int), (i : Int)) = some (.inr (((a ||| g L[i] : Nat) : Int), ((i + 1 : Nat) : Int)))) (he : ∀ a : Nat, f ((a : Int), (L.length : Int)) = some (.inl (a : Int))) :
    loopC f (0, 0) = some ((orL g L : Nat) : Int) := by
  have := (fold_loop (l := L) (f := f) (b0 := ((0 : Nat) : Int)) (fun (b : Int) (i : Nat) => ((b.toNat ||| g i : Nat) : Int)) (fun b : Int => b) (fun b => ∃ n : Nat, b = (n : Int) ∧ n < 2 ^ 64) ⟨0, rfl, by decide⟩ ?_ ?_)
  · refine (show loopC f (0, 0) = _ from this.1).trans ?_
    congr 1
    have hh : ∀ (l : List Nat) (a : Nat), l.foldl (fun (b : Int) (i : Nat) => ((b.toNat ||| g i : Nat) : Int)) (a : Int) = ((l.foldl (fun a i => a ||| g i) a : Nat) : Int) := by
      intro l
      induction l with
      | nil => intro a; rfl
      | cons x l ih => intro a; rw [List.foldl_cons, List.foldl_cons, Int.toNat_natCast, ih]
    exact hh L 0
  · rintro b i hi ⟨n, rfl, hn⟩
    rw [hf n i hi hn, Int.toNat_natCast]
    exact ⟨rfl, _, rfl, or_lt hn (hg _)⟩
  · rintro b ⟨n, rfl, hn⟩
    exact he n

theorem Hit_plain : network_Net_Hit_m n.t (s : Int) = some ((hit n s : Nat) : Int) := by
  unfold network_Net_Hit_m
  rw [List_plain (h.sub hs), some_bind]
  have hb := bitsL_len (s := s)
  rw [or_loop h hs (L := bitsL s) (g := fun i => n.out.getD i 0) (fun i => h.outLt i) (fun a i hi ha => ?_) (fun a => ?_)]
  · rfl
  · unfold network_Net_Hit_l1
    have hx : (bitsL s)[i] < N := h.al _ (hs _ ((mem_bitsL (h.sub hs)).1 (List.getElem_mem hi)))
    rw [show decide ((i : Int) < ((il (bitsL s)).length : Int)) = true from decide_eq_true (by simp; omega)]
    simp only [cond_true]
    rw [il_idx hi, some_bind, show (bitsL s).getD i 0 = (bitsL s)[i] by simp [List.getD, hi]]
    rw [show n.t.Out = il n.out from rfl, il_idx (by rw [h.lo]; exact hx), some_bind, ior_u ha (h.outLt _), iadd1 (by omega)]
  · unfold network_Net_Hit_l1
    rw [show decide (((bitsL s).length : Int) < ((il (bitsL s)).length : Int)) = false from decide_eq_false (by simp)]; rfl

end

/-! what the sets are -/
def FreeP (n : Nt) (s : Nat) : Prop := ∀ i j, s.testBit i = true → s.testBit j = true → ¬ n.a i j
def AdmP (n : Nt) (s : Nat) : Prop := FreeP n s ∧ ∀ i j, s.testBit j = true → n.a i j → ∃ k, s.testBit k = true ∧ n.a k i
def StbP (n : Nt) (s : Nat) : Prop := FreeP n s ∧ ∀ i, n.all.testBit i = true → s.testBit i = false → ∃ k, s.testBit k = true ∧ n.a k i

section
open Classical
variable {N : Nat} {n : Nt} (h : NtOk N n) {s : Nat} (hs : SubB s n.all)
include h hs
end
end Go.Dc

/-! The grounded set, and the answers to questions. -/
namespace Go.Dc

theorem SubB.le {a b : Nat} (h : SubB a b) : a ≤ b := by
  have : a = a &&& b := eq_of_bits fun i => by
    rw [Nat.testBit_and]
    cases ha : a.testBit i
    · rfl
    · rw [h i ha]; rfl
  rw [this]; exact Nat.and_le_right

/-- the attackers of i are attacked by s -/
def DefP (n : Nt) (s i : Nat) : Prop := ∀ k, n.a k i → ∃ m, s.testBit m = true ∧ n.a m k
def ClsP (n : Nt) (s : Nat) : Prop := ∀ i, n.all.testBit i = true → DefP n s i → s.testBit i = true
structure GrdN (n : Nt) (G : Nat) : Prop where
  sub : SubB G n.all
  adm : AdmP n G
  cls : ClsP n G
  least : ∀ S, ClsP n S → SubB G S
def growF (n : Nt) (s a i : Nat) : Nat := if andn (n.by_.getD i 0) (hit n s) = 0 then a ||| 2 ^ i else a
def grow (n : Nt) (s : Nat) : Nat := (bitsL n.all).foldl (growF n s) s

section
variable {N : Nat} {n : Nt} (h : NtOk N n) {s : Nat} (hs : SubB s n.all)
include h hs
theorem def_iff {i : Nat} : andn (n.by_.getD i 0) (hit n s) = 0 ↔ DefP n s i := by
  rw [zero_bits]
  constructor
  · intro h0 k hk
    have h1 := h0 k
    rw [andn_bit (h.byLt i), (h.sy k i).2 hk] at h1
    exact (hit_bit h hs).1 (by simpa using h1)
  · intro hd k
    rw [andn_bit (h.byLt i)]
    cases h1 : (n.by_.getD i 0).testBit k
    · rfl
    · rw [(hit_bit h hs).2 (hd k ((h.sy k i).1 h1))]; rfl

theorem grow_from {l : List Nat} {a j : Nat} : (l.foldl (growF n s) a).testBit j = true ↔ a.testBit j = true ∨ (j ∈ l ∧ DefP n s j) := by
  induction l generalizing a with
  | nil => simp
  | cons x l ih =>
    rw [List.foldl_cons, ih]
    unfold growF
    by_cases hd : DefP n s x
    · rw [if_pos ((def_iff h hs).2 hd), Nat.testBit_or, Nat.testBit_two_pow]
      by_cases e : x = j
      · subst e; simp [hd]
      · have e2 : ¬ j = x := fun h => e h.symm
        simp [e, e2]
    · rw [if_neg (fun h0 => hd ((def_iff h hs).1 h0))]
      constructor
      · rintro (h1 | ⟨h1, h2⟩)
        · exact .inl h1
        · exact .inr ⟨by simp [h1], h2⟩
      · rintro (h1 | ⟨h1, h2⟩)
        · exact .inl h1
        · rcases List.mem_cons.1 h1 with e | e
          · subst e; exact absurd h2 hd
          · exact .inr ⟨e, h2⟩

theorem grow_bit {j : Nat} : (grow n s).testBit j = true ↔ s.testBit j = true ∨ (n.all.testBit j = true ∧ DefP n s j) := by
  unfold grow
  rw [grow_from h hs, mem_bitsL h.allLt]
theorem grow_sub : SubB (grow n s) n.all := fun j hj => by
  rcases (grow_bit h hs).1 hj with h1 | h1
  · exact hs j h1
  · exact h1.1
theorem grow_up : SubB s (grow n s) := fun j hj => (grow_bit h hs).2 (.inl hj)

theorem grow_loop : loopC (network_Net_Grounded_l1 n.t ((hit n s : Nat) : Int) (il (bitsL n.all))) ((s : Int), 0) = some ((grow n s : Nat) : Int) := by
  have hb := bitsL_len (s := n.all)
  have := (fold_loop (l := bitsL n.all) (f := network_Net_Grounded_l1 n.t ((hit n s : Nat) : Int) (il (bitsL n.all))) (b0 := ((s : Nat) : Int)) (fun (b : Int) (i : Nat) => ((growF n s b.toNat i : Nat) : Int)) (fun b : Int => b) (fun b => ∃ m : Nat, b = (m : Int) ∧ m < 2 ^ 64) ⟨s, rfl, h.sub hs⟩ ?_ ?_)
  · rw [this.1]
    congr 1
    have hh : ∀ (l : List Nat) (a : Nat), l.foldl (fun (b : Int) (i : Nat) => ((growF n s b.toNat i : Nat) : Int)) (a : Int) = ((l.foldl (growF n s) a : Nat) : Int) := by
      intro l
      induction l with
      | nil => intro a; rfl
      | cons x l ih => intro a; rw [List.foldl_cons, List.foldl_cons, Int.toNat_natCast, ih]
    exact hh _ s
  · rintro b i hi ⟨m, rfl, hm⟩
    have hx : (bitsL n.all)[i] < N := h.al _ ((mem_bitsL h.allLt).1 (List.getElem_mem hi))
    have hN := h.hN
    unfold network_Net_Grounded_l1
    rw [show decide ((i : Int) < ((il (bitsL n.all)).length : Int)) = true from decide_eq_true (by simp; omega)]
    simp only [cond_true]
    rw [il_idx hi, some_bind, show (bitsL n.all).getD i 0 = (bitsL n.all)[i] by simp [List.getD, hi], show n.t.By = il n.by_ from rfl, il_idx (by rw [h.lb]; exact hx), some_bind, iandn_u, Int.toNat_natCast, iadd1 (by omega)]
    unfold growF
    by_cases h0 : andn (n.by_.getD (bitsL n.all)[i] 0) (hit n s) = 0
    · rw [h0, show (((0 : Nat) : Int) == 0) = true from rfl, if_pos rfl, cond_true, nWith_plain hm (by omega), some_bind]
      exact ⟨rfl, _, rfl, or_lt hm (Nat.pow_lt_pow_right (by decide) (by omega))⟩
    · rw [show (((andn (n.by_.getD (bitsL n.all)[i] 0) (hit n s) : Nat) : Int) == 0) = false from by simpa using h0, if_neg h0]
      exact ⟨rfl, _, rfl, hm⟩
  · rintro b ⟨m, rfl, hm⟩
    unfold network_Net_Grounded_l1
    rw [show decide (((bitsL n.all).length : Int) < ((il (bitsL n.all)).length : Int)) = false from decide_eq_false (by simp)]; rfl

theorem grow_adm (ha : AdmP n s) : AdmP n (grow n s) := by
  have hd : ∀ j, (grow n s).testBit j = true → DefP n s j := fun j hj => by
    rcases (grow_bit h hs).1 hj with h1 | h1
    · exact fun k hk => ha.2 k j h1 hk
    · exact h1.2
  refine ⟨fun i j hi hj hij => ?_, fun i j hj hij => ?_⟩
  · obtain ⟨m, hm, hmi⟩ := hd j hj i hij
    obtain ⟨m', hm', hmm⟩ := hd i hi m hmi
    exact ha.1 m' m hm' hm hmm
  · obtain ⟨m, hm, hmi⟩ := hd j hj i hij
    exact ⟨m, grow_up h hs m hm, hmi⟩
end

section
variable {N : Nat} {n : Nt} (h : NtOk N n)
include h
theorem zero_adm : AdmP n 0 := ⟨fun i j hi => by simp at hi, fun i j hj => by simp at hj⟩

def RndOk (n : Nt) (G : Nat) (r : List Int) : Prop := r.length ≤ G ∧ (r = [] ∧ G = 0 ∨ ∃ q, r = q ++ [(G : Int)])

theorem Grounded_plain : T (network_Net_Grounded_m n.t) fun r => ∃ G, GrdN n G ∧ RndOk n G r := by
  unfold network_Net_Grounded_m
  refine T.bind (P := fun r => ∃ G, GrdN n G ∧ RndOk n G r) ?_ fun r hr => .ret hr
  have hN := h.hN
  have hal : n.all < 2 ^ 40 := lt_of_bits fun j hj => by have := h.al j hj; omega
  refine T.loopM (fun s => ∃ G : Nat, s.1 = (G : Int) ∧ SubB G n.all ∧ AdmP n G ∧ (∀ S, ClsP n S → SubB G S) ∧ RndOk n G s.2) (fun s => 2 ^ 64 - s.1.toNat) ⟨0, rfl, SubB.zero, zero_adm h, fun _ _ => SubB.zero, by simp [RndOk]⟩ ?_
  rintro ⟨_, r⟩ ⟨G, rfl, hs, ha, hl, hr⟩
  dsimp only [network_Net_Grounded_l2] at *
  rw [Hit_plain h hs, some_bind, show n.t.All = (n.all : Int) from rfl, List_plain h.allLt, some_bind, grow_loop h hs, some_bind]
  refine T.cond (fun g => .ret ?_) fun g => ?_
  · have g' : grow n G = G := by have := eq_of_beq g; omega
    exact ⟨G, ⟨hs, ha, fun i hi hd => by rw [← g']; exact (grow_bit h hs).2 (.inr ⟨hi, hd⟩), hl⟩, hr⟩
  · have g' : grow n G ≠ G := fun e => by rw [e] at g; simp at g
    have hle := (grow_up h hs).le
    have hlt := (grow_sub h hs).le
    have hr1 := hr.1
    rw [appM_eq (by simp; omega), some_bind]
    refine .ret ⟨⟨grow n G, rfl, grow_sub h hs, grow_adm h hs ha, fun S hS j hj => ?_, ?_, .inr ⟨r, rfl⟩⟩, ?_⟩
    · rcases (grow_bit h hs).1 hj with h1 | h1
      · exact hl S hS j h1
      · exact hS j h1.1 fun k hk => by obtain ⟨m, hm, hmk⟩ := h1.2 k hk; exact ⟨m, hl S hS m hm, hmk⟩
    · simp; omega
    · simp only [Int.toNat_natCast]; omega

theorem In_plain' : ∃ G, GrdN n G ∧ network_Net_In_m n.t = some (G : Int) := by
  obtain ⟨r, h1, G, hG, hlen, hr⟩ := Grounded_plain h
  refine ⟨G, hG, ?_⟩
  have hN := h.hN
  have hal : n.all < 2 ^ 40 := lt_of_bits fun j hj => by have := h.al j hj; omega
  have hle := hG.sub.le
  unfold network_Net_In_m
  rw [h1, some_bind]
  rcases hr with ⟨rfl, rfl⟩ | ⟨q, rfl⟩
  · rfl
  · have hl : (q ++ [(G : Int)]).length = q.length + 1 := by simp
    rw [hl] at hlen ⊢
    rw [show ((((q.length + 1 : Nat) : Int)) == 0) = false by simp; omega, isub1 (by omega), show (((q.length + 1 : Nat) : Int) - 1) = (q.length : Int) by omega, idxM_nat (by simp)]
    simp
end

/-- the grounded set -/
noncomputable def grd (n : Nt) : Nat := ((network_Net_In_m n.t).getD 0).toNat
theorem In_plain2 {N : Nat} {n : Nt} (h : NtOk N n) : network_Net_In_m n.t = some ((grd n : Nat) : Int) ∧ GrdN n (grd n) := by
  obtain ⟨G, hG, e⟩ := In_plain' h
  have : grd n = G := by unfold grd; rw [e]; rfl
  rw [this]; exact ⟨e, hG⟩

/-! ### questions -/
open Classical in
/-- does a set speak for the answer that is not expected? -/
noncomputable def fitB (n : Nt) (q : Int) (s : Nat) : Bool := if q = 1 then decide (AdmP n s) else decide (StbP n s)

def ansP (n : Nt) (q : Int) (node : Nat) : Prop :=
  if q = 4 then (grd n).testBit node = true
  else if q = 1 then ∃ y, SubB y n.all ∧ AdmP n y ∧ y.testBit node = true
  else if q = 3 then ∀ y, SubB y n.all → StbP n y → y.testBit node = true
  else ∃ y, SubB y n.all ∧ StbP n y ∧ y.testBit node = true

end Go.Dc

/-! The net of a graph, and of a world. -/
namespace Go.Dc
abbrev Pr := T_api_Pair

/-- the attacks of a list -/
def atL (l : List Pr) (i j : Nat) : Prop := ∃ p ∈ l, p.From = (i : Int) ∧ p.To = (j : Int)

theorem getD_setN {l : List Nat} {i j x : Nat} (h : i < l.length) : (l.set i x).getD j 0 = if i = j then x else l.getD j 0 := getD_set h

theorem New_plain2 {N : Nat} {l : List Pr} (hN : N ≤ 40) (hv : ∀ p ∈ l, 0 ≤ p.From ∧ p.From < N ∧ 0 ≤ p.To ∧ p.To < N) (hl : l.length ≤ 1000000) :
    T (network_New_m ⟨(N : Int), l⟩) fun t => ∃ n : Nt, t = n.t ∧ NtOk N n ∧ (∀ i, n.all.testBit i = true ↔ i < N) ∧ ∀ i j, n.a i j ↔ atL l i j := by
  unfold network_New_m
  have hmk : mkM 8 (0 : Int) (N : Int) = some (List.replicate N 0) := mkM_T (by omega)
  simp only [joinM_eq, hmk, some_bind, meetO_self]
  rw [show List.replicate N (0 : Int) = il (List.replicate N 0) by simp [il]]
  refine T.bind (P := fun q : Int => ∃ a : Nat, q = (a : Int) ∧ ∀ i, a.testBit i = true ↔ i < N) ?_ ?_
  · refine T.loopK N (fun k s => k ≤ N ∧ s.1 = (k : Int) ∧ ∃ a : Nat, s.2 = (a : Int) ∧ ∀ i, a.testBit i = true ↔ i < k) ⟨by omega, rfl, 0, rfl, fun i => by simp⟩ ?_
    rintro k ⟨_, _⟩ ⟨hk, rfl, a, rfl, ha⟩
    dsimp only [network_New_l1] at *
    refine T.cond (fun g => ?_) fun g => ?_
    · simp at g
      have ha64 : a < 2 ^ 64 := lt64 (n := 40) (lt_of_bits fun j hj => by have := (ha j).1 hj; omega) (by omega)
      rw [nWith_plain ha64 (by omega), some_bind, iadd1 (by omega)]
      refine .ret ⟨g, by omega, rfl, _, rfl, fun i => ?_⟩
      rw [Nat.testBit_or, Nat.testBit_two_pow]
      simp only [Bool.or_eq_true, ha i, decide_eq_true_eq]; omega
    · simp at g
      have e : k = N := by omega
      exact .ret ⟨a, rfl, e ▸ ha⟩
  · rintro _ ⟨al, rfl, hal⟩
    refine T.bind (P := fun q : List Int × List Int => ∃ b o : List Nat, q = (il b, il o) ∧ b.length = N ∧ o.length = N ∧ (∀ i j, (b.getD j 0).testBit i = true ↔ atL l i j) ∧ ∀ i j, (o.getD i 0).testBit j = true ↔ atL l i j) ?_ ?_
    · refine T.loopK l.length (fun k s => k ≤ l.length ∧ s.1 = (k : Int) ∧ ∃ b o : List Nat, s.2 = (il b, il o) ∧ b.length = N ∧ o.length = N ∧ (∀ i j, (b.getD j 0).testBit i = true ↔ atL (l.take k) i j) ∧ ∀ i j, (o.getD i 0).testBit j = true ↔ atL (l.take k) i j)
        ⟨by omega, rfl, List.replicate N 0, List.replicate N 0, rfl, by simp, by simp, fun i j => by rw [getD_rep]; simp [atL], fun i j => by rw [getD_rep]; simp [atL]⟩ ?_
      rintro k ⟨_, _, _⟩ ⟨hk, rfl, b, o, he, hb, ho, hb2, ho2⟩
      cases he
      dsimp only [network_New_l2] at *
      refine T.cond (fun g => ?_) fun g => ?_
      · simp at g
        have hp := hv _ (List.getElem_mem g)
        have htk : l.take (k + 1) = l.take k ++ [l[k]] := by rw [List.take_add_one, List.getElem?_eq_getElem g]; rfl
        rw [idxM_nat g, some_bind]
        generalize hgp : l[k] = p at *
        obtain ⟨F, hF⟩ := Int.eq_ofNat_of_zero_le hp.1
        obtain ⟨U, hU⟩ := Int.eq_ofNat_of_zero_le hp.2.2.1
        have hFN : F < N := by have := hp.2.1; rw [hF] at this; omega
        have hUN : U < N := by have := hp.2.2.2; rw [hU] at this; omega
        have atk : ∀ i j, atL (l.take (k + 1)) i j ↔ atL (l.take k) i j ∨ i = F ∧ j = U := fun i j => by
          unfold atL
          rw [htk]
          constructor
          · rintro ⟨q, hq, h1, h2⟩
            rcases List.mem_append.1 hq with hq | hq
            · exact .inl ⟨q, hq, h1, h2⟩
            · rw [List.mem_singleton.1 hq] at h1 h2; rw [hF] at h1; rw [hU] at h2; exact .inr ⟨by omega, by omega⟩
          · rintro (⟨q, hq, h1, h2⟩ | ⟨rfl, rfl⟩)
            · exact ⟨q, List.mem_append_left _ hq, h1, h2⟩
            · exact ⟨p, List.mem_append_right _ (by simp), hF, hU⟩
        have lb : ∀ j, b.getD j 0 < 2 ^ 64 := fun j => lt64 (n := 40) (lt_of_bits fun i hi => by
          obtain ⟨q, hq, h1, h2⟩ := (hb2 i j).1 hi
          have := hv q (List.mem_of_mem_take hq); omega) (by omega)
        have lo : ∀ i, o.getD i 0 < 2 ^ 64 := fun i => lt64 (n := 40) (lt_of_bits fun j hj => by
          obtain ⟨q, hq, h1, h2⟩ := (ho2 i j).1 hj
          have := hv q (List.mem_of_mem_take hq); omega) (by omega)
        rw [hF, hU]
        simp only [Int.toNat_natCast]
        rw [il_idx (by omega), some_bind, nWith_plain (lb U) (by omega), some_bind, some_bind, il_idx (by omega), some_bind, nWith_plain (lo F) (by omega), some_bind, some_bind, il_set, il_set, iadd1 (by omega)]
        refine .ret ⟨g, by omega, rfl, _, _, rfl, by simpa using hb, by simpa using ho, fun i j => ?_, fun i j => ?_⟩
        · rw [getD_setN (by omega), atk]
          by_cases e : U = j
          · subst e
            rw [if_pos rfl, Nat.testBit_or, Nat.testBit_two_pow, Bool.or_eq_true, hb2, decide_eq_true_eq]
            simp [eq_comm]
          · rw [if_neg e, hb2]
            simp [show ¬ j = U from fun h => e h.symm]
        · rw [getD_setN (by omega), atk]
          by_cases e : F = i
          · subst e
            rw [if_pos rfl, Nat.testBit_or, Nat.testBit_two_pow, Bool.or_eq_true, ho2, decide_eq_true_eq]
            simp [eq_comm]
          · rw [if_neg e, ho2]
            simp [show ¬ i = F from fun h => e h.symm]
      · simp at g
        have e : k = l.length := by omega
        rw [e, List.take_length] at hb2 ho2
        exact .ret ⟨b, o, rfl, hb, ho, hb2, ho2⟩
    · rintro _ ⟨b, o, rfl, hb, ho, hb2, ho2⟩
      refine .ret ⟨⟨al, b, o⟩, rfl, ⟨hN, hb, ho, fun i hi => (hal i).1 hi, fun i j hij => ?_, fun i j => ?_⟩, hal, fun i j => ho2 i j⟩
      · obtain ⟨p, hp, h1, h2⟩ := (ho2 i j).1 hij
        have := hv p hp
        exact ⟨(hal i).2 (by omega), (hal j).2 (by omega)⟩
      · exact (hb2 i j).trans (ho2 i j).symm

end Go.Dc

/-! Clauses that are valid. -/
namespace Go.Dc
section
variable {α β ρ R : Type}
end

/-- an element of a clause over n variables -/
def inR (n x : Int) : Bool := x != 0 && decide (-n ≤ x) && decide (x ≤ n)
abbrev Asc (c : List Int) : Prop := c.Pairwise fun x y => x.natAbs < y.natAbs
/-- what is wrong with a clause -/
def clauseP (n : Int) (c : List Int) : Int := if 50 < c.length then 2 else if c.all (inR n) = true then if Asc c then 0 else 8 else 1
structure COk (n : Int) (c : List Int) : Prop where
  len : c.length ≤ 50
  rng : ∀ x ∈ c, x ≠ 0 ∧ -n ≤ x ∧ x ≤ n
  asc : Asc c
/-- what is wrong with clauses -/
def ValidP (n : Int) (l : List (List Int)) : Int := if n < 0 ∨ 200 < n then 1 else if 4000 < l.length then 2 else (l.findSome? fun c => if clauseP n c = 0 then none else some (clauseP n c)).getD 0
structure VOk (n : Int) (l : List (List Int)) : Prop where
  n0 : 0 ≤ n
  n1 : n ≤ 200
  len : l.length ≤ 4000
  cl : ∀ c ∈ l, COk n c
end Go.Dc

/-! The clauses of a question. -/
namespace Go.Dc
open Go.Proofs Go.Sort

theorem asc_bound {l : List Int} : ∀ {lo n : Int}, lo ≤ n → l.Pairwise (· < ·) → (∀ x ∈ l, lo ≤ x ∧ x < n) → (l.length : Int) ≤ n - lo := by
  induction l with
  | nil => intro lo n h _ _; simp; omega
  | cons x l ih =>
    intro lo n h hp hx
    have h1 := hx x (by simp)
    obtain ⟨h2, h3⟩ := List.pairwise_cons.1 hp
    have := ih (lo := x + 1) (n := n) (by omega) h3 fun y hy => ⟨by have := h2 y hy; omega, (hx y (by simp [hy])).2⟩
    simp; omega
theorem attsP_rng {g : T_api_Graph} (h : GVal g) {i : Int} : ∀ a ∈ attsP g i, 0 ≤ a ∧ a < g.N := fun a ha => by
  obtain ⟨p, hp, rfl, _⟩ := mem_attsP.1 ha
  have := h.v p hp; omega
theorem attsP_len {g : T_api_Graph} (h : GVal g) {i : Int} : (attsP g i).length ≤ 40 := by
  have := asc_bound (lo := 0) (n := g.N) h.n0 (attsP_asc h.s (i := i)) (attsP_rng h)
  have := h.n1; omega

def c2 (x y : Int) : List Int := [x, y]
/-- the clauses of a node -/
def nodeC (g : T_api_Graph) (i : Int) (st : Bool) : List (List Int) :=
  [[-(i + 1), -(g.N + i + 1)]] ++ (attsP g i).map (fun a => [-(i + 1), g.N + a + 1]) ++ [(i + 1) :: (attsP g i).map (fun a => -(g.N + a + 1))] ++
    (attsP g i).map (fun a => [-(a + 1), g.N + i + 1]) ++ [(attsP g i).map (fun a => a + 1) ++ [-(g.N + i + 1)]] ++ (if st then [[i + 1, g.N + i + 1]] else [])
theorem nodeC_len {g : T_api_Graph} (h : GVal g) {i : Int} {st : Bool} : (nodeC g i st).length ≤ 84 := by
  have := attsP_len h (i := i)
  unfold nodeC
  cases st <;> simp <;> omega
theorem nodeC_small {g : T_api_Graph} (h : GVal g) {i : Int} {st : Bool} : ∀ c ∈ nodeC g i st, c.length ≤ 41 := fun c hc => by
  have := attsP_len h (i := i)
  unfold nodeC at hc
  simp only [List.mem_append, List.mem_singleton, List.mem_map] at hc
  rcases hc with ((((rfl | ⟨a, _, rfl⟩) | rfl) | ⟨a, _, rfl⟩) | rfl) | hc
  · simp
  · simp
  · simp; omega
  · simp
  · simp; omega
  · cases st <;> simp at hc; subst hc; simp

section
variable {g : T_api_Graph} (h : GVal g) {i : Nat} (hi : (i : Int) < g.N) {l : List (List Int)} (hl : l.length ≤ 500000)
include h hi hl

end
end Go.Dc

/-! Encode and its reference are one. -/
namespace Go.Dc
open Go.Proofs Go.Sort

/-- the clauses of a question -/
def nodesC (g : T_api_Graph) (q : Int) (k : Nat) : List (List Int) := (List.range k).flatMap fun i : Nat => nodeC g (i : Int) (q != 1)
def encP (g : T_api_Graph) (q n : Int) : List (List Int) := nodesC g q g.N.toNat ++ [[if q = 3 then -(n + 1) else n + 1]]
theorem nodesC_succ {g : T_api_Graph} {q : Int} {k : Nat} : nodesC g q (k + 1) = nodesC g q k ++ nodeC g (k : Int) (q != 1) := by
  unfold nodesC; rw [List.range_succ, List.flatMap_append]; simp
theorem nodesC_len {g : T_api_Graph} (h : GVal g) {q : Int} : ∀ {k : Nat}, (nodesC g q k).length ≤ 84 * k
  | 0 => by simp [nodesC]
  | k + 1 => by rw [nodesC_succ, List.length_append]; have := nodesC_len h (q := q) (k := k); have := nodeC_len h (i := (k : Int)) (st := q != 1); omega
theorem nodesC_small {g : T_api_Graph} (h : GVal g) {q : Int} {k : Nat} : ∀ c ∈ nodesC g q k, c.length ≤ 41 := fun c hc => by
  unfold nodesC at hc
  obtain ⟨i, _, hi⟩ := List.mem_flatMap.1 hc
  exact nodeC_small h c hi

section
variable {g : T_api_Graph} (h : GVal g) (hg : g.L.length ≤ 100000)
include h hg

end

/-! ### both -/
theorem asked_plain {g : T_api_Graph} (hg : g.L.length ≤ 100000) {n : Int} : T (verdict_asked_m g n) fun r => (r = 0 ∧ GVal g ∧ 0 ≤ n ∧ n < g.N) ∨ (r = 1 ∧ ¬ (GVal g ∧ 0 ≤ n ∧ n < g.N)) := by
  unfold verdict_asked_m
  refine T.bind (gValidate_all (by omega)) fun r hr => ?_
  refine T.cond (fun c => .ret (.inr ⟨rfl, fun h => ?_⟩)) fun c => ?_
  · rw [hr.2 h.1] at c; simp at c
  · have hv := hr.1 (by simpa using c)
    refine T.cond (fun c1 => .ret (.inr ⟨rfl, fun h => ?_⟩)) fun c1 => T.cond (fun c2 => .ret (.inr ⟨rfl, fun h => ?_⟩)) fun c2 => .ret (.inl ⟨rfl, hv, ?_, ?_⟩)
    · have := of_decide_eq_true c1; omega
    · have := of_decide_eq_true c2; omega
    · have := of_decide_eq_false c1; omega
    · have := of_decide_eq_false c2; omega

/-- the answer of Encode -/
def EncR (g : T_api_Graph) (q n : Int) (r : Int × Int × List (List Int)) : Prop :=
  (GVal g ∧ 0 ≤ n ∧ n < g.N ∧ 1 ≤ q ∧ q ≤ 3 ∧ r = (2 * g.N, 0, encP g q n)) ∨ (GVal g ∧ 0 ≤ n ∧ n < g.N ∧ ¬ (1 ≤ q ∧ q ≤ 3) ∧ r = (0, 4, [])) ∨ (¬ (GVal g ∧ 0 ≤ n ∧ n < g.N) ∧ r = (0, 1, []))
theorem EncR.len {g : T_api_Graph} {q n : Int} {r : Int × Int × List (List Int)} (h : EncR g q n r) : r.2.2.length ≤ 4000 ∧ ∀ c ∈ r.2.2, c.length ≤ 41 := by
  rcases h with ⟨a, b, c, d, e, rfl⟩ | ⟨a, b, c, d, rfl⟩ | ⟨a, rfl⟩
  · have := nodesC_len a (q := q) (k := g.N.toNat); have := a.n1
    refine ⟨by simp [encP]; omega, fun c hc => ?_⟩
    simp only [encP, List.mem_append, List.mem_singleton] at hc
    rcases hc with hc | rfl
    · exact nodesC_small a c hc
    · simp
  · simp
  · simp

end Go.Dc

/-! Graphs that the source makes, and equal lists. -/
namespace Go.Dc
open Go.Proofs Go.Sort

/-- ahead of (a, b) -/
def Ahead (n : Int) (a b : Nat) (l : List T_api_Pair) : Prop :=
  l.length ≤ a * n.toNat + b ∧ (∀ p ∈ l, 0 ≤ p.From ∧ p.From < n ∧ 0 ≤ p.To ∧ p.To < n ∧ (p.From < a ∨ p.From = a ∧ p.To < b)) ∧ l.Pairwise plt
theorem Ahead.up {n : Int} {a b : Nat} {l : List T_api_Pair} (h : Ahead n a b l) : Ahead n a (b + 1) l :=
  ⟨by have := h.1; omega, fun p hp => by have := h.2.1 p hp; omega, h.2.2⟩
theorem Ahead.add {n : Int} {a b : Nat} {l : List T_api_Pair} (h : Ahead n a b l) (ha : (a : Int) < n) (hb : (b : Int) < n) : Ahead n a (b + 1) (l ++ [⟨(a : Int), (b : Int)⟩]) := by
  obtain ⟨l1, l2, l3⟩ := h
  refine ⟨by simp; omega, fun p hp => ?_, ?_⟩
  · rcases List.mem_append.1 hp with hp | hp
    · have := l2 p hp; omega
    · rw [List.mem_singleton.1 hp]
      exact ⟨Int.natCast_nonneg _, ha, Int.natCast_nonneg _, hb, .inr ⟨rfl, (by omega : (b : Int) < ((b + 1 : Nat) : Int))⟩⟩
  · refine List.pairwise_append.2 ⟨l3, List.pairwise_singleton _ _, fun p hp q hq => ?_⟩
    rw [List.mem_singleton.1 hq]
    have := (l2 p hp).2.2.2.2
    unfold plt; simp only; omega

theorem Graph_plain {s : T_deliberationkeep_Src} (h : RdOk s) {n : Int} (h1 : 0 ≤ n) (h2 : n ≤ 40) : T (keep_Src_Graph_m s n) fun r => GVal r.1 ∧ r.1.N ≤ n ∧ r.1.L.length ≤ 1640 ∧ RdOk r.2 := by
  unfold keep_Src_Graph_m
  rw [iadd64 (by omega) (by omega)]
  refine T.bind (N_plain h (by omega)) fun t ⟨ht, hb⟩ => ?_
  have hb := hb (by omega)
  refine T.bind (N_plain ht (by omega)) fun d ⟨hd, hdb⟩ => ?_
  have hdb := hdb (by omega)
  obtain ⟨N, hN⟩ : ∃ N : Nat, t.1 = (N : Int) := ⟨t.1.toNat, by omega⟩
  refine T.bind (P := fun q : List Int × Int × List T_api_Pair => RdOk ⟨q.1, q.2.1⟩ ∧ Ahead t.1 N 0 q.2.2) ?_ fun q ⟨hq1, hq2, hq3, hq4⟩ => .ret ⟨⟨by simp only; omega, by simp only; omega, fun p hp => ?_, hq4⟩, by simp only; omega, ?_, hq1⟩
  · refine T.loopK N (fun a s => s.1 = (a : Int) ∧ a ≤ N ∧ RdOk ⟨s.2.1, s.2.2.1⟩ ∧ Ahead t.1 a 0 s.2.2.2) ⟨rfl, by omega, hd, by simp [Ahead]⟩ ?_
    rintro a ⟨_, sl, sa, l⟩ ⟨rfl, ha, hsr, hl⟩
    dsimp only [keep_Src_Graph_l2] at *
    refine T.cond (fun c => ?_) fun c => ?_
    · have hc := of_decide_eq_true c
      refine T.bind (P := fun q : List Int × Int × List T_api_Pair => RdOk ⟨q.1, q.2.1⟩ ∧ Ahead t.1 a N q.2.2) ?_ fun q ⟨hq1, hq2, hq3, hq4⟩ => ?_
      · refine T.loopK N (fun b s => s.1 = (b : Int) ∧ b ≤ N ∧ RdOk ⟨s.2.1, s.2.2.1⟩ ∧ Ahead t.1 a b s.2.2.2) ⟨rfl, by omega, hsr, hl⟩ ?_
        rintro b ⟨_, sl', sa', l'⟩ ⟨rfl, hb', hsr', hl'⟩
        dsimp only [keep_Src_Graph_l1] at *
        refine T.cond (fun c2 => ?_) fun c2 => ?_
        · have hc2 := of_decide_eq_true c2
          refine T.bind (N_plain hsr' (by omega)) fun k ⟨hk, hkb⟩ => ?_
          have hmul : a * t.1.toNat ≤ 40 * 40 := Nat.mul_le_mul (by omega) (by omega)
          have key : ∀ j : Bool, T (bif j then Option.bind (appM 16 l' [(T_api_Pair.mk (a : Int) (b : Int))]) fun t62 => some (Sum.inr (iadd .i64 (b : Int) 1, k.2.L, k.2.At, t62)) else some (Sum.inr (iadd .i64 (b : Int) 1, k.2.L, k.2.At, l')) : Option (Sum (List Int × Int × List T_api_Pair) (Int × List Int × Int × List T_api_Pair)))
              (onO (fun r => RdOk ⟨r.1, r.2.1⟩ ∧ Ahead t.1 a N r.2.2) fun s' => b < N ∧ s'.1 = ((b + 1 : Nat) : Int) ∧ b + 1 ≤ N ∧ RdOk ⟨s'.2.1, s'.2.2.1⟩ ∧ Ahead t.1 a (b + 1) s'.2.2.2) := by
            intro j
            rw [iadd1 (by omega)]
            have l1 := hl'.1
            refine T.cond (fun _ => ?_) fun _ => .ret ⟨by omega, rfl, by omega, hk, hl'.up⟩
            rw [appM_eq (by simp; omega), some_bind]
            exact .ret ⟨by omega, rfl, by omega, hk, hl'.add (by omega) (by omega)⟩
          exact T.join (T.cond (fun _ => T.cond (fun _ => key _) fun _ => key _) fun _ => key _)
        · have e : b = N := by have := of_decide_eq_false c2; omega
          subst e
          exact .ret ⟨hsr', hl'⟩
      · rw [iadd1 (by omega)]
        refine .ret ⟨by omega, rfl, by omega, hq1, ?_, fun p hp => ?_, hq4⟩
        · have e : (a + 1) * t.1.toNat = a * t.1.toNat + t.1.toNat := by rw [Nat.add_mul, Nat.one_mul]
          simp only; omega
        · have := hq3 p hp; omega
    · have e : a = N := by have := of_decide_eq_false c; omega
      subst e
      exact .ret ⟨hsr, hl⟩
  · have := hq3 p hp; simp only; omega
  · have hmul : N * t.1.toNat ≤ 40 * 40 := Nat.mul_le_mul (by omega) (by omega)
    simp only; omega

/-! ### equal lists -/
end Go.Dc

/-! Labellings, complete ones, and for which question they are. -/
namespace Go.Dc
open Go.Proofs Go.Sort

structure LOk (N : Nat) (y : List Int) : Prop where
  len : y.length = N
  rng : ∀ x ∈ y, 1 ≤ x ∧ x ≤ 3
theorem LOk.at {N : Nat} {y : List Int} (h : LOk N y) {i : Nat} (hi : i < N) : sf y i = 1 ∨ sf y i = 2 ∨ sf y i = 3 := by
  have h1 : i < y.length := by rw [h.len]; exact hi
  have e : sf y i = y[i] := by unfold sf; simp [List.getD, h1]
  have := h.rng _ (List.getElem_mem h1)
  rw [e]; omega

def uOf (y : List Int) (a : Int) : Int := sf y a.toNat
def legalP (g : T_api_Graph) (y : List Int) (i : Nat) : Bool :=
  if sf y i = 1 then (attsP g i).all (fun a => uOf y a == 2) else if sf y i = 2 then (attsP g i).any (fun a => uOf y a == 1) else !((attsP g i).any fun a => uOf y a == 1) && !((attsP g i).all fun a => uOf y a == 2)

def compP (g : T_api_Graph) (y : List Int) : Bool := (List.range g.N.toNat).all (legalP g y)
theorem range_all {n : Nat} {p : Nat → Bool} : (List.range n).all p = true ↔ ∀ i, i < n → p i = true := by simp [List.all_eq_true]

def forP (g : T_api_Graph) (q : Int) (n : Nat) (y : List Int) : Bool := compP g y && (q == 1 || !(y.any fun z => z == 3)) && ((sf y n == 1) == (q != 3))
end Go.Dc

/-! Models of the clauses are labellings for the question. -/
namespace Go.Dc
open Go.Proofs Go.Sort

/-- an element of a clause is true -/
def litT (m : List Bool) (x : Int) : Bool := m.getD (x.natAbs - 1) false == decide (x > 0)
/-- a labelling as a model -/
structure MOk (N : Nat) (y : List Int) (m : List Bool) : Prop where
  len : m.length = 2 * N
  i : ∀ j, j < N → m.getD j false = (sf y j == 1)
  o : ∀ j, j < N → m.getD (N + j) false = (sf y j == 2)

section
variable {N : Nat} {y : List Int} {m : List Bool} (hm : MOk N y m)
include hm
end

def satB (m : List Bool) (l : List (List Int)) : Bool := l.all fun c => c.any (litT m)
/-! ### the clauses are valid -/
end Go.Dc

/-! slices.Compact of ints as a contract of ours. -/
namespace Go.Dc
variable [DrawMode]
open Go.Proofs Go.RowKit Go.Sort Go.Shelf
variable {P : Program}

def compactM (l : List Int) : Option (List Int) := if l.length ≤ 1000000000000 then some (Lib.compact l) else none

end Go.Dc

/-! What the compacted list is, in plain words. -/
namespace Go.Dc
open Go.Proofs

end Go.Dc

/-! Resolvents. -/
namespace Go.Dc
open Go.Proofs Go.Sort Go.Shelf

/-! ### lists that ascend -/
/-! ### the order -/
def absW (x : Int) : Int := imax x (ineg .i64 x)
def cmpI (x y : Int) : Int := if x < y then -1 else if y < x then 1 else 0
def cmpR (x y : Int) : Int := if cmpI (absW x) (absW y) = 0 then cmpI x y else cmpI (absW x) (absW y)
def ltR (x y : Int) : Prop := absW x < absW y ∨ absW x = absW y ∧ x < y
/-! ### the resolvent -/
def litsR (a b : List Int) (p : Int) : List Int := (a ++ b).filter fun x => decide ((x.natAbs : Int) ≠ p)
def pickV (L : List Int) (v : Nat) : Option Int := if (v : Int) ∈ L then some v else if -(v : Int) ∈ L then some (-(v : Int)) else none
def outR (L : List Int) : List Int := (List.range' 1 200).filterMap (pickV L)
def tautR (L : List Int) : Bool := L.any fun x => L.contains (-x)
def ResolveP (a b : List Int) (p : Int) : Bool × List Int :=
  if p < 1 ∨ clauseP 200 a ≠ 0 ∨ clauseP 200 b ≠ 0 ∨ p ∉ a ∨ -p ∉ b then (false, []) else
  if tautR (litsR a b p) = true then (false, []) else if 50 < (outR (litsR a b p)).length then (false, []) else (true, outR (litsR a b p))

theorem Contains_plain {l : List Int} {x : Int} (hl : l.length ≤ 1000) : slices_Contains_int_int_m l x = some (decide (x ∈ l)) := by
  have h : T (slices_Index_int_int_m l x) fun r => 0 ≤ r ↔ x ∈ l := by
    unfold slices_Index_int_int_m
    refine T.bind (P := fun r => match r with | .inl r => 0 ≤ r ∧ x ∈ l | .inr _ => x ∉ l) (T.loopK l.length (fun k s => s = (k : Int) ∧ x ∉ l.take k) ⟨rfl, by simp⟩ fun k s hs => ?_) fun r hr => ?_
    · obtain ⟨rfl, hn⟩ := hs
      unfold slices_Index_int_int_l1
      refine T.cond (fun h => ?_) fun h => .ret ?_
      · simp only [decide_eq_true_eq] at h
        have hk : k < l.length := by omega
        rw [idxM_nat hk, iadd64 (by omega) (by omega)]
        simp only [Option.bind_some]
        refine T.cond (fun h2 => .ret ⟨by omega, ?_⟩) fun h2 => .ret ⟨hk, by omega, ?_⟩
        · rw [eq_of_beq h2]; exact List.getElem_mem hk
        · rw [← List.take_append_getElem hk, List.mem_append, List.mem_singleton]
          rintro (h3 | h3)
          · exact hn h3
          · subst h3; simp at h2
      · simp only [decide_eq_false_iff_not] at h
        rw [List.take_of_length_le (by omega)] at hn
        exact hn
    · match r, hr with
      | .inl r, hr => exact .ret ⟨fun _ => hr.2, fun _ => hr.1⟩
      | .inr u, hr => exact .ret ⟨fun h => by omega, fun h => absurd h hr⟩
  unfold slices_Contains_int_int_m
  obtain ⟨r, h1, h2⟩ := h
  rw [h1]
  simp only [Option.bind_some]
  by_cases hx : x ∈ l
  · rw [decide_eq_true hx]; simp [h2.2 hx]
  · rw [decide_eq_false hx]; have : ¬ 0 ≤ r := fun h => hx (h2.1 h); simp [this]

end Go.Dc

set_option maxHeartbeats 1000000
/-! Answers that are looked at. -/
namespace Go.Dc


def satP (l : List (List Int)) (m : List Bool) : Bool := l.all fun c => c.any (litT m)
def stepP (all : List (List Int)) (s : T_api_Step) : Option (List (List Int)) :=
  if s.Left < 0 ∨ (all.length : Int) ≤ s.Left ∨ s.Right < 0 ∨ (all.length : Int) ≤ s.Right then none else
  if (ResolveP (all.getD s.Left.toNat []) (all.getD s.Right.toNat []) s.Pivot).1 = true then some (all ++ [(ResolveP (all.getD s.Left.toNat []) (all.getD s.Right.toNat []) s.Pivot).2]) else none
def runP : List (List Int) → List T_api_Step → Option (List (List Int))
  | all, [] => some all
  | all, s :: r => (stepP all s).bind fun a => runP a r
def refP (l : List (List Int)) (steps : List T_api_Step) : Bool := match runP l steps with
  | none => false
  | some all => if steps = [] then l.any List.isEmpty else (all.getD (all.length - 1) [1]).isEmpty
def CheckP (n : Int) (l : List (List Int)) (x : T_api_Answer) : Int :=
  if ValidP n l ≠ 0 then ValidP n l else
  if x.Sat = true then (if x.Steps ≠ [] ∨ (x.Model.length : Int) ≠ n then 4 else if satP l x.Model = true then 0 else 11) else
  if x.Model ≠ [] then 4 else if 20000 < x.Steps.length then 2 else if refP l x.Steps = true then 0 else 11

theorem cont_of {r : Int} {b : Bool} (h : 0 ≤ r ↔ b = true) : (some r).bind (fun t1 => some (decide (t1 ≥ 0))) = some b := by
  cases b with
  | true => simp; exact h.2 rfl
  | false => simp; exact Int.lt_of_not_ge fun h1 => by have := h.1 h1; cases this
theorem indexf_loop {α : Type} {l : List α} {p : α → Bool} {f : Int → Option (Sum (Sum Int Unit) Int)} (hf : ∀ i (hi : i < l.length), f (i : Int) = some (bif p l[i] then .inl (.inl (i : Int)) else .inr ((i : Int) + 1)))
    (he : f (l.length : Int) = some (.inl (.inr ()))) : T ((loopC f 0).bind (sumK (fun a : Int => some a) fun _ : Unit => some (-1))) fun r => 0 ≤ r ↔ l.any p = true := by
  refine T.bind (P := fun r => match r with | .inl r => 0 ≤ r ∧ l.any p = true | .inr _ => l.any p = false) (T.loopK l.length (fun k s => s = (k : Int) ∧ k ≤ l.length ∧ (l.take k).any p = false) ⟨rfl, by omega, by simp⟩ ?_) fun r hr => ?_
  · rintro k _ ⟨rfl, hk, hn⟩
    by_cases hk2 : k < l.length
    · rw [hf k hk2]
      refine .ret ?_
      cases hp : p l[k] with
      | true => exact ⟨by omega, List.any_eq_true.2 ⟨_, List.getElem_mem hk2, hp⟩⟩
      | false =>
        refine ⟨hk2, by omega, hk2, ?_⟩
        rw [← List.take_append_getElem hk2, List.any_append, hn]; simp [hp]
    · have : k = l.length := by omega
      subst this
      rw [he]
      refine .ret ?_
      rw [List.take_length] at hn; exact hn
  · match r, hr with
    | .inl r, hr => exact .ret ⟨fun _ => hr.2, fun _ => hr.1⟩
    | .inr u, hr => exact .ret ⟨fun h => by omega, fun h => by rw [hr] at h; cases h⟩

end Go.Dc

/-! The program's own labellings. -/
namespace Go.Dc
open Go.Proofs Go.Sort

theorem Valid_1_plain {x : Int} : labelling_Valid_1_m x = some (decide (¬ (1 ≤ x ∧ x ≤ 3))) := by
  unfold labelling_Valid_1_m
  by_cases h1 : x = 1
  · subst h1; rfl
  · by_cases h2 : x = 2
    · subst h2; rfl
    · by_cases h3 : x = 3
      · subst h3; rfl
      · rw [show (x != 1) = true by simp [h1], show (x != 2) = true by simp [h2], show (x != 3) = true by simp [h3]]
        simp only [cond_true]
        congr 1
        rw [eq_comm, decide_eq_true_iff]; omega
def badL (y : List Int) : Bool := y.any fun x => decide (¬ (1 ≤ x ∧ x ≤ 3))
theorem contV_plain {y : List Int} (hl : y.length ≤ 1000000) : slices_ContainsFunc_int_int_s1_m y = some (badL y) := by
  unfold slices_ContainsFunc_int_int_s1_m
  have h : T (slices_IndexFunc_int_int_s1_m y) fun r => 0 ≤ r ↔ badL y = true := by
    unfold slices_IndexFunc_int_int_s1_m
    refine indexf_loop (l := y) (fun i hi => ?_) ?_
    · unfold slices_IndexFunc_int_int_s1_l1
      rw [show decide ((i : Int) < (y.length : Int)) = true by simp [hi], cond_true, idxM_nat hi, iadd64 (by omega) (by omega)]
      simp only [Option.bind_some]
      rw [Valid_1_plain, some_bind]
      cases decide (¬ (1 ≤ y[i] ∧ y[i] ≤ 3)) <;> rfl
    · unfold slices_IndexFunc_int_int_s1_l1; simp
  obtain ⟨r, h1, h2⟩ := h
  rw [h1]; exact cont_of h2
theorem lok_iff {N : Nat} {y : List Int} : LOk N y ↔ y.length = N ∧ badL y = false := by
  unfold badL
  constructor
  · intro h
    refine ⟨h.len, ?_⟩
    rw [List.any_eq_false]
    intro x hx; have := h.rng x hx; simpa using this
  · rintro ⟨h1, h2⟩
    refine ⟨h1, fun x hx => ?_⟩
    rw [List.any_eq_false] at h2
    have := h2 x hx; simpa using this
theorem LValid_plain {g : T_api_Graph} (h0 : 0 ≤ g.N) {y : List Int} (hl : y.length ≤ 1000000) : T (labelling_Valid_m g y) fun b => b = true ↔ LOk g.N.toNat y := by
  unfold labelling_Valid_m
  refine T.cond (fun c => ?_) fun c => .ret ?_
  · have e : (y.length : Int) = g.N := eq_of_beq c
    rw [contV_plain hl, some_bind]
    refine .ret ?_
    rw [lok_iff]
    cases badL y <;> simp <;> omega
  · have e : ¬ (y.length : Int) = g.N := fun e => by rw [e] at c; simp at c
    constructor
    · intro h; cases h
    · intro h; have := h.len; exact absurd (by omega) e

theorem llegal_plain {g : T_api_Graph} (h : GVal g) (hg : g.L.length ≤ 100000) {y : List Int} (hy : LOk g.N.toNat y) {i : Nat} (hi : i < g.N.toNat) : labelling_legal_m g y (i : Int) = some (legalP g y i) := by
  have hl := hy.len; have hn1 := h.n1; have hal := attsP_len h (i := (i : Int))
  unfold labelling_legal_m
  rw [gAttackers_plain h hg (by omega), some_bind]
  have : T (loopC (labelling_legal_l1 y (attsP g i)) (0, 0, 0, 0, 0)) fun q => q.2.2.1 = (((attsP g i).countP (fun a => uOf y a == 2) : Nat) : Int) ∧ q.2.1 = (((attsP g i).countP (fun a => uOf y a == 1) : Nat) : Int) := by
    refine T.loopK (attsP g i).length (fun k s => k ≤ (attsP g i).length ∧ s.1 = (k : Int) ∧ 0 ≤ s.2.1 ∧ s.2.1 ≤ (k : Int) ∧ s.2.2.1 = ((((attsP g i).take k).countP (fun a => uOf y a == 1) : Nat) : Int) ∧ s.2.2.2.1 = ((((attsP g i).take k).countP (fun a => uOf y a == 2) : Nat) : Int) ∧ 0 ≤ s.2.2.2.2 ∧ s.2.2.2.2 ≤ (k : Int)) ⟨by omega, rfl, by simp, by simp, by simp, by simp, by simp, by simp⟩ ?_
    rintro k ⟨_, c0, c1, c2, c3⟩ ⟨hk, rfl, p0, p1, p2, p3, p4, p5⟩
    dsimp only at p0 p1 p2 p3 p4 p5
    dsimp only [labelling_legal_l1]
    refine T.cond (fun c => ?_) fun c => ?_
    · have hk2 : k < (attsP g i).length := by simpa using c
      have hr := attsP_rng h _ (List.getElem_mem hk2)
      obtain ⟨a, ha⟩ : ∃ a : Nat, (attsP g i)[k] = (a : Int) := ⟨((attsP g i)[k]).toNat, by omega⟩
      have hu : idxM y (attsP g i)[k] = some (uOf y (attsP g i)[k]) := by
        rw [ha]; unfold uOf; rw [Int.toNat_natCast]; exact idx_sf (by omega)
      have hv : uOf y (attsP g i)[k] = 1 ∨ uOf y (attsP g i)[k] = 2 ∨ uOf y (attsP g i)[k] = 3 := by
        rw [ha]; unfold uOf; rw [Int.toNat_natCast]; exact hy.at (by omega)
      have ht : ∀ p : Int → Bool, ((attsP g i).take (k + 1)).countP p = ((attsP g i).take k).countP p + if p (attsP g i)[k] then 1 else 0 := fun p => by
        rw [List.take_add_one, List.getElem?_eq_getElem hk2, Option.toList_some, List.countP_append, List.countP_singleton]
      have b1 : ∀ p : Int → Bool, ((attsP g i).take k).countP p ≤ 40 := fun p => by
        have h1 := List.countP_le_length (p := p) (l := (attsP g i).take k); simp at h1; omega
      have a1 := b1 fun a => uOf y a == 1; have a2 := b1 fun a => uOf y a == 2
      rw [idxM_nat hk2, some_bind, hu, some_bind, iadd1 (by omega), p2, p3, iadd1 (by omega), iadd1 (by omega), iadd64 (x := c0) (by omega) (by omega), iadd64 (x := c3) (by omega) (by omega)]
      rcases hv with e | e | e
      · rw [e]
        refine .ret ⟨hk2, hk2, rfl, p0, by simp only; omega, ?_, ?_, p4, by simp only; omega⟩
        · simp only; rw [ht, e]; simp
        · simp only; rw [ht, e]; simp
      · rw [e]
        refine .ret ⟨hk2, hk2, rfl, p0, by simp only; omega, ?_, ?_, p4, by simp only; omega⟩
        · simp only; rw [ht, e]; simp
        · simp only; rw [ht, e]; simp
      · rw [e]
        refine .ret ⟨hk2, hk2, rfl, p0, by simp only; omega, ?_, ?_, by simp only; omega, by simp only; omega⟩
        · simp only; rw [ht, e]; simp
        · simp only; rw [ht, e]; simp
    · have e : k = (attsP g i).length := by have : ¬ (k : Int) < (attsP g i).length := of_decide_eq_false c; omega
      subst e
      rw [List.take_length] at p2 p3
      exact .ret ⟨p3, p2⟩
  obtain ⟨⟨q0, q1, q2, q3⟩, e, f1, f2⟩ := this
  dsimp only at f1 f2
  subst f1; subst f2
  rw [e, some_bind, idx_sf (by omega), some_bind]
  dsimp only
  unfold legalP
  have all2 : ((((attsP g i).countP (fun a => uOf y a == 2) : Nat) : Int) == ((attsP g i).length : Int)) = (attsP g i).all fun a => uOf y a == 2 := by
    rw [Bool.eq_iff_iff, beq_iff_eq, List.all_eq_true]
    constructor
    · intro h1; exact List.countP_eq_length.1 (by omega)
    · intro h1; rw [List.countP_eq_length.2 h1]
  have any1 : decide ((((attsP g i).countP (fun a => uOf y a == 1) : Nat) : Int) > 0) = (attsP g i).any fun a => uOf y a == 1 := by
    rw [Bool.eq_iff_iff, decide_eq_true_iff, List.any_eq_true]
    constructor
    · intro h1; exact List.countP_pos_iff.1 (by omega)
    · intro h1; have := List.countP_pos_iff.2 h1; omega
  rcases hy.at hi with e | e | e
  · rw [e, if_pos rfl, show ((1 : Int) == 1) = true from rfl, cond_true, all2]
  · rw [e, if_neg (by omega), if_pos rfl, show ((2 : Int) == 1) = false from rfl, cond_false, show ((2 : Int) == 2) = true from rfl, cond_true, any1]
  · rw [e, if_neg (by omega), if_neg (by omega), show ((3 : Int) == 1) = false from rfl, cond_false, show ((3 : Int) == 2) = false from rfl, cond_false]
    have z1 : ((((attsP g i).countP (fun a => uOf y a == 1) : Nat) : Int) == 0) = !((attsP g i).any fun a => uOf y a == 1) := by
      rw [← any1, Bool.eq_iff_iff]; simp
    have z2 : decide ((((attsP g i).countP (fun a => uOf y a == 2) : Nat) : Int) < ((attsP g i).length : Int)) = !((attsP g i).all fun a => uOf y a == 2) := by
      rw [← all2, Bool.eq_iff_iff]
      have := List.countP_le_length (p := fun a => uOf y a == 2) (l := attsP g i)
      simp; omega
    rw [z1, z2]
    cases !((attsP g i).any fun a => uOf y a == 1) <;> cases !((attsP g i).all fun a => uOf y a == 2) <;> rfl

theorem LComplete_plain {g : T_api_Graph} (h : GVal g) (hg : g.L.length ≤ 100000) {y : List Int} (hl : y.length ≤ 1000000) : T (labelling_IsComplete_m g y) fun b => b = true ↔ LOk g.N.toNat y ∧ compP g y = true := by
  have hn0 := h.n0; have hn1 := h.n1
  obtain ⟨b, eb, hb⟩ := LValid_plain hn0 hl (y := y)
  unfold labelling_IsComplete_m labelling_Illegal_m
  rw [eb, some_bind]
  refine T.cond (fun c => ?_) fun c => .ret ⟨fun h => (by cases h), fun h => by rw [hb.2 h.1] at c; cases c⟩
  have hy := hb.1 c
  have hyl := hy.len
  rw [some_bind, c, show (!true) = false from rfl, cond_false]
  have hI : T (loopC (labelling_Illegal_l1 g y) (0, [])) fun r => (r.length = 0 ↔ compP g y = true) := by
    refine T.loopK g.N.toNat (fun k s => k ≤ g.N.toNat ∧ s.1 = (k : Int) ∧ s.2.length ≤ k ∧ (s.2.length = 0 ↔ ∀ i, i < k → legalP g y i = true)) ⟨by omega, rfl, by simp, by simp⟩ ?_
    rintro k ⟨_, o⟩ ⟨hk, rfl, ho, hi⟩
    dsimp only at ho hi
    dsimp only [labelling_Illegal_l1]
    refine T.cond (fun c => ?_) fun c => ?_
    · have hk2 : k < g.N.toNat := by have := of_decide_eq_true c; omega
      rw [llegal_plain h hg hy hk2, some_bind, iadd1 (by omega)]
      refine T.cond (fun c2 => ?_) fun c2 => ?_
      · rw [appM_eq (by simp; omega), some_bind]
        refine .ret ⟨hk2, hk2, rfl, by simp; omega, ?_⟩
        simp only [List.length_append, List.length_singleton]
        constructor
        · intro e; omega
        · intro h1; have := h1 k (by omega); rw [this] at c2; cases c2
      · have e : legalP g y k = true := by simpa using c2
        refine .ret ⟨hk2, hk2, rfl, by simp only; omega, ?_⟩
        simp only
        rw [hi]
        constructor
        · intro h1 i hik
          by_cases e2 : i = k
          · subst e2; exact e
          · exact h1 i (by omega)
        · intro h1 i hik; exact h1 i (by omega)
    · have e : k = g.N.toNat := by have := of_decide_eq_false c; omega
      subst e
      refine .ret ?_
      show o.length = 0 ↔ _
      rw [hi]; unfold compP; exact range_all.symm
  obtain ⟨r, e, hr⟩ := hI
  rw [e, some_bind, some_bind]
  refine .ret ?_
  rw [show ((((r.length : Int) : Int) == 0) = true ↔ r.length = 0) by simp, hr]
  exact ⟨fun h => ⟨hy, h⟩, fun h => h.2⟩

end Go.Dc

/-! Decide and Check, for the questions that clauses answer. -/
namespace Go.Dc
open Go.Proofs Go.Sort

/-- a model of a labelling -/
def modelOf (N : Nat) (y : List Int) : List Bool := (List.range N).map (fun j => sf y j == 1) ++ (List.range N).map (fun j => sf y j == 2)
/-- what Decide answers -/
def DecR (g : T_api_Graph) (q : Int) (n : Nat) (v : T_api_Verdict) : Prop :=
  (∃ y, v = ⟨q != 3, y, [], []⟩ ∧ LOk g.N.toNat y ∧ forP g q n y = true) ∨ (∃ st, v = ⟨q == 3, [], [], st⟩ ∧ st.length ≤ 20000 ∧ refP (encP g q (n : Int)) st = true)
/-- what Check accepts -/
def AccR (g : T_api_Graph) (q : Int) (n : Nat) (v : T_api_Verdict) : Prop :=
  v.Ranks = [] ∧ (v.Holds = (q != 3) ∧ v.Steps = [] ∧ LOk g.N.toNat v.Labels ∧ forP g q n v.Labels = true ∨ v.Holds ≠ (q != 3) ∧ v.Labels = [] ∧ v.Steps.length ≤ 20000 ∧ refP (encP g q (n : Int)) v.Steps = true)
theorem len_pos {α : Type} {l : List α} : decide ((l.length : Int) > 0) = false ↔ l = [] := by
  rw [decide_eq_false_iff_not]
  constructor
  · intro h; exact List.eq_nil_of_length_eq_zero (by omega)
  · rintro rfl; simp
end Go.Dc

/-! The grounded labelling and its ranks: what holds on the way. -/
namespace Go.Dc
open Go.Proofs Go.Sort
open Classical

theorem countP_one {N k : Nat} (hk : k < N) {p q : Nat → Bool} (h : ∀ a, a ≠ k → p a = q a) (hq : q k = false) : (List.range N).countP p = (List.range N).countP q + (if p k = true then 1 else 0) := by
  induction N with
  | zero => omega
  | succ N ih =>
    rw [List.range_succ, List.countP_append, List.countP_append, List.countP_singleton, List.countP_singleton]
    by_cases e : k = N
    · subst e
      have : (List.range k).countP p = (List.range k).countP q := List.countP_congr fun a ha => by rw [h a (by have := List.mem_range.1 ha; omega)]
      rw [this, hq]; simp
    · rw [ih (by omega), h N (by omega)]; omega
theorem countP_zero {N : Nat} {p : Nat → Bool} : (List.range N).countP p = 0 ↔ ∀ a, a < N → p a = false := by
  rw [List.countP_eq_zero]
  constructor
  · intro h a ha; simpa using h a (List.mem_range.2 ha)
  · intro h a ha; simpa using h a (List.mem_range.1 ha)

/-- the attackers that are not out -/
noncomputable def opa (g : T_api_Graph) (l : Nat → Int) (j : Nat) : Nat := (List.range g.N.toNat).countP fun a : Nat => decide (att g a j ∧ l a ≠ 2)
variable {g : T_api_Graph} {N : Nat}

theorem pairs_count (h : GVal g) (j : Nat) : g.L.countP (fun p => decide (p.To = (j : Int))) = (List.range g.N.toNat).countP fun a : Nat => decide (att g a j) := by
  rw [List.countP_eq_length_filter, List.countP_eq_length_filter]
  have e : (g.L.filter fun p => decide (p.To = (j : Int))).length = ((g.L.filter fun p => decide (p.To = (j : Int))).map fun p => p.From.toNat).length := by simp
  rw [e]
  refine List.Perm.length_eq ((List.perm_ext_iff_of_nodup ?_ ?_).2 fun a => ?_)
  · unfold List.Nodup
    rw [List.pairwise_map]
    refine List.Pairwise.imp_of_mem ?_ (List.Pairwise.filter _ h.s)
    intro p q hp hq hpq hf
    have h1 := List.mem_filter.1 hp; have h2 := List.mem_filter.1 hq
    have t1 := of_decide_eq_true h1.2; have t2 := of_decide_eq_true h2.2
    have v1 := h.v p h1.1; have v2 := h.v q h2.1
    unfold plt at hpq
    omega
  · exact List.Pairwise.filter _ List.nodup_range
  · rw [List.mem_map, List.mem_filter, List.mem_range, decide_eq_true_iff]
    constructor
    · rintro ⟨p, hp, rfl⟩
      obtain ⟨h1, h2⟩ := List.mem_filter.1 hp
      have v := h.v p h1
      exact ⟨by omega, p, h1, by omega, of_decide_eq_true h2⟩
    · rintro ⟨ha, p, hp, h1, h2⟩
      exact ⟨p, List.mem_filter.2 ⟨hp, decide_eq_true h2⟩, by omega⟩

theorem att_lt (h : GVal g) {a b : Nat} (hab : att g a b) : (a : Int) < g.N ∧ (b : Int) < g.N := by
  obtain ⟨p, hp, h1, h2⟩ := hab
  have := h.v p hp
  omega
theorem opa_zero (h : GVal g) {l : Nat → Int} {j : Nat} (hz : opa g l j = 0) : ∀ a : Nat, att g a j → l a = 2 := by
  intro a ha
  have hlt := (att_lt h ha).1
  have := countP_zero.1 hz a (by omega)
  simp only [decide_eq_false_iff_not, not_and, ne_eq, Classical.not_not] at this
  exact this ha
theorem zero_opa {l : Nat → Int} {j : Nat} (hz : ∀ a : Nat, att g a j → l a = 2) : opa g l j = 0 := by
  refine countP_zero.2 fun a _ => ?_
  simp only [decide_eq_false_iff_not, not_and, ne_eq, Classical.not_not]
  exact hz a
theorem opa_set (h : GVal g) {N : Nat} (hN : g.N = N) {l : List Int} (hl : l.length = N) {k : Nat} (hk : k < N) (h3 : sf l k = 3) (j : Nat) : opa g (sf l) j = opa g (sf (l.set k 2)) j + (if att g k j then 1 else 0) := by
  unfold opa
  rw [hN, Int.toNat_natCast, countP_one (k := k) hk (q := fun a : Nat => decide (att g a j ∧ sf (l.set k 2) a ≠ 2))]
  · congr 1
    by_cases c : att g k j
    · rw [if_pos c, if_pos (decide_eq_true ⟨c, by omega⟩)]
    · rw [if_neg c, if_neg (by simp [c])]
  · intro a ha
    rw [sf_set (by omega), if_neg (fun e => ha e.symm)]
  · rw [sf_set (by omega), if_pos rfl]; simp

theorem nodup_bound {Q : List Int} (h : Q.Nodup) (hb : ∀ q ∈ Q, 0 ≤ q ∧ q < (N : Int)) : Q.length ≤ N := by
  have h1 : (Q.map Int.toNat).Nodup := by
    unfold List.Nodup
    rw [List.pairwise_map]
    refine List.Pairwise.imp_of_mem ?_ h
    intro a b ha hb' hab e
    have := hb a ha; have := hb b hb'
    exact hab (by omega)
  have h2 : (Q.map Int.toNat) ⊆ List.range N := fun x hx => by
    obtain ⟨q, hq, rfl⟩ := List.mem_map.1 hx
    have := hb q hq
    exact List.mem_range.2 (by omega)
  have h3 : (Q.map Int.toNat).Perm ((List.range N).filter fun x => decide (x ∈ Q.map Int.toNat)) :=
    (List.perm_ext_iff_of_nodup h1 (List.Pairwise.filter _ List.nodup_range)).2 fun x => by
      rw [List.mem_filter, decide_eq_true_iff]
      exact ⟨fun hx => ⟨h2 hx, hx⟩, fun hx => hx.2⟩
  have h4 := h3.length_eq
  have h5 := List.length_filter_le (fun x => decide (x ∈ Q.map Int.toNat)) (List.range N)
  rw [List.length_map] at h4
  rw [List.length_range] at h5
  omega
theorem vidx_sf {d : List Int} {i : Nat} (hd : d.length = 40) (hi : i < 40) : vidxM 40 d (i : Int) = some (sf d i) := by
  unfold vidxM
  rw [if_pos hd, idx_sf (by omega)]


/-- nodes that become In -/
structure Nx (N : Nat) (l o Q : List Int) : Prop where
  ok : ∀ q ∈ Q, ∃ i : Nat, q = i ∧ i < N ∧ sf l i = 3 ∧ sf o i = 0
  nd : Q.Nodup
theorem Nx.len {l o Q : List Int} (h : Nx N l o Q) : Q.length ≤ N := nodup_bound h.nd fun q hq => by
  obtain ⟨i, rfl, hi, _⟩ := h.ok q hq; omega
/-- the ranks tell why -/
def RI (g : T_api_Graph) (N : Nat) (rd : Int) (l r : List Int) : Prop := ∀ i : Nat, i < N →
  (sf l i = 1 → 1 ≤ sf r i ∧ sf r i ≤ rd ∧ ∀ a : Nat, att g a i → sf l a = 2 ∧ sf r a < sf r i) ∧
  (sf l i = 2 → sf r i ≤ rd ∧ ∃ a : Nat, a < N ∧ att g a i ∧ sf l a = 1 ∧ 1 ≤ sf r a ∧ sf r a ≤ sf r i)
structure Md (g : T_api_Graph) (N : Nat) (rd : Int) (l r o nx : List Int) : Prop where
  ll : l.length = N
  rl : r.length = N
  lo : o.length = 40
  v : ∀ i, i < N → sf l i = 1 ∨ sf l i = 2 ∨ sf l i = 3
  nxt : Nx N l o nx
  op : ∀ j, j < N → sf o j = (opa g (sf l) j : Int)
  zero : ∀ j, j < N → sf l j = 3 → sf o j = 0 → (j : Int) ∈ nx
  ri : RI g N rd l r

/-- an attacked node gets out: the open attackers of those that it attacks -/
theorem l4_plain (h : GVal g) (hN : g.N = N) {rd : Int} {st : Int × List Int × List Int × List Int × List Int} {k i : Nat} (hk : k < N) (h3 : sf st.2.1 k = 3) (hiN : i < N) (hik : att g i k) (hi1 : sf st.2.1 i = 1) (hir : sf st.2.2.1 i = rd)
    {T2 : List Int} (hT : ∀ j : Int, j ∈ T2 ↔ att g k j) (hnd : T2.Nodup) (hTl : T2.length ≤ 64) (md : Md g N rd st.2.1 st.2.2.1 st.2.2.2.1 st.2.2.2.2) :
    T (loopC (grounded_build_l4 st (k : Int) T2) (0, st.2.2.2.1, st.2.2.2.2)) fun q => Md g N rd (st.2.1.set k 2) (st.2.2.1.set k rd) q.1 q.2 := by
  obtain ⟨p, l, r, o, nq⟩ := st
  dsimp only at h3 hi1 hir md ⊢
  have h40 := h.n1
  have hll := md.ll; have hrl := md.rl; have hlo := md.lo
  have sl : ∀ x, sf (l.set k 2) x = if k = x then 2 else sf l x := fun x => sf_set (by omega)
  have sr : ∀ x, sf (r.set k rd) x = if k = x then rd else sf r x := fun x => sf_set (by omega)
  have hok : sf o k ≠ 0 := fun e => by
    have := md.op k hk
    rw [e] at this
    have := opa_zero h (l := sf l) (j := k) (by omega) i hik
    omega
  have hri : RI g N rd (l.set k 2) (r.set k rd) := fun x hx => by
    obtain ⟨q1, q2⟩ := md.ri x hx
    rw [sl, sr]
    by_cases e : k = x
    · subst e
      rw [if_pos rfl, if_pos rfl]
      refine ⟨fun h => by omega, fun _ => ⟨by omega, i, hiN, hik, ?_, ?_⟩⟩
      · rw [sl, if_neg (fun e => by subst e; omega)]; exact hi1
      · have hne : ¬ k = i := fun e => by subst e; omega
        have := (md.ri i hiN).1 hi1
        rw [sr, if_neg hne]; omega
    · rw [if_neg e, if_neg e]
      refine ⟨fun hx1 => ?_, fun hx2 => ?_⟩
      · obtain ⟨a1, a2, a3⟩ := q1 hx1
        refine ⟨a1, a2, fun a ha => ?_⟩
        obtain ⟨b1, b2⟩ := a3 a ha
        have hne : ¬ k = a := fun e => by subst e; omega
        rw [sl, sr, if_neg hne, if_neg hne]; exact ⟨b1, b2⟩
      · obtain ⟨a1, a, a2, a3, a4, a5, a6⟩ := q2 hx2
        have hne : ¬ k = a := fun e => by subst e; omega
        refine ⟨a1, a, a2, a3, ?_⟩
        rw [sl, sr, if_neg hne, if_neg hne]; exact ⟨a4, a5, a6⟩
  have fin : ∀ o' nq' : List Int, o'.length = 40 → Nx N (l.set k 2) o' nq' → (∀ j, j < N → sf o' j = (opa g (sf (l.set k 2)) j : Int)) → (∀ j, j < N → sf (l.set k 2) j = 3 → sf o' j = 0 → (j : Int) ∈ nq') → Md g N rd (l.set k 2) (r.set k rd) o' nq' :=
    fun o' nq' a1 a2 a3 a4 => ⟨by simp [hll], by simp [hrl], a1, fun x hx => by rw [sl]; split; exact .inr (.inl rfl); exact md.v x hx, a2, a3, a4, hri⟩
  refine T.loopK T2.length (fun q s => q ≤ T2.length ∧ s.1 = (q : Int) ∧ s.2.1.length = 40 ∧ Nx N (l.set k 2) s.2.1 s.2.2 ∧ (∀ j, j < N → sf s.2.1 j = (opa g (sf (l.set k 2)) j : Int) + (if (j : Int) ∈ T2.drop q then 1 else 0)) ∧ (∀ j, j < N → sf (l.set k 2) j = 3 → sf s.2.1 j = 0 → (j : Int) ∈ s.2.2)) ⟨by omega, rfl, hlo, ⟨fun q hq => ?_, md.nxt.nd⟩, fun j hj => ?_, fun j hj h1 h2 => ?_⟩ ?_
  · obtain ⟨x, e, hx, q1, q2⟩ := md.nxt.ok q hq
    have hne : ¬ k = x := fun e => by subst e; exact hok q2
    refine ⟨x, e, hx, ?_, q2⟩
    rw [sl, if_neg hne]; exact q1
  · rw [md.op j hj, opa_set h hN hll hk h3 j, List.drop_zero]
    by_cases c : att g k j
    · rw [if_pos c, if_pos ((hT j).2 c)]; rfl
    · rw [if_neg c, if_neg (fun e => c ((hT j).1 e))]; rfl
  · rw [sl] at h1
    split at h1
    · cases h1
    · exact md.zero j hj h1 h2
  · rintro q ⟨_, o', nq'⟩ ⟨hq, rfl, ho', nx', hop', hz'⟩
    dsimp only at ho' nx' hop' hz'
    dsimp only [grounded_build_l4]
    refine T.cond (fun c => ?_) fun c => ?_
    · have hq2 : q < T2.length := by have := of_decide_eq_true c; omega
      have hat := (hT _).1 (List.getElem_mem hq2)
      obtain ⟨pp, hp, p1, p2⟩ := hat
      have hv := h.v pp hp
      obtain ⟨j, hj⟩ : ∃ j : Nat, T2[q] = (j : Int) := ⟨T2[q].toNat, by omega⟩
      have hjN : j < N := by omega
      have hdr : T2.drop q = (j : Int) :: T2.drop (q + 1) := by rw [List.drop_eq_getElem_cons hq2, hj]
      have hjn : (j : Int) ∉ T2.drop (q + 1) := by
        have : (T2.drop q).Nodup := List.Pairwise.sublist (List.drop_sublist _ _) hnd
        rw [hdr] at this
        exact (List.nodup_cons.1 this).1
      have hoj := hop' j hjN
      rw [hdr, if_pos (by simp)] at hoj
      have hoc : (opa g (sf (l.set k 2)) j : Int) ≤ 40 := by
        have : opa g (sf (l.set k 2)) j ≤ g.N.toNat := by unfold opa; exact Nat.le_trans List.countP_le_length (by simp)
        omega
      have nl := nx'.len
      rw [idxM_nat hq2, some_bind, hj, vidx_sf ho' (by omega), some_bind, some_bind, iadd1 (by omega), Int.toNat_natCast, Int.toNat_natCast, isub64 (by omega) (by omega), vidx_sf (by simpa using ho') (by omega), some_bind]
      have hsj : ∀ x, sf (o'.set j (sf o' j - 1)) x = if j = x then sf o' j - 1 else sf o' x := fun x => sf_set (by omega)
      have hop2 : ∀ x, x < N → sf (o'.set j (sf o' j - 1)) x = (opa g (sf (l.set k 2)) x : Int) + (if (x : Int) ∈ T2.drop (q + 1) then 1 else 0) := fun x hx => by
        rw [hsj]
        by_cases e : j = x
        · subst e; rw [if_pos rfl, if_neg hjn, hoj]; omega
        · rw [if_neg e, hop' x hx, hdr]
          have : ((x : Int) ∈ (j : Int) :: T2.drop (q + 1)) ↔ ((x : Int) ∈ T2.drop (q + 1)) := by
            rw [List.mem_cons]; exact ⟨fun h => h.elim (fun e2 => absurd (by omega) e) id, .inr⟩
          simp only [this]
      have nx2 : Nx N (l.set k 2) (o'.set j (sf o' j - 1)) nq' := ⟨fun y hy => by
        obtain ⟨x, e, hx, q1, q3⟩ := nx'.ok y hy
        refine ⟨x, e, hx, q1, ?_⟩
        rw [hsj]
        by_cases e2 : j = x
        · subst e2; rw [hoj] at q3; omega
        · rw [if_neg e2]; exact q3, nx'.nd⟩
      have stay : ¬ (sf (o'.set j (sf o' j - 1)) j = 0 ∧ sf (l.set k 2) j = 3) → ∀ x, x < N → sf (l.set k 2) x = 3 → sf (o'.set j (sf o' j - 1)) x = 0 → (x : Int) ∈ nq' := fun hno x hx h1 h2 => by
        by_cases e : j = x
        · subst e; exact absurd ⟨h2, h1⟩ hno
        · rw [hsj, if_neg e] at h2
          exact hz' x hx h1 h2
      refine T.cond (fun c2 => ?_) fun c2 => .ret ⟨hq2, hq2, rfl, by simpa using ho', nx2, hop2, stay fun hh => by rw [hh.1] at c2; cases c2⟩
      have b1 : sf (o'.set j (sf o' j - 1)) j = 0 := eq_of_beq c2
      rw [idx_sf (l := l.set k 2) (by simp; omega), some_bind]
      refine T.cond (fun c3 => ?_) fun c3 => .ret ⟨hq2, hq2, rfl, by simpa using ho', nx2, hop2, stay fun hh => by rw [hh.2] at c3; cases c3⟩
      have b2 : sf (l.set k 2) j = 3 := eq_of_beq c3
      rw [appM_eq (by simp; omega), some_bind]
      refine .ret ⟨hq2, hq2, rfl, by simpa using ho', ⟨fun y hy => ?_, ?_⟩, hop2, fun x hx h1 h2 => ?_⟩
      · rcases List.mem_append.1 hy with hy | hy
        · exact nx2.ok y hy
        · rw [List.mem_singleton.1 hy]
          exact ⟨j, rfl, hjN, b2, b1⟩
      · refine List.nodup_append.2 ⟨nx'.nd, by simp, fun y hy z hz2 e => ?_⟩
        rw [List.mem_singleton.1 hz2] at e
        subst e
        obtain ⟨x, e, hx, q1, q3⟩ := nx'.ok _ hy
        have : x = j := by omega
        subst this
        rw [hoj] at q3; omega
      · simp only at h1 h2 ⊢
        rw [List.mem_append, List.mem_singleton]
        by_cases e : j = x
        · exact .inr (by omega)
        · rw [hsj, if_neg e] at h2
          exact .inl (hz' x hx h1 h2)
    · have e : q = T2.length := by have := of_decide_eq_false c; omega
      subst e
      rw [List.drop_length] at hop'
      exact .ret (fin _ _ ho' nx' (fun j hj => by rw [hop' j hj]; simp) hz')
end Go.Dc

/-! The grounded labelling and its ranks: rounds. -/
namespace Go.Dc
open Go.Proofs Go.Sort
open Classical
variable {g : T_api_Graph} {N : Nat}

theorem l5_plain (h : GVal g) (hg : g.L.length ≤ 100000) (hN : g.N = N) {s9 : Int × List Int × List Int × List Int × List Int} {i : Nat} (hiN : i < N) {T1 : List Int} (hT : ∀ j : Int, j ∈ T1 ↔ att g i j) (hTl : T1.length ≤ 64)
    {l r o nx : List Int} (md : Md g N s9.1 l r o nx) (hi1 : sf l i = 1) (hir : sf r i = s9.1) :
    T (loopC (grounded_build_l5 g s9 T1) (0, l, r, o, nx)) fun q => Md g N s9.1 q.1 q.2.1 q.2.2.1 q.2.2.2 ∧ (∀ x, x < N → sf q.1 x = 3 → sf l x = 3) ∧ (∀ x, x < N → (sf q.1 x = 1 ↔ sf l x = 1)) ∧ (∀ x, x < N → sf l x = 1 → sf q.2.1 x = sf r x) ∧ ∀ k : Nat, att g i k → sf q.1 k ≠ 3 := by
  have h40 := h.n1
  refine T.loopK T1.length (fun p s => p ≤ T1.length ∧ s.1 = (p : Int) ∧ Md g N s9.1 s.2.1 s.2.2.1 s.2.2.2.1 s.2.2.2.2 ∧ (∀ x, x < N → sf s.2.1 x = 3 → sf l x = 3) ∧ (∀ x, x < N → (sf s.2.1 x = 1 ↔ sf l x = 1)) ∧ (∀ x, x < N → sf l x = 1 → sf s.2.2.1 x = sf r x) ∧ ∀ k : Nat, (k : Int) ∈ T1.take p → sf s.2.1 k ≠ 3)
    ⟨by omega, rfl, md, fun _ _ h => h, fun _ _ => .rfl, fun _ _ _ => rfl, by simp⟩ ?_
  rintro p ⟨_, l', r', o', nx'⟩ ⟨hp, rfl, md', mono, one, rk, hd⟩
  dsimp only at md' mono one rk hd
  dsimp only [grounded_build_l5]
  refine T.cond (fun c => ?_) fun c => ?_
  · have hp2 : p < T1.length := by have := of_decide_eq_true c; omega
    have hat := (hT _).1 (List.getElem_mem hp2)
    obtain ⟨k, hk⟩ : ∃ k : Nat, T1[p] = (k : Int) := by
      obtain ⟨q, hq, _, q2⟩ := hat
      have := h.v q hq
      exact ⟨T1[p].toNat, by omega⟩
    rw [hk] at hat
    have hkN : k < N := by have := (att_lt h hat).2; omega
    have hll := md'.ll; have hrl := md'.rl
    have htk : ∀ x : Int, x ∈ T1.take (p + 1) ↔ x ∈ T1.take p ∨ x = (k : Int) := fun x => by
      rw [List.take_add_one, List.getElem?_eq_getElem hp2, hk]; simp only [Option.toList_some, List.mem_append, List.mem_singleton]
    rw [idxM_nat hp2, some_bind, hk, idx_sf (by omega), some_bind, iadd1 (by omega)]
    refine T.cond (fun c2 => .ret ⟨hp2, hp2, rfl, md', mono, one, rk, fun x hx => ?_⟩) fun c2 => ?_
    · rcases (htk x).1 hx with hx | hx
      · exact hd x hx
      · have : x = k := by omega
        subst this
        simpa using c2
    · have h3 : sf l' k = 3 := by simpa using c2
      obtain ⟨T2, e1, e2, e3, e4⟩ := Attacked_plain h hg (i := k) (by omega)
      have hnd : T2.Nodup := e3.imp fun {a b} hab => by omega
      rw [some_bind, idx_sf (l := r') (by omega), some_bind, e1, some_bind]
      have hil : sf l' i = 1 := (one i hiN).2 hi1
      refine T.bind (l4_plain h hN (rd := s9.1) (st := ((p : Int), l', r', o', nx')) hkN h3 hiN hat hil (by rw [← hir]; exact rk i hiN hi1) e2 hnd e4 md') ?_
      rintro ⟨o2, nx2⟩ q1
      dsimp only at q1 ⊢
      rw [Int.toNat_natCast]
      have hs : ∀ x, sf (l'.set k 2) x = if k = x then 2 else sf l' x := fun x => sf_set (by omega)
      have hr : ∀ x, sf (r'.set k s9.1) x = if k = x then s9.1 else sf r' x := fun x => sf_set (by omega)
      refine .ret ⟨hp2, hp2, rfl, q1, fun x hx h5 => ?_, fun x hx => ?_, fun x hx h5 => ?_, fun x hx => ?_⟩
      · simp only at h5
        rw [hs] at h5; split at h5
        · omega
        · exact mono x hx h5
      · simp only
        rw [hs]; split
        · rename_i e; subst e
          have := mono k hkN h3
          omega
        · exact one x hx
      · simp only
        have hne : ¬ k = x := fun e => by subst e; have := mono k hkN h3; omega
        rw [hr, if_neg hne]; exact rk x hx h5
      · simp only
        rw [hs]; split
        · omega
        · rename_i e
          rcases (htk x).1 hx with hx | hx
          · exact hd x hx
          · exact absurd (by omega) e
  · have e : p = T1.length := by have := of_decide_eq_false c; omega
    subst e
    rw [List.take_length] at hd
    exact .ret ⟨md', mono, one, rk, fun k hk => hd k ((hT _).2 hk)⟩

theorem l3_plain {s9 : Int × List Int × List Int × List Int × List Int} (hQ : ∀ q ∈ s9.2.2.2.2, ∃ i : Nat, q = i ∧ i < N) (hQl : s9.2.2.2.2.length ≤ 1000) (hll : s9.2.1.length = N) (hrl : s9.2.2.1.length = N) :
    T (loopC (grounded_build_l3 s9) (0, s9.2.1, s9.2.2.1)) fun q => q.1.length = N ∧ q.2.length = N ∧ (∀ x : Nat, x < N → sf q.1 x = if (x : Int) ∈ s9.2.2.2.2 then 1 else sf s9.2.1 x) ∧ ∀ x : Nat, x < N → sf q.2 x = if (x : Int) ∈ s9.2.2.2.2 then s9.1 else sf s9.2.2.1 x := by
  obtain ⟨rd, l, r, o, Q⟩ := s9
  dsimp only at hQ hQl hll hrl ⊢
  refine T.loopK Q.length (fun p s => p ≤ Q.length ∧ s.1 = (p : Int) ∧ s.2.1.length = N ∧ s.2.2.length = N ∧ (∀ x : Nat, x < N → sf s.2.1 x = if (x : Int) ∈ Q.take p then 1 else sf l x) ∧ ∀ x : Nat, x < N → sf s.2.2 x = if (x : Int) ∈ Q.take p then rd else sf r x) ⟨by omega, rfl, hll, hrl, by simp, by simp⟩ ?_
  rintro p ⟨_, l', r'⟩ ⟨hp, rfl, hl', hr', hx, hxr⟩
  dsimp only at hl' hr' hx hxr
  dsimp only [grounded_build_l3]
  refine T.cond (fun c => ?_) fun c => ?_
  · have hp2 : p < Q.length := by have := of_decide_eq_true c; omega
    obtain ⟨i, hi, hiN⟩ := hQ _ (List.getElem_mem hp2)
    rw [idxM_nat hp2, some_bind, hi, idx_sf (by omega), some_bind, idx_sf (by omega), some_bind, iadd1 (by omega), Int.toNat_natCast]
    have htk : ∀ x : Nat, ((x : Int) ∈ Q.take (p + 1) ↔ (x : Int) ∈ Q.take p ∨ (x : Int) = (i : Int)) := fun x => by
      rw [List.take_add_one, List.getElem?_eq_getElem hp2, hi]; simp only [Option.toList_some, List.mem_append, List.mem_singleton]
    refine .ret ⟨hp2, hp2, rfl, by simp [hl'], by simp [hr'], fun x hx2 => ?_, fun x hx2 => ?_⟩
    · simp only
      rw [sf_set (by omega)]
      by_cases e : i = x
      · rw [if_pos e, if_pos ((htk x).2 (.inr (by omega)))]
      · rw [if_neg e, hx x hx2]
        have : ((x : Int) ∈ Q.take (p + 1)) ↔ ((x : Int) ∈ Q.take p) := (htk x).trans ⟨fun h => h.elim id fun e2 => absurd (by omega) e, .inl⟩
        simp only [this]
    · simp only
      rw [sf_set (by omega)]
      by_cases e : i = x
      · rw [if_pos e, if_pos ((htk x).2 (.inr (by omega)))]
      · rw [if_neg e, hxr x hx2]
        have : ((x : Int) ∈ Q.take (p + 1)) ↔ ((x : Int) ∈ Q.take p) := (htk x).trans ⟨fun h => h.elim id fun e2 => absurd (by omega) e, .inl⟩
        simp only [this]
  · have e : p = Q.length := by have := of_decide_eq_false c; omega
    subst e
    rw [List.take_length] at hx hxr
    exact .ret ⟨hl', hr', hx, hxr⟩

theorem l6_plain (h : GVal g) (hg : g.L.length ≤ 100000) (hN : g.N = N) {s9 : Int × List Int × List Int × List Int × List Int} (hQl : s9.2.2.2.2.length ≤ 1000)
    {l1 r1 o1 : List Int} (hQ : ∀ q ∈ s9.2.2.2.2, ∃ i : Nat, q = i ∧ i < N ∧ sf l1 i = 1 ∧ sf r1 i = s9.1) (md : Md g N s9.1 l1 r1 o1 []) (hd : ∀ x : Nat, x < N → sf l1 x = 1 → (x : Int) ∉ s9.2.2.2.2 → ∀ k : Nat, att g x k → sf l1 k ≠ 3) :
    T (loopC (grounded_build_l6 g s9) (0, l1, r1, o1, [])) fun q => Md g N s9.1 q.1 q.2.1 q.2.2.1 q.2.2.2 ∧ (∀ x, x < N → sf q.1 x = 3 → sf l1 x = 3) ∧ ∀ x : Nat, x < N → sf q.1 x = 1 → ∀ k : Nat, att g x k → sf q.1 k ≠ 3 := by
  have h40 := h.n1
  refine T.loopK s9.2.2.2.2.length (fun p s => p ≤ s9.2.2.2.2.length ∧ s.1 = (p : Int) ∧ Md g N s9.1 s.2.1 s.2.2.1 s.2.2.2.1 s.2.2.2.2 ∧ (∀ x, x < N → sf s.2.1 x = 3 → sf l1 x = 3) ∧ (∀ x, x < N → (sf s.2.1 x = 1 ↔ sf l1 x = 1)) ∧ (∀ x, x < N → sf l1 x = 1 → sf s.2.2.1 x = sf r1 x) ∧ ∀ x : Nat, x < N → sf l1 x = 1 → (x : Int) ∉ s9.2.2.2.2.drop p → ∀ k : Nat, att g x k → sf s.2.1 k ≠ 3)
    ⟨by omega, rfl, md, fun _ _ h => h, fun _ _ => .rfl, fun _ _ _ => rfl, fun x hx h1 hn => hd x hx h1 (by simpa using hn)⟩ ?_
  rintro p ⟨_, l', r', o', nx'⟩ ⟨hp, rfl, md', mono, one, rk, hd'⟩
  dsimp only at md' mono one rk hd'
  dsimp only [grounded_build_l6]
  refine T.cond (fun c => ?_) fun c => ?_
  · have hp2 : p < s9.2.2.2.2.length := by have := of_decide_eq_true c; omega
    obtain ⟨i, hi, hiN, hi1, hir⟩ := hQ _ (List.getElem_mem hp2)
    obtain ⟨T1, e1, e2, e3, e4⟩ := Attacked_plain h hg (i := i) (by omega)
    rw [idxM_nat hp2, some_bind, hi, e1, some_bind, iadd1 (by omega)]
    refine T.bind (l5_plain h hg hN (s9 := s9) hiN e2 e4 md' ((one i hiN).2 hi1) (by rw [rk i hiN hi1]; exact hir)) ?_
    rintro ⟨l2, r2, o2, nx2⟩ ⟨q1, q2, q3, q4, q5⟩
    dsimp only at q1 q2 q3 q4 q5 ⊢
    refine .ret ⟨hp2, hp2, rfl, q1, fun x hx h5 => mono x hx (q2 x hx h5), fun x hx => (q3 x hx).trans (one x hx), fun x hx h5 => (q4 x hx ((one x hx).2 h5)).trans (rk x hx h5), fun x hx h1 hn k hk h5 => ?_⟩
    simp only at h5
    have hkN : k < N := by have := (att_lt h hk).2; omega
    by_cases e : x = i
    · subst e; exact q5 k hk h5
    · refine hd' x hx h1 (fun hm => hn ?_) k hk (q2 k hkN h5)
      rw [List.drop_eq_getElem_cons hp2, hi] at hm
      rcases List.mem_cons.1 hm with hm | hm
      · exact absurd (by omega) e
      · exact hm
  · have e : p = s9.2.2.2.2.length := by have := of_decide_eq_false c; omega
    subst e
    rw [List.drop_length] at hd'
    exact .ret ⟨md', mono, fun x hx h1 => hd' x hx ((one x hx).1 h1) (by simp)⟩

structure Hdd (g : T_api_Graph) (N : Nat) (rd : Int) (l r o Q : List Int) : Prop extends Md g N rd l r o Q where
  done : ∀ i, i < N → sf l i = 1 → ∀ k : Nat, att g i k → sf l k ≠ 3
theorem countP_lt {α : Type} {p q : α → Bool} : ∀ {l : List α}, (∀ x ∈ l, p x = true → q x = true) → (∃ x ∈ l, q x = true ∧ p x = false) → l.countP p < l.countP q
  | [], _, h => by obtain ⟨x, hx, _⟩ := h; simp at hx
  | y :: l, h, hx => by
    have h1 : l.countP p ≤ l.countP q := by
      refine List.countP_mono_left fun x hx hp => h x (List.mem_cons_of_mem _ hx) hp
    rw [List.countP_cons, List.countP_cons]
    obtain ⟨x, hx, hq, hp⟩ := hx
    rcases List.mem_cons.1 hx with rfl | hx
    · rw [hq, hp]; simp; omega
    · have := countP_lt (fun x hx => h x (List.mem_cons_of_mem _ hx)) ⟨x, hx, hq, hp⟩
      cases hpy : p y with
      | false => simp; split <;> omega
      | true => rw [h y (by simp) hpy]; simp; exact this
def c3 (N : Nat) (l : List Int) : Nat := (List.range N).countP fun i => decide (sf l i = 3)

theorem round_plain (h : GVal g) (hg : g.L.length ≤ 100000) (hN : g.N = N) {rd : Nat} (hrd : rd ≤ 1000) {l r o Q : List Int} (H : Hdd g N (rd : Int) l r o Q) (hQ0 : Q ≠ []) :
    T (grounded_build_l7 g (((rd + 1 : Nat) : Int), l, r, o, Q)) fun s => ∃ l' r' o' Q', s = .inr (((rd + 2 : Nat) : Int), l', r', o', Q') ∧ Hdd g N ((rd + 1 : Nat) : Int) l' r' o' Q' ∧ c3 N l' < c3 N l := by
  have h40 := h.n1
  have hql := H.nxt.len
  unfold grounded_build_l7
  dsimp only
  have hpos : (Q.length : Int) > 0 := by have := List.length_pos_iff.2 hQ0; omega
  rw [decide_eq_true hpos, cond_true]
  refine T.bind (l3_plain (N := N) (s9 := (((rd + 1 : Nat) : Int), l, r, o, Q)) (fun q hq => by obtain ⟨i, e, hi, _⟩ := H.nxt.ok q hq; exact ⟨i, e, hi⟩) (by dsimp only; omega) H.ll H.rl) ?_
  rintro ⟨l1, r1⟩ ⟨a1, a2, a3, a4⟩
  dsimp only at a1 a2 a3 a4 ⊢
  have hin : ∀ x : Nat, x < N → (x : Int) ∈ Q → sf l x = 3 ∧ sf o x = 0 := fun x hx hm => by
    obtain ⟨i, e, hi, q1, q2⟩ := H.nxt.ok _ hm
    have : i = x := by omega
    subst this; exact ⟨q1, q2⟩
  have nin : ∀ x : Nat, x < N → sf l x ≠ 3 → sf l1 x = sf l x ∧ sf r1 x = sf r x := fun x hx hne => by
    have hm : (x : Int) ∉ Q := fun hm => hne (hin x hx hm).1
    rw [a3 x hx, a4 x hx, if_neg hm, if_neg hm]; exact ⟨rfl, rfl⟩
  have op1 : ∀ j, opa g (sf l1) j = opa g (sf l) j := fun j => by
    unfold opa
    refine List.countP_congr fun a ha => ?_
    have haN : a < N := by have := List.mem_range.1 ha; omega
    rw [decide_eq_true_iff, decide_eq_true_iff, a3 a haN]
    by_cases hm : (a : Int) ∈ Q
    · rw [if_pos hm]
      have := (hin a haN hm).1
      exact ⟨fun h => ⟨h.1, by omega⟩, fun h => ⟨h.1, by omega⟩⟩
    · rw [if_neg hm]
  have md : Md g N ((rd + 1 : Nat) : Int) l1 r1 o [] := by
    refine ⟨a1, a2, H.lo, fun i hi => ?_, ⟨fun q hq => (by cases hq), by simp⟩, fun j hj => ?_, fun j hj h3 h0 => ?_, fun i hi => ⟨fun h1 => ?_, fun h2 => ?_⟩⟩
    · rw [a3 i hi]; split
      · exact .inl rfl
      · exact H.v i hi
    · rw [H.op j hj, op1]
    · rw [a3 j hj] at h3; split at h3
      · omega
      · rename_i hm; exact absurd (H.zero j hj h3 h0) hm
    · by_cases hm : (i : Int) ∈ Q
      · obtain ⟨q1, q2⟩ := hin i hi hm
        rw [a4 i hi, if_pos hm]
        refine ⟨by omega, by omega, fun a ha => ?_⟩
        have haN : a < N := by have := (att_lt h ha).1; omega
        have hz := H.op i hi
        rw [q2] at hz
        have ha2 := opa_zero h (l := sf l) (j := i) (by omega) a ha
        obtain ⟨e1, e2⟩ := nin a haN (by omega)
        have := ((H.ri a haN).2 ha2).1
        rw [e1, e2]; exact ⟨ha2, by omega⟩
      · rw [a3 i hi, if_neg hm] at h1
        obtain ⟨b1, b2, b3⟩ := (H.ri i hi).1 h1
        rw [a4 i hi, if_neg hm]
        refine ⟨b1, by omega, fun a ha => ?_⟩
        have haN : a < N := by have := (att_lt h ha).1; omega
        obtain ⟨c1, c2⟩ := b3 a ha
        obtain ⟨e1, e2⟩ := nin a haN (by omega)
        rw [e1, e2]; exact ⟨c1, c2⟩
    · have hm : (i : Int) ∉ Q := fun hm => by rw [a3 i hi, if_pos hm] at h2; omega
      rw [a3 i hi, if_neg hm] at h2
      obtain ⟨b1, a, b2, b3, b4, b5, b6⟩ := (H.ri i hi).2 h2
      rw [a4 i hi, if_neg hm]
      obtain ⟨e1, e2⟩ := nin a b2 (by omega)
      exact ⟨by omega, a, b2, b3, by rw [e1]; exact b4, by rw [e2]; exact b5, by rw [e2]; exact b6⟩
  refine T.bind (l6_plain h hg hN (s9 := (((rd + 1 : Nat) : Int), l, r, o, Q)) (by dsimp only; omega) (fun q hq => ?_) md fun x hx h1 hn k hk h3 => ?_) ?_
  · obtain ⟨i, e, hi, _⟩ := H.nxt.ok q hq
    have hm : (i : Int) ∈ Q := e ▸ hq
    refine ⟨i, e, hi, ?_, ?_⟩
    · rw [a3 i hi, if_pos hm]
    · rw [a4 i hi, if_pos hm]
  · dsimp only at hn
    rw [a3 x hx, if_neg hn] at h1
    have hkN : k < N := by have := (att_lt h hk).2; omega
    rw [a3 k hkN] at h3
    split at h3
    · omega
    · exact H.done x hx h1 k hk h3
  · rintro ⟨l2, r2, o2, nx2⟩ ⟨m2, sub, d2⟩
    dsimp only at m2 sub d2 ⊢
    rw [iadd1 (by omega)]
    refine .ret ⟨l2, r2, o2, nx2, rfl, ⟨m2, d2⟩, ?_⟩
    obtain ⟨q, hq⟩ := List.exists_mem_of_ne_nil Q hQ0
    obtain ⟨i, rfl, hi, hi3, _⟩ := H.nxt.ok q hq
    refine countP_lt (fun x hx hp => ?_) ⟨i, List.mem_range.2 hi, decide_eq_true hi3, decide_eq_false fun e => ?_⟩
    · have hxN := List.mem_range.1 hx
      have h1 := sub x hxN (of_decide_eq_true hp)
      rw [a3 x hxN] at h1
      split at h1
      · omega
      · exact decide_eq_true h1
    · have h1 := sub i hi e
      rw [a3 i hi, if_pos hq] at h1
      omega
end Go.Dc

/-! Models with a bound on the rounds of their loops, which can be computed. -/
namespace Go.Dc
variable {α β σ ρ S A B R : Type}

def Le (m m' : Option α) : Prop := ∀ r, m = some r → m' = some r
def loopF (k : Nat) (f : σ → Option (Sum ρ σ)) (s : σ) : Option ρ := loopN f k s

theorem Le.refl (m : Option α) : Le m m := fun _ h => h
theorem Le.bind {m m' : Option α} {f f' : α → Option β} (h : Le m m') (hf : ∀ a, Le (f a) (f' a)) : Le (m.bind f) (m'.bind f') := by
  intro r hr
  cases hm : m with
  | none => rw [hm] at hr; cases hr
  | some a => rw [hm] at hr; rw [h a hm]; exact hf a r hr
theorem Le.cond {b : Bool} {x y x' y' : Option α} (h1 : Le x x') (h2 : Le y y') : Le (bif b then x else y) (bif b then x' else y') := by
  cases b
  · exact h2
  · exact h1
theorem Le.letM {x : S} {k k' : S → Option α} (h : ∀ a, Le (k a) (k' a)) : Le (letM x k) (letM x k') := h x
theorem Le.join {f f' : S → Option R} {g g' : (S → Option R) → Option R} (h1 : ∀ x, Le (f x) (f' x)) (h2 : ∀ k k' : S → Option R, (∀ x, Le (k x) (k' x)) → Le (g k) (g' k')) :
    Le (joinM f g) (joinM f' g') := h2 f f' h1
theorem Le.sumK {kr : A → Option R} {kb kb' : B → Option R} (h : ∀ b, Le (kb b) (kb' b)) : ∀ a, Le (sumK kr kb a) (sumK kr kb' a)
  | .inl a => .refl _
  | .inr b => h b
theorem Le.loop {k : Nat} {f f' : σ → Option (Sum ρ σ)} {s : σ} (h : ∀ s, Le (f s) (f' s)) : Le (loopF k f s) (loopC f' s) := by
  intro r hr
  refine loopC_iff.2 ⟨k, ?_⟩
  unfold loopF at hr
  induction k generalizing s with
  | zero => simp [loopN] at hr
  | succ k ih =>
    simp only [loopN] at hr ⊢
    cases hf : f s with
    | none => rw [hf] at hr; cases hr
    | some o =>
      rw [hf] at hr
      rw [h s o hf]
      cases o with
      | inl q => exact hr
      | inr s' => exact ih hr
end Go.Dc

/-! More of models that can be computed. -/
namespace Go.Dc
variable {α β σ ρ S A B C R : Type}
def meetF [DecidableEq A] (x y : Option A) : Option A := match x, y with
  | some a, some b => if a = b then some a else none
  | _, _ => none
theorem Le.meetO {m1 m2 m1' m2' : Option A} (h1 : Le m1 m1') (h2 : Le m2 m2') : Le (meetO m1 m2) (meetO m1' m2') := fun r h => by
  obtain ⟨a, b⟩ := meetO_some h
  rw [h1 r a, h2 r b, meetO_self]
theorem Le.meet [DecidableEq A] {m1 m2 m1' m2' : Option A} (h1 : Le m1 m1') (h2 : Le m2 m2') : Le (meetF m1 m2) (Go.Dc.meetO m1' m2') := fun r h => by
  cases m1 with
  | none => simp [meetF] at h
  | some a =>
    cases m2 with
    | none => simp [meetF] at h
    | some b =>
      unfold meetF at h
      simp only at h
      by_cases e : a = b
      · rw [if_pos e] at h
        subst e; cases h
        rw [h1 _ rfl, h2 _ rfl, meetO_self]
      · rw [if_neg e] at h; cases h
theorem Le.sumKK {k1 k1' : A → Option R} {k2 k2' : B → Option R} (h1 : ∀ a, Le (k1 a) (k1' a)) (h2 : ∀ b, Le (k2 b) (k2' b)) : ∀ a, Le (Go.Dc.sumK k1 k2 a) (Go.Dc.sumK k1' k2' a)
  | .inl a => h1 a
  | .inr b => h2 b
theorem Le.loopC {f f' : σ → Option (Sum ρ σ)} {s : σ} (h : ∀ s, Le (f s) (f' s)) : Le (Go.Dc.loopC f s) (Go.Dc.loopC f' s) := by
  intro r hr
  obtain ⟨n, hn⟩ := loopC_iff.1 hr
  exact Le.loop (k := n) h r hn
/-- orders that are the same: one is enough -/
def meet1 {A : Type} (x _ : Option A) : Option A := x
theorem Le.meet1 {A : Type} {m1 m2 m1' m2' : Option A} (h1 : Le m1 m1') (h2 : m1' = m2') : Le (Go.Dc.meet1 m1 m2) (Go.Dc.meetO m1' m2') := fun r h => by
  rw [← h2, meetO_self]; exact h1 r h
end Go.Dc

/-! The orders: of lists, of attacks. -/
namespace Go.Dc
open Go.Proofs Go.Sort

def lexC : List Int → List Int → Int
  | [], [] => 0
  | [], _ :: _ => -1
  | _ :: _, [] => 1
  | x :: a, y :: b => if x < y then -1 else if y < x then 1 else lexC a b
theorem lexC_self : ∀ {a : List Int}, lexC a a = 0
  | [] => rfl
  | x :: a => by unfold lexC; rw [if_neg (by omega), if_neg (by omega)]; exact lexC_self
theorem lexC_tr : ∀ {a b c : List Int}, lexC a b < 0 → lexC b c < 0 → lexC a c < 0
  | [], [], _, h, _ => by simp [lexC] at h
  | [], _ :: _, [], _, h => by simp [lexC] at h
  | [], _ :: _, _ :: _, _, _ => by simp [lexC]
  | _ :: _, [], _, h, _ => by simp [lexC] at h
  | _ :: _, _ :: _, [], _, h => by simp [lexC] at h
  | x :: a, y :: b, z :: c, h1, h2 => by
    unfold lexC at *
    by_cases e1 : x < y
    · by_cases e2 : z < y
      · rw [if_neg (by omega), if_pos e2] at h2; omega
      · rw [if_pos (by omega)]; omega
    · rw [if_neg e1] at h1
      by_cases e3 : y < x
      · rw [if_pos e3] at h1; omega
      · rw [if_neg e3] at h1
        have : x = y := by omega
        subst this
        split at h2
        · rw [if_pos (by omega)]; omega
        · rw [if_neg (by omega)]
          split at h2
          · omega
          · rw [if_neg (by omega)]; exact lexC_tr h1 h2
theorem lexC_ge : ∀ {a b c : List Int}, 0 ≤ lexC a b → 0 ≤ lexC b c → 0 ≤ lexC a c
  | [], [], _, _, h => h
  | [], _ :: _, _, h, _ => by simp [lexC] at h
  | _ :: _, [], [], _, _ => by simp [lexC]
  | _ :: _, [], _ :: _, _, h => by simp [lexC] at h
  | _ :: _, _ :: _, [], _, _ => by simp [lexC]
  | x :: a, y :: b, z :: c, h1, h2 => by
    unfold lexC at *
    by_cases e1 : x < y
    · rw [if_pos e1] at h1; omega
    · rw [if_neg e1] at h1
      by_cases e2 : y < z
      · rw [if_pos e2] at h2; omega
      · rw [if_neg e2] at h2
        rw [if_neg (by omega)]
        by_cases e3 : z < x
        · rw [if_pos e3]; omega
        · rw [if_neg e3]
          rw [if_neg (by omega)] at h1
          rw [if_neg (by omega)] at h2
          exact lexC_ge h1 h2
theorem lexC_eq : ∀ {a b : List Int}, 0 ≤ lexC a b → 0 ≤ lexC b a → a = b
  | [], [], _, _ => rfl
  | [], _ :: _, h, _ => by simp [lexC] at h
  | _ :: _, [], _, h => by simp [lexC] at h
  | x :: a, y :: b, h1, h2 => by
    unfold lexC at *
    by_cases e1 : x < y
    · rw [if_pos e1] at h1; omega
    · by_cases e2 : y < x
      · rw [if_pos e2] at h2; omega
      · rw [if_neg e1, if_neg e2] at h1
        rw [if_neg e2, if_neg e1] at h2
        rw [lexC_eq h1 h2, show x = y by omega]

theorem cmpL {a b : List Int} (ha : a.length ≤ 1000000) : ∀ (m k : Nat), k + m = a.length → k ≤ b.length →
    Option.bind (loopC (slices_Compare_int_int_l1 a b) (k : Int)) (sumK (fun a : Int => some a) fun q23 : Unit => bif decide (((a.length : Int)) < ((b.length : Int))) then some ((-1)) else some 0) = some (lexC (a.drop k) (b.drop k))
  | 0, k, h1, h2 => by
    rw [loopC_eq]
    unfold slices_Compare_int_int_l1
    rw [show decide ((k : Int) < (a.length : Int)) = false from decide_eq_false (by omega)]
    have e : k = a.length := by omega
    subst e
    simp only [cond_false, sumK, some_bind]
    rw [List.drop_length]
    rcases Nat.lt_or_ge a.length b.length with h | h
    · rw [decide_eq_true (by omega)]
      rw [List.drop_eq_getElem_cons h]; rfl
    · rw [decide_eq_false (by omega), List.drop_eq_nil_of_le h]; rfl
  | m + 1, k, h1, h2 => by
    have hk : k < a.length := by omega
    rw [loopC_eq]
    unfold slices_Compare_int_int_l1
    rw [show decide ((k : Int) < (a.length : Int)) = true from decide_eq_true (by omega)]
    simp only [cond_true]
    rw [idxM_nat hk, some_bind, List.drop_eq_getElem_cons hk]
    rcases Nat.lt_or_ge k b.length with hb | hb
    · rw [show decide ((k : Int) ≥ (b.length : Int)) = false from decide_eq_false (by omega)]
      simp only [cond_false]
      rw [idxM_nat hb, some_bind, cmp_plain, some_bind, List.drop_eq_getElem_cons hb]
      unfold lexC
      by_cases e1 : a[k] < b[k]
      · rw [if_pos e1, if_pos e1]; rfl
      · rw [if_neg e1, if_neg e1]
        by_cases e2 : b[k] < a[k]
        · rw [if_pos e2, if_pos e2]; rfl
        · rw [if_neg e2, if_neg e2]
          have := cmpL (b := b) ha m (k + 1) (by omega) (by omega)
          rw [show ((0 : Int) != 0) = false from rfl]
          simp only [cond_false, sumK, some_bind]
          rw [iadd1 (by omega)]
          exact this
    · rw [show decide ((k : Int) ≥ (b.length : Int)) = true from decide_eq_true (by omega)]
      simp only [cond_true, sumK, some_bind]
      rw [List.drop_eq_nil_of_le hb]; rfl
theorem least2_plain {a b : List Int} (ha : a.length ≤ 1000000) : explain_least_2_m a b = some (lexC a b) := by
  unfold explain_least_2_m
  rw [show slices_Compare_int_int_s1_m = slices_Compare_int_int_m from rfl]
  unfold slices_Compare_int_int_m
  have := cmpL (b := b) ha a.length 0 (by omega) (by omega)
  simp only [List.drop_zero] at this
  rw [show ((0 : Nat) : Int) = 0 from rfl] at this
  rw [this]; rfl
theorem cfo_L {a b : List Int} (ha : a.length ≤ 1000000) : cfo explain_least_2_m a b = lexC a b := by unfold cfo; rw [least2_plain ha]; rfl
theorem cmpOn_L {l : List (List Int)} (h : ∀ x ∈ l, x.length ≤ 1000000) (hd : l.Nodup) : CmpOn explain_least_2_m l := by
  have hx : ∀ i : Fin l.length, l[i].length ≤ 1000000 := fun i => h _ (List.getElem_mem i.2)
  have hlt : ∀ i j : Fin l.length, (ltOf fun i j : Fin l.length => cfo explain_least_2_m l[i] l[j]) i j = decide (lexC l[i] l[j] < 0) := fun i j => by unfold ltOf; show decide (cfo explain_least_2_m l[i] l[j] < 0) = _; rw [cfo_L (hx i)]
  refine ⟨fun x hx y hy => by rw [cfo_L (h x hx), least2_plain (h x hx)], ⟨fun i => ?_, fun i j k h1 h2 => ?_, fun i j k h1 h2 => ?_⟩, fun i j h1 h2 => ?_⟩
  · rw [hlt, lexC_self]; rfl
  · rw [hlt, decide_eq_true_iff] at *; exact lexC_tr h1 h2
  · rw [hlt, decide_eq_false_iff_not] at *; have := lexC_ge (Int.not_lt.1 h1) (Int.not_lt.1 h2); omega
  · rw [hlt, decide_eq_false_iff_not] at *
    have e := lexC_eq (Int.not_lt.1 h1) (Int.not_lt.1 h2)
    exact Fin.ext ((List.getElem_inj hd).1 e)
theorem sortN_L {l : List (List Int)} (hl : l.length ≤ 1000000) (h : ∀ x ∈ l, x.length ≤ 1000000) (hd : l.Nodup) : ∃ r, sortNM explain_least_2_m l = some r ∧ r.Perm l :=
  ⟨sortL explain_least_2_m l, by unfold sortNM; rw [if_pos ⟨by omega, cmpOn_L h hd⟩], List.mergeSort_perm _ _⟩

/-! ### bounded: few elements -/
def sortNF (l : List (List Int)) : Option (List (List Int)) := match l with
  | [x] => if x.length ≤ 1000000 then some [x] else none
  | _ => none
theorem sortNF_le {l : List (List Int)} : Le (sortNF l) (sortNM explain_least_2_m l) := fun r h => by
  unfold sortNF at h
  split at h
  · rename_i x
    split at h
    · rename_i hx
      cases h
      obtain ⟨r, h1, h2⟩ := sortN_L (l := [x]) (by simp) (fun y hy => by rw [List.mem_singleton.1 hy]; exact hx) (by simp)
      rw [h1, List.perm_singleton.1 h2]
    · cases h
  · cases h
def sortEF (l : List T_api_Pair) : Option (List T_api_Pair) := match l with
  | [] => some []
  | [x] => some [x]
  | [x, y] => if plt x y then some [x, y] else if plt y x then some [y, x] else none
  | _ => none
theorem sort_two {x y : T_api_Pair} {r : List T_api_Pair} (h1 : r.Perm [x, y]) (h2 : r.Pairwise fun x y => plt x y ∨ x = y) (h : plt x y) : r = [x, y] := by
  have hl := h1.length_eq
  match r, hl with
  | [a, b], _ =>
    have h3 := (List.pairwise_cons.1 h2).1 b (by simp)
    have ha : a ∈ [x, y] := h1.subset (by simp)
    have hb : b ∈ [x, y] := h1.subset (by simp)
    have hx : x ∈ [a, b] := h1.symm.subset (by simp)
    have hy : y ∈ [a, b] := h1.symm.subset (by simp)
    have hne : x ≠ y := fun e => plt_irr (e ▸ h)
    simp only [List.mem_cons, List.not_mem_nil, or_false] at ha hb hx hy
    rcases ha with rfl | rfl
    · rcases hy with e | rfl
      · exact absurd e.symm hne
      · rfl
    · rcases hx with e | rfl
      · exact absurd e hne
      · rcases h3 with h3 | h3
        · exact absurd (plt_trans h h3) plt_irr
        · exact absurd h3.symm hne
theorem enforce_cmp : enforce_compare_m = graph_compare_m := rfl
theorem sortEF_le {l : List T_api_Pair} : Le (sortEF l) (sortFM enforce_compare_m l) := fun r h => by
  rw [enforce_cmp]
  unfold sortEF at h
  split at h
  · cases h
    obtain ⟨r, h1, h2, _⟩ := sort_P (l := []) (by simp)
    rw [h1, List.perm_nil.1 h2]
  · cases h
    rename_i x
    obtain ⟨r, h1, h2, _⟩ := sort_P (l := [x]) (by simp)
    rw [h1, List.perm_singleton.1 h2]
  · rename_i x y
    obtain ⟨r', h1, h2, h3⟩ := sort_P (l := [x, y]) (by simp)
    split at h
    · rename_i hp; cases h; rw [h1, sort_two h2 h3 hp]
    · split at h
      · rename_i hp; cases h; rw [h1, sort_two (h2.trans (List.Perm.swap y x [])) h3 hp]
      · cases h
  · cases h
end Go.Dc
