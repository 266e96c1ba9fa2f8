/- Part Dc.Bits of a proof: lemmas. -/
import Derived.Test.YtcpkdjlfgfikcaaGreatDoorDcCut4
set_option linter.unusedVariables false
set_option linter.unusedSimpArgs false
/-! Sets of bits: numbers of 64 bits as sets of numbers below 64. -/
namespace Go.Dc

theorem wrapU {n : Nat} (h : n < 2 ^ 64) : IntKind.wrap .u64 (n : Int) = (n : Int) := by
  simp [IntKind.wrap, IntKind.signed, IntKind.bits]; omega

/-- the bits of a that b has not -/
def andn (a b : Nat) : Nat := (BitVec.ofNat 64 a &&& ~~~BitVec.ofNat 64 b).toNat

theorem and_lt {a b : Nat} (ha : a < 2 ^ 64) : a &&& b < 2 ^ 64 := Nat.lt_of_le_of_lt Nat.and_le_left ha
theorem or_lt {a b : Nat} (ha : a < 2 ^ 64) (hb : b < 2 ^ 64) : a ||| b < 2 ^ 64 := Nat.or_lt_two_pow ha hb

theorem iand_u {a b : Nat} (ha : a < 2 ^ 64) (hb : b < 2 ^ 64) : iand .u64 (a : Int) (b : Int) = ((a &&& b : Nat) : Int) := by
  unfold iand
  have : (BitVec.ofInt 64 (a : Int) &&& BitVec.ofInt 64 (b : Int)).toNat = a &&& b := by
    simp only [BitVec.toNat_and, BitVec.ofInt_natCast, BitVec.toNat_ofNat]
    rw [Nat.mod_eq_of_lt ha, Nat.mod_eq_of_lt hb]
  rw [show IntKind.bits .u64 = 64 from rfl, this, wrapU (and_lt ha)]
theorem ior_u {a b : Nat} (ha : a < 2 ^ 64) (hb : b < 2 ^ 64) : ior .u64 (a : Int) (b : Int) = ((a ||| b : Nat) : Int) := by
  unfold ior
  have : (BitVec.ofInt 64 (a : Int) ||| BitVec.ofInt 64 (b : Int)).toNat = a ||| b := by
    simp only [BitVec.toNat_or, BitVec.ofInt_natCast, BitVec.toNat_ofNat]
    rw [Nat.mod_eq_of_lt ha, Nat.mod_eq_of_lt hb]
  rw [show IntKind.bits .u64 = 64 from rfl, this, wrapU (or_lt ha hb)]
theorem isub_u {a b : Nat} (ha : a < 2 ^ 64) (hb : b ≤ a) : isub .u64 (a : Int) (b : Int) = ((a - b : Nat) : Int) := by
  unfold isub
  rw [show (a : Int) - (b : Int) = ((a - b : Nat) : Int) by omega, wrapU (by omega)]
theorem isub1_u {a : Nat} (ha : a < 2 ^ 64) (hb : 1 ≤ a) : isub .u64 (a : Int) 1 = ((a - 1 : Nat) : Int) := isub_u (b := 1) ha hb
theorem ishl_u {n : Nat} (h : n < 64) : ishl .u64 1 (n : Int) = ((2 ^ n : Nat) : Int) := by
  unfold ishl
  rw [show min ((n : Int).toNat) (IntKind.bits .u64) = n by simp [IntKind.bits]; omega, Int.one_mul]
  rw [show (2 : Int) ^ n = ((2 ^ n : Nat) : Int) by simp]
  exact wrapU (Nat.pow_lt_pow_right (by decide) h)
theorem ishr_u {a n : Nat} (h : n ≤ 64) : ishr .u64 (a : Int) (n : Int) = ((a >>> n : Nat) : Int) := by
  unfold ishr
  rw [show min ((n : Int).toNat) (IntKind.bits .u64) = n by simp [IntKind.bits]; omega, Int.fdiv_eq_ediv_of_nonneg _ (Int.le_of_lt (Int.pow_pos (show (0 : Int) < 2 by decide))), Nat.shiftRight_eq_div_pow]
  simp

/-! ### the lowest bit -/
theorem low_exists {s : Nat} (h : s ≠ 0) : ∃ k, s.testBit k = true ∧ ∀ j, j < k → s.testBit j = false := by
  obtain ⟨i, hi⟩ := Nat.exists_testBit_of_ne_zero h
  induction i using Nat.strongRecOn with
  | _ i ih =>
    by_cases hx : ∃ j, j < i ∧ s.testBit j = true
    · obtain ⟨j, hj, hb⟩ := hx; exact ih j hj hb
    · exact ⟨i, hi, fun j hj => by cases hb : s.testBit j; rfl; exact absurd ⟨j, hj, hb⟩ hx⟩

section low
variable {s k : Nat}
theorem low_form (hk : s.testBit k = true) (hl : ∀ j, j < k → s.testBit j = false) : s = 2 ^ (k + 1) * (s / 2 ^ (k + 1)) + 2 ^ k := by
  have h1 : s % 2 ^ (k + 1) = 2 ^ k := by
    apply Nat.eq_of_testBit_eq
    intro j
    rw [Nat.testBit_mod_two_pow, Nat.testBit_two_pow]
    by_cases e : j < k
    · simp [hl j e]; omega
    · by_cases e2 : j = k
      · subst e2; simp [hk]
      · have : ¬ j < k + 1 := by omega
        have h3 : ¬ k = j := fun h => e2 h.symm
        simp [this, h3]
  have := Nat.div_add_mod s (2 ^ (k + 1))
  omega

theorem low_pred (hk : s.testBit k = true) (hl : ∀ j, j < k → s.testBit j = false) (j : Nat) : (s - 1).testBit j = if j < k then true else if j = k then false else s.testBit j := by
  have hf := low_form hk hl
  have hp : 0 < 2 ^ k := Nat.two_pow_pos k
  have h2 : 2 ^ k - 1 < 2 ^ (k + 1) := by rw [Nat.pow_succ]; omega
  have h3 : 2 ^ k < 2 ^ (k + 1) := by rw [Nat.pow_succ]; omega
  have e : s - 1 = 2 ^ (k + 1) * (s / 2 ^ (k + 1)) + (2 ^ k - 1) := by omega
  rw [e, Nat.testBit_two_pow_mul_add _ h2, Nat.testBit_two_pow_sub_one]
  have hs : s.testBit j = if j < k + 1 then (2 ^ k).testBit j else (s / 2 ^ (k + 1)).testBit (j - (k + 1)) := by
    conv => lhs; rw [hf]
    rw [Nat.testBit_two_pow_mul_add _ h3]
  by_cases h1 : j < k
  · simp [h1, show j < k + 1 by omega]
  · by_cases h4 : j = k
    · subst h4; simp
    · rw [hs, if_neg h1, if_neg h4, if_neg (by omega), if_neg (by omega)]

theorem low_clear (hk : s.testBit k = true) (hl : ∀ j, j < k → s.testBit j = false) (j : Nat) : (s &&& (s - 1)).testBit j = if j ≤ k then false else s.testBit j := by
  rw [Nat.testBit_and, low_pred hk hl]
  by_cases h1 : j < k
  · simp [h1, hl j h1, show j ≤ k by omega]
  · by_cases h4 : j = k
    · subst h4; simp
    · simp [h1, h4, show ¬ j ≤ k by omega]

theorem low_neg (hs : s < 2 ^ 64) (hk : s.testBit k = true) (hl : ∀ j, j < k → s.testBit j = false) : s &&& (2 ^ 64 - s) = 2 ^ k := by
  have h0 : s ≠ 0 := fun e => by rw [e] at hk; simp at hk
  have hk64 : k < 64 := by
    by_cases h : k < 64
    · exact h
    · have := Nat.testBit_lt_two_pow (Nat.lt_of_lt_of_le hs (Nat.pow_le_pow_right (by decide : 0 < 2) (by omega : 64 ≤ k)))
      rw [this] at hk; cases hk
  apply Nat.eq_of_testBit_eq
  intro j
  rw [Nat.testBit_and, Nat.testBit_two_pow, show 2 ^ 64 - s = 2 ^ 64 - ((s - 1) + 1) by omega, Nat.testBit_two_pow_sub_succ (by omega), low_pred hk hl]
  by_cases h1 : j < k
  · simp [hl j h1]; omega
  · by_cases h4 : j = k
    · subst h4; simp [hk, hk64]
    · have h5 : ¬ k = j := fun h => h4 h.symm
      simp only [if_neg h1, if_neg h4, h5, decide_false]
      cases s.testBit j <;> simp
end low

theorem bit_lt {s i : Nat} (hs : s < 2 ^ 64) (h : s.testBit i = true) : i < 64 := by
  by_cases h1 : i < 64
  · exact h1
  · have := Nat.testBit_lt_two_pow (Nat.lt_of_lt_of_le hs (Nat.pow_le_pow_right (by decide : 0 < 2) (by omega : 64 ≤ i)))
    rw [this] at h; cases h

/-- the table of TrailingZeros64 -/
def tzTab : List Int := [0, 1, 56, 2, 57, 49, 28, 3, 61, 58, 42, 50, 38, 29, 17, 4, 62, 47, 59, 36, 45, 43, 51, 22, 53, 39, 33, 30, 24, 18, 12, 5, 63, 55, 48, 27, 60, 41, 37, 16, 46, 35, 44, 21, 52, 32, 23, 11, 54, 26, 40, 15, 34, 20, 31, 10, 25, 14, 19, 9, 13, 8, 7, 6]
theorem tz_tab : ∀ k : Fin 64, idxM tzTab ((((2 ^ k.val * 285870213051353865 % 2 ^ 64) >>> 58 : Nat)) : Int) = some (k.val : Int) := by decide +kernel
theorem ineg_u {s : Nat} (h0 : s ≠ 0) (hs : s < 2 ^ 64) : ineg .u64 (s : Int) = ((2 ^ 64 - s : Nat) : Int) := by
  unfold ineg
  simp [IntKind.wrap, IntKind.signed, IntKind.bits]; omega
theorem imul_u {a b : Nat} : imul .u64 (a : Int) (b : Int) = ((a * b % 2 ^ 64 : Nat) : Int) := by
  unfold imul
  simp [IntKind.wrap, IntKind.signed, IntKind.bits]

/-- what TrailingZeros64 looks up -/
theorem tz_look {s k : Nat} (hs : s < 2 ^ 64) (hk : s.testBit k = true) (hl : ∀ j, j < k → s.testBit j = false) :
    idxM tzTab (ishr .u64 (imul .u64 (iand .u64 (s : Int) (ineg .u64 (s : Int))) 285870213051353865) 58) = some (k : Int) := by
  have h0 : s ≠ 0 := fun e => by rw [e] at hk; simp at hk
  have hk64 := bit_lt hs hk
  rw [ineg_u h0 hs, iand_u hs (by omega), low_neg hs hk hl]
  have h1 : imul .u64 ((2 ^ k : Nat) : Int) 285870213051353865 = ((2 ^ k * 285870213051353865 % 2 ^ 64 : Nat) : Int) := imul_u (b := 285870213051353865)
  rw [h1]
  have h2 := ishr_u (a := 2 ^ k * 285870213051353865 % 2 ^ 64) (n := 58) (by decide)
  rw [show ((58 : Nat) : Int) = 58 from rfl] at h2
  rw [h2]
  exact tz_tab ⟨k, hk64⟩

/-! ### the list of the bits -/
def bitsL (s : Nat) : List Nat := (List.range 64).filter s.testBit

theorem mem_bitsL {s i : Nat} (hs : s < 2 ^ 64) : i ∈ bitsL s ↔ s.testBit i = true := by
  unfold bitsL
  rw [List.mem_filter, List.mem_range]
  exact ⟨fun h => h.2, fun h => ⟨bit_lt hs h, h⟩⟩

theorem bitsL_zero : bitsL 0 = [] := by
  unfold bitsL
  rw [List.filter_eq_nil_iff]; simp

theorem bitsL_cons {s k : Nat} (hs : s < 2 ^ 64) (hk : s.testBit k = true) (hl : ∀ j, j < k → s.testBit j = false) : bitsL s = k :: bitsL (s &&& (s - 1)) := by
  have hk64 := bit_lt hs hk
  have hr : List.range 64 = List.range k ++ (k :: (List.range (63 - k)).map (k + 1 + ·)) := by
    rw [show 64 = (k + 1) + (63 - k) by omega, List.range_add, List.range_succ]; simp
  unfold bitsL
  rw [hr, List.filter_append, List.filter_append, List.filter_cons_of_pos hk]
  have h1 : (List.range k).filter s.testBit = [] := List.filter_eq_nil_iff.2 fun j hj => by simp [hl j (List.mem_range.1 hj)]
  have h2 : (List.range k).filter (s &&& (s - 1)).testBit = [] := List.filter_eq_nil_iff.2 fun j hj => by
    rw [low_clear hk hl, if_pos (by have := List.mem_range.1 hj; omega)]; simp
  have h3 : ¬ (s &&& (s - 1)).testBit k = true := by rw [low_clear hk hl]; simp
  rw [h1, h2, List.filter_cons_of_neg h3]
  simp only [List.nil_append]
  congr 1
  refine List.filter_congr fun j hj => ?_
  obtain ⟨m, _, rfl⟩ := List.mem_map.1 hj
  rw [low_clear hk hl, if_neg (by omega)]

theorem bitsL_len {s : Nat} : (bitsL s).length ≤ 64 := by
  unfold bitsL
  exact Nat.le_trans (List.length_filter_le _ _) (by simp)

theorem low_lt {s : Nat} (h : s ≠ 0) : s &&& (s - 1) < s := Nat.lt_of_le_of_lt Nat.and_le_right (by omega)

end Go.Dc
