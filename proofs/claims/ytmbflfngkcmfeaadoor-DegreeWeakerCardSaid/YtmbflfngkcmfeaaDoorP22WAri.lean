/- Part P22W.Ari of a proof: lemmas. -/
import Derived.Test.YtmbflfngkcmfeaaDoorP22WFrac
import Derived.Test.YtmbflfngkcmfeaaDoorP22WNet
set_option linter.unusedVariables false
set_option linter.unusedSimpArgs false
set_option linter.unusedSectionVars false
/-! Products, sums and quotients of fractions, in the program and in the reference. -/
namespace Go.Dc
abbrev Fr := T_api_Fraction
def BIG : Nat := 4611686018427387904

theorem iadd_u {a b : Nat} (h : a + b < 2 ^ 64) : iadd .u64 (a : Int) (b : Int) = ((a + b : Nat) : Int) := by
  unfold iadd
  rw [show ((a : Int) + (b : Int)) = ((a + b : Nat) : Int) by simp, wrapU h]
theorem low32 {a : Nat} (ha : a < 2 ^ 64) : iand .u64 (a : Int) 4294967295 = ((a % 4294967296 : Nat) : Int) := by
  rw [show (4294967295 : Int) = ((4294967295 : Nat) : Int) by rfl, iand_u ha (by decide), show (4294967295 : Nat) = 2 ^ 32 - 1 by decide, Nat.and_two_pow_sub_one_eq_mod]
theorem high32 {a : Nat} : ishr .u64 (a : Int) 32 = ((a / 4294967296 : Nat) : Int) := by
  rw [show (32 : Int) = ((32 : Nat) : Int) by rfl, ishr_u (by decide), Nat.shiftRight_eq_div_pow]

theorem Mul64_plain {a b : Nat} (ha : a < 2 ^ 64) (hb : b < 2 ^ 64) : math_bits_Mul64_m (a : Int) (b : Int) = some (((a * b / 2 ^ 64 : Nat) : Int), ((a * b % 2 ^ 64 : Nat) : Int)) := by
  unfold math_bits_Mul64_m
  simp only [letM_eq]
  rw [low32 ha, low32 hb, high32, high32]
  generalize hx0 : a % 4294967296 = x0
  generalize hx1 : a / 4294967296 = x1
  generalize hy0 : b % 4294967296 = y0
  generalize hy1 : b / 4294967296 = y1
  have a0 : x0 ≤ 4294967295 := by omega
  have a1 : x1 ≤ 4294967295 := by omega
  have b0 : y0 ≤ 4294967295 := by omega
  have b1 : y1 ≤ 4294967295 := by omega
  have ea : a = x1 * 4294967296 + x0 := by omega
  have eb : b = y1 * 4294967296 + y0 := by omega
  have mA : x0 * y0 ≤ 4294967295 * 4294967295 := Nat.mul_le_mul a0 b0
  have mQ : x1 * y0 ≤ 4294967295 * 4294967295 := Nat.mul_le_mul a1 b0
  have mR : x0 * y1 ≤ 4294967295 * 4294967295 := Nat.mul_le_mul a0 b1
  have mP : x1 * y1 ≤ 4294967295 * 4294967295 := Nat.mul_le_mul a1 b1
  have hab : a * b = x1 * y1 * 18446744073709551616 + (x1 * y0 + x0 * y1) * 4294967296 + x0 * y0 := by
    rw [ea, eb, Nat.add_mul, Nat.mul_add, Nat.mul_add, Nat.add_mul]
    have e1 : x1 * 4294967296 * (y1 * 4294967296) = x1 * y1 * 18446744073709551616 := by
      rw [show (18446744073709551616 : Nat) = 4294967296 * 4294967296 by decide]; ac_rfl
    have e2 : x1 * 4294967296 * y0 = x1 * y0 * 4294967296 := by ac_rfl
    have e3 : x0 * (y1 * 4294967296) = x0 * y1 * 4294967296 := by ac_rfl
    omega
  have u : ∀ p q : Nat, p * q ≤ 4294967295 * 4294967295 → imul .u64 (p : Int) (q : Int) = ((p * q : Nat) : Int) := fun p q h => by
    rw [imul_u, Nat.mod_eq_of_lt (by omega)]
  rw [u x0 y0 mA, u x1 y0 mQ, u x0 y1 mR, u x1 y1 mP, high32, imul_u (a := a)]
  generalize x0 * y0 = A at *
  generalize x1 * y0 = Q at *
  generalize x0 * y1 = R at *
  generalize x1 * y1 = P at *
  rw [iadd_u (a := Q) (by omega), low32 (by omega), high32, iadd_u (a := (Q + A / 4294967296) % 4294967296) (by omega), high32, iadd_u (a := P) (by omega), iadd_u (by omega)]
  congr 3
  omega

/-- a product and whether it is within the bound -/
def prodR (a b : Nat) : Int × Bool := if a * b ≤ BIG then (((a * b : Nat) : Int), true) else (0, false)

theorem product_plain {a b : Nat} (ha : a < 2 ^ 63) (hb : b < 2 ^ 63) : degree_product_m (a : Int) (b : Int) = some (prodR a b) := by
  unfold degree_product_m prodR BIG
  rw [wrapU (by omega), wrapU (by omega), Mul64_plain (by omega) (by omega), some_bind]
  simp only
  generalize a * b = p
  by_cases h1 : p / 2 ^ 64 = 0
  · have hp : p < 2 ^ 64 := by omega
    rw [Nat.mod_eq_of_lt hp, h1]
    by_cases h2 : p ≤ 4611686018427387904
    · rw [if_pos h2, decide_eq_false (by omega), letM_eq, wrap64 (by omega) (by omega)]; rfl
    · rw [if_neg h2, decide_eq_true (by omega)]; rfl
  · rw [if_neg (by omega), show (((p / 2 ^ 64 : Nat) : Int) != 0) = true by simp; omega]; rfl

theorem rproduct_plain {a b : Nat} : ref22_product_m (a : Int) (b : Int) = some (prodR a b) := by
  unfold ref22_product_m prodR BIG
  by_cases h0 : a = 0
  · subst h0
    rw [show (((0 : Nat) : Int) != 0) = false from rfl, cond_false, letM_eq, imul64 (by simp) (by simp)]
    simp
  · rw [show ((a : Int) != 0) = true by simp [h0], cond_true, show (4611686018427387904 : Int) = ((4611686018427387904 : Nat) : Int) by rfl, iquo_u h0 (Nat.le_refl _), some_bind]
    have key : b ≤ 4611686018427387904 / a ↔ a * b ≤ 4611686018427387904 := by rw [Nat.le_div_iff_mul_le (by omega), Nat.mul_comm]
    by_cases h2 : a * b ≤ 4611686018427387904
    · rw [if_pos h2, decide_eq_false (by have := key.2 h2; omega), cond_false, letM_eq, imul_n h2]
    · rw [if_neg h2, decide_eq_true (by have := mt key.1 h2; omega), cond_true]

theorem reduce_eq {f : Fr} : degree_reduce_m f = ref22_Reduced_m f.Num f.Den := by
  unfold degree_reduce_m ref22_Reduced_m ref22_gcd_m
  rw [show degree_reduce_l1 = ref22_gcd_l1 from rfl]
  cases loopC ref22_gcd_l1 (f.Num, f.Den) <;> rfl

def wiB (f : Fr) : Bool := decide (f.Num ≤ 1099511627776) && decide (f.Den ≤ 1099511627776)
theorem within_plain {f : Fr} : ref22_within_m f = some (wiB f) := by
  unfold ref22_within_m wiB
  cases decide (f.Num ≤ 1099511627776) <;> rfl
theorem small_plain {a b : Nat} (hb : 0 < b) (ha1 : a ≤ BIG) (hb1 : b ≤ BIG) : degree_small_m (a : Int) (b : Int) = some (rd a b, wiB (rd a b)) := by
  unfold degree_small_m
  rw [reduce_eq, Reduced_plain hb ha1 hb1, some_bind]
  unfold wiB
  cases decide ((rd a b).Num ≤ 1099511627776) <;> rfl

/-- x/y of these numbers -/
def fq (n d : Nat) : Fr := ⟨(n : Int), (d : Int)⟩
def z0 : Fr := ⟨0, 0⟩

/-- a/b + c/d -/
def addN (a b c d : Nat) : Fr × Bool :=
  if a * d ≤ BIG ∧ c * b ≤ BIG ∧ b * d ≤ BIG ∧ a * d + c * b ≤ BIG then (rd (a * d + c * b) (b * d), wiB (rd (a * d + c * b) (b * d))) else (z0, false)

theorem prodR_1 {a b : Nat} : (prodR a b).2 = decide (a * b ≤ BIG) := by unfold prodR; by_cases h : a * b ≤ BIG <;> simp [h]
theorem prodR_2 {a b : Nat} (h : a * b ≤ BIG) : (prodR a b).1 = ((a * b : Nat) : Int) := by unfold prodR; rw [if_pos h]

theorem add_plain {a b c d : Nat} (ha : a < 2 ^ 63) (hb : b < 2 ^ 63) (hc : c < 2 ^ 63) (hd : d < 2 ^ 63) (hb0 : 0 < b) (hd0 : 0 < d) : degree_add_m (fq a b) (fq c d) = some (addN a b c d) := by
  unfold degree_add_m addN fq
  simp only
  rw [product_plain ha hd, some_bind, product_plain hc hb, some_bind, product_plain hb hd, some_bind, prodR_1, prodR_1, prodR_1]
  by_cases h1 : a * d ≤ BIG
  · by_cases h2 : c * b ≤ BIG
    · by_cases h3 : b * d ≤ BIG
      · rw [decide_eq_true h1, decide_eq_true h2, decide_eq_true h3, prodR_2 h1, prodR_2 h2, prodR_2 h3]
        simp only [Bool.not_true, cond_false]
        have hB : BIG = 4611686018427387904 := rfl
        rw [wrapU (by omega), wrapU (by omega), iadd_u (by omega)]
        by_cases h4 : a * d + c * b ≤ BIG
        · rw [if_pos ⟨h1, h2, h3, h4⟩, decide_eq_false (by omega), cond_false, iadd_n (by omega), small_plain (Nat.mul_pos hb0 hd0) h4 h3, some_bind]
        · rw [if_neg (fun h => h4 h.2.2.2), decide_eq_true (by omega), cond_true]; rfl
      · rw [if_neg (fun h => h3 h.2.2.1), decide_eq_true h1, decide_eq_true h2, decide_eq_false h3]; rfl
    · rw [if_neg (fun h => h2 h.2.1), decide_eq_true h1, decide_eq_false h2]; rfl
  · rw [if_neg (fun h => h1 h.1), decide_eq_false h1]; rfl

theorem radd_plain {a b c d : Nat} (hb0 : 0 < b) (hd0 : 0 < d) : ref22_add_m (fq a b) (fq c d) = some (addN a b c d) := by
  unfold ref22_add_m addN fq
  simp only
  rw [rproduct_plain, some_bind, rproduct_plain, some_bind, rproduct_plain, some_bind, prodR_1, prodR_1, prodR_1]
  by_cases h1 : a * d ≤ BIG
  · by_cases h2 : c * b ≤ BIG
    · by_cases h3 : b * d ≤ BIG
      · rw [decide_eq_true h1, decide_eq_true h2, decide_eq_true h3, prodR_2 h1, prodR_2 h2, prodR_2 h3]
        simp only [Bool.not_true, cond_false]
        have hB : BIG = 4611686018427387904 := rfl
        rw [isub64 (by omega) (by omega)]
        by_cases h4 : a * d + c * b ≤ BIG
        · rw [if_pos ⟨h1, h2, h3, h4⟩, decide_eq_false (by omega), cond_false, iadd_n (by omega), Reduced_plain (Nat.mul_pos hb0 hd0) h4 h3, some_bind, within_plain, some_bind]
        · rw [if_neg (fun h => h4 h.2.2.2), decide_eq_true (by omega), cond_true]; rfl
      · rw [if_neg (fun h => h3 h.2.2.1), decide_eq_true h1, decide_eq_true h2, decide_eq_false h3]; rfl
    · rw [if_neg (fun h => h2 h.2.1), decide_eq_true h1, decide_eq_false h2]; rfl
  · rw [if_neg (fun h => h1 h.1), decide_eq_false h1]; rfl

/-- (a/b) / (c/d) -/
def divN (a b c d : Nat) : Fr × Bool :=
  if a * d ≤ BIG ∧ b * c ≤ BIG then (rd (a * d) (b * c), wiB (rd (a * d) (b * c))) else (z0, false)

theorem divide_plain {a b c d : Nat} (ha : a < 2 ^ 63) (hb : b < 2 ^ 63) (hc : c < 2 ^ 63) (hd : d < 2 ^ 63) (hb0 : 0 < b) (hc0 : 0 < c) : degree_divide_m (fq a b) (fq c d) = some (divN a b c d) := by
  unfold degree_divide_m divN fq
  simp only
  rw [product_plain ha hd, some_bind, product_plain hb hc, some_bind, prodR_1, prodR_1]
  by_cases h1 : a * d ≤ BIG
  · by_cases h2 : b * c ≤ BIG
    · rw [decide_eq_true h1, decide_eq_true h2, prodR_2 h1, prodR_2 h2, if_pos ⟨h1, h2⟩]
      simp only [Bool.not_true, cond_false]
      rw [small_plain (Nat.mul_pos hb0 hc0) h1 h2, some_bind]
    · rw [if_neg (fun h => h2 h.2), decide_eq_true h1, decide_eq_false h2]; rfl
  · rw [if_neg (fun h => h1 h.1), decide_eq_false h1]; rfl
end Go.Dc
