/- Part P22A.Ari of a proof: lemmas. -/
import Derived.Test.YtmbflfngkcmfeaaDoorP22AFrac
import Derived.Test.YtmbflfngkcmfeaaDoorP22ANet
set_option linter.unusedVariables false
set_option linter.unusedSimpArgs false
set_option linter.unusedSectionVars false
/-! Products, sums and quotients of fractions, in the program and in the reference. -/
namespace Go.Dc
abbrev Fr := T_api_Fraction
def BIG : Nat := 4611686018427387904

theorem iadd_u {a b : Nat} (h : a + b < 2 ^ 64) : iadd .u64 (a : Int) (b : Int) = ((a + b : Nat) : Int) := by
  unfold iadd
  rw [show ((a : Int) + (b : Int)) = ((a + b : Nat) : Int) by simp, wrapU h]
theorem low32 {a : Nat} (ha : a < 2 ^ 64) : iand .u64 (a : Int) 4294967295 = ((a % 4294967296 : Nat) : Int) := by
  rw [show (4294967295 : Int) = ((4294967295 : Nat) : Int) by rfl, iand_u ha (by decide), show (4294967295 : Nat) = 2 ^ 32 - 1 by decide, Nat.and_two_pow_sub_one_eq_mod]
theorem high32 {a : Nat} : ishr .u64 (a : Int) 32 = ((a / 4294967296 : Nat) : Int) := by
  rw [show (32 : Int) = ((32 : Nat) : Int) by rfl, ishr_u (by decide), Nat.shiftRight_eq_div_pow]

theorem Mul64_plain {a b : Nat} (ha : a < 2 ^ 64) (hb : b < 2 ^ 64) : math_bits_Mul64_m (a : Int) (b : Int) = some (((a * b / 2 ^ 64 : Nat) : Int), ((a * b % 2 ^ 64 : Nat) : Int)) := by
  unfold math_bits_Mul64_m
  simp only [letM_eq]
  rw [low32 ha, low32 hb, high32, high32]
  generalize hx0 : a % 4294967296 = x0
  generalize hx1 : a / 4294967296 = x1
  generalize hy0 : b % 4294967296 = y0
  generalize hy1 : b / 4294967296 = y1
  have a0 : x0 ≤ 4294967295 := by omega
  have a1 : x1 ≤ 4294967295 := by omega
  have b0 : y0 ≤ 4294967295 := by omega
  have b1 : y1 ≤ 4294967295 := by omega
  have ea : a = x1 * 4294967296 + x0 := by omega
  have eb : b = y1 * 4294967296 + y0 := by omega
  have mA : x0 * y0 ≤ 4294967295 * 4294967295 := Nat.mul_le_mul a0 b0
  have mQ : x1 * y0 ≤ 4294967295 * 4294967295 := Nat.mul_le_mul a1 b0
  have mR : x0 * y1 ≤ 4294967295 * 4294967295 := Nat.mul_le_mul a0 b1
  have mP : x1 * y1 ≤ 4294967295 * 4294967295 := Nat.mul_le_mul a1 b1
  have hab : a * b = x1 * y1 * 18446744073709551616 + (x1 * y0 + x0 * y1) * 4294967296 + x0 * y0 := by
    rw [ea, eb, Nat.add_mul, Nat.mul_add, Nat.mul_add, Nat.add_mul]
    have e1 : x1 * 4294967296 * (y1 * 4294967296) = x1 * y1 * 18446744073709551616 := by
      rw [show (18446744073709551616 : Nat) = 4294967296 * 4294967296 by decide]; ac_rfl
    have e2 : x1 * 4294967296 * y0 = x1 * y0 * 4294967296 := by ac_rfl
    have e3 : x0 * (y1 * 4294967296) = x0 * y1 * 4294967296 := by ac_rfl
    omega
  have u : ∀ p q : Nat, p * q ≤ 4294967295 * 4294967295 → imul .u64 (p : Int) (q : Int) = ((p * q : Nat) : Int) := fun p q h => by
    rw [imul_u, Nat.mod_eq_of_lt (by omega)]
  rw [u x0 y0 mA, u x1 y0 mQ, u x0 y1 mR, u x1 y1 mP, high32, imul_u (a := a)]
  generalize x0 * y0 = A at *
  generalize x1 * y0 = Q at *
  generalize x0 * y1 = R at *
  generalize x1 * y1 = P at *
  rw [iadd_u (a := Q) (by omega), low32 (by omega), high32, iadd_u (a := (Q + A / 4294967296) % 4294967296) (by omega), high32, iadd_u (a := P) (by omega), iadd_u (by omega)]
  congr 3
  omega

/-- a product and whether it is within the bound -/
def prodR (a b : Nat) : Int × Bool := if a * b ≤ BIG then (((a * b : Nat) : Int), true) else (0, false)

theorem product_plain {a b : Nat} (ha : a < 2 ^ 63) (hb : b < 2 ^ 63) : degree_product_m (a : Int) (b : Int) = some (prodR a b) := by
  unfold degree_product_m prodR BIG
  rw [wrapU (by omega), wrapU (by omega), Mul64_plain (by omega) (by omega), some_bind]
  simp only
  generalize a * b = p
  by_cases h1 : p / 2 ^ 64 = 0
  · have hp : p < 2 ^ 64 := by omega
    rw [Nat.mod_eq_of_lt hp, h1]
    by_cases h2 : p ≤ 4611686018427387904
    · rw [if_pos h2, decide_eq_false (by omega), letM_eq, wrap64 (by omega) (by omega)]; rfl
    · rw [if_neg h2, decide_eq_true (by omega)]; rfl
  · rw [if_neg (by omega), show (((p / 2 ^ 64 : Nat) : Int) != 0) = true by simp; omega]; rfl

def wiB (f : Fr) : Bool := decide (f.Num ≤ 1099511627776) && decide (f.Den ≤ 1099511627776)
/-- x/y of these numbers -/
def fq (n d : Nat) : Fr := ⟨(n : Int), (d : Int)⟩
def z0 : Fr := ⟨0, 0⟩

/-- a/b + c/d -/
def addN (a b c d : Nat) : Fr × Bool :=
  if a * d ≤ BIG ∧ c * b ≤ BIG ∧ b * d ≤ BIG ∧ a * d + c * b ≤ BIG then (rd (a * d + c * b) (b * d), wiB (rd (a * d + c * b) (b * d))) else (z0, false)

theorem prodR_1 {a b : Nat} : (prodR a b).2 = decide (a * b ≤ BIG) := by unfold prodR; by_cases h : a * b ≤ BIG <;> simp [h]
theorem prodR_2 {a b : Nat} (h : a * b ≤ BIG) : (prodR a b).1 = ((a * b : Nat) : Int) := by unfold prodR; rw [if_pos h]

/-- (a/b) / (c/d) -/
def divN (a b c d : Nat) : Fr × Bool :=
  if a * d ≤ BIG ∧ b * c ≤ BIG then (rd (a * d) (b * c), wiB (rd (a * d) (b * c))) else (z0, false)

end Go.Dc
