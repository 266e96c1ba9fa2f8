/- Part P22A.Frac of a proof: lemmas. -/
import Derived.Test.YtmbflfngkcmfeaaDoorP22AKeep
set_option linter.unusedVariables false
set_option linter.unusedSimpArgs false
set_option linter.unusedSectionVars false
/-! Fractions. -/
namespace Go.Dc

/-- a/b in lowest terms -/
def rd (a b : Nat) : T_api_Fraction := ⟨((a / Nat.gcd a b : Nat) : Int), ((b / Nat.gcd a b : Nat) : Int)⟩

theorem rd_eq {a b c d : Nat} (hb : 0 < b) (hd : 0 < d) (h : a * d = c * b) : rd a b = rd c d := by
  have hg : 0 < Nat.gcd a b := Nat.gcd_pos_of_pos_right a hb
  have hh : 0 < Nat.gcd c d := Nat.gcd_pos_of_pos_right c hd
  obtain ⟨a', ea⟩ := Nat.gcd_dvd_left a b
  obtain ⟨b', eb⟩ := Nat.gcd_dvd_right a b
  obtain ⟨c', ec⟩ := Nat.gcd_dvd_left c d
  obtain ⟨d', ed⟩ := Nat.gcd_dvd_right c d
  have co1 : Nat.Coprime (a / Nat.gcd a b) (b / Nat.gcd a b) := Nat.coprime_div_gcd_div_gcd hg
  have co2 : Nat.Coprime (c / Nat.gcd c d) (d / Nat.gcd c d) := Nat.coprime_div_gcd_div_gcd hh
  have ha' : a / Nat.gcd a b = a' := Nat.div_eq_of_eq_mul_right hg ea
  have hb' : b / Nat.gcd a b = b' := Nat.div_eq_of_eq_mul_right hg eb
  have hc' : c / Nat.gcd c d = c' := Nat.div_eq_of_eq_mul_right hh ec
  have hd' : d / Nat.gcd c d = d' := Nat.div_eq_of_eq_mul_right hh ed
  unfold rd
  rw [ha', hb', hc', hd']
  rw [ha', hb'] at co1
  rw [hc', hd'] at co2
  generalize hG : Nat.gcd a b = g at *
  generalize hH : Nat.gcd c d = k at *
  have key : a' * d' = c' * b' := by
    have e1 : (g * k) * (a' * d') = (g * k) * (c' * b') := by
      calc (g * k) * (a' * d') = (g * a') * (k * d') := by ac_rfl
        _ = a * d := by rw [← ea, ← ed]
        _ = c * b := h
        _ = (k * c') * (g * b') := by rw [← ec, ← eb]
        _ = (g * k) * (c' * b') := by ac_rfl
    exact Nat.eq_of_mul_eq_mul_left (Nat.mul_pos hg hh) e1
  have h1 : a' ∣ c' := co1.dvd_of_dvd_mul_right (by rw [← key]; exact Nat.dvd_mul_right _ _)
  have h2 : c' ∣ a' := co2.dvd_of_dvd_mul_right (by rw [key]; exact Nat.dvd_mul_right _ _)
  have e1 : a' = c' := Nat.dvd_antisymm h1 h2
  have h3 : b' ∣ d' := co1.symm.dvd_of_dvd_mul_left (by rw [key]; exact Nat.dvd_mul_left _ _)
  have h4 : d' ∣ b' := co2.symm.dvd_of_dvd_mul_left (by rw [← key]; exact Nat.dvd_mul_left _ _)
  have e2 : b' = d' := Nat.dvd_antisymm h3 h4
  rw [e1, e2]

/-- the parts of rd -/
theorem rd_parts {a b : Nat} (hb : 0 < b) : ∃ n d : Nat, rd a b = ⟨(n : Int), (d : Int)⟩ ∧ 0 < d ∧ n * b = a * d ∧ n ≤ a ∧ d ≤ b ∧ (n = 0 ↔ a = 0) := by
  have hg : 0 < Nat.gcd a b := Nat.gcd_pos_of_pos_right a hb
  obtain ⟨a', ea⟩ := Nat.gcd_dvd_left a b
  obtain ⟨b', eb⟩ := Nat.gcd_dvd_right a b
  have ha' : a / Nat.gcd a b = a' := Nat.div_eq_of_eq_mul_right hg ea
  have hb' : b / Nat.gcd a b = b' := Nat.div_eq_of_eq_mul_right hg eb
  refine ⟨a', b', by unfold rd; rw [ha', hb'], ?_, ?_, ha' ▸ Nat.div_le_self _ _, hb' ▸ Nat.div_le_self _ _, ?_⟩
  · rcases Nat.eq_zero_or_pos b' with h | h
    · rw [h] at eb; omega
    · exact h
  · generalize Nat.gcd a b = g at *
    rw [ea, eb]; ac_rfl
  · generalize Nat.gcd a b = g at *
    rw [ea]
    constructor
    · rintro rfl; simp
    · intro h; rcases Nat.mul_eq_zero.1 h with h | h
      · omega
      · exact h

theorem gcd_loop {f : Int × Int → Option (Sum Int (Int × Int))} (hf : ∀ a b : Nat, f ((a : Int), (b : Int)) = if b = 0 then some (.inl (a : Int)) else some (.inr ((b : Int), ((a % b : Nat) : Int)))) (a b : Nat) :
    loopC f ((a : Int), (b : Int)) = some ((Nat.gcd b a : Nat) : Int) := by
  induction b using Nat.strongRecOn generalizing a with
  | _ b ih =>
    rw [loopC_eq, hf]
    by_cases hb : b = 0
    · subst hb; simp
    · rw [if_neg hb]
      show loopC f ((b : Int), ((a % b : Nat) : Int)) = _
      rw [ih (a % b) (Nat.mod_lt _ (by omega)), Nat.gcd_rec b a]

theorem irem_u {a b : Nat} (hb : b ≠ 0) : iremM .i64 (a : Int) (b : Int) = some ((a % b : Nat) : Int) := by
  unfold iremM
  rw [if_neg (by omega), irem_nn (by omega)]; rfl
theorem iquo_u {a b : Nat} (hb : b ≠ 0) (ha : a ≤ 4611686018427387904) : iquoM .i64 (a : Int) (b : Int) = some ((a / b : Nat) : Int) := by
  unfold iquoM
  rw [if_neg (by omega), iquo_nn (by omega) (by omega) (by omega)]; rfl

theorem imul_n {a b : Nat} (h : a * b ≤ 4611686018427387904) : imul .i64 (a : Int) (b : Int) = ((a * b : Nat) : Int) := by
  rw [imul64 (by rw [← Int.natCast_mul]; omega) (by rw [← Int.natCast_mul]; omega), Int.natCast_mul]
theorem iadd_n {a b : Nat} (h : a + b ≤ 4611686018427387904) : iadd .i64 (a : Int) (b : Int) = ((a + b : Nat) : Int) := by
  rw [iadd64 (by omega) (by omega)]; simp

theorem rd_one {t : Nat} (ht : 0 < t) : rd t t = ⟨1, 1⟩ := by
  rw [rd_eq ht (by decide : 0 < 1) (show t * 1 = 1 * t by omega)]; decide
theorem rd_zero {t : Nat} (ht : 0 < t) : rd 0 t = ⟨0, 1⟩ := by
  rw [rd_eq ht (by decide : 0 < 1) (show 0 * 1 = 0 * t by omega)]; decide
end Go.Dc
