/- Part P06Z.Contra of a proof: lemmas. -/
import Derived.Test.YtejhbimlekcllaaGreatDoorP06ZClo
set_option linter.unusedVariables false
set_option linter.unusedSimpArgs false
set_option linter.unusedSectionVars false
/-! What follows in a base that is closed under transposition. -/
namespace Go.Dc
def cmpl (x : Li) : Li := { x with Neg := !x.Neg }
theorem cmpl_cmpl (x : Li) : cmpl (cmpl x) = x := by cases x; simp [cmpl]
theorem cmpl_ne (x : Li) : cmpl x ≠ x := by cases x with | mk n s => simp [cmpl]
variable {b : T_api_Base}
/-- each strict rule has its transposes -/
def ClosedT (b : T_api_Base) : Prop := ∀ r ∈ b.Rules, r.Strict = true → ∀ y ∈ r.Body, ∃ q ∈ b.Rules, q.Strict = true ∧ q.Head = cmpl y ∧ ∀ z ∈ q.Body, z = cmpl r.Head ∨ (z ∈ r.Body ∧ z ≠ y)
theorem Cl.closed {l : List Li} : ClosedS b (Cl b l) := fun r hr hs hb => .rule hr hs hb
theorem Cl.cut {l l' : List Li} (h : ∀ x ∈ l, Cl b l' x) {z : Li} (hz : Cl b l z) : Cl b l' z := hz.least h Cl.closed
theorem contra (hc : ClosedT b) {S : List Li} {y z : Li} (hz : Cl b (S ++ [y]) z) : ¬ Cl b S z → Cl b (S ++ [y] ++ [cmpl z]) (cmpl y) := by
  induction hz with
  | base hx =>
    intro hn
    rcases List.mem_append.1 hx with h | h
    · exact absurd (.base h) hn
    · rw [List.mem_singleton.1 h]; exact .base (by simp)
  | @rule r hr hs hb ih =>
    intro hn
    obtain ⟨w, hw, hwn⟩ : ∃ w ∈ r.Body, ¬ Cl b S w := Classical.byContradiction fun h => hn (.rule hr hs fun w hw => Classical.byContradiction fun h2 => h ⟨w, hw, h2⟩)
    obtain ⟨q, hq, hqs, hqh, hqb⟩ := hc r hr hs w hw
    have hcw : Cl b (S ++ [y] ++ [cmpl r.Head]) (cmpl w) := hqh ▸ .rule hq hqs fun z hz => by
      rcases hqb z hz with e | ⟨h1, _⟩
      · rw [e]; exact .base (by simp)
      · exact (hb z h1).mono fun x hx => List.mem_append_left _ hx
    refine (ih w hw hwn).cut fun x hx => ?_
    rcases List.mem_append.1 hx with h | h
    · exact .base (List.mem_append_left _ h)
    · rw [List.mem_singleton.1 h]; exact hcw
/-- from a set that is not consistent, without an element it is: the complement of the element follows -/
theorem blame (hc : ClosedT b) {S l : List Li} {y : Li} (hl : ∀ x, x ∈ l ↔ x ∈ S ++ [y]) (hi : ∃ z, Cl b l z ∧ Cl b l (cmpl z)) (hn : ¬ ∃ z, Cl b S z ∧ Cl b S (cmpl z)) : Cl b l (cmpl y) := by
  obtain ⟨z, h1, h2⟩ := hi
  have go : ∀ z, Cl b l z → Cl b l (cmpl z) → ¬ Cl b S z → Cl b l (cmpl y) := fun z h1 h2 h3 => by
    refine (contra hc (h1.mono fun x hx => (hl x).1 hx) h3).cut fun x hx => ?_
    rcases List.mem_append.1 hx with h | h
    · exact .base ((hl x).2 h)
    · rw [List.mem_singleton.1 h]; exact h2
  by_cases h3 : Cl b S z
  · by_cases h4 : Cl b S (cmpl z)
    · exact absurd ⟨z, h3, h4⟩ hn
    · exact go _ h2 (by rw [cmpl_cmpl]; exact h1) h4
  · exact go z h1 h2 h3
end Go.Dc
