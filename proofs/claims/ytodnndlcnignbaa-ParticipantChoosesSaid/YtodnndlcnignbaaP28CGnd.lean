/- Part P28C.Gnd of a proof: lemmas. -/
import Derived.Test.YtodnndlcnignbaaP28CNet
set_option linter.unusedVariables false
set_option linter.unusedSimpArgs false
/-! The grounded labelling of the reference. -/
namespace Go.Dc

def att (g : T_api_Graph) (a b : Int) : Prop := ∃ p ∈ g.L, p.From = a ∧ p.To = b

theorem Has_plain {g : T_api_Graph} (hl : g.L.length ≤ 1000000) {a b : Int} : net_Has_m g a b = some (g.L.any fun p => p.From == a && p.To == b) := by
  unfold net_Has_m
  refine any_bind (fun i hi => ?_) ?_
  · simp only [net_Has_l1]
    rw [decide_eq_true (by omega : (i : Int) < g.L.length), idxM_nat hi]
    simp only [cond_true, some_bind]
    rw [iadd1 (by omega)]
    by_cases h1 : g.L[i].From == a
    · by_cases h2 : g.L[i].To == b <;> simp [h1, h2]
    · simp [h1]
  · simp only [net_Has_l1]
    rw [decide_eq_false (by omega)]; rfl

theorem has_iff {g : T_api_Graph} {a b : Int} : (g.L.any fun p => p.From == a && p.To == b) = true ↔ att g a b := by
  simp [att, List.any_eq_true]
end Go.Dc
