/- Part P04.LawV of a proof: lemmas. -/
import Derived.Test.YtccalnbiapifcaaDoorLAW04F
namespace Go.Dc
theorem awake04 : law04_awake_m = some true := law04_awake_f_le (k_ := 60) _ (by decide +kernel)
end Go.Dc

set_option linter.unusedVariables false
set_option linter.unusedSimpArgs false
set_option linter.unusedSectionVars false
namespace Go.Dc

theorem law04_ProofValidates_plain (n : Int) (raw : List (List Int)) (l : List Int) {p0 q p2 : Prop} (_ : p0) (hraw : raw.length ≤ maxLen ∧ q) (_ : p2) : law04_ProofValidates_m n raw l = some true := by
  refine T.eq ?_
  have hm : raw.length ≤ 9223372036854775807 := by have := hraw.1; unfold maxLen at this; omega
  unfold law04_ProofValidates_m
  refine T.bind (SmallLists_plain (by omega) (by omega) hm) fun b hb => T.cond (fun _ => .ret rfl) fun h => ?_
  refine T.bind New_plain fun s3 hs3 => T.bind (N_plain hs3 (by omega)) fun t4 ht4 => ?_
  have hk := ht4.2 (by omega)
  have e1 : iadd .i64 1 t4.1 = 1 + t4.1 := iadd64 (by omega) (by omega)
  rw [e1]
  refine T.bind (Clauses_plain ht4.1 (by omega) (by omega) (by omega) (by omega)) fun good hg => ?_
  have hsml : Sml 12 good.2 := ⟨by have := hg.2.2; omega, fun c hc => by have := (hg.2.1 c hc).2; omega⟩
  refine T.bind (spoilt_plain hg.1 hsml (by omega)) fun t6 ht6 => ?_
  refine T.bind (P := fun o => o = .inr ()) ?_ fun o ho => ?_
  · refine T.loopK 3 (fun k s => s.1 = (k : Int) ∧ k ≤ 3 ∧ RdOk ⟨s.2.1, s.2.2⟩) ⟨rfl, by omega, ht6.1⟩ ?_
    rintro k ⟨i, L, At⟩ ⟨e, hk3, hs⟩
    dsimp only at e hs
    subst e
    unfold law04_ProofValidates_l2
    dsimp only
    refine T.cond (fun h => ?_) fun h => .ret rfl
    have hk2 : k < 3 := by simp at h; omega
    rw [idxM_nat (show k < [raw, good.2, t6.2].length from hk2), some_bind]
    refine T.bind (Pick_plain hs (by simp) (by simp)) fun t35 h35 => ?_
    rw [iadd1 (by omega)]
    refine T.bind (P := fun o => o = .inr ()) ?_ fun o ho => by subst ho; exact .ret ⟨by omega, rfl, by omega, h35.2⟩
    refine T.loopK 3 (fun j s => s = (j : Int) ∧ j ≤ 3) ⟨rfl, by omega⟩ ?_
    rintro j _ ⟨rfl, hj3⟩
    unfold law04_ProofValidates_l1
    refine T.cond (fun h => ?_) fun h => .ret rfl
    have hj2 : j < 3 := by simp at h; omega
    rw [e1, idxM_nat (show j < [n, 1 + t4.1, t35.1].length from hj2), some_bind, Validate_plain, some_bind, rValidate_plain, some_bind, iadd1 (by omega)]
    rw [bne_self_eq_false, cond_false]
    exact .ret ⟨hj2, rfl, by omega⟩
  · subst ho
    rw [sumK_inr, awake04, some_bind]
    exact .ret rfl

/-! ### truths -/
/-- an element of a clause is true -/
def litT (m : List Bool) (x : Int) : Bool := m.getD (x.natAbs - 1) false == decide (x > 0)
end Go.Dc
