/- Part P08F.LawF of a proof: lemmas. -/
import Derived.Test.YtofcoilhjmkejaaP08FBuilt
import Derived.Test.YtofcoilhjmkejaaP08FFacts
import Derived.Test.YtofcoilhjmkejaaP08FAwake
set_option linter.unusedVariables false
set_option linter.unusedSimpArgs false
set_option linter.unusedSectionVars false
/-! The law LiftFirm. -/
namespace Go.Dc
variable {b : T_api_Base} {L : List T_api_Argument}
def ords : List T_api_Ordering := [T_api_Ordering.mk 1 1, T_api_Ordering.mk 1 2, T_api_Ordering.mk 2 1, T_api_Ordering.mk 2 2]
theorem ords_ok : ∀ o ∈ ords, (o.Link = 1 ∨ o.Link = 2) ∧ (o.Lift = 1 ∨ o.Lift = 2) := by
  intro o h
  simp only [ords, List.mem_cons, List.not_mem_nil, or_false] at h
  rcases h with rfl | rfl | rfl | rfl <;> simp
theorem len_pos {a : List Int} : decide ((a.length : Int) > 0) = decide (a ≠ []) := by cases a <;> simp <;> omega
theorem LiftFirm_l3 (h : AsOk b L) (hR : b.Rules.length ≤ 24) (s' : T_deliberationkeep_Src) {o : T_api_Ordering} (hl : o.Link = 1 ∨ o.Link = 2) (hk : o.Lift = 1 ∨ o.Lift = 2) {p : Int} (p0 : 0 ≤ p) (p1 : p < L.length) {firm : Bool} (hf : firm = true → prRanks b L p = [] ∧ rlRanks b L p = []) : loopC (law08_LiftFirm_l3 (b, L, s') o p firm) 0 = some (.inr ()) := by
  have hl' := h.1
  refine T.eq (T.count L.length fun k hk0 => ?_)
  dsimp only [law08_LiftFirm_l3]
  refine T.cond (fun g => ?_) fun g => .ret rfl
  have hk2 : k < L.length := by have := of_decide_eq_true g; omega
  rw [iadd1 (by omega)]
  refine T.joinP (fun j => j = (decide (prRanks b L k ≠ []) || decide (rlRanks b L k ≠ []))) (fun j hj => ?_) fun kk hkk => ?_
  · refine T.cond (fun g2 => ?_) fun _ => .ret ⟨hk2, rfl⟩
    obtain ⟨h1, h2⟩ := hf g2
    rw [(Less_plain h hR p k o).1, firm_no h hR h1 h2, some_bind, cond_false, (Less_plain h hR k p o).1, firm_yes h hR hl hk p0 p1 (by omega) (by omega) h1 h2, some_bind, ← hj]
    simp only [beq_self_eq_true, Bool.not_true, cond_false]
    exact .ret ⟨hk2, rfl⟩
  · rw [(PremiseRanks_plain h k).2, some_bind, (RuleRanks_plain h k).2, some_bind, letM_eq, len_pos, len_pos]
    refine T.cond (fun g2 => hkk _ (by rw [g2]; rfl)) fun g2 => hkk _ (by rw [g2, Bool.false_or])
theorem LiftFirm_l2 (h : AsOk b L) (hR : b.Rules.length ≤ 24) (s' : T_deliberationkeep_Src) {o : T_api_Ordering} (hl : o.Link = 1 ∨ o.Link = 2) (hk : o.Lift = 1 ∨ o.Lift = 2) : loopC (law08_LiftFirm_l2 (b, L, s') o) 0 = some (.inr ()) := by
  have hl' := h.1
  refine T.eq (T.count L.length fun k hk0 => ?_)
  dsimp only [law08_LiftFirm_l2]
  refine T.cond (fun g => ?_) fun g => .ret rfl
  have hk2 : k < L.length := by have := of_decide_eq_true g; omega
  rw [iadd1 (by omega)]
  refine T.joinP (fun j => j = true → prRanks b L k = [] ∧ rlRanks b L k = []) (fun j hj => ?_) fun kk hkk => ?_
  · rw [LiftFirm_l3 h hR s' hl hk (by omega) (by omega) hj, some_bind, sumK_inr]
    exact .ret ⟨hk2, rfl⟩
  · rw [(PremiseRanks_plain h k).2, some_bind, (RuleRanks_plain h k).2, some_bind, letM_eq, len0, len0]
    refine T.cond (fun g2 => hkk _ fun e => ⟨of_decide_eq_true g2, of_decide_eq_true e⟩) fun g2 => hkk _ fun e => by cases e
theorem law08_LiftFirm_plain (l : List Int) {p0 : Prop} (_ : p0) : law08_LiftFirm_m l = some true := by
  refine T.eq ?_
  unfold law08_LiftFirm_m
  refine T.bind New_plain fun s hs => ?_
  refine T.bind (built_plain hs (n := 4) (p := 6) (r := 8) (by omega) (by omega) (by omega) (by omega) (by omega) (by omega)) ?_
  rintro ⟨b, L, s'⟩ ⟨hb, hL, _⟩
  dsimp only at hb hL
  have hR := hb.rules
  rw [show keep_Orderings_m = some ords from rfl, some_bind]
  refine T.bind (P := fun o => o = Sum.inr ()) ?_ fun o ho => by subst ho; rw [sumK_inr, awake_plain, some_bind]; exact .ret rfl
  refine T.count 4 fun j hj => ?_
  dsimp only [law08_LiftFirm_l1]
  have e4 : ords.length = 4 := rfl
  refine T.cond (fun g => ?_) fun g => .ret rfl
  have hj2 : j < ords.length := by have := of_decide_eq_true g; omega
  obtain ⟨o1, o2⟩ := ords_ok _ (List.getElem_mem hj2)
  rw [idxM_nat hj2, some_bind, LiftFirm_l2 hL hR s' o1 o2, some_bind, sumK_inr, iadd1 (by omega)]
  exact .ret ⟨by omega, rfl⟩
end Go.Dc
