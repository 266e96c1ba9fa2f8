/- Part P08T.LawS of a proof: lemmas. -/
import Derived.Test.YtofcoilhjmkejaaP08TBuilt
import Derived.Test.YtofcoilhjmkejaaP08TFacts
import Derived.Test.YtofcoilhjmkejaaP08TAwake
set_option linter.unusedVariables false
set_option linter.unusedSimpArgs false
set_option linter.unusedSectionVars false
/-! The law LiftStrict. -/
namespace Go.Dc
variable {b : T_api_Base} {L : List T_api_Argument}
theorem LiftStrict_l4 (h : AsOk b L) (hR : b.Rules.length ≤ 24) (s' : T_deliberationkeep_Src) (o : T_api_Ordering) {p : Int} (g : StrictArg b L p) {one : Int} (ho : ∀ s, (agt L p).Subs = [s] → s = one) : loopC (law08_LiftStrict_l4 (b, L, s') o p one) 0 = some (.inr ()) := by
  have hl' := h.1
  refine T.eq (T.count L.length fun k hk0 => ?_)
  dsimp only [law08_LiftStrict_l4]
  refine T.cond (fun g' => ?_) fun g' => .ret rfl
  have hk2 : k < L.length := by have := of_decide_eq_true g'; omega
  rw [iadd1 (by omega), idx_arg g.p0 g.p1, some_bind]
  refine T.cond (fun g2 => ?_) fun _ => .ret ⟨hk2, rfl⟩
  have hs : (agt L p).Subs = [one] := by
    have e : (agt L p).Subs.length = 1 := by have := eq_of_beq g2; omega
    obtain ⟨s, hs⟩ := List.length_eq_one_iff.1 e
    rw [hs, ho s hs]
  obtain ⟨e1, e2⟩ := strict_one h hR g hs k o
  rw [(Less_plain h hR p k o).1, (Less_plain h hR one k o).1, (Less_plain h hR k p o).1, (Less_plain h hR k one o).1, e1, e2]
  simp only [some_bind, beq_self_eq_true, Bool.not_true, cond_false]
  exact .ret ⟨hk2, rfl⟩
theorem LiftStrict_l3 (h : AsOk b L) (hR : b.Rules.length ≤ 24) (s' : T_deliberationkeep_Src) (o : T_api_Ordering) {p : Int} (g : StrictArg b L p) (hs : (agt L p).Subs ≠ []) : loopC (law08_LiftStrict_l3 (b, L, s') o p (agt L p)) (false, 0) = some true := by
  obtain ⟨q, hq, e⟩ := strict_some h hR g hs o
  have hs2 := (h.2 p g.p0 g.p1).subs.1
  refine T.eq (T.loopK (agt L p).Subs.length (fun k s => k ≤ (agt L p).Subs.length ∧ s.2 = (k : Int) ∧ (s.1 = false → ∀ q ∈ (agt L p).Subs.take k, lessB b L p q o = true)) ⟨by omega, rfl, by simp⟩ ?_)
  rintro k ⟨s, _⟩ ⟨hk, rfl, hn⟩
  dsimp only [law08_LiftStrict_l3] at hn ⊢
  refine T.cond (fun g' => ?_) fun g' => ?_
  · have hk2 : k < (agt L p).Subs.length := by have := of_decide_eq_true g'; omega
    rw [iadd1 (by omega), idxM_nat hk2, some_bind]
    refine T.cond (fun g2 => .ret ⟨hk2, hk2, rfl, fun e => by cases e⟩) fun g2 => ?_
    rw [(Less_plain h hR p (agt L p).Subs[k] o).1, some_bind]
    refine .ret ⟨hk2, hk2, rfl, fun e x hx => ?_⟩
    rcases (mem_take1 hk2).1 hx with hx | rfl
    · exact hn g2 x hx
    · simpa using e
  · have e' : k = (agt L p).Subs.length := by have := of_decide_eq_false g'; omega
    subst e'
    rw [List.take_length] at hn
    refine .ret ?_
    show s = true
    cases s
    · have := hn rfl q hq; rw [e] at this; cases this
    · rfl
theorem LiftStrict_l2 (h : AsOk b L) (hR : b.Rules.length ≤ 24) (s' : T_deliberationkeep_Src) (o : T_api_Ordering) : loopC (law08_LiftStrict_l2 (b, L, s') o) 0 = some (.inr ()) := by
  have hl' := h.1
  refine T.eq (T.count L.length fun k hk0 => ?_)
  dsimp only [law08_LiftStrict_l2]
  refine T.cond (fun g => ?_) fun g => .ret rfl
  have hk2 : k < L.length := by have := of_decide_eq_true g; omega
  have hr := (h.2 k (by omega) (by omega)).rule
  rw [iadd1 (by omega), idx_arg (by omega) (by omega), some_bind]
  refine T.cond (fun _ => .ret ⟨hk2, rfl⟩) fun g2 => ?_
  have r0 : 0 ≤ (agt L k).Rule := by have := of_decide_eq_false g2; omega
  rw [some_bind, idx_rul r0 hr, some_bind]
  refine T.cond (fun _ => .ret ⟨hk2, rfl⟩) fun g3 => ?_
  have st : StrictArg b L k := ⟨by omega, by omega, r0, by simpa using g3⟩
  rw [some_bind]
  refine T.cond (fun _ => .ret ⟨hk2, rfl⟩) fun g4 => ?_
  have hs : (agt L k).Subs ≠ [] := by intro e; rw [e] at g4; simp at g4
  have hs1 : 0 < (agt L k).Subs.length := List.length_pos_iff.2 hs
  rw [some_bind, LiftStrict_l3 h hR s' o st hs, some_bind, Bool.not_true, cond_false, some_bind, show idxM (agt L k).Subs 0 = some ((agt L k).Subs[0]) from idxM_nat hs1, some_bind, LiftStrict_l4 h hR s' o st (fun s e => by simp [e]), some_bind, sumK_inr]
  exact .ret ⟨hk2, rfl⟩
theorem law08_LiftStrict_plain (l : List Int) {p0 : Prop} (_ : p0) : law08_LiftStrict_m l = some true := by
  refine T.eq ?_
  unfold law08_LiftStrict_m
  refine T.bind New_plain fun s hs => ?_
  refine T.bind (built_plain hs (n := 3) (p := 5) (r := 9) (by omega) (by omega) (by omega) (by omega) (by omega) (by omega)) ?_
  rintro ⟨b, L, s'⟩ ⟨hb, hL, _⟩
  dsimp only at hb hL
  have hR := hb.rules
  unfold keep_Orderings_m
  rw [some_bind]
  refine T.bind (P := fun o => o = Sum.inr ()) ?_ fun o ho => by subst ho; rw [sumK_inr, awake_plain, some_bind]; exact .ret rfl
  refine T.count 4 fun j hj => ?_
  dsimp only [law08_LiftStrict_l1]
  refine T.cond (fun g => ?_) fun g => .ret rfl
  have hj2 : j < ([T_api_Ordering.mk 1 1, T_api_Ordering.mk 1 2, T_api_Ordering.mk 2 1, T_api_Ordering.mk 2 2] : List T_api_Ordering).length := by have := of_decide_eq_true g; omega
  have hj4 : j < 4 := hj2
  rw [idxM_nat hj2, some_bind, LiftStrict_l2 hL hR, some_bind, sumK_inr, iadd1 (by omega)]
  exact .ret ⟨hj4, rfl⟩
end Go.Dc
