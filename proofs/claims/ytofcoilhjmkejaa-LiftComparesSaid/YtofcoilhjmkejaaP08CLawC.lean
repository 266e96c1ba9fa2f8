/- Part P08C.LawC of a proof: lemmas. -/
import Derived.Test.YtofcoilhjmkejaaP08CBuilt
import Derived.Test.YtofcoilhjmkejaaP08CLess
import Derived.Test.YtofcoilhjmkejaaP08CAwake
set_option linter.unusedVariables false
set_option linter.unusedSimpArgs false
set_option linter.unusedSectionVars false
/-! The law LiftCompares. -/
namespace Go.Dc
variable {b : T_api_Base} {L : List T_api_Argument}
theorem LiftCompares_l3 (h : AsOk b L) (hR : b.Rules.length ≤ 24) (s' : T_deliberationkeep_Src) (o : T_api_Ordering) (p : Int) : loopC (law08_LiftCompares_l3 (b, L, s') o p) 0 = some (.inr ()) := by
  have hl := h.1
  refine T.eq (T.count L.length fun k hk => ?_)
  dsimp only [law08_LiftCompares_l3]
  refine T.cond (fun g => ?_) fun g => .ret rfl
  have hk2 : k < L.length := by have := of_decide_eq_true g; omega
  rw [(Less_plain h hR p k o).1, (Less_plain h hR p k o).2]
  simp only [some_bind, beq_self_eq_true, Bool.not_true, cond_false]
  rw [iadd1 (by omega)]
  exact .ret ⟨hk2, rfl⟩
theorem LiftCompares_l2 (h : AsOk b L) (hR : b.Rules.length ≤ 24) (s' : T_deliberationkeep_Src) (o : T_api_Ordering) : loopC (law08_LiftCompares_l2 (b, L, s') o) 0 = some (.inr ()) := by
  have hl := h.1
  refine T.eq (T.count L.length fun k hk => ?_)
  dsimp only [law08_LiftCompares_l2]
  refine T.cond (fun g => ?_) fun g => .ret rfl
  have hk2 : k < L.length := by have := of_decide_eq_true g; omega
  rw [LiftCompares_l3 h hR, some_bind, sumK_inr, iadd1 (by omega)]
  exact .ret ⟨hk2, rfl⟩
theorem lessB_out {i k : Int} {o : T_api_Ordering} (h : i < 0 ∨ L.length ≤ i ∨ k < 0 ∨ L.length ≤ k) : lessB b L i k o = false := by
  unfold lessB
  rw [if_neg (by omega)]
theorem law08_LiftCompares_plain (l : List Int) (o : T_api_Ordering) (i k : Int) {p0 p1 p2 p3 : Prop} (_ : p0) (_ : p1) (_ : p2) (_ : p3) : law08_LiftCompares_m l o i k = some true := by
  refine T.eq ?_
  unfold law08_LiftCompares_m
  refine T.bind New_plain fun s hs => ?_
  refine T.bind (built_plain hs (n := 4) (p := 6) (r := 8) (by omega) (by omega) (by omega) (by omega) (by omega) (by omega)) ?_
  rintro ⟨b, L, s'⟩ ⟨hb, hL, _⟩
  dsimp only at hb hL
  have hR := hb.rules
  have hl := hL.1
  unfold keep_Orderings_m
  rw [some_bind, appM_eq (by simp), some_bind]
  refine T.bind (P := fun o => o = Sum.inr ()) ?_ fun o ho => by subst ho; rw [sumK_inr, awake_plain, some_bind]; exact .ret rfl
  refine T.count 5 fun j hj => ?_
  dsimp only [law08_LiftCompares_l1]
  have e5 : (([T_api_Ordering.mk 1 1, T_api_Ordering.mk 1 2, T_api_Ordering.mk 2 1, T_api_Ordering.mk 2 2] : List T_api_Ordering) ++ [o]).length = 5 := rfl
  refine T.cond (fun g => ?_) fun g => .ret rfl
  have hj2 : j < 5 := by have := of_decide_eq_true g; rw [e5] at this; omega
  rw [idxM_nat (by rw [e5]; exact hj2), some_bind, LiftCompares_l2 hL hR, some_bind, sumK_inr]
  generalize ([T_api_Ordering.mk 1 1, T_api_Ordering.mk 1 2, T_api_Ordering.mk 2 1, T_api_Ordering.mk 2 2] ++ [o])[j] = y
  rw [(Less_plain hL hR i k y).1, (Less_plain hL hR i k y).2, (Less_plain hL hR (-1) 0 y).1, (Less_plain hL hR 0 L.length y).1, lessB_out (i := -1) (by omega), lessB_out (k := (L.length : Int)) (by omega)]
  simp only [some_bind, beq_self_eq_true, Bool.not_true, cond_false]
  rw [iadd1 (by omega)]
  exact .ret ⟨hj2, rfl⟩
end Go.Dc
