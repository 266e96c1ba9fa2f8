/- Part P04.LawV of a proof: lemmas. -/
import Derived.Test.YtccalnbiapifcaaDoorLAW04F
namespace Go.Dc
theorem awake04 : law04_awake_m = some true := law04_awake_f_le (k_ := 60) _ (by decide +kernel)
end Go.Dc

set_option linter.unusedVariables false
set_option linter.unusedSimpArgs false
set_option linter.unusedSectionVars false
namespace Go.Dc

theorem law04_ProofResolves_plain (a b : List Int) (p : Int) (l : List Int) {p0 p1 p2 p3 : Prop} (_ : p0) (_ : p1) (_ : p2) (_ : p3) : law04_ProofResolves_m a b p l = some true := by
  refine T.eq ?_
  have ints : ∀ x : List Int, x.length ≤ 200 → keep_Ints_s1_m x x = some true := fun x hx => by
    unfold keep_Ints_s1_m
    rw [bne_self_eq_false, cond_false]
    rw [find_bind (l := x) (fun _ => none) (fun i hi => by
      unfold keep_Ints_s1_l1
      rw [show decide ((i : Int) < (x.length : Int)) = true by simp [hi], cond_true, idxM_nat hi, iadd64 (by omega) (by omega)]
      simp) (by unfold keep_Ints_s1_l1; simp)]
    rw [show x.findSome? (fun _ => (none : Option Bool)) = none by rw [List.findSome?_eq_none_iff]; intros; rfl]
  have out : ∀ x y v, (ResolveP x y v).2.length ≤ 200 := fun x y v => by
    unfold ResolveP
    split
    · simp
    · split
      · simp
      · split
        · simp
        · dsimp only; omega
  unfold law04_ProofResolves_m
  refine T.cond (fun _ => .ret rfl) fun _ => T.cond (fun _ => .ret rfl) fun _ => ?_
  refine T.bind New_plain fun s1 hs1 => T.bind (Clause_plain hs1 (by omega) (by omega)) fun c hc => T.bind (Clause_plain hc.1 (by omega) (by omega)) fun d hd => T.bind (N_plain hd.1 (by omega)) fun t4 ht4 => ?_
  refine T.bind (P := fun o => o = .inr ()) ?_ fun o ho => by subst ho; rw [sumK_inr, awake04, some_bind]; exact .ret rfl
  refine T.loopK 3 (fun k s => s.1 = (k : Int) ∧ k ≤ 3 ∧ RdOk ⟨s.2.1, s.2.2⟩) ⟨rfl, by omega, ht4.1⟩ ?_
  rintro k ⟨i, L, At⟩ ⟨e, hk3, hs⟩
  dsimp only at e hs
  subst e
  unfold law04_ProofResolves_l3
  dsimp only
  refine T.cond (fun h => ?_) fun h => .ret rfl
  have hk2 : k < 3 := by simp at h; omega
  rw [idxM_nat (show k < [a, c.2, [isub .i64 t4.1 4]].length from hk2), some_bind]
  refine T.bind (N_plain hs (by omega)) fun t118 h118 => ?_
  rw [iadd1 (by omega)]
  refine T.bind (P := fun o => match o with | .inl _ => False | .inr s => RdOk ⟨s.1, s.2⟩) ?_ fun o ho => by
    match o, ho with
    | .inr s, ho => exact .ret ⟨by omega, rfl, by omega, ho⟩
  refine T.loopK 3 (fun k s => s.1 = (k : Int) ∧ k ≤ 3 ∧ RdOk ⟨s.2.1, s.2.2⟩) ⟨rfl, by omega, h118.1⟩ ?_
  rintro j ⟨i, L, At⟩ ⟨e, hj3, hs⟩
  dsimp only at e hs
  subst e
  unfold law04_ProofResolves_l2
  dsimp only
  refine T.cond (fun h => ?_) fun h => .ret hs
  have hj2 : j < 3 := by simp at h; omega
  rw [idxM_nat (show j < [b, d.2, [isub .i64 t118.1 4]].length from hj2), some_bind]
  refine T.bind (N_plain hs (by omega)) fun u hu => T.bind (N_plain hu.1 (by omega)) fun v hv => ?_
  rw [iadd1 (by omega)]
  refine T.bind (P := fun o => o = .inr ()) ?_ fun o ho => by subst ho; exact .ret ⟨by omega, rfl, by omega, hv.1⟩
  refine T.loopK 3 (fun i s => s = (i : Int) ∧ i ≤ 3) ⟨rfl, by omega⟩ ?_
  rintro i _ ⟨rfl, hi3⟩
  unfold law04_ProofResolves_l1
  refine T.cond (fun h => ?_) fun h => .ret rfl
  have hi2 : i < 3 := by simp at h; omega
  rw [idxM_nat (show i < [p, iadd .i64 1 u.1, iadd .i64 1 v.1].length from hi2), some_bind, Resolve_plain, some_bind, rResolve_plain, some_bind, ints _ (out _ _ _), some_bind, iadd1 (by omega)]
  simp only [beq_self_eq_true, Bool.not_true, cond_false]
  exact .ret ⟨hi2, rfl, by omega⟩

/-! ### truths -/
/-- an element of a clause is true -/
def litT (m : List Bool) (x : Int) : Bool := m.getD (x.natAbs - 1) false == decide (x > 0)
end Go.Dc
