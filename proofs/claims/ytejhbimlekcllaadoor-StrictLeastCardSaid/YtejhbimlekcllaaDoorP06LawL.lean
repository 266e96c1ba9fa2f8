/- Part P06.LawL of a proof: lemmas. -/
import Derived.Test.YtejhbimlekcllaaDoorP06Awake
import Derived.Test.YtejhbimlekcllaaDoorP06Base
set_option linter.unusedVariables false
set_option linter.unusedSimpArgs false
set_option linter.unusedSectionVars false
set_option maxHeartbeats 1000000
/-! The closure is the least closed set. -/
namespace Go.Dc

theorem StrictLeast_T (l : List Int) : T (law06_StrictLeast_m l) (· = true) := by
  unfold law06_StrictLeast_m
  refine T.bind New_plain fun s hs => ?_
  refine T.bind (Base_plain hs (by omega) (by omega) (by omega) (by omega) (by omega) (by omega)) ?_
  rintro ⟨b, s1⟩ ⟨hb, hs1⟩
  dsimp only at hb hs1 ⊢
  refine T.bind (LiteralsG_plain hs1 4 (by omega) (by omega) (by omega)) ?_
  rintro ⟨x, s2⟩ ⟨hs2, hx⟩
  dsimp only at hx hs2 ⊢
  have hB : ∀ r ∈ b.Rules, r.Body.length ≤ 100000 := fun r hr => by have := hb.body r hr; omega
  have hR := hb.rules
  refine T.bind (Closure_plain (by omega) (by omega) hB) ?_
  rintro c ⟨c1, c2, c3⟩
  refine T.bind (Literal_plain hs2 (by omega) (by omega)) ?_
  rintro ⟨y, s3⟩ hs3
  dsimp only at hs3 ⊢
  rw [appM_eq (by simp; omega), some_bind]
  refine T.bind (Closure_plain (by simp; omega) (by omega) hB) ?_
  rintro m ⟨m1, m2, m3⟩
  refine T.bind (LiteralsG_plain hs3 3 (by omega) (by omega) (by omega)) ?_
  rintro ⟨z, s4⟩ ⟨hs4, hz⟩
  dsimp only at hz hs4 ⊢
  rw [appM_eq (by omega), some_bind]
  refine T.bind (rClosure_plain (by simp; omega) hB) ?_
  rintro w ⟨w1, w2, w3⟩
  have hc : c.length ≤ 100 := by omega
  have hm : m.length ≤ 100 := by simp at m3; omega
  have hw : w.length ≤ 100 := by simp at w3; omega
  have hcl : ClosedS b (· ∈ c) := fun r hr hrs hrb => (c2 _).2 (.rule hr hrs fun y hy => (c2 y).1 (hrb y hy))
  have hsub : ∀ u ∈ x, u ∈ c := fun u hu => (c2 u).2 (.base hu)
  refine T.bind (P := fun d => d = c) ?_ ?_
  · refine (Closure_plain (by omega) (by omega) hB).mono ?_
    rintro d ⟨d1, d2, d3⟩
    refine ascL_ext d1 c1 fun u => (d2 u).trans ⟨fun h => h.least (fun v hv => hv) hcl, fun h => .base h⟩
  rintro d rfl
  rw [rSame_refl (by omega), some_bind]
  simp only [Bool.not_true, cond_false]
  refine T.bind (P := fun o => o = Sum.inr ()) ?_ fun o ho => ?_
  · refine T.loopK x.length (fun k z => k ≤ x.length ∧ z = (k : Int)) ⟨by omega, rfl⟩ ?_
    rintro k _ ⟨hk, rfl⟩
    dsimp only [law06_StrictLeast_l1]
    refine T.cond (fun g => ?_) fun g => .ret rfl
    have hk2 : k < x.length := by have := of_decide_eq_true g; omega
    rw [idxM_nat hk2, some_bind, rHas_eq (by omega), some_bind, decide_eq_true (hsub _ (List.getElem_mem hk2)), iadd1 (by omega)]
    exact .ret ⟨hk2, hk2, rfl⟩
  subst ho
  rw [sumK_inr]
  refine T.bind (P := fun o => o = Sum.inr ()) ?_ fun o ho => ?_
  · refine T.loopK d.length (fun k z => k ≤ d.length ∧ z = (k : Int)) ⟨by omega, rfl⟩ ?_
    rintro k _ ⟨hk, rfl⟩
    dsimp only [law06_StrictLeast_l2]
    refine T.cond (fun g => ?_) fun g => .ret rfl
    have hk2 : k < d.length := by have := of_decide_eq_true g; omega
    have h := (c2 _).1 (List.getElem_mem hk2)
    rw [idxM_nat hk2, some_bind, rHas_eq (by omega), some_bind, decide_eq_true ((m2 _).2 (h.mono fun u hu => List.mem_append_left _ hu)), some_bind, rHas_eq (by omega), some_bind, decide_eq_true ((w2 _).2 (h.mono fun u hu => List.mem_append_left _ hu)), iadd1 (by omega)]
    exact .ret ⟨hk2, hk2, rfl⟩
  subst ho
  rw [sumK_inr]
  refine T.bind (P := fun o => o = Sum.inr ()) ?_ fun o ho => ?_
  · refine T.loopK b.Rules.length (fun k z => k ≤ b.Rules.length ∧ z = (k : Int)) ⟨by omega, rfl⟩ ?_
    rintro k _ ⟨hk, rfl⟩
    dsimp only [law06_StrictLeast_l3]
    refine T.cond (fun g => ?_) fun g => .ret rfl
    have hk2 : k < b.Rules.length := by have := of_decide_eq_true g; omega
    have hbd := hb.body _ (List.getElem_mem hk2)
    rw [idxM_nat hk2, some_bind, iadd1 (by omega)]
    have L4 : T (loopC (law06_StrictLeast_l4 d b.Rules[k]) (true, 0)) fun q => q = true → ∀ y ∈ b.Rules[k].Body, y ∈ d := by
      refine T.loopK b.Rules[k].Body.length (fun i z => i ≤ b.Rules[k].Body.length ∧ z.2 = (i : Int) ∧ (z.1 = true → ∀ j (hj : j < b.Rules[k].Body.length), j < i → b.Rules[k].Body[j] ∈ d)) ⟨by omega, rfl, fun _ _ _ h => absurd h (by omega)⟩ ?_
      rintro i ⟨f, _⟩ ⟨hi, rfl, hf⟩
      dsimp only [law06_StrictLeast_l4] at hf ⊢
      refine T.cond (fun g => ?_) fun g => ?_
      · have hi2 : i < b.Rules[k].Body.length := by have := of_decide_eq_true g; omega
        rw [idxM_nat hi2, some_bind, iadd1 (by omega)]
        refine T.cond (fun g2 => ?_) fun g2 => .ret ⟨hi2, hi2, rfl, fun e => by cases e⟩
        rw [rHas_eq (by omega), some_bind]
        refine .ret ⟨hi2, hi2, rfl, fun e j hj hji => ?_⟩
        rcases Nat.lt_or_ge j i with h | h
        · exact hf g2 j hj h
        · have : j = i := by omega
          subst this; exact of_decide_eq_true e
      · have hi2 : i = b.Rules[k].Body.length := by have := of_decide_eq_false g; omega
        refine .ret fun e y hy => ?_
        obtain ⟨j, hj, rfl⟩ := List.getElem_of_mem hy
        exact hf e j hj (by omega)
    refine T.bind L4 fun q hq => ?_
    refine T.cond (fun hst => T.cond (fun hqt => ?_) fun _ => .ret ⟨hk2, hk2, rfl⟩) fun _ => .ret ⟨hk2, hk2, rfl⟩
    rw [rHas_eq (by omega), some_bind, decide_eq_true (hcl _ (List.getElem_mem hk2) hst (hq hqt))]
    exact .ret ⟨hk2, hk2, rfl⟩
  subst ho
  rw [sumK_inr, awake_plain, some_bind]
  exact .ret rfl
theorem law06_StrictLeast_plain (l : List Int) {p0 : Prop} (_ : p0) : law06_StrictLeast_m l = some true := (StrictLeast_T l).eq
end Go.Dc
