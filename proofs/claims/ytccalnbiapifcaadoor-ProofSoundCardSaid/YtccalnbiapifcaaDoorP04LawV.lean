/- Part P04.LawV of a proof: lemmas. -/
import Derived.Test.YtccalnbiapifcaaDoorLAW04F
namespace Go.Dc
theorem awake04 : law04_awake_m = some true := law04_awake_f_le (k_ := 60) _ (by decide +kernel)
end Go.Dc

set_option linter.unusedVariables false
set_option linter.unusedSimpArgs false
set_option linter.unusedSectionVars false
namespace Go.Dc

/-! ### truths -/
/-- an element of a clause is true -/
def litT (m : List Bool) (x : Int) : Bool := m.getD (x.natAbs - 1) false == decide (x > 0)
theorem Satisfied_plain {m : List Bool} {c : List Int} (hc : c.length ≤ 1000) (hr : ∀ x ∈ c, x ≠ 0 ∧ (x.natAbs : Int) ≤ m.length) (hm : m.length ≤ 1000) : ref04_Satisfied_m m c = some (c.any (litT m)) := by
  unfold ref04_Satisfied_m
  rw [any_bind (l := c) (p := litT m) (fun i hi => by
    have h1 := hr _ (List.getElem_mem hi)
    unfold ref04_Satisfied_l1
    rw [show decide ((i : Int) < (c.length : Int)) = true by simp [hi], cond_true, idxM_nat hi, iadd64 (by omega) (by omega), rabs_eq]
    simp only [Option.bind_some]
    rw [abs_plain (by omega) (by omega), some_bind, isub64 (by omega) (by omega), show (c[i].natAbs : Int) - 1 = ((c[i].natAbs - 1 : Nat) : Int) by omega, idxM_getD (z := false) (by omega), some_bind]
    show (bif litT m c[i] then _ else _) = _
    cases litT m c[i] <;> rfl) (by unfold ref04_Satisfied_l1; simp)]

theorem litT_neg {m : List Bool} {x : Int} (h : x ≠ 0) : litT m (-x) = !litT m x := by
  unfold litT
  rw [Int.natAbs_neg]
  have : decide (-x > 0) = !decide (x > 0) := by
    by_cases h1 : x > 0
    · simp [h1]; omega
    · simp [h1]; omega
  rw [this]
  cases m.getD (x.natAbs - 1) false <;> cases decide (x > 0) <;> rfl

/-- a resolvent is true where both clauses are -/
theorem res_sound {a b c : List Int} {p : Int} {m : List Bool} (h : ResolveP a b p = (true, c)) (ha : a.any (litT m) = true) (hb : b.any (litT m) = true) : c.any (litT m) = true := by
  obtain ⟨h1, h2, h3, h4, h5, h6, h7⟩ := ResolveP_true h
  obtain ⟨x, hx, hxt⟩ := List.any_eq_true.1 ha
  obtain ⟨y, hy, hyt⟩ := List.any_eq_true.1 hb
  by_cases e1 : (x.natAbs : Int) = p
  · by_cases e2 : (y.natAbs : Int) = p
    · -- x = p (a has no -p beside p), y = -p
      have ux : x = p := by
        by_cases e : x = p
        · exact e
        · obtain ⟨i, hi, ei⟩ := List.getElem_of_mem hx
          obtain ⟨j, hj, ej⟩ := List.getElem_of_mem h4
          have hij : i ≠ j := fun q => by subst q; rw [ei] at ej; exact absurd ej e
          rcases Nat.lt_or_gt_of_ne hij with q | q
          · have := List.pairwise_iff_getElem.1 h2.asc i j hi hj q; rw [ei, ej] at this; omega
          · have := List.pairwise_iff_getElem.1 h2.asc j i hj hi q; rw [ei, ej] at this; omega
      have uy : y = -p := by
        by_cases e : y = -p
        · exact e
        · obtain ⟨i, hi, ei⟩ := List.getElem_of_mem hy
          obtain ⟨j, hj, ej⟩ := List.getElem_of_mem h5
          have hij : i ≠ j := fun q => by subst q; rw [ei] at ej; exact absurd ej e
          rcases Nat.lt_or_gt_of_ne hij with q | q
          · have := List.pairwise_iff_getElem.1 h3.asc i j hi hj q; rw [ei, ej] at this; omega
          · have := List.pairwise_iff_getElem.1 h3.asc j i hj hi q; rw [ei, ej] at this; omega
      subst ux; subst uy
      rw [litT_neg (by omega), hxt] at hyt
      cases hyt
    · exact List.any_eq_true.2 ⟨y, (h7 y).2 (mem_lits.2 ⟨.inr hy, e2⟩), hyt⟩
  · exact List.any_eq_true.2 ⟨x, (h7 x).2 (mem_lits.2 ⟨.inl hx, e1⟩), hxt⟩

theorem law04_ProofSound_plain (l : List Int) (model : List Bool) {p0 q : Prop} (_ : p0) (hm0 : model.length ≤ maxLen ∧ q) : law04_ProofSound_m l model = some true := by
  refine T.eq ?_
  unfold law04_ProofSound_m
  refine T.bind New_plain fun s1 hs1 => ?_
  rw [show mkM 1 false 6 = some (List.replicate 6 false) from mkM_T (n := 6) (by omega), some_bind]
  have hl : T (loopC (law04_ProofSound_l1 model (List.replicate 6 false)) (0, List.replicate 6 false)) fun r => r.length = 6 := by
    refine T.loopK 6 (fun k s => s.1 = (k : Int) ∧ k ≤ 6 ∧ s.2.length = 6) ⟨rfl, by omega, by simp⟩ ?_
    rintro k ⟨i, o⟩ ⟨e, hk, ho⟩
    dsimp only at e ho
    subst e
    unfold law04_ProofSound_l1
    dsimp only
    refine T.cond (fun h => ?_) fun h => .ret ho
    have hk2 : k < 6 := by simp at h; omega
    rw [iadd1 (by omega), idxM_nat (show k < o.length by omega)]
    refine T.cond (fun h2 => ?_) fun h2 => .ret ⟨hk2, rfl, by omega, by simp [ho]⟩
    rw [idxM_nat (show k < model.length by simp at h2; omega)]
    exact .ret ⟨hk2, rfl, by omega, by simp [ho]⟩
  refine T.bind hl fun m hm => ?_
  refine T.bind (P := fun o => o = .inr ()) ?_ fun o ho => by subst ho; rw [sumK_inr, awake04, some_bind]; exact .ret rfl
  refine T.loopK 6 (fun k s => s.1 = (k : Int) ∧ k ≤ 6 ∧ RdOk ⟨s.2.1, s.2.2⟩) ⟨rfl, by omega, hs1⟩ ?_
  rintro k ⟨i, L, At⟩ ⟨e, hk3, hs⟩
  dsimp only at e hs
  subst e
  unfold law04_ProofSound_l3
  dsimp only
  refine T.cond (fun h => ?_) fun h => .ret rfl
  have hk2 : k < 6 := by simp at h; omega
  refine T.bind (Clause_plain hs (by omega) (by omega)) fun a ha => T.bind (Clause_plain ha.1 (by omega) (by omega)) fun b hb => ?_
  rw [iadd1 (by omega)]
  refine T.bind (P := fun o => o = .inr ()) ?_ fun o ho => by subst ho; exact .ret ⟨by omega, rfl, by omega, hb.1⟩
  refine T.loopK 6 (fun k s => s = ((k + 1 : Nat) : Int) ∧ k ≤ 6) ⟨rfl, by omega⟩ ?_
  rintro v _ ⟨rfl, hv6⟩
  unfold law04_ProofSound_l2
  refine T.cond (fun h => ?_) fun h => .ret rfl
  have hv : v < 6 := by simp at h; omega
  have ra : ∀ c : List Int, COk 6 c → ref04_Satisfied_m m c = some (c.any (litT m)) := fun c hc => Satisfied_plain (by have := hc.len; omega) (fun x hx => by have := hc.rng x hx; omega) (by omega)
  rw [Resolve_plain, some_bind, iadd1 (by omega)]
  have next : T (some (Sum.inr ((v + 1 + 1 : Nat) : Int)) : Option (Sum (Sum Bool Unit) Int)) (onO (fun o => o = .inr ()) fun s' => v < 6 ∧ s' = ((v + 1 + 1 : Nat) : Int) ∧ v + 1 ≤ 6) := .ret ⟨hv, rfl, by omega⟩
  refine T.cond (fun h1 => ?_) fun _ => next
  have hR : ResolveP a.2 b.2 ((v + 1 : Nat) : Int) = (true, (ResolveP a.2 b.2 ((v + 1 : Nat) : Int)).2) := by rw [← h1]
  generalize (ResolveP a.2 b.2 ((v + 1 : Nat) : Int)).2 = c at hR ⊢
  obtain ⟨q1, q2, q3, q4, q5, q6, q7⟩ := ResolveP_true hR
  have c6 : COk 6 c := ⟨q6.len, fun x hx => by
    rcases (mem_lits.1 ((q7 x).1 hx)).1 with h2 | h2
    · exact ha.2.1.rng x h2
    · exact hb.2.1.rng x h2, q6.asc⟩
  have hV : ValidP 6 [c] = 0 := ValidP_ok.2 ⟨by omega, by omega, by simp, fun x hx => by rw [List.mem_singleton.1 hx]; exact c6⟩
  rw [rValidate_plain, some_bind, hV, bne_self_eq_false, cond_false, ra _ ha.2.1, some_bind]
  refine T.cond (fun h2 => ?_) fun _ => next
  rw [ra _ hb.2.1, some_bind]
  refine T.cond (fun h3 => ?_) fun _ => next
  rw [ra _ c6, some_bind, res_sound hR h2 h3]
  exact next
end Go.Dc
