/- Part P28C.Valid of a proof: lemmas. -/
import Derived.Test.YtodnndlcnignbaaP28CStarted
set_option linter.unusedVariables false
set_option linter.unusedSimpArgs false
/-! Both validations of a graph. -/
namespace Go.Dc
def pr0 : T_api_Pair := ⟨0, 0⟩
def okAt (g : T_api_Graph) (i : Nat) : Prop := 0 ≤ (g.L.getD i pr0).From ∧ (g.L.getD i pr0).From < g.N ∧ 0 ≤ (g.L.getD i pr0).To ∧ (g.L.getD i pr0).To < g.N ∧ (0 < i → plt (g.L.getD (i - 1) pr0) (g.L.getD i pr0))
def GVn (g : T_api_Graph) : Prop := 0 ≤ g.N ∧ g.N ≤ 40 ∧ ∀ i, i < g.L.length → okAt g i

theorem compare_ge {p q : T_api_Pair} : T (graph_compare_m p q) fun r => (0 ≤ r ↔ ¬ plt p q) := by
  unfold graph_compare_m
  rw [cmp_plain, some_bind, cmp_plain, some_bind, or_plain, some_bind]
  refine .ret ?_
  unfold plt
  split <;> split <;> (try split) <;> (try split) <;> (try split) <;> omega

theorem imin3 (a b : Int) : imin a b ≤ a ∧ imin a b ≤ b ∧ (imin a b = a ∨ imin a b = b) := by unfold imin; by_cases h : a ≤ b <;> simp [h] <;> omega
theorem imax3 (a b : Int) : a ≤ imax a b ∧ b ≤ imax a b ∧ (imax a b = a ∨ imax a b = b) := by unfold imax; by_cases h : a ≤ b <;> simp [h] <;> omega

theorem gV_plain {g : T_api_Graph} (hl : g.L.length ≤ 1000000) : T (graph_Validate_m g) fun r => r = 0 ↔ GVn g := by
  unfold graph_Validate_m
  refine T.cond (fun h => .ret ?_) fun hn0 => T.cond (fun h => .ret ?_) fun hn1 => ?_
  · simp at h; exact ⟨fun h => by omega, fun h2 => by have := h2.1; omega⟩
  · simp at h; exact ⟨fun h => by omega, fun h2 => by have := h2.2.1; omega⟩
  simp at hn0 hn1
  refine T.bind (P := fun o => match o with | .inl r => r ≠ 0 ∧ ¬ GVn g | .inr _ => GVn g) ?_ fun o ho => ?_
  · refine T.loopK g.L.length (fun i s => s = (i : Int) ∧ i ≤ g.L.length ∧ ∀ j, j < i → okAt g j) ⟨rfl, by omega, fun j hj => by omega⟩ ?_
    rintro i _ ⟨rfl, hi, hpre⟩
    dsimp only [graph_Validate_l1]
    refine T.cond (fun g1 => ?_) fun g1 => ?_
    rotate_left
    · simp only [decide_eq_false_iff_not] at g1
      exact .ret ⟨hn0, hn1, fun j hj => hpre j (by omega)⟩
    simp only [decide_eq_true_eq] at g1
    have g' : i < g.L.length := by omega
    rw [idxM_getD (z := pr0) g', some_bind, iadd1 (by omega)]
    have bad : ∀ {r : Int}, r ≠ 0 → ¬ okAt g i → r ≠ 0 ∧ ¬ GVn g := fun h1 h2 => ⟨h1, fun h => h2 (h.2.2 i g')⟩
    have next : okAt g i → ∀ j, j < i + 1 → okAt g j := fun h3 j hj => by
      rcases Nat.lt_or_ge j i with h4 | h4
      · exact hpre j h4
      · rw [show j = i by omega]; exact h3
    have m3 := imin3 (g.L.getD i pr0).From (g.L.getD i pr0).To
    have x3 := imax3 (g.L.getD i pr0).From (g.L.getD i pr0).To
    refine T.cond (fun h => ?_) fun h => ?_
    · simp only [decide_eq_true_eq] at h
      refine .ret (bad (by omega) fun hh => ?_)
      obtain ⟨a1, a2, a3, a4, _⟩ := hh
      omega
    simp only [decide_eq_false_iff_not] at h
    refine T.cond (fun h2 => ?_) fun h2 => ?_
    · simp only [decide_eq_true_eq] at h2
      refine .ret (bad (by omega) fun hh => ?_)
      obtain ⟨a1, a2, a3, a4, _⟩ := hh
      omega
    simp only [decide_eq_false_iff_not] at h2
    have range : 0 ≤ (g.L.getD i pr0).From ∧ (g.L.getD i pr0).From < g.N ∧ 0 ≤ (g.L.getD i pr0).To ∧ (g.L.getD i pr0).To < g.N := by
      omega
    refine T.cond (fun h3 => ?_) fun h3 => ?_
    · simp at h3
      rw [isub1 (by omega), show ((i : Int) - 1) = ((i - 1 : Nat) : Int) from by omega, idxM_getD (z := pr0) (by omega), some_bind]
      refine T.bind compare_ge fun r hr => ?_
      refine T.cond (fun h4 => ?_) fun h4 => ?_
      · simp only [decide_eq_true_eq] at h4
        exact .ret (bad (by omega) fun hh => hr.1 (by omega) (hh.2.2.2.2 (by omega)))
      · simp only [decide_eq_false_iff_not] at h4
        refine .ret ⟨g', rfl, g', next ⟨range.1, range.2.1, range.2.2.1, range.2.2.2, fun _ => ?_⟩⟩
        exact Classical.byContradiction fun hh => h4 (by have := hr.2 hh; omega)
    · simp at h3
      exact .ret ⟨g', rfl, g', next ⟨range.1, range.2.1, range.2.2.1, range.2.2.2, fun h4 => by omega⟩⟩
  · match o, ho with
    | .inl r, ⟨h1, h2⟩ => exact .ret ⟨fun h => absurd h h1, fun h => absurd h h2⟩
    | .inr _, h => exact .ret ⟨fun _ => h, fun _ => rfl⟩

theorem rV_plain {g : T_api_Graph} (hl : g.L.length ≤ 1000000) : T (ref10_Validate_m g) fun r => r = 0 ↔ GVn g := by
  unfold ref10_Validate_m
  refine T.cond (fun h => .ret ?_) fun hn0 => T.cond (fun h => .ret ?_) fun hn1 => ?_
  · simp at h; exact ⟨fun h => by omega, fun h2 => by have := h2.1; omega⟩
  · simp at h; exact ⟨fun h => by omega, fun h2 => by have := h2.2.1; omega⟩
  simp at hn0 hn1
  refine T.bind (P := fun o => match o with | .inl r => r ≠ 0 ∧ ¬ GVn g | .inr _ => GVn g) ?_ fun o ho => ?_
  · refine T.loopK g.L.length (fun i s => s = (i : Int) ∧ i ≤ g.L.length ∧ ∀ j, j < i → okAt g j) ⟨rfl, by omega, fun j hj => by omega⟩ ?_
    rintro i _ ⟨rfl, hi, hpre⟩
    dsimp only [ref10_Validate_l1]
    refine T.cond (fun g1 => ?_) fun g1 => ?_
    rotate_left
    · simp only [decide_eq_false_iff_not] at g1
      exact .ret ⟨hn0, hn1, fun j hj => hpre j (by omega)⟩
    simp only [decide_eq_true_eq] at g1
    have g' : i < g.L.length := by omega
    rw [idxM_getD (z := pr0) g', some_bind, iadd1 (by omega)]
    have bad : ∀ {r : Int}, r ≠ 0 → ¬ okAt g i → r ≠ 0 ∧ ¬ GVn g := fun h1 h2 => ⟨h1, fun h => h2 (h.2.2 i g')⟩
    have next : okAt g i → ∀ j, j < i + 1 → okAt g j := fun h3 j hj => by
      rcases Nat.lt_or_ge j i with h4 | h4
      · exact hpre j h4
      · rw [show j = i by omega]; exact h3
    refine T.cond (fun h => .ret (bad (by omega) fun hh => ?_)) fun a1 => T.cond (fun h => .ret (bad (by omega) fun hh => ?_)) fun a2 => T.cond (fun h => .ret (bad (by omega) fun hh => ?_)) fun a3 => T.cond (fun h => .ret (bad (by omega) fun hh => ?_)) fun a4 => ?_
    · simp only [decide_eq_true_eq] at h; have := hh.1; omega
    · simp only [decide_eq_true_eq] at h; have := hh.2.1; omega
    · simp only [decide_eq_true_eq] at h; have := hh.2.2.1; omega
    · simp only [decide_eq_true_eq] at h; have := hh.2.2.2.1; omega
    simp only [decide_eq_false_iff_not] at a1 a2 a3 a4
    have mk : (0 < i → plt (g.L.getD (i - 1) pr0) (g.L.getD i pr0)) → okAt g i := fun h => ⟨by omega, by omega, by omega, by omega, h⟩
    refine T.cond (fun h3 => ?_) fun h3 => ?_
    · simp at h3
      rw [isub1 (by omega), show ((i : Int) - 1) = ((i - 1 : Nat) : Int) from by omega, idxM_getD (z := pr0) (by omega), some_bind, some_bind, some_bind]
      refine T.cond (fun h => .ret (bad (by omega) fun hh => ?_)) fun b1 => ?_
      · simp only [decide_eq_true_eq] at h; have := hh.2.2.2.2 (by omega); unfold plt at this; omega
      simp only [decide_eq_false_iff_not] at b1
      refine T.cond (fun b2 => ?_) fun b2 => ?_
      · simp only [beq_iff_eq] at b2
        refine T.cond (fun h => .ret (bad (by omega) fun hh => ?_)) fun b3 => ?_
        · simp only [decide_eq_true_eq] at h; have := hh.2.2.2.2 (by omega); unfold plt at this; omega
        · simp only [decide_eq_false_iff_not] at b3
          exact .letM (.ret ⟨g', rfl, g', next (mk fun _ => by unfold plt; omega)⟩)
      · have b2 : ¬ (g.L.getD (i - 1) pr0).From = (g.L.getD i pr0).From := by simpa using b2
        exact .letM (.ret ⟨g', rfl, g', next (mk fun _ => by unfold plt; omega)⟩)
    · simp at h3
      exact .letM (.ret ⟨g', rfl, g', next (mk fun h4 => by omega)⟩)
  · match o, ho with
    | .inl r, ⟨h1, h2⟩ => exact .ret ⟨fun h => absurd h h1, fun h => absurd h h2⟩
    | .inr _, h => exact .ret ⟨fun _ => h, fun _ => rfl⟩

/-- both give the same player -/
theorem Full_both {g : T_api_Graph} (hl : g.L.length ≤ 1000000) {st : Int} : ∃ p : Pl, participant_Full_m g st = some p ∧ ref28_Full_m g st = some p ∧ p.Withheld = [] ∧ p.Script = [] ∧ p.Pool.length ≤ 40 := by
  obtain ⟨r1, e1, h1⟩ := gV_plain hl
  obtain ⟨r2, e2, h2⟩ := rV_plain hl
  by_cases hv : GVn g
  · have hg : GVal g := ⟨hv.1, hv.2.1, fun p hp => by
      obtain ⟨i, hi, rfl⟩ := List.getElem_of_mem hp
      have := hv.2.2 i hi
      unfold okAt at this
      simp only [List.getD, List.getElem?_eq_getElem hi, Option.getD_some] at this
      exact ⟨this.1, this.2.1, this.2.2.1, this.2.2.2.1⟩, ?_⟩
    · have h0 := hg.n0; have h40 := hg.n1
      exact ⟨_, Full_plain hg hl, rFull_plain hg hl, rfl, rfl, by dsimp only; rw [upto_len]; omega⟩
    · rw [List.pairwise_iff_getElem]
      have step : ∀ i (hi : i + 1 < g.L.length), plt (g.L[i]'(by omega)) g.L[i + 1] := fun i hi => by
        have := (hv.2.2 (i + 1) hi).2.2.2.2 (by omega)
        simp only [List.getD, List.getElem?_eq_getElem hi, Nat.add_sub_cancel, List.getElem?_eq_getElem (show i < g.L.length by omega), Option.getD_some] at this
        exact this
      suffices hh : ∀ n i (hi : i + 1 + n < g.L.length), plt (g.L[i]'(by omega)) g.L[i + 1 + n] by
        intro i j hi hj hij
        have := hh (j - i - 1) i (by omega)
        simpa [show i + 1 + (j - i - 1) = j by omega] using this
      intro n
      induction n with
      | zero => intro i hi; exact step i hi
      | succ n ih =>
        intro i hi
        have a := ih i (by omega)
        have b := step (i + 1 + n) hi
        unfold plt at a b ⊢
        simp only [← Nat.add_assoc] at b ⊢
        omega
  · refine ⟨⟨[], [], [], 0⟩, ?_, ?_, rfl, rfl, by simp⟩
    · unfold participant_Full_m
      rw [e1, some_bind, show (r1 != 0) = true from by simp; exact fun h => hv (h1.1 h)]; rfl
    · unfold ref28_Full_m
      rw [e2, some_bind, show (r2 != 0) = true from by simp; exact fun h => hv (h2.1 h)]; rfl
end Go.Dc
