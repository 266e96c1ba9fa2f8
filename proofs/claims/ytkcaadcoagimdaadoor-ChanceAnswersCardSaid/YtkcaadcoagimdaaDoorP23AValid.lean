/- Part P23A.Valid of a proof: lemmas. -/
import Derived.Test.YtkcaadcoagimdaaDoorP23ACertain
set_option linter.unusedVariables false
set_option linter.unusedSimpArgs false
set_option linter.unusedSectionVars false
/-! Both checks of the arguments. -/
namespace Go.Dc

theorem loop_congr {σ ρ : Type} {f f' : σ → Option (Sum ρ σ)} (I : σ → Prop) (h : ∀ s, I s → f s = f' s) (hI : ∀ s s', I s → f s = some (.inr s') → I s') : ∀ s, I s → loopC f s = loopC f' s := by
  have hn : ∀ n s, I s → loopN f n s = loopN f' n s := by
    intro n
    induction n with
    | zero => intro s _; rfl
    | succ n ih =>
      intro s hs
      simp only [loopN]
      rw [← h s hs]
      cases hf : f s with
      | none => rfl
      | some o =>
        cases o with
        | inl r => rfl
        | inr s' => exact ih s' (hI s s' hs hf)
  intro s hs
  refine Option.ext fun r => ?_
  constructor
  · intro h1
    obtain ⟨n, h2⟩ := loopC_iff.1 h1
    exact loopC_iff.2 ⟨n, by rw [← hn n s hs]; exact h2⟩
  · intro h1
    obtain ⟨n, h2⟩ := loopC_iff.1 h1
    exact loopC_iff.2 ⟨n, by rw [hn n s hs]; exact h2⟩

def pr0 : T_api_Pair := ⟨0, 0⟩
def okAt (g : T_api_Graph) (i : Nat) : Prop := 0 ≤ (g.L.getD i pr0).From ∧ (g.L.getD i pr0).From < g.N ∧ 0 ≤ (g.L.getD i pr0).To ∧ (g.L.getD i pr0).To < g.N ∧ (0 < i → plt (g.L.getD (i - 1) pr0) (g.L.getD i pr0))
def GVn (g : T_api_Graph) : Prop := 0 ≤ g.N ∧ g.N ≤ 40 ∧ ∀ i, i < g.L.length → okAt g i

theorem compare_ge {p q : T_api_Pair} : T (graph_compare_m p q) fun r => (0 ≤ r ↔ ¬ plt p q) := by
  unfold graph_compare_m
  rw [cmp_plain, some_bind, cmp_plain, some_bind, or_plain, some_bind]
  refine .ret ?_
  unfold plt
  split <;> split <;> (try split) <;> (try split) <;> (try split) <;> omega

theorem imin3 (a b : Int) : imin a b ≤ a ∧ imin a b ≤ b ∧ (imin a b = a ∨ imin a b = b) := by unfold imin; by_cases h : a ≤ b <;> simp [h] <;> omega
theorem imax3 (a b : Int) : a ≤ imax a b ∧ b ≤ imax a b ∧ (imax a b = a ∨ imax a b = b) := by unfold imax; by_cases h : a ≤ b <;> simp [h] <;> omega

theorem gV_plain {g : T_api_Graph} (hl : g.L.length ≤ 1000000) : T (graph_Validate_m g) fun r => r = 0 ↔ GVn g := by
  unfold graph_Validate_m
  refine T.cond (fun h => .ret ?_) fun hn0 => T.cond (fun h => .ret ?_) fun hn1 => ?_
  · simp at h; exact ⟨fun h => by omega, fun h2 => by have := h2.1; omega⟩
  · simp at h; exact ⟨fun h => by omega, fun h2 => by have := h2.2.1; omega⟩
  simp at hn0 hn1
  refine T.bind (P := fun o => match o with | .inl r => r ≠ 0 ∧ ¬ GVn g | .inr _ => GVn g) ?_ fun o ho => ?_
  · refine T.loopK g.L.length (fun i s => s = (i : Int) ∧ i ≤ g.L.length ∧ ∀ j, j < i → okAt g j) ⟨rfl, by omega, fun j hj => by omega⟩ ?_
    rintro i _ ⟨rfl, hi, hpre⟩
    dsimp only [graph_Validate_l1]
    refine T.cond (fun g1 => ?_) fun g1 => ?_
    rotate_left
    · simp only [decide_eq_false_iff_not] at g1
      exact .ret ⟨hn0, hn1, fun j hj => hpre j (by omega)⟩
    simp only [decide_eq_true_eq] at g1
    have g' : i < g.L.length := by omega
    rw [idxM_getD (z := pr0) g', some_bind, iadd1 (by omega)]
    have bad : ∀ {r : Int}, r ≠ 0 → ¬ okAt g i → r ≠ 0 ∧ ¬ GVn g := fun h1 h2 => ⟨h1, fun h => h2 (h.2.2 i g')⟩
    have next : okAt g i → ∀ j, j < i + 1 → okAt g j := fun h3 j hj => by
      rcases Nat.lt_or_ge j i with h4 | h4
      · exact hpre j h4
      · rw [show j = i by omega]; exact h3
    have m3 := imin3 (g.L.getD i pr0).From (g.L.getD i pr0).To
    have x3 := imax3 (g.L.getD i pr0).From (g.L.getD i pr0).To
    refine T.cond (fun h => ?_) fun h => ?_
    · simp only [decide_eq_true_eq] at h
      refine .ret (bad (by omega) fun hh => ?_)
      obtain ⟨a1, a2, a3, a4, _⟩ := hh
      omega
    simp only [decide_eq_false_iff_not] at h
    refine T.cond (fun h2 => ?_) fun h2 => ?_
    · simp only [decide_eq_true_eq] at h2
      refine .ret (bad (by omega) fun hh => ?_)
      obtain ⟨a1, a2, a3, a4, _⟩ := hh
      omega
    simp only [decide_eq_false_iff_not] at h2
    have range : 0 ≤ (g.L.getD i pr0).From ∧ (g.L.getD i pr0).From < g.N ∧ 0 ≤ (g.L.getD i pr0).To ∧ (g.L.getD i pr0).To < g.N := by
      omega
    refine T.cond (fun h3 => ?_) fun h3 => ?_
    · simp at h3
      rw [isub1 (by omega), show ((i : Int) - 1) = ((i - 1 : Nat) : Int) from by omega, idxM_getD (z := pr0) (by omega), some_bind]
      refine T.bind compare_ge fun r hr => ?_
      refine T.cond (fun h4 => ?_) fun h4 => ?_
      · simp only [decide_eq_true_eq] at h4
        exact .ret (bad (by omega) fun hh => hr.1 (by omega) (hh.2.2.2.2 (by omega)))
      · simp only [decide_eq_false_iff_not] at h4
        refine .ret ⟨g', rfl, g', next ⟨range.1, range.2.1, range.2.2.1, range.2.2.2, fun _ => ?_⟩⟩
        exact Classical.byContradiction fun hh => h4 (by have := hr.2 hh; omega)
    · simp at h3
      exact .ret ⟨g', rfl, g', next ⟨range.1, range.2.1, range.2.2.1, range.2.2.2, fun h4 => by omega⟩⟩
  · match o, ho with
    | .inl r, ⟨h1, h2⟩ => exact .ret ⟨fun h => absurd h h1, fun h => absurd h h2⟩
    | .inr _, h => exact .ret ⟨fun _ => h, fun _ => rfl⟩


theorem GVn.val {g : T_api_Graph} (hv : GVn g) : GVal g := by
  refine ⟨hv.1, hv.2.1, fun p hp => ?_, ?_⟩
  · obtain ⟨i, hi, rfl⟩ := List.getElem_of_mem hp
    have := hv.2.2 i hi
    unfold okAt at this
    simp only [List.getD, List.getElem?_eq_getElem hi, Option.getD_some] at this
    exact ⟨this.1, this.2.1, this.2.2.1, this.2.2.2.1⟩
  · rw [List.pairwise_iff_getElem]
    have step : ∀ i (hi : i + 1 < g.L.length), plt (g.L[i]'(by omega)) g.L[i + 1] := fun i hi => by
      have := (hv.2.2 (i + 1) hi).2.2.2.2 (by omega)
      simp only [List.getD, List.getElem?_eq_getElem hi, Nat.add_sub_cancel, List.getElem?_eq_getElem (show i < g.L.length by omega), Option.getD_some] at this
      exact this
    suffices hh : ∀ n i (hi : i + 1 + n < g.L.length), plt (g.L[i]'(by omega)) g.L[i + 1 + n] by
      intro i j hi hj hij
      have := hh (j - i - 1) i (by omega)
      simpa [show i + 1 + (j - i - 1) = j by omega] using this
    intro n
    induction n with
    | zero => intro i hi; exact step i hi
    | succ n ih =>
      intro i hi
      have a := ih i (by omega)
      have b := step (i + 1 + n) hi
      unfold plt at a b ⊢
      simp only [← Nat.add_assoc] at b ⊢
      omega

theorem val_eq {g : T_api_Graph} (hl : g.L.length ≤ 1000000) : graph_Validate_m g = ref10_Validate_m g := by
  unfold graph_Validate_m ref10_Validate_m
  have : loopC (graph_Validate_l1 g) 0 = loopC (ref10_Validate_l1 g) 0 := by
    refine loop_congr (fun s => ∃ i : Nat, s = (i : Int) ∧ i ≤ g.L.length) ?_ ?_ _ ⟨0, rfl, by omega⟩
    · rintro _ ⟨i, rfl, hi⟩
      unfold graph_Validate_l1 ref10_Validate_l1
      by_cases h1 : i < g.L.length
      · rw [show decide ((i : Int) < (g.L.length : Int)) = true from decide_eq_true (by omega)]
        simp only [cond_true]
        rw [idxM_getD (z := pr0) h1, some_bind, some_bind]
        have m3 := imin3 (g.L.getD i pr0).From (g.L.getD i pr0).To
        have x3 := imax3 (g.L.getD i pr0).From (g.L.getD i pr0).To
        generalize g.L.getD i pr0 = p at *
        by_cases b1 : p.From < 0
        · rw [decide_eq_true b1, show decide (imin p.From p.To < 0) = true from decide_eq_true (by omega)]; rfl
        by_cases b2 : p.From ≥ g.N
        · rw [decide_eq_false b1, decide_eq_true b2]
          by_cases b0 : imin p.From p.To < 0
          · rw [decide_eq_true b0]; rfl
          · rw [decide_eq_false b0, show decide (imax p.From p.To ≥ g.N) = true from decide_eq_true (by omega)]; rfl
        by_cases b3 : p.To < 0
        · rw [decide_eq_false b1, decide_eq_false b2, decide_eq_true b3, show decide (imin p.From p.To < 0) = true from decide_eq_true (by omega)]; rfl
        by_cases b4 : p.To ≥ g.N
        · rw [decide_eq_false b1, decide_eq_false b2, decide_eq_false b3, decide_eq_true b4, show decide (imin p.From p.To < 0) = false from decide_eq_false (by omega), show decide (imax p.From p.To ≥ g.N) = true from decide_eq_true (by omega)]; rfl
        rw [decide_eq_false b1, decide_eq_false b2, decide_eq_false b3, decide_eq_false b4, show decide (imin p.From p.To < 0) = false from decide_eq_false (by omega), show decide (imax p.From p.To ≥ g.N) = false from decide_eq_false (by omega)]
        simp only [cond_false]
        by_cases h0 : 0 < i
        · rw [show decide ((i : Int) > 0) = true from decide_eq_true (by omega), cond_true, cond_true, isub1 (by omega), show ((i : Int) - 1) = ((i - 1 : Nat) : Int) from by omega, idxM_getD (z := pr0) (by omega), some_bind, some_bind, some_bind]
          generalize g.L.getD (i - 1) pr0 = w at *
          obtain ⟨r, hr, hr2⟩ := compare_ge (p := w) (q := p)
          rw [hr, some_bind, some_bind]
          unfold plt at hr2
          by_cases c1 : w.From > p.From
          · rw [decide_eq_true c1, show decide (r ≥ 0) = true from decide_eq_true (by omega)]; rfl
          · rw [decide_eq_false c1, cond_false]
            by_cases c2 : w.From = p.From
            · rw [show (w.From == p.From) = true by simpa using c2, cond_true]
              by_cases c3 : w.To ≥ p.To
              · rw [decide_eq_true c3, show decide (r ≥ 0) = true from decide_eq_true (by omega)]; rfl
              · rw [decide_eq_false c3, show decide (r ≥ 0) = false from decide_eq_false (by omega)]; rfl
            · rw [show (w.From == p.From) = false by simpa using c2, cond_false, show decide (r ≥ 0) = false from decide_eq_false (by omega)]; rfl
        · rw [show decide ((i : Int) > 0) = false from decide_eq_false (by omega)]; rfl
      · rw [show decide ((i : Int) < (g.L.length : Int)) = false from decide_eq_false (by omega)]; rfl
    · rintro _ s' ⟨i, rfl, hi⟩ hs
      unfold graph_Validate_l1 at hs
      by_cases h1 : i < g.L.length
      · refine ⟨i + 1, ?_, by omega⟩
        rw [show decide ((i : Int) < (g.L.length : Int)) = true from decide_eq_true (by omega), cond_true, idxM_getD (z := pr0) h1, some_bind, iadd1 (by omega)] at hs
        have key : ∀ {b : Bool} {x y : Option (Sum (Sum Int Unit) Int)}, (bif b then x else y) = some (.inr s') → x = some (.inr s') ∨ y = some (.inr s') := fun {b x y} h => by cases b <;> simp_all
        rcases key hs with hs | hs
        · cases hs
        rcases key hs with hs | hs
        · cases hs
        rcases key hs with hs | hs
        · obtain ⟨w, _, hs⟩ := Option.bind_eq_some_iff.1 hs
          obtain ⟨r, _, hs⟩ := Option.bind_eq_some_iff.1 hs
          rcases key hs with hs | hs
          · cases hs
          · cases hs; rfl
        · cases hs; rfl
      · rw [show decide ((i : Int) < (g.L.length : Int)) = false from decide_eq_false (by omega)] at hs; cases hs
  rw [this]

/-! odds -/
def FrB (f : Fr) : Bool := decide (1 ≤ f.Den ∧ f.Den ≤ 12 ∧ 0 ≤ f.Num ∧ f.Num ≤ f.Den)
theorem FrB.ok {f : Fr} (h : FrB f = true) : FrOk f := by
  have := of_decide_eq_true h
  exact ⟨this.1, this.2.1, this.2.2.1, this.2.2.2⟩
theorem proper1_plain {f : Fr} : chance_proper_1_m f = some (!FrB f) := by
  unfold chance_proper_1_m FrB
  by_cases h1 : f.Den < 1
  · rw [decide_eq_true h1, decide_eq_false (by omega : ¬ (1 ≤ f.Den ∧ f.Den ≤ 12 ∧ 0 ≤ f.Num ∧ f.Num ≤ f.Den))]; rfl
  by_cases h2 : f.Den > 12
  · rw [decide_eq_false h1, decide_eq_true h2, decide_eq_false (by omega : ¬ (1 ≤ f.Den ∧ f.Den ≤ 12 ∧ 0 ≤ f.Num ∧ f.Num ≤ f.Den))]; rfl
  by_cases h3 : f.Num < 0
  · rw [decide_eq_false h1, decide_eq_false h2, decide_eq_true h3, decide_eq_false (by omega : ¬ (1 ≤ f.Den ∧ f.Den ≤ 12 ∧ 0 ≤ f.Num ∧ f.Num ≤ f.Den))]; rfl
  rw [decide_eq_false h1, decide_eq_false h2, decide_eq_false h3]
  by_cases h4 : f.Num > f.Den
  · rw [decide_eq_false (by omega : ¬ (1 ≤ f.Den ∧ f.Den ≤ 12 ∧ 0 ≤ f.Num ∧ f.Num ≤ f.Den))]; simp [letM_eq, h4]
  · rw [decide_eq_true (by omega : 1 ≤ f.Den ∧ f.Den ≤ 12 ∧ 0 ≤ f.Num ∧ f.Num ≤ f.Den)]; simp [letM_eq]; omega
theorem valid_plain {f : Fr} : ref23_valid_m f = some (FrB f) := by
  unfold ref23_valid_m FrB
  by_cases h1 : f.Den ≥ 1
  · by_cases h2 : f.Den ≤ 12
    · by_cases h3 : f.Num ≥ 0
      · rw [decide_eq_true h1, decide_eq_true h2, decide_eq_true h3]
        simp only [cond_true, letM_eq]
        congr 1
        rw [Bool.eq_iff_iff, decide_eq_true_eq, decide_eq_true_eq]; omega
      · rw [decide_eq_true h1, decide_eq_true h2, decide_eq_false h3, decide_eq_false (by omega : ¬ (1 ≤ f.Den ∧ f.Den ≤ 12 ∧ 0 ≤ f.Num ∧ f.Num ≤ f.Den))]; rfl
    · rw [decide_eq_true h1, decide_eq_false h2, decide_eq_false (by omega : ¬ (1 ≤ f.Den ∧ f.Den ≤ 12 ∧ 0 ≤ f.Num ∧ f.Num ≤ f.Den))]; rfl
  · rw [decide_eq_false h1, decide_eq_false (by omega : ¬ (1 ≤ f.Den ∧ f.Den ≤ 12 ∧ 0 ≤ f.Num ∧ f.Num ≤ f.Den))]; rfl

theorem properG {l : List Fr} (hl : l.length ≤ 1000000) : chance_proper_m l = some (l.all FrB) := by
  unfold chance_proper_m slices_ContainsFunc_api_Fraction_api_Fraction_m slices_IndexFunc_api_Fraction_api_Fraction_m
  refine T.eq (T.bind (P := fun b : Bool => b = !l.all FrB) (T.bind (P := fun j : Int => (0 ≤ j ↔ l.all FrB = false)) (T.bind (P := fun r : Sum Int Unit => match r with | .inl j => 0 ≤ j ∧ l.all FrB = false | .inr _ => l.all FrB = true) ?_ ?_) fun j hj => .letM (.ret ?_)) fun b hb => .ret (by rw [hb]; simp))
  · refine T.loopK l.length (fun i s => s = (i : Int) ∧ i ≤ l.length ∧ ∀ f ∈ l.take i, FrB f = true) ⟨rfl, by omega, by simp⟩ ?_
    rintro i _ ⟨rfl, hi, hp⟩
    dsimp only [slices_IndexFunc_api_Fraction_api_Fraction_l1]
    refine T.cond (fun g1 => ?_) fun g1 => ?_
    · simp at g1
      have htk : l.take (i + 1) = l.take i ++ [l[i]] := by rw [List.take_add_one, List.getElem?_eq_getElem g1]; rfl
      rw [idxM_nat g1, some_bind, proper1_plain, some_bind, iadd1 (by omega)]
      refine T.cond (fun g2 => .ret ⟨by omega, ?_⟩) fun g2 => .ret ⟨g1, rfl, by omega, fun f hf => ?_⟩
      · rw [List.all_eq_false]
        exact ⟨_, List.getElem_mem g1, by simpa using g2⟩
      · rw [htk] at hf
        rcases List.mem_append.1 hf with hf | hf
        · exact hp f hf
        · rw [List.mem_singleton.1 hf]; simpa using g2
    · simp at g1
      have e : i = l.length := by omega
      rw [e, List.take_length] at hp
      exact .ret (List.all_eq_true.2 hp)
  · rintro (j | u) hr
    · rw [sumK_inl]; exact .ret ⟨fun _ => hr.2, fun _ => hr.1⟩
    · rw [sumK_inr]; exact .ret ⟨fun h => by omega, fun h => by rw [hr] at h; cases h⟩
  · cases h : l.all FrB
    · exact decide_eq_true (hj.2 h)
    · exact decide_eq_false fun h2 => by rw [hj.1 h2] at h; cases h

def oddsB (g : T_api_Graph) (o : T_api_Odds) : Bool := ((o.Nodes.length : Int) == g.N) && ((o.Attacks.length : Int) == (g.L.length : Int)) && (frs o).all FrB
theorem fitsG {g : T_api_Graph} {o : T_api_Odds} (h1 : o.Nodes.length ≤ 5000) (h2 : o.Attacks.length ≤ 5000) : chance_fits_m g o = some (oddsB g o) := by
  unfold chance_fits_m oddsB
  cases ha : ((o.Nodes.length : Int) == g.N) with
  | false => rfl
  | true =>
    cases hb : ((o.Attacks.length : Int) == (g.L.length : Int)) with
    | false => rfl
    | true =>
      simp only [cond_true]
      rw [properG (by omega), some_bind, List.all_append]
      cases hc : o.Nodes.all FrB with
      | false => rfl
      | true => rw [cond_true, properG (by omega), some_bind]; rfl

theorem all_plain {o : T_api_Odds} (h1 : o.Nodes.length ≤ 5000) (h2 : o.Attacks.length ≤ 5000) : ref23_all_m o = some (frs o) := by
  unfold ref23_all_m
  rw [appM_eq (by simp only [List.length_nil]; omega), some_bind, appM_eq (by simp only [List.nil_append]; omega), some_bind]; rfl

theorem oddsG {g : T_api_Graph} {o : T_api_Odds} (h1 : o.Nodes.length ≤ 5000) (h2 : o.Attacks.length ≤ 5000) : ref23_Odds_m g o = some (oddsB g o) := by
  have hl : (frs o).length ≤ 10000 := by simp only [List.length_append]; omega
  unfold ref23_Odds_m
  rw [all_plain h1 h2, some_bind]
  refine T.eq (T.bind (P := fun r : Sum Bool Unit => match r with | .inl b => b = false ∧ (frs o).all FrB = false | .inr _ => (frs o).all FrB = true) ?_ ?_)
  · refine T.loopK (frs o).length (fun i s => s = (i : Int) ∧ i ≤ (frs o).length ∧ ∀ f ∈ (frs o).take i, FrB f = true) ⟨rfl, by omega, by simp⟩ ?_
    rintro i _ ⟨rfl, hi, hp⟩
    dsimp only [ref23_Odds_l1]
    refine T.cond (fun g1 => ?_) fun g1 => ?_
    · have g1' : i < (frs o).length := by have := of_decide_eq_true g1; omega
      have htk : (frs o).take (i + 1) = (frs o).take i ++ [(frs o)[i]] := by rw [List.take_add_one, List.getElem?_eq_getElem g1']; rfl
      rw [idxM_nat g1', some_bind, valid_plain, some_bind, iadd1 (by omega)]
      refine T.cond (fun g2 => .ret ⟨rfl, ?_⟩) fun g2 => .letM (.ret ⟨g1', rfl, by omega, fun f hf => ?_⟩)
      · rw [List.all_eq_false]
        exact ⟨_, List.getElem_mem g1', by simpa using g2⟩
      · rw [htk] at hf
        rcases List.mem_append.1 hf with hf | hf
        · exact hp f hf
        · rw [List.mem_singleton.1 hf]; simpa using g2
    · have g1' := of_decide_eq_false g1
      have e : i = (frs o).length := by omega
      rw [e, List.take_length] at hp
      exact .ret (List.all_eq_true.2 hp)
  · rintro (b | u) hr
    · obtain ⟨rfl, hx⟩ := hr
      rw [sumK_inl]
      refine .ret ?_
      unfold oddsB; rw [hx]; simp
    · rw [sumK_inr]
      unfold oddsB
      rw [hr]
      cases ha : ((o.Nodes.length : Int) == g.N)
      · exact .ret rfl
      · rw [cond_true]; exact .letM (.ret (by simp))

/-! sets -/
theorem asc_eq {g : T_api_Graph} {l : List Int} (hl : l.length ≤ 1000000) : network_Ascending_m l g.N = net_Set_m g l := by
  unfold network_Ascending_m net_Set_m
  have : loopC (network_Ascending_l1 l g.N) 0 = loopC (net_Set_l1 g l) 0 := by
    refine loop_congr (fun s => ∃ i : Nat, s = (i : Int) ∧ i ≤ l.length) ?_ ?_ _ ⟨0, rfl, by omega⟩
    · rintro _ ⟨i, rfl, hi⟩
      unfold network_Ascending_l1 net_Set_l1
      by_cases h1 : i < l.length
      · rw [show decide ((i : Int) < (l.length : Int)) = true from decide_eq_true (by omega)]
        simp only [cond_true]
        rw [idxM_nat h1, some_bind, some_bind, some_bind]
        by_cases h0 : 0 < i
        · rw [show decide ((i : Int) > 0) = true from decide_eq_true (by omega), isub1 (by omega), show ((i : Int) - 1) = ((i - 1 : Nat) : Int) from by omega, idxM_nat (by omega)]
          simp only [some_bind, cond_true, letM_eq]
        · rw [show decide ((i : Int) > 0) = false from decide_eq_false (by omega)]
          simp only [cond_false, letM_eq]
      · rw [show decide ((i : Int) < (l.length : Int)) = false from decide_eq_false (by omega)]; rfl
    · rintro _ s' ⟨i, rfl, hi⟩ hs
      unfold network_Ascending_l1 at hs
      by_cases h1 : i < l.length
      · refine ⟨i + 1, ?_, by omega⟩
        rw [show decide ((i : Int) < (l.length : Int)) = true from decide_eq_true (by omega), cond_true, idxM_nat h1, some_bind, iadd1 (by omega)] at hs
        have key : ∀ {b : Bool} {x y : Option (Sum (Sum Bool Unit) Int)}, (bif b then x else y) = some (.inr s') → x = some (.inr s') ∨ y = some (.inr s') := fun {b x y} h => by cases b <;> simp_all
        rcases key hs with hs | hs
        · cases hs
        rcases key hs with hs | hs
        · cases hs
        rcases key hs with hs | hs
        · obtain ⟨w, _, hs⟩ := Option.bind_eq_some_iff.1 hs
          rcases key hs with hs | hs
          · cases hs
          · cases hs; rfl
        · cases hs; rfl
      · rw [show decide ((i : Int) < (l.length : Int)) = false from decide_eq_false (by omega)] at hs; cases hs
  rw [this]

theorem asc_T {n : Int} {l : List Int} (hl : l.length ≤ 1000000) : T (network_Ascending_m l n) fun b => b = true → Asc n l := by
  unfold network_Ascending_m
  refine T.bind (P := fun r : Sum Bool Unit => match r with | .inl b => b = false | .inr _ => Asc n l) ?_ ?_
  · refine T.loopK l.length (fun i s => s = (i : Int) ∧ i ≤ l.length ∧ Asc n (l.take i)) ⟨rfl, by omega, by simp [Asc]⟩ ?_
    rintro i _ ⟨rfl, hi, ha⟩
    dsimp only [network_Ascending_l1]
    refine T.cond (fun g1 => ?_) fun g1 => ?_
    · simp at g1
      have htk : l.take (i + 1) = l.take i ++ [l[i]] := by rw [List.take_add_one, List.getElem?_eq_getElem g1]; rfl
      rw [idxM_nat g1, some_bind, iadd1 (by omega)]
      refine T.cond (fun _ => .ret rfl) fun g2 => T.cond (fun _ => .ret rfl) fun g3 => ?_
      have g2' := of_decide_eq_false g2; have g3' := of_decide_eq_false g3
      have nxt : (∀ x ∈ l.take i, x < l[i]) → Asc n (l.take (i + 1)) := fun hx => by
        rw [htk]
        refine ⟨List.pairwise_append.2 ⟨ha.1, List.pairwise_singleton _ _, fun x hx1 y hy => by rw [List.mem_singleton.1 hy]; exact hx x hx1⟩, fun x hx1 => ?_⟩
        rcases List.mem_append.1 hx1 with h | h
        · exact ha.2 x h
        · rw [List.mem_singleton.1 h]; omega
      refine T.cond (fun g4 => ?_) fun g4 => ?_
      · simp at g4
        rw [isub1 (by omega), show (i : Int) - 1 = ((i - 1 : Nat) : Int) from by omega, idxM_nat (by omega), some_bind]
        refine T.cond (fun _ => .ret rfl) fun g5 => .ret ⟨g1, rfl, by omega, nxt fun x hx => ?_⟩
        have g5' := of_decide_eq_false g5
        obtain ⟨q, hq⟩ : ∃ q, i = q + 1 := ⟨i - 1, by omega⟩
        subst hq
        have hlast : l.take (q + 1) = l.take q ++ [l[q]'(by omega)] := by
          rw [List.take_add_one, List.getElem?_eq_getElem (by omega)]; rfl
        have hp := ha.1
        rw [hlast] at hp hx
        simp only [Nat.add_sub_cancel] at g5'
        rcases List.mem_append.1 hx with h | h
        · have := (List.pairwise_append.1 hp).2.2 x h (l[q]'(by omega)) (by simp); omega
        · rw [List.mem_singleton.1 h]; omega
      · simp at g4
        have e : i = 0 := by omega
        subst e
        exact .ret ⟨g1, rfl, by omega, nxt fun x hx => by simp at hx⟩
    · simp at g1
      have e : i = l.length := by omega
      rw [e, List.take_length] at ha
      exact .ret ha
  · rintro (b | u) hr
    · rw [sumK_inl]; exact .ret fun h => by rw [show b = false from hr] at h; cases h
    · rw [sumK_inr]; exact .ret fun _ => hr

theorem count_eq {l : List Fr} (hl : l.length ≤ 100000) : loopC (chance_arguments_l1 l) (0, 0) = some (((l.filter fun f => !cert f).length : Nat) : Int) ∧ loopC (ref23_possible_l1 l) (0, 0) = some (((l.filter fun f => !cert f).length : Nat) : Int) := by
  have h1 : ∀ {f : Int × Int → Option (Sum Int (Int × Int))}, (∀ (c k : Nat) (hk : k < l.length), c ≤ k → f ((c : Int), (k : Int)) = some (.inr (((c + if cert l[k] then 0 else 1 : Nat) : Int), ((k + 1 : Nat) : Int)))) → (∀ c : Nat, f ((c : Int), (l.length : Int)) = some (.inl (c : Int))) → loopC f (0, 0) = some (((l.filter fun f => !cert f).length : Nat) : Int) := by
    intro f hf he
    refine T.eq (T.loopK l.length (fun k s => k ≤ l.length ∧ s = (((((l.take k).filter fun f => !cert f).length : Nat) : Int), (k : Int))) ⟨by omega, by simp⟩ ?_)
    rintro k _ ⟨hk, rfl⟩
    by_cases h : k < l.length
    · have htk : l.take (k + 1) = l.take k ++ [l[k]] := by rw [List.take_add_one, List.getElem?_eq_getElem h]; rfl
      have hle : ((l.take k).filter fun f => !cert f).length ≤ k := Nat.le_trans (List.length_filter_le _ _) (by simp; omega)
      rw [hf _ k h hle]
      refine .ret ⟨h, by omega, ?_⟩
      rw [htk, List.filter_append]
      cases hc : cert l[k]
      · rw [List.filter_cons_of_pos (by simp [hc])]; simp
      · rw [List.filter_cons_of_neg (by simp [hc])]; simp
    · have e : k = l.length := by omega
      subst e
      rw [he]
      refine .ret ?_
      rw [List.take_length]
  refine ⟨h1 (fun c k hk hc => ?_) (fun c => ?_), h1 (fun c k hk hc => ?_) (fun c => ?_)⟩
  · unfold chance_arguments_l1
    simp only
    rw [show decide ((k : Int) < (l.length : Int)) = true from decide_eq_true (by omega), cond_true, idxM_nat hk, some_bind, certain_plain, some_bind, iadd1 (n := k) (by omega)]
    cases hc2 : cert l[k]
    · rw [Bool.not_false, cond_true, iadd1 (by omega), letM_eq]; rfl
    · rw [Bool.not_true, cond_false]; rfl
  · unfold chance_arguments_l1
    simp only
    rw [show decide ((l.length : Int) < (l.length : Int)) = false from decide_eq_false (by omega)]; rfl
  · unfold ref23_possible_l1
    simp only
    rw [show decide ((k : Int) < (l.length : Int)) = true from decide_eq_true (by omega), cond_true, idxM_nat hk, some_bind, some_bind, some_bind, iadd1 (n := k) (by omega)]
    unfold cert
    cases ha : (l[k].Num == 0)
    · rw [show (l[k].Num != 0) = true by simpa using ha, cond_true]
      cases hb : (l[k].Num == l[k].Den)
      · rw [show (l[k].Num != l[k].Den) = true by simpa using hb, cond_true, iadd1 (by omega), letM_eq, letM_eq]; rfl
      · rw [show (l[k].Num != l[k].Den) = false by simpa using hb, cond_false, letM_eq]; rfl
    · rw [show (l[k].Num != 0) = false by simpa using ha, cond_false, letM_eq]; rfl
  · unfold ref23_possible_l1
    simp only
    rw [show decide ((l.length : Int) < (l.length : Int)) = false from decide_eq_false (by omega)]; rfl

/-- both checks give the same; and what it means if it is nothing -/
theorem args_both {g : T_api_Graph} {o : T_api_Odds} {l : List Int} {q : Int} (hgl : g.L.length ≤ 5000) (h1 : o.Nodes.length ≤ 5000) (h2 : o.Attacks.length ≤ 5000) (hl : l.length ≤ 5000) :
    ∃ e : Int, chance_arguments_m g o l q = some e ∧ ref23_possible_m g o l q = some e ∧ (e = 0 → ∃ N : Nat, OOk N g o ∧ Asc N l ∧ 1 ≤ q ∧ q ≤ 4) := by
  have hfl : (frs o).length ≤ 10000 := by simp only [List.length_append]; omega
  obtain ⟨v, hv, hv2⟩ := gV_plain (g := g) (by omega)
  have hrv := val_eq (g := g) (by omega)
  rw [hv] at hrv
  obtain ⟨b, hb, hb2⟩ := asc_T (n := g.N) (l := l) (by omega)
  have hrb := asc_eq (g := g) (l := l) (by omega)
  rw [hb] at hrb
  unfold chance_arguments_m ref23_possible_m
  rw [hv, ← hrv, some_bind, some_bind]
  cases hv0 : (v != 0) with
  | true => exact ⟨v, rfl, rfl, fun e => by subst e; cases hv0⟩
  | false =>
    have hv0' : v = 0 := by simpa using hv0
    have hval := (hv2.1 hv0').val
    simp only [cond_false]
    rw [fitsG h1 h2, oddsG h1 h2, some_bind, some_bind]
    cases ho : oddsB g o with
    | false => exact ⟨1, rfl, rfl, fun e => by omega⟩
    | true =>
      simp only [Bool.not_true, cond_false]
      unfold oddsB at ho
      simp only [Bool.and_eq_true, beq_iff_eq] at ho
      have hQ : network_Question_m q = some (decide (1 ≤ q ∧ q ≤ 4)) := by
        unfold network_Question_m
        by_cases a1 : q ≥ 1
        · rw [decide_eq_true a1, cond_true, letM_eq]; congr 1; rw [Bool.eq_iff_iff, decide_eq_true_eq, decide_eq_true_eq]; omega
        · rw [decide_eq_false a1, cond_false, decide_eq_false (by omega : ¬ (1 ≤ q ∧ q ≤ 4))]
      rw [hQ, some_bind]
      by_cases hq1 : q < 1
      · rw [decide_eq_false (by omega : ¬ (1 ≤ q ∧ q ≤ 4)), decide_eq_true hq1]
        exact ⟨4, rfl, rfl, fun e => by omega⟩
      · rw [decide_eq_false hq1]
        by_cases hq4 : q > 4
        · rw [decide_eq_false (by omega : ¬ (1 ≤ q ∧ q ≤ 4)), decide_eq_true hq4]
          exact ⟨4, rfl, rfl, fun e => by omega⟩
        · rw [decide_eq_true (by omega : 1 ≤ q ∧ q ≤ 4), decide_eq_false hq4]
          simp only [Bool.not_true, cond_false]
          rw [hb, ← hrb, some_bind, some_bind]
          cases hbb : b with
          | false => exact ⟨1, rfl, rfl, fun e => by omega⟩
          | true =>
            simp only [Bool.not_true, cond_false]
            rw [Concat_plain (by omega), all_plain h1 h2, some_bind, some_bind, (count_eq (l := frs o) (by omega)).1, (count_eq (l := frs o) (by omega)).2]
            simp only [some_bind]
            by_cases hN : g.N > 10
            · rw [decide_eq_true hN]; exact ⟨2, rfl, rfl, fun e => by omega⟩
            · rw [decide_eq_false hN]
              by_cases hc : ((((frs o).filter fun f => !cert f).length : Nat) : Int) > 10
              · rw [decide_eq_true hc]; exact ⟨2, rfl, rfl, fun e => by omega⟩
              · rw [decide_eq_false hc]
                refine ⟨0, rfl, rfl, fun _ => ?_⟩
                have hn0 := hval.n0
                obtain ⟨N, hN2⟩ := Int.eq_ofNat_of_zero_le hn0
                refine ⟨N, ⟨⟨hN2, by omega, fun p hp => by have := hval.v p hp; omega, by omega⟩, hval.s, by omega, by omega, fun f hf => FrB.ok (List.all_eq_true.1 ho.2 f hf), (show ((frs o).filter fun f => !cert f).length ≤ 10 by omega)⟩, ?_, by omega, by omega⟩
                have := hb2 hbb
                rw [hN2] at this; exact this
end Go.Dc
