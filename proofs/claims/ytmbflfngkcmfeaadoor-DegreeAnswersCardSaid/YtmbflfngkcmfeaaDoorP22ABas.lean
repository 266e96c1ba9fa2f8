/- Part P22A.Bas of a proof: lemmas. -/
import Derived.Test.YtmbflfngkcmfeaaDoorP22AWorld
import Derived.Test.YtmbflfngkcmfeaaDoorP22AGnd
set_option linter.unusedVariables false
set_option linter.unusedSimpArgs false
set_option linter.unusedSectionVars false
/-! Valid graphs, and the reference's small functions. -/
namespace Go.Dc
theorem pw {l : List T_api_Pair} (h : l.Pairwise plt) {i : Nat} (h0 : 1 ≤ i) (hi : i < l.length) : plt (l[i - 1]'(by omega)) l[i] :=
  List.pairwise_iff_getElem.1 h (i - 1) i (by omega) hi (by omega)

theorem cmp_plain {x y : Int} : cmp_Compare_int_m x y = some (if x < y then -1 else if y < x then 1 else 0) := by
  unfold cmp_Compare_int_m cmp_isNaN_int_m
  simp only [some_bind, bne_self_eq_false, cond_false]
  by_cases h : x < y
  · simp [h]
  · by_cases h2 : y < x <;> simp [h, h2]

theorem or_plain {a b : Int} : cmp_Or_int_m [a, b] = some (if a = 0 then b else a) := by
  have h0 : cmp_Or_int_l1 [a, b] 0 = some (bif a != 0 then .inl (.inl a) else .inr 1) := by
    unfold cmp_Or_int_l1
    rw [show decide ((0 : Int) < (([a, b] : List Int).length : Int)) = true from rfl, show idxM [a, b] 0 = some a from rfl, iadd64 (by omega) (by omega)]
    simp only [cond_true, some_bind]
    cases a != 0 <;> rfl
  have h1 : cmp_Or_int_l1 [a, b] 1 = some (bif b != 0 then .inl (.inl b) else .inr 2) := by
    unfold cmp_Or_int_l1
    rw [show decide ((1 : Int) < (([a, b] : List Int).length : Int)) = true from rfl, show idxM [a, b] 1 = some b from rfl, iadd64 (by omega) (by omega)]
    simp only [cond_true, some_bind]
    cases b != 0 <;> rfl
  have h2 : cmp_Or_int_l1 [a, b] 2 = some (.inl (.inr ())) := by
    unfold cmp_Or_int_l1
    rw [show decide ((2 : Int) < (([a, b] : List Int).length : Int)) = false from rfl]; rfl
  unfold cmp_Or_int_m
  rw [loopC_eq, h0]
  by_cases ha : a = 0
  · subst ha
    rw [if_pos rfl, show ((0 : Int) != 0) = false from rfl]
    simp only [cond_false, Option.bind_some]
    rw [loopC_eq, h1]
    by_cases hb : b = 0
    · subst hb
      rw [show ((0 : Int) != 0) = false from rfl]
      simp only [cond_false, Option.bind_some]
      rw [loopC_eq, h2]; rfl
    · rw [show (b != 0) = true from by simp [hb]]; rfl
  · rw [if_neg ha, show (a != 0) = true from by simp [ha]]; rfl

theorem pcmp_plain {p q : T_api_Pair} (h : plt p q) : graph_compare_m p q = some (-1) := by
  unfold graph_compare_m
  rw [cmp_plain, some_bind, cmp_plain, some_bind, or_plain, some_bind]
  unfold plt at h
  congr 1
  rcases h with h | ⟨h1, h2⟩
  · simp [h]
  · rw [h1]; simp [h2]

theorem Validate_plain {g : T_api_Graph} (h : GVal g) (hl : g.L.length ≤ 1000000) : graph_Validate_m g = some 0 := by
  have h0 := h.n0; have h1 := h.n1
  unfold graph_Validate_m
  rw [decide_eq_false (by omega : ¬ g.N < 0), decide_eq_false (by omega : ¬ g.N > 40)]
  simp only [cond_false]
  have : loopC (graph_Validate_l1 g) 0 = some (.inr ()) := by
    refine T.eq (T.loopK g.L.length (fun i s => s = (i : Int) ∧ i ≤ g.L.length) ⟨rfl, by omega⟩ ?_)
    rintro i _ ⟨rfl, hi⟩
    dsimp only [graph_Validate_l1]
    refine T.cond (fun g1 => ?_) fun g1 => .ret rfl
    simp at g1
    have hv := h.v _ (List.getElem_mem g1)
    rw [idxM_nat g1, some_bind, iadd1 (by omega)]
    have m1 : 0 ≤ imin g.L[i].From g.L[i].To := by unfold imin; split <;> omega
    have m2 : imax g.L[i].From g.L[i].To < g.N := by unfold imax; split <;> omega
    refine T.cond (fun g2 => by simp at g2; omega) fun _ => T.cond (fun g2 => by simp at g2; omega) fun _ => ?_
    refine T.cond (fun g3 => ?_) fun g3 => .ret ⟨g1, rfl, by omega⟩
    simp at g3
    have hp := pw h.s g3 g1
    rw [isub1 (by omega), show (i : Int) - 1 = ((i - 1 : Nat) : Int) from by omega, idxM_nat (by omega), some_bind, pcmp_plain hp, some_bind]
    exact T.cond (fun g4 => by simp at g4) fun _ => .ret ⟨g1, rfl, by omega⟩
  rw [this]; rfl


theorem loop_congr {σ ρ : Type} {f f' : σ → Option (Sum ρ σ)} (I : σ → Prop) (h : ∀ s, I s → f s = f' s) (hI : ∀ s s', I s → f s = some (.inr s') → I s') : ∀ s, I s → loopC f s = loopC f' s := by
  have hn : ∀ n s, I s → loopN f n s = loopN f' n s := by
    intro n
    induction n with
    | zero => intro s _; rfl
    | succ n ih =>
      intro s hs
      simp only [loopN]
      rw [← h s hs]
      cases hf : f s with
      | none => rfl
      | some o =>
        cases o with
        | inl r => rfl
        | inr s' => exact ih s' (hI s s' hs hf)
  intro s hs
  refine Option.ext fun r => ?_
  constructor
  · intro h1
    obtain ⟨n, h2⟩ := loopC_iff.1 h1
    exact loopC_iff.2 ⟨n, by rw [← hn n s hs]; exact h2⟩
  · intro h1
    obtain ⟨n, h2⟩ := loopC_iff.1 h1
    exact loopC_iff.2 ⟨n, by rw [hn n s hs]; exact h2⟩

def pr0 : T_api_Pair := ⟨0, 0⟩
def okAt (g : T_api_Graph) (i : Nat) : Prop := 0 ≤ (g.L.getD i pr0).From ∧ (g.L.getD i pr0).From < g.N ∧ 0 ≤ (g.L.getD i pr0).To ∧ (g.L.getD i pr0).To < g.N ∧ (0 < i → plt (g.L.getD (i - 1) pr0) (g.L.getD i pr0))
def GVn (g : T_api_Graph) : Prop := 0 ≤ g.N ∧ g.N ≤ 40 ∧ ∀ i, i < g.L.length → okAt g i

theorem compare_ge {p q : T_api_Pair} : T (graph_compare_m p q) fun r => (0 ≤ r ↔ ¬ plt p q) := by
  unfold graph_compare_m
  rw [cmp_plain, some_bind, cmp_plain, some_bind, or_plain, some_bind]
  refine .ret ?_
  unfold plt
  split <;> split <;> (try split) <;> (try split) <;> (try split) <;> omega

theorem imin3 (a b : Int) : imin a b ≤ a ∧ imin a b ≤ b ∧ (imin a b = a ∨ imin a b = b) := by unfold imin; by_cases h : a ≤ b <;> simp [h] <;> omega
theorem imax3 (a b : Int) : a ≤ imax a b ∧ b ≤ imax a b ∧ (imax a b = a ∨ imax a b = b) := by unfold imax; by_cases h : a ≤ b <;> simp [h] <;> omega

theorem gV_plain {g : T_api_Graph} (hl : g.L.length ≤ 1000000) : T (graph_Validate_m g) fun r => r = 0 ↔ GVn g := by
  unfold graph_Validate_m
  refine T.cond (fun h => .ret ?_) fun hn0 => T.cond (fun h => .ret ?_) fun hn1 => ?_
  · simp at h; exact ⟨fun h => by omega, fun h2 => by have := h2.1; omega⟩
  · simp at h; exact ⟨fun h => by omega, fun h2 => by have := h2.2.1; omega⟩
  simp at hn0 hn1
  refine T.bind (P := fun o => match o with | .inl r => r ≠ 0 ∧ ¬ GVn g | .inr _ => GVn g) ?_ fun o ho => ?_
  · refine T.loopK g.L.length (fun i s => s = (i : Int) ∧ i ≤ g.L.length ∧ ∀ j, j < i → okAt g j) ⟨rfl, by omega, fun j hj => by omega⟩ ?_
    rintro i _ ⟨rfl, hi, hpre⟩
    dsimp only [graph_Validate_l1]
    refine T.cond (fun g1 => ?_) fun g1 => ?_
    rotate_left
    · simp only [decide_eq_false_iff_not] at g1
      exact .ret ⟨hn0, hn1, fun j hj => hpre j (by omega)⟩
    simp only [decide_eq_true_eq] at g1
    have g' : i < g.L.length := by omega
    rw [idxM_getD (z := pr0) g', some_bind, iadd1 (by omega)]
    have bad : ∀ {r : Int}, r ≠ 0 → ¬ okAt g i → r ≠ 0 ∧ ¬ GVn g := fun h1 h2 => ⟨h1, fun h => h2 (h.2.2 i g')⟩
    have next : okAt g i → ∀ j, j < i + 1 → okAt g j := fun h3 j hj => by
      rcases Nat.lt_or_ge j i with h4 | h4
      · exact hpre j h4
      · rw [show j = i by omega]; exact h3
    have m3 := imin3 (g.L.getD i pr0).From (g.L.getD i pr0).To
    have x3 := imax3 (g.L.getD i pr0).From (g.L.getD i pr0).To
    refine T.cond (fun h => ?_) fun h => ?_
    · simp only [decide_eq_true_eq] at h
      refine .ret (bad (by omega) fun hh => ?_)
      obtain ⟨a1, a2, a3, a4, _⟩ := hh
      omega
    simp only [decide_eq_false_iff_not] at h
    refine T.cond (fun h2 => ?_) fun h2 => ?_
    · simp only [decide_eq_true_eq] at h2
      refine .ret (bad (by omega) fun hh => ?_)
      obtain ⟨a1, a2, a3, a4, _⟩ := hh
      omega
    simp only [decide_eq_false_iff_not] at h2
    have range : 0 ≤ (g.L.getD i pr0).From ∧ (g.L.getD i pr0).From < g.N ∧ 0 ≤ (g.L.getD i pr0).To ∧ (g.L.getD i pr0).To < g.N := by
      omega
    refine T.cond (fun h3 => ?_) fun h3 => ?_
    · simp at h3
      rw [isub1 (by omega), show ((i : Int) - 1) = ((i - 1 : Nat) : Int) from by omega, idxM_getD (z := pr0) (by omega), some_bind]
      refine T.bind compare_ge fun r hr => ?_
      refine T.cond (fun h4 => ?_) fun h4 => ?_
      · simp only [decide_eq_true_eq] at h4
        exact .ret (bad (by omega) fun hh => hr.1 (by omega) (hh.2.2.2.2 (by omega)))
      · simp only [decide_eq_false_iff_not] at h4
        refine .ret ⟨g', rfl, g', next ⟨range.1, range.2.1, range.2.2.1, range.2.2.2, fun _ => ?_⟩⟩
        exact Classical.byContradiction fun hh => h4 (by have := hr.2 hh; omega)
    · simp at h3
      exact .ret ⟨g', rfl, g', next ⟨range.1, range.2.1, range.2.2.1, range.2.2.2, fun h4 => by omega⟩⟩
  · match o, ho with
    | .inl r, ⟨h1, h2⟩ => exact .ret ⟨fun h => absurd h h1, fun h => absurd h h2⟩
    | .inr _, h => exact .ret ⟨fun _ => h, fun _ => rfl⟩


theorem GVn.val {g : T_api_Graph} (hv : GVn g) : GVal g := by
  refine ⟨hv.1, hv.2.1, fun p hp => ?_, ?_⟩
  · obtain ⟨i, hi, rfl⟩ := List.getElem_of_mem hp
    have := hv.2.2 i hi
    unfold okAt at this
    simp only [List.getD, List.getElem?_eq_getElem hi, Option.getD_some] at this
    exact ⟨this.1, this.2.1, this.2.2.1, this.2.2.2.1⟩
  · rw [List.pairwise_iff_getElem]
    have step : ∀ i (hi : i + 1 < g.L.length), plt (g.L[i]'(by omega)) g.L[i + 1] := fun i hi => by
      have := (hv.2.2 (i + 1) hi).2.2.2.2 (by omega)
      simp only [List.getD, List.getElem?_eq_getElem hi, Nat.add_sub_cancel, List.getElem?_eq_getElem (show i < g.L.length by omega), Option.getD_some] at this
      exact this
    suffices hh : ∀ n i (hi : i + 1 + n < g.L.length), plt (g.L[i]'(by omega)) g.L[i + 1 + n] by
      intro i j hi hj hij
      have := hh (j - i - 1) i (by omega)
      simpa [show i + 1 + (j - i - 1) = j by omega] using this
    intro n
    induction n with
    | zero => intro i hi; exact step i hi
    | succ n ih =>
      intro i hi
      have a := ih i (by omega)
      have b := step (i + 1 + n) hi
      unfold plt at a b ⊢
      simp only [← Nat.add_assoc] at b ⊢
      omega

theorem val_eq {g : T_api_Graph} (hl : g.L.length ≤ 1000000) : graph_Validate_m g = ref10_Validate_m g := by
  unfold graph_Validate_m ref10_Validate_m
  have : loopC (graph_Validate_l1 g) 0 = loopC (ref10_Validate_l1 g) 0 := by
    refine loop_congr (fun s => ∃ i : Nat, s = (i : Int) ∧ i ≤ g.L.length) ?_ ?_ _ ⟨0, rfl, by omega⟩
    · rintro _ ⟨i, rfl, hi⟩
      unfold graph_Validate_l1 ref10_Validate_l1
      by_cases h1 : i < g.L.length
      · rw [show decide ((i : Int) < (g.L.length : Int)) = true from decide_eq_true (by omega)]
        simp only [cond_true]
        rw [idxM_getD (z := pr0) h1, some_bind, some_bind]
        have m3 := imin3 (g.L.getD i pr0).From (g.L.getD i pr0).To
        have x3 := imax3 (g.L.getD i pr0).From (g.L.getD i pr0).To
        generalize g.L.getD i pr0 = p at *
        by_cases b1 : p.From < 0
        · rw [decide_eq_true b1, show decide (imin p.From p.To < 0) = true from decide_eq_true (by omega)]; rfl
        by_cases b2 : p.From ≥ g.N
        · rw [decide_eq_false b1, decide_eq_true b2]
          by_cases b0 : imin p.From p.To < 0
          · rw [decide_eq_true b0]; rfl
          · rw [decide_eq_false b0, show decide (imax p.From p.To ≥ g.N) = true from decide_eq_true (by omega)]; rfl
        by_cases b3 : p.To < 0
        · rw [decide_eq_false b1, decide_eq_false b2, decide_eq_true b3, show decide (imin p.From p.To < 0) = true from decide_eq_true (by omega)]; rfl
        by_cases b4 : p.To ≥ g.N
        · rw [decide_eq_false b1, decide_eq_false b2, decide_eq_false b3, decide_eq_true b4, show decide (imin p.From p.To < 0) = false from decide_eq_false (by omega), show decide (imax p.From p.To ≥ g.N) = true from decide_eq_true (by omega)]; rfl
        rw [decide_eq_false b1, decide_eq_false b2, decide_eq_false b3, decide_eq_false b4, show decide (imin p.From p.To < 0) = false from decide_eq_false (by omega), show decide (imax p.From p.To ≥ g.N) = false from decide_eq_false (by omega)]
        simp only [cond_false]
        by_cases h0 : 0 < i
        · rw [show decide ((i : Int) > 0) = true from decide_eq_true (by omega), cond_true, cond_true, isub1 (by omega), show ((i : Int) - 1) = ((i - 1 : Nat) : Int) from by omega, idxM_getD (z := pr0) (by omega), some_bind, some_bind, some_bind]
          generalize g.L.getD (i - 1) pr0 = w at *
          obtain ⟨r, hr, hr2⟩ := compare_ge (p := w) (q := p)
          rw [hr, some_bind, some_bind]
          unfold plt at hr2
          by_cases c1 : w.From > p.From
          · rw [decide_eq_true c1, show decide (r ≥ 0) = true from decide_eq_true (by omega)]; rfl
          · rw [decide_eq_false c1, cond_false]
            by_cases c2 : w.From = p.From
            · rw [show (w.From == p.From) = true by simpa using c2, cond_true]
              by_cases c3 : w.To ≥ p.To
              · rw [decide_eq_true c3, show decide (r ≥ 0) = true from decide_eq_true (by omega)]; rfl
              · rw [decide_eq_false c3, show decide (r ≥ 0) = false from decide_eq_false (by omega)]; rfl
            · rw [show (w.From == p.From) = false by simpa using c2, cond_false, show decide (r ≥ 0) = false from decide_eq_false (by omega)]; rfl
        · rw [show decide ((i : Int) > 0) = false from decide_eq_false (by omega)]; rfl
      · rw [show decide ((i : Int) < (g.L.length : Int)) = false from decide_eq_false (by omega)]; rfl
    · rintro _ s' ⟨i, rfl, hi⟩ hs
      unfold graph_Validate_l1 at hs
      by_cases h1 : i < g.L.length
      · refine ⟨i + 1, ?_, by omega⟩
        rw [show decide ((i : Int) < (g.L.length : Int)) = true from decide_eq_true (by omega), cond_true, idxM_getD (z := pr0) h1, some_bind, iadd1 (by omega)] at hs
        have key : ∀ {b : Bool} {x y : Option (Sum (Sum Int Unit) Int)}, (bif b then x else y) = some (.inr s') → x = some (.inr s') ∨ y = some (.inr s') := fun {b x y} h => by cases b <;> simp_all
        rcases key hs with hs | hs
        · cases hs
        rcases key hs with hs | hs
        · cases hs
        rcases key hs with hs | hs
        · obtain ⟨w, _, hs⟩ := Option.bind_eq_some_iff.1 hs
          obtain ⟨r, _, hs⟩ := Option.bind_eq_some_iff.1 hs
          rcases key hs with hs | hs
          · cases hs
          · cases hs; rfl
        · cases hs; rfl
      · rw [show decide ((i : Int) < (g.L.length : Int)) = false from decide_eq_false (by omega)] at hs; cases hs
  rw [this]

theorem nIn_plain {l : List Int} {x : Int} (hl : l.length ≤ 1000000) : net_In_m l x = some (decide (x ∈ l)) := by
  unfold net_In_m
  rw [any_bind (l := l) (p := fun y => y == x)]
  · congr 1
    rw [Bool.eq_iff_iff]
    simp only [List.any_eq_true, beq_iff_eq, decide_eq_true_eq]
    exact ⟨fun ⟨y, h1, h2⟩ => h2 ▸ h1, fun h => ⟨x, h, rfl⟩⟩
  · intro i hi
    unfold net_In_l1
    rw [show decide ((i : Int) < (l.length : Int)) = true from decide_eq_true (by omega), idxM_nat hi, iadd1 (by omega)]
    simp only [cond_true, some_bind]
    cases l[i] == x <;> rfl
  · unfold net_In_l1
    rw [show decide ((l.length : Int) < (l.length : Int)) = false from decide_eq_false (by omega)]; rfl

/-- the graph h stands for the net n: its attacks are those of n -/
structure Sim (N : Nat) (n : Nt) (h : T_api_Graph) : Prop where
  ok : NtOk N n
  hN : N ≤ 40
  nn : h.N = (N : Int)
  l : h.L.length ≤ 10000
  v : ∀ p ∈ h.L, 0 ≤ p.From ∧ p.From < N ∧ 0 ≤ p.To ∧ p.To < N
  at_ : ∀ i j, n.a i j ↔ att h (i : Int) (j : Int)

section
variable {N : Nat} {n : Nt} {h : T_api_Graph} (s : Sim N n h)
include s
theorem Sim.gv : GV0 h := ⟨by rw [s.nn]; omega, by rw [s.nn]; have := s.hN; omega, fun p hp => by rw [s.nn]; exact s.v p hp⟩
theorem Sim.nat {a b : Int} (hab : att h a b) : ∃ i j : Nat, a = i ∧ b = j ∧ n.a i j := by
  obtain ⟨p, hp, rfl, rfl⟩ := hab
  have := s.v p hp
  obtain ⟨i, hi⟩ := Int.eq_ofNat_of_zero_le this.1
  obtain ⟨j, hj⟩ := Int.eq_ofNat_of_zero_le this.2.2.1
  refine ⟨i, j, hi, hj, (s.at_ i j).2 ⟨p, hp, hi, hj⟩⟩

end
theorem bits_in {N y i : Nat} (hN : N ≤ 40) (hy : y < 2 ^ N) : (i : Int) ∈ il (bitsL y) ↔ y.testBit i = true := by
  rw [il_mem, ← mem_bitsL (lt64 hy (by omega))]
  exact ⟨fun ⟨m, hm, e⟩ => by have : i = m := by omega
                              rw [this]; exact hm, fun hm => ⟨i, hm, rfl⟩⟩

section
variable {N : Nat} {n : Nt} {h : T_api_Graph} (s : Sim N n h)
include s
theorem atk_list {y : Nat} (hy : y < 2 ^ N) {i : Nat} : (∃ a ∈ il (bitsL y), att h a (i : Int)) ↔ ∃ k, y.testBit k = true ∧ n.a k i := by
  constructor
  · rintro ⟨a, ha, hat⟩
    obtain ⟨k, j, rfl, e, hk⟩ := s.nat hat
    have : j = i := by omega
    subst this
    exact ⟨k, (bits_in s.hN hy).1 ha, hk⟩
  · rintro ⟨k, hk, hka⟩
    exact ⟨k, (bits_in s.hN hy).2 hk, (s.at_ k i).1 hka⟩

open Classical in
/-- the grounded set of the reference is the program's -/
theorem gr_iff {i : Nat} (hi : n.all.testBit i = true) : Gr (att h) (i : Int) ↔ (grd n).testBit i = true := by
  have hG := (In_plain2 s.ok).2
  have hatt : ∀ a b, att h a b → 0 ≤ a ∧ a < (N : Int) := fun a b ⟨p, hp, h1, h2⟩ => by have := s.v p hp; omega
  constructor
  · rintro ⟨k, hk⟩
    induction k using Nat.strongRecOn generalizing i with
    | _ k ih =>
      cases k with
      | zero => exact hk.elim
      | succ k =>
        refine hG.cls i hi fun b hb => ?_
        obtain ⟨c, h1, h2⟩ := hk (b : Int) ((s.at_ b i).1 hb)
        obtain ⟨m, b', rfl, e, hm⟩ := s.nat h1
        have : b' = b := by omega
        subst this
        exact ⟨m, ih k (by omega) (s.ok.ab m b' hm).1 h2, hm⟩
  · intro hg
    let S := setOf ((List.range N).filter fun i => decide (Gr (att h) (i : Int)))
    have hS : ∀ j, S.testBit j = true ↔ j < N ∧ Gr (att h) (j : Int) := fun j => by
      show (setOf _).testBit j = true ↔ _
      rw [setOf_bit, List.mem_filter, List.mem_range, decide_eq_true_eq]
    have hc : ClsP n S := fun j hj hd => (hS j).2 ⟨s.ok.al j hj, Gr.mk (n := N) hatt fun b hb => by
      obtain ⟨b', j', rfl, e, hb'⟩ := s.nat hb
      have : j' = j := by omega
      subst this
      obtain ⟨m, h1, h2⟩ := hd b' hb'
      exact ⟨m, (s.at_ m b').1 h2, ((hS m).1 h1).2⟩⟩
    exact ((hS i).1 (hG.least S hc i hg)).2
end
theorem Members_plain {k : Nat} (hk : k < 2 ^ 64) : net_Members_m (k : Int) = some (il (bitsL k)) := by
  unfold net_Members_m
  have : loopC (net_Members_l1 (k : Int)) (0, []) = some (il (bitsL k)) := by
    refine T.eq (T.loopK 64 (fun i s => i ≤ 64 ∧ s.1 = (i : Int) ∧ s.2 = il ((List.range i).filter k.testBit)) ⟨by omega, rfl, rfl⟩ ?_)
    rintro i ⟨_, _⟩ ⟨hi, rfl, rfl⟩
    dsimp only [net_Members_l1] at *
    refine T.cond (fun g1 => ?_) fun g1 => ?_
    · simp at g1
      have hi64 : i < 64 := by omega
      have hlen : ((List.range i).filter k.testBit).length ≤ i := Nat.le_trans (List.length_filter_le _ _) (by simp)
      have hh := Has_plain hk hi64
      unfold network_Set_Has_m at hh
      rw [wrapU (by omega)] at hh ⊢
      cases hs : ishrM .u64 (k : Int) (i : Int) with
      | none => rw [hs] at hh; cases hh
      | some t =>
        rw [hs, some_bind, letM_eq] at hh
        rw [some_bind, iadd1 (by omega), Option.some.inj hh, List.range_succ, List.filter_append]
        cases hb : k.testBit i with
        | true =>
          rw [cond_true, appM_eq (by simp; omega), some_bind]
          refine .letM (.ret ⟨hi64, by omega, rfl, ?_⟩)
          rw [List.filter_cons_of_pos hb]; simp [il]
        | false =>
          rw [cond_false]
          refine .letM (.ret ⟨hi64, by omega, rfl, ?_⟩)
          rw [List.filter_cons_of_neg (by simp [hb])]; simp
    · simp at g1
      have e : i = 64 := by omega
      subst e
      exact .ret rfl
  rw [this, some_bind]

theorem asc_bits {N k : Nat} (hk : k < 2 ^ N) (hN : N ≤ 40) : Asc N (il (bitsL k)) := by
  have hk64 := lt64 hk (by omega)
  refine ⟨?_, fun x hx => ?_⟩
  · have h1 : (bitsL k).Pairwise (· < ·) := List.Pairwise.filter _ List.pairwise_lt_range
    exact List.pairwise_map.2 (h1.imp fun h => by omega)
  · obtain ⟨n, hn, rfl⟩ := il_mem.1 hx
    have := bits_lt hk ((mem_bitsL hk64).1 hn)
    omega
end Go.Dc
