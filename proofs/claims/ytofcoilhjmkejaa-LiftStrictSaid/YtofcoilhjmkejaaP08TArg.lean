/- Part P08T.Arg of a proof: lemmas. -/
import Derived.Test.YtofcoilhjmkejaaP08TAsc
import Derived.Test.YtofcoilhjmkejaaDcRec
set_option linter.unusedVariables false
set_option linter.unusedSimpArgs false
set_option linter.unusedSectionVars false
/-! The subarguments, premises and rules of an argument: the program's and the document's. -/
namespace Go.Dc

def zA : T_api_Argument := ⟨0, 0, [], ⟨false, ByteArray.empty⟩⟩
def zR : T_api_Rule := ⟨ByteArray.empty, false, 0, [], ⟨false, ByteArray.empty⟩⟩
def zP : T_api_Premise := ⟨⟨false, ByteArray.empty⟩, 0, 0, ByteArray.empty⟩
def agt (L : List T_api_Argument) (i : Int) : T_api_Argument := L.getD i.toNat zA
def rul (b : T_api_Base) (i : Int) : T_api_Rule := b.Rules.getD i.toNat zR
def prm (b : T_api_Base) (i : Int) : T_api_Premise := b.Premises.getD i.toNat zP
theorem idx_arg {L : List T_api_Argument} {i : Int} (h0 : 0 ≤ i) (h : i < L.length) : idxM L i = some (agt L i) := idxM_getD' zA h0 h
theorem idx_rul {b : T_api_Base} {i : Int} (h0 : 0 ≤ i) (h : i < b.Rules.length) : idxM b.Rules i = some (rul b i) := idxM_getD' zR h0 h
theorem idx_prm {b : T_api_Base} {i : Int} (h0 : 0 ≤ i) (h : i < b.Premises.length) : idxM b.Premises i = some (prm b i) := idxM_getD' zP h0 h

/-- an argument that stands at the index i -/
def AOk (b : T_api_Base) (i : Int) (a : T_api_Argument) : Prop :=
  (a.Premise = i ∧ i < b.Premises.length ∧ a.Rule = -1 ∧ a.Subs = []) ∨ (a.Premise = -1 ∧ 0 ≤ a.Rule ∧ a.Rule < b.Rules.length ∧ a.Subs.length ≤ 2 ∧ ∀ s ∈ a.Subs, 0 ≤ s ∧ s < i)
def AsOk (b : T_api_Base) (L : List T_api_Argument) : Prop := L.length ≤ 40 ∧ ∀ i : Int, 0 ≤ i → i < L.length → AOk b i (agt L i)

theorem AOk.subs {b : T_api_Base} {i : Int} {a : T_api_Argument} (h : AOk b i a) : a.Subs.length ≤ 2 ∧ ∀ s ∈ a.Subs, 0 ≤ s ∧ s < i := by
  rcases h with ⟨_, _, _, h⟩ | ⟨_, _, _, h⟩
  · rw [h]; simp
  · exact h
theorem AOk.rule {b : T_api_Base} {i : Int} {a : T_api_Argument} (h : AOk b i a) : a.Rule < b.Rules.length := by
  rcases h with ⟨_, _, h, _⟩ | ⟨_, _, h, _⟩ <;> omega

theorem asc_len {N : Int} : ∀ {l : List Int} {a : Int}, Asc l → (∀ x ∈ l, a ≤ x ∧ x < N) → a ≤ N → (l.length : Int) ≤ N - a
  | [], a, _, _, h => by simp; omega
  | x :: l, a, ha, hb, h => by
    obtain ⟨h1, h2⟩ := List.pairwise_cons.1 ha
    have h3 := hb x (by simp)
    have := asc_len (N := N) (a := x + 1) h2 (fun y hy => ⟨h1 y hy, (hb y (by simp [hy])).2⟩) (by omega)
    simp only [List.length_cons]; omega

theorem flat_tk {α β : Type} {l : List α} {f : α → List β} {k : Nat} (hk : k < l.length) : (l.take (k + 1)).flatMap f = (l.take k).flatMap f ++ f l[k] := by
  rw [List.take_add_one, List.getElem?_eq_getElem hk, List.flatMap_append]; simp
theorem flat_len {α β : Type} {l : List α} {f : α → List β} {N : Nat} (h : ∀ x ∈ l, (f x).length ≤ N) : (l.flatMap f).length ≤ l.length * N := by
  induction l with
  | nil => simp
  | cons x l ih =>
    have h1 := h x (by simp); have h2 := ih fun y hy => h y (by simp [hy])
    simp only [List.flatMap_cons, List.length_append, List.length_cons, Nat.succ_mul]; omega

/-! ### subarguments -/
noncomputable def subsP (L : List T_api_Argument) (i : Int) : List Int := (ref07_Subs_m L i).getD []

theorem Subs_out {L : List T_api_Argument} {i : Int} (h : i < 0 ∨ L.length ≤ i) : ref07_Subs_m L i = some [] ∧ argument_Subs_m L i = some [] := by
  constructor
  · refine recC_of (fun n => ref07_Subs_n_le n _ _) (n := 1) ?_
    show ref07_Subs_b _ L i = _
    unfold ref07_Subs_b
    rcases h with h | h
    · rw [decide_eq_true h]; rfl
    · cases hd : decide (i < 0)
      · rw [cond_false, decide_eq_true (by omega), cond_true]
      · rfl
  · refine recC_of (fun n => argument_Subs_n_le n _ _) (n := 1) ?_
    show argument_Subs_b _ L i = _
    unfold argument_Subs_b argument_inside_m
    rcases h with h | h
    · rw [decide_eq_false (by omega)]; rfl
    · rw [letM_eq, decide_eq_false (show ¬ i < (L.length : Int) by omega)]
      cases decide (i ≥ 0) <;> rfl

theorem inside_in {L : List T_api_Argument} {i : Int} (h0 : 0 ≤ i) (h : i < L.length) : argument_inside_m L i = some true := by
  unfold argument_inside_m
  rw [decide_eq_true (by omega), cond_true, letM_eq, decide_eq_true h]

theorem Subs_n {b : T_api_Base} {L : List T_api_Argument} (h : AsOk b L) : ∀ (n : Nat) (i : Int), 0 ≤ i → i < n → i < L.length →
    ∃ S, ref07_Subs_n n L i = some S ∧ argument_Subs_n n L i = some S ∧ S = nf (i :: (agt L i).Subs.flatMap (subsP L)) ∧ ∀ x ∈ S, 0 ≤ x ∧ x ≤ i := by
  intro n
  induction n with
  | zero => intro i h0 h1; exact absurd h1 (by omega)
  | succ n ih =>
    intro i h0 h1 h2
    obtain ⟨hs2, hsi⟩ := (h.2 i h0 h2).subs
    have hl40 := h.1
    have K : ∀ s ∈ (agt L i).Subs, ref07_Subs_n n L s = some (subsP L s) ∧ argument_Subs_n n L s = some (subsP L s) ∧ (∀ x ∈ subsP L s, 0 ≤ x ∧ x ≤ s) ∧ (subsP L s).length ≤ 40 := by
      intro s hs
      obtain ⟨s0, s1⟩ := hsi s hs
      obtain ⟨S, e1, e2, e3, e4⟩ := ih s s0 (by omega) (by omega)
      have e5 : subsP L s = S := by unfold subsP; rw [show ref07_Subs_m L s = some S from recC_of (fun n => ref07_Subs_n_le n _ _) e1]; rfl
      rw [e5]
      refine ⟨e1, e2, e4, ?_⟩
      have := asc_len (N := s + 1) (a := 0) (by rw [e3]; exact nf_asc _) (fun x hx => ⟨(e4 x hx).1, by have := (e4 x hx).2; omega⟩) (by omega)
      omega
    have B : ∀ x ∈ i :: (agt L i).Subs.flatMap (subsP L), 0 ≤ x ∧ x ≤ i := by
      intro x hx
      simp only [List.mem_cons, List.mem_flatMap] at hx
      rcases hx with rfl | ⟨s, hs, hx⟩
      · omega
      · have := (K s hs).2.2.1 x hx; have := hsi s hs; omega
    refine ⟨nf (i :: (agt L i).Subs.flatMap (subsP L)), ?_, ?_, rfl, fun x hx => B x (mem_nf.1 hx)⟩
    · show ref07_Subs_b (ref07_Subs_n n) L i = _
      unfold ref07_Subs_b
      rw [decide_eq_false (by omega), cond_false, decide_eq_false (by omega), cond_false]
      refine T.eq (T.bind (P := fun q => q = nf (i :: (agt L i).Subs.flatMap (subsP L))) ?_ fun q hq => .ret hq)
      refine T.loopK (agt L i).Subs.length (fun k s => k ≤ (agt L i).Subs.length ∧ s.2 = (k : Int) ∧ Asc s.1 ∧ (∀ x, x ∈ s.1 ↔ x ∈ i :: ((agt L i).Subs.take k).flatMap (subsP L)) ∧ s.1.length ≤ 1 + k * 40) ⟨by omega, rfl, by simp [Asc], by simp, by simp⟩ ?_
      rintro k ⟨s, _⟩ ⟨hk, rfl, hs, hm, hlen⟩
      dsimp only [ref07_Subs_l1] at hs hm hlen ⊢
      rw [idx_arg h0 h2, some_bind]
      refine T.cond (fun g => ?_) fun g => ?_
      · have hk2 : k < (agt L i).Subs.length := by have := of_decide_eq_true g; omega
        obtain ⟨q1, q2, q3, q4⟩ := K _ (List.getElem_mem hk2)
        rw [some_bind, idxM_nat hk2, some_bind, q1, some_bind]
        refine T.bind (union_plain hs (by omega)) ?_
        rintro r ⟨r1, r2, r3⟩
        rw [letM_eq, iadd1 (by omega)]
        refine .ret ⟨hk2, hk2, rfl, r1, fun x => ?_, by simp only; omega⟩
        rw [r2, hm, flat_tk hk2, ← List.cons_append, List.mem_append]
      · have e : k = (agt L i).Subs.length := by have := of_decide_eq_false g; omega
        subst e
        rw [List.take_length] at hm
        exact .ret (nf_of hs hm)
    · show argument_Subs_b (argument_Subs_n n) L i = _
      unfold argument_Subs_b
      rw [inside_in h0 h2, some_bind, Bool.not_true, cond_false, idx_arg h0 h2, some_bind]
      refine T.eq (T.bind (P := fun q => q = i :: (agt L i).Subs.flatMap (subsP L) ∧ q.length ≤ 200) ?_ fun q hq => ?_)
      · refine T.loopK (agt L i).Subs.length (fun k s => k ≤ (agt L i).Subs.length ∧ s.1 = (k : Int) ∧ s.2 = i :: ((agt L i).Subs.take k).flatMap (subsP L) ∧ s.2.length ≤ 1 + k * 40) ⟨by omega, rfl, by simp, by simp⟩ ?_
        rintro k ⟨_, s⟩ ⟨hk, rfl, hs, hlen⟩
        dsimp only [argument_Subs_l1] at hs hlen ⊢
        refine T.cond (fun g => ?_) fun g => ?_
        · have hk2 : k < (agt L i).Subs.length := by have := of_decide_eq_true g; omega
          obtain ⟨q1, q2, q3, q4⟩ := K _ (List.getElem_mem hk2)
          rw [idxM_nat hk2, some_bind, q2, some_bind, appM_eq (by omega), some_bind, iadd1 (by omega)]
          exact .ret ⟨hk2, hk2, rfl, by simp only; rw [hs, flat_tk hk2]; rfl, by simp; omega⟩
        · have e : k = (agt L i).Subs.length := by have := of_decide_eq_false g; omega
          subst e
          rw [List.take_length] at hs
          exact .ret ⟨hs, by omega⟩
      · rw [sc_plain (by omega), hq.1]; exact .ret rfl

theorem Subs_plain {b : T_api_Base} {L : List T_api_Argument} (h : AsOk b L) (i : Int) : ref07_Subs_m L i = some (subsP L i) ∧ argument_Subs_m L i = some (subsP L i) := by
  by_cases h1 : 0 ≤ i ∧ i < L.length
  · obtain ⟨S, e1, e2, e3, e4⟩ := Subs_n h (i.toNat + 1) i h1.1 (by omega) h1.2
    have e := recC_of (fun n => ref07_Subs_n_le n _ _) e1
    have e5 : subsP L i = S := by unfold subsP; rw [show ref07_Subs_m L i = some S from e]; rfl
    rw [e5]
    exact ⟨e, recC_of (fun n => argument_Subs_n_le n _ _) e2⟩
  · obtain ⟨e1, e2⟩ := Subs_out (L := L) (i := i) (by omega)
    have e5 : subsP L i = [] := by unfold subsP; rw [e1]; rfl
    rw [e5]; exact ⟨e1, e2⟩
theorem subsP_out {L : List T_api_Argument} {i : Int} (h : i < 0 ∨ L.length ≤ i) : subsP L i = [] := by unfold subsP; rw [(Subs_out h).1]; rfl
theorem subsP_eq {b : T_api_Base} {L : List T_api_Argument} (h : AsOk b L) {i : Int} (h0 : 0 ≤ i) (h1 : i < L.length) : subsP L i = nf (i :: (agt L i).Subs.flatMap (subsP L)) ∧ ∀ x ∈ subsP L i, 0 ≤ x ∧ x ≤ i := by
  obtain ⟨S, e1, e2, e3, e4⟩ := Subs_n h (i.toNat + 1) i h0 (by omega) h1
  have e5 : subsP L i = S := by unfold subsP; rw [show ref07_Subs_m L i = some S from recC_of (fun n => ref07_Subs_n_le n _ _) e1]; rfl
  rw [e5]; exact ⟨e3, e4⟩
theorem subsP_ok {b : T_api_Base} {L : List T_api_Argument} (h : AsOk b L) (i : Int) : Asc (subsP L i) ∧ (∀ x ∈ subsP L i, 0 ≤ x ∧ x < L.length ∧ x ≤ i) ∧ (subsP L i).length ≤ 40 := by
  by_cases h1 : 0 ≤ i ∧ i < L.length
  · obtain ⟨e3, e4⟩ := subsP_eq h h1.1 h1.2
    have e : Asc (subsP L i) := by rw [e3]; exact nf_asc _
    refine ⟨e, fun x hx => ⟨(e4 x hx).1, by have := (e4 x hx).2; omega, (e4 x hx).2⟩, ?_⟩
    have := asc_len (N := i + 1) (a := 0) e (fun x hx => ⟨(e4 x hx).1, by have := (e4 x hx).2; omega⟩) (by omega)
    have := h.1
    omega
  · rw [subsP_out (by omega)]; simp [Asc]
end Go.Dc
