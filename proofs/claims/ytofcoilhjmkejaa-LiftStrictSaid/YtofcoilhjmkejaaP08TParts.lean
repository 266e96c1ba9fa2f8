/- Part P08T.Parts of a proof: lemmas. -/
import Derived.Test.YtofcoilhjmkejaaP08TArg
set_option linter.unusedVariables false
set_option linter.unusedSimpArgs false
set_option linter.unusedSectionVars false
/-! Premises, defeasible rules and last rules. -/
namespace Go.Dc
variable {b : T_api_Base} {L : List T_api_Argument}

theorem filt_take {α : Type} {l : List α} {p : α → Bool} {k : Nat} (hk : k < l.length) : (l.take (k + 1)).filter p = (l.take k).filter p ++ (if p l[k] then [l[k]] else []) := by
  rw [List.take_add_one, List.getElem?_eq_getElem hk, List.filter_append]; congr 1; simp [List.filter_cons]
theorem mem_take1 {l : List Int} {k : Nat} (hk : k < l.length) {x : Int} : x ∈ l.take (k + 1) ↔ x ∈ l.take k ∨ x = l[k] := by
  rw [List.take_add_one, List.getElem?_eq_getElem hk]; simp only [Option.toList_some, List.mem_append, List.mem_singleton]

/-! ### premises -/
noncomputable def premL (L : List T_api_Argument) (i : Int) : List Int := (subsP L i).filter fun k => decide (0 ≤ (agt L k).Premise)

theorem prem_own (h : AsOk b L) {k : Int} (h0 : 0 ≤ k) (h1 : k < L.length) (hp : 0 ≤ (agt L k).Premise) : (agt L k).Premise = k ∧ k < b.Premises.length := by
  rcases h.2 k h0 h1 with ⟨e, e2, _⟩ | ⟨e, _⟩
  · exact ⟨e, e2⟩
  · omega
theorem premL_asc (h : AsOk b L) (i : Int) : Asc (premL L i) := List.Pairwise.filter _ (subsP_ok h i).1
theorem premL_len (h : AsOk b L) (i : Int) : (premL L i).length ≤ 40 := Nat.le_trans (List.length_filter_le _ _) (subsP_ok h i).2.2
theorem mem_premL (h : AsOk b L) {i x : Int} : x ∈ premL L i ↔ x ∈ subsP L i ∧ 0 ≤ (agt L x).Premise := by simp [premL]
theorem premL_in (h : AsOk b L) {i x : Int} (hx : x ∈ premL L i) : 0 ≤ x ∧ x < b.Premises.length := by
  obtain ⟨h1, h2⟩ := (mem_premL h).1 hx
  obtain ⟨h3, h4, _⟩ := (subsP_ok h i).2.1 x h1
  exact ⟨h3, (prem_own h h3 h4 h2).2⟩

theorem Premises_plain (h : AsOk b L) (i : Int) : ref07_Premises_m L i = some (premL L i) ∧ argument_Premises_m L i = some (premL L i) := by
  obtain ⟨e1, e2⟩ := Subs_plain h i
  obtain ⟨a1, a2, a3⟩ := subsP_ok h i
  constructor
  · unfold ref07_Premises_m
    rw [e1, some_bind]
    refine T.eq (T.bind (P := fun q => q = premL L i) ?_ fun q hq => .ret hq)
    refine T.loopK (subsP L i).length (fun k s => k ≤ (subsP L i).length ∧ s.2 = (k : Int) ∧ s.1 = ((subsP L i).take k).filter (fun k => decide (0 ≤ (agt L k).Premise))) ⟨by omega, rfl, by simp⟩ ?_
    rintro k ⟨s, _⟩ ⟨hk, rfl, hs⟩
    dsimp only [ref07_Premises_l1] at hs ⊢
    refine T.cond (fun g => ?_) fun g => ?_
    · have hk2 : k < (subsP L i).length := by have := of_decide_eq_true g; omega
      obtain ⟨b1, b2, _⟩ := a2 _ (List.getElem_mem hk2)
      rw [idxM_nat hk2, some_bind, idx_arg b1 b2, some_bind, iadd1 (by omega)]
      refine T.cond (fun g2 => ?_) fun g2 => .ret ⟨hk2, hk2, rfl, by simp only; rw [filt_take hk2, hs, if_neg (by simpa using g2), List.append_nil]⟩
      have hp := of_decide_eq_true g2
      rw [some_bind, (prem_own h b1 b2 hp).1]
      have hlen : s.length ≤ 40 := by rw [hs]; exact Nat.le_trans (List.length_filter_le _ _) (by rw [List.length_take]; omega)
      have hsa : Asc s := by rw [hs]; exact List.Pairwise.filter _ (a1.sublist (List.take_sublist _ _))
      refine T.bind (insert_plain hsa (by omega)) ?_
      rintro r ⟨r1, r2, r3⟩
      refine .ret ⟨hk2, hk2, rfl, ?_⟩
      refine asc_ext r1 (List.Pairwise.filter _ (a1.sublist (List.take_sublist _ _))) fun x => ?_
      rw [r2, hs, filt_take hk2, if_pos (by simpa using hp), List.mem_append, List.mem_singleton]
      exact Or.comm
    · have e : k = (subsP L i).length := by have := of_decide_eq_false g; omega
      subst e
      rw [List.take_length] at hs
      exact .ret hs
  · unfold argument_Premises_m
    rw [e2, some_bind]
    refine T.eq (T.bind (P := fun q => q = premL L i) ?_ fun q hq => by
      rw [hq, so_plain (by have := premL_len h i; omega) (premL_asc h i), nf_self (premL_asc h i)]; exact .ret rfl)
    refine T.loopK (subsP L i).length (fun k s => k ≤ (subsP L i).length ∧ s.1 = (k : Int) ∧ s.2 = ((subsP L i).take k).filter (fun k => decide (0 ≤ (agt L k).Premise))) ⟨by omega, rfl, by simp⟩ ?_
    rintro k ⟨_, s⟩ ⟨hk, rfl, hs⟩
    dsimp only [argument_Premises_l1] at hs ⊢
    refine T.cond (fun g => ?_) fun g => ?_
    · have hk2 : k < (subsP L i).length := by have := of_decide_eq_true g; omega
      obtain ⟨b1, b2, _⟩ := a2 _ (List.getElem_mem hk2)
      rw [idxM_nat hk2, some_bind, idx_arg b1 b2, some_bind, iadd1 (by omega)]
      refine T.cond (fun g2 => ?_) fun g2 => .ret ⟨hk2, hk2, rfl, by simp only; rw [filt_take hk2, hs, if_neg (by simpa using g2), List.append_nil]⟩
      have hp := of_decide_eq_true g2
      have hlen : s.length ≤ 40 := by rw [hs]; exact Nat.le_trans (List.length_filter_le _ _) (by rw [List.length_take]; omega)
      rw [some_bind, (prem_own h b1 b2 hp).1, appM_eq (by simp; omega), some_bind]
      exact .ret ⟨hk2, hk2, rfl, by simp only; rw [filt_take hk2, hs, if_pos (by simpa using hp)]⟩
    · have e : k = (subsP L i).length := by have := of_decide_eq_false g; omega
      subst e
      rw [List.take_length] at hs
      exact .ret hs

/-! ### defeasible rules -/
def isDef (b : T_api_Base) (L : List T_api_Argument) (k : Int) : Bool := decide (0 ≤ (agt L k).Rule) && !(rul b (agt L k).Rule).Strict
noncomputable def defL (b : T_api_Base) (L : List T_api_Argument) (i : Int) : List Int := nf (((subsP L i).filter (isDef b L)).map fun k => (agt L k).Rule)
theorem defL_asc (i : Int) : Asc (defL b L i) := nf_asc _
theorem mem_defL {i x : Int} : x ∈ defL b L i ↔ ∃ k ∈ subsP L i, 0 ≤ (agt L k).Rule ∧ (rul b (agt L k).Rule).Strict = false ∧ (agt L k).Rule = x := by
  unfold defL; rw [mem_nf]; simp [isDef, and_assoc]
theorem defL_len (h : AsOk b L) (i : Int) : (defL b L i).length ≤ 40 := by
  refine Nat.le_trans (nf_len _) ?_
  rw [List.length_map]
  exact Nat.le_trans (List.length_filter_le _ _) (subsP_ok h i).2.2
theorem defL_in (h : AsOk b L) {i x : Int} (hx : x ∈ defL b L i) : 0 ≤ x ∧ x < b.Rules.length := by
  obtain ⟨k, hk, h1, h2, rfl⟩ := mem_defL.1 hx
  obtain ⟨h3, h4, _⟩ := (subsP_ok h i).2.1 k hk
  exact ⟨h1, (h.2 k h3 h4).rule⟩

theorem Defeasible_plain (h : AsOk b L) (i : Int) : ref07_Defeasible_m b L i = some (defL b L i) ∧ argument_Defeasible_m b L i = some (defL b L i) := by
  obtain ⟨e1, e2⟩ := Subs_plain h i
  obtain ⟨a1, a2, a3⟩ := subsP_ok h i
  constructor
  · unfold ref07_Defeasible_m
    rw [e1, some_bind]
    refine T.eq (T.bind (P := fun q => q = defL b L i) ?_ fun q hq => .ret hq)
    refine T.loopK (subsP L i).length (fun k s => k ≤ (subsP L i).length ∧ s.2 = (k : Int) ∧ Asc s.1 ∧ (∀ x, x ∈ s.1 ↔ x ∈ (((subsP L i).take k).filter (isDef b L)).map fun k => (agt L k).Rule) ∧ s.1.length ≤ k) ⟨by omega, rfl, .nil, by simp, by simp⟩ ?_
    rintro k ⟨s, _⟩ ⟨hk, rfl, hs, hm, hl⟩
    dsimp only [ref07_Defeasible_l1] at hs hm hl ⊢
    refine T.cond (fun g => ?_) fun g => ?_
    · have hk2 : k < (subsP L i).length := by have := of_decide_eq_true g; omega
      obtain ⟨b1, b2, _⟩ := a2 _ (List.getElem_mem hk2)
      have hr := (h.2 _ b1 b2).rule
      rw [idxM_nat hk2, some_bind, idx_arg b1 b2, some_bind, iadd1 (by omega)]
      refine T.joinP (fun j => j = isDef b L (subsP L i)[k]) (fun j hj => ?_) fun kk hkk => ?_
      · subst hj
        refine T.cond (fun g2 => ?_) fun g2 => .ret ⟨hk2, hk2, rfl, hs, fun x => by simp only; rw [filt_take hk2, hm, if_neg (by simp [g2]), List.append_nil], by simp only; omega⟩
        refine T.bind (insert_plain hs (by omega)) ?_
        rintro r ⟨r1, r2, r3⟩
        refine .ret ⟨hk2, hk2, rfl, r1, fun x => ?_, by simp only; omega⟩
        rw [r2, filt_take hk2, hm, if_pos g2, List.map_append, List.mem_append]
        simp only [List.map_cons, List.map_nil, List.mem_singleton]
        exact Or.comm
      · rw [some_bind]
        refine T.cond (fun g2 => ?_) fun g2 => hkk _ (by have := of_decide_eq_false g2; unfold isDef; rw [decide_eq_false (by omega)]; rfl)
        have hp := of_decide_eq_true g2
        rw [some_bind, idx_rul hp hr, some_bind]
        exact hkk _ (by unfold isDef; rw [decide_eq_true (by omega), Bool.true_and])
    · have e : k = (subsP L i).length := by have := of_decide_eq_false g; omega
      subst e
      rw [List.take_length] at hm
      exact .ret (nf_of hs hm)
  · unfold argument_Defeasible_m
    rw [e2, some_bind]
    refine T.eq (T.bind (P := fun q => q = ((subsP L i).filter (isDef b L)).map (fun k => (agt L k).Rule) ∧ q.length ≤ 1000) ?_ fun q hq => by
      rw [sc_plain (by omega), hq.1]; exact .ret rfl)
    refine T.loopK (subsP L i).length (fun k s => k ≤ (subsP L i).length ∧ s.1 = (k : Int) ∧ s.2 = (((subsP L i).take k).filter (isDef b L)).map (fun k => (agt L k).Rule) ∧ s.2.length ≤ k) ⟨by omega, rfl, by simp, by simp⟩ ?_
    rintro k ⟨_, s⟩ ⟨hk, rfl, hs, hl⟩
    dsimp only [argument_Defeasible_l1] at hs hl ⊢
    refine T.cond (fun g => ?_) fun g => ?_
    · have hk2 : k < (subsP L i).length := by have := of_decide_eq_true g; omega
      obtain ⟨b1, b2, _⟩ := a2 _ (List.getElem_mem hk2)
      have hr := (h.2 _ b1 b2).rule
      rw [idxM_nat hk2, some_bind, idx_arg b1 b2, some_bind, iadd1 (by omega)]
      refine T.joinP (fun j => j = isDef b L (subsP L i)[k]) (fun j hj => ?_) fun kk hkk => ?_
      · subst hj
        refine T.cond (fun g2 => ?_) fun g2 => .ret ⟨hk2, hk2, rfl, by simp only; rw [filt_take hk2, hs, if_neg (by simp [g2]), List.append_nil], by simp only; omega⟩
        rw [appM_eq (by simp; omega), some_bind]
        exact .ret ⟨hk2, hk2, rfl, by simp only; rw [filt_take hk2, hs, if_pos g2, List.map_append]; rfl, by simp; omega⟩
      · refine T.cond (fun g2 => ?_) fun g2 => hkk _ (by have := of_decide_eq_false g2; unfold isDef; rw [decide_eq_false (by omega)]; rfl)
        have hp := of_decide_eq_true g2
        rw [idx_rul hp hr, some_bind]
        exact hkk _ (by unfold isDef; rw [decide_eq_true (by omega), Bool.true_and])
    · have e : k = (subsP L i).length := by have := of_decide_eq_false g; omega
      subst e
      rw [List.take_length] at hs
      exact .ret ⟨hs, by omega⟩

/-! ### last rules -/
noncomputable def lastP (b : T_api_Base) (L : List T_api_Argument) (i : Int) : List Int := (ref07_Last_m b L i).getD []
noncomputable def lastStep (b : T_api_Base) (L : List T_api_Argument) (i : Int) : List Int :=
  if (agt L i).Rule < 0 then [] else if (rul b (agt L i).Rule).Strict then nf ((agt L i).Subs.flatMap (lastP b L)) else [(agt L i).Rule]

theorem Last_out {i : Int} (h : i < 0 ∨ L.length ≤ i) : ref07_Last_m b L i = some [] ∧ argument_Last_m b L i = some [] := by
  constructor
  · refine recC_of (fun n => ref07_Last_n_le n _ _ _) (n := 1) ?_
    show ref07_Last_b _ b L i = _
    unfold ref07_Last_b
    rcases h with h | h
    · rw [decide_eq_true h]; rfl
    · cases hd : decide (i < 0)
      · rw [cond_false, decide_eq_true (by omega), cond_true]
      · rfl
  · refine recC_of (fun n => argument_Last_n_le n _ _ _) (n := 1) ?_
    show argument_Last_b _ b L i = _
    unfold argument_Last_b argument_inside_m
    rcases h with h | h
    · rw [decide_eq_false (by omega)]; rfl
    · rw [letM_eq, decide_eq_false (show ¬ i < (L.length : Int) by omega)]
      cases decide (i ≥ 0) <;> rfl

theorem Last_n (h : AsOk b L) (hR : b.Rules.length ≤ 24) : ∀ (n : Nat) (i : Int), 0 ≤ i → i < n → i < L.length →
    ∃ S, ref07_Last_n n b L i = some S ∧ argument_Last_n n b L i = some S ∧ S = lastStep b L i ∧ Asc S ∧ ∀ x ∈ S, 0 ≤ x ∧ x < b.Rules.length := by
  intro n
  induction n with
  | zero => intro i h0 h1; exact absurd h1 (by omega)
  | succ n ih =>
    intro i h0 h1 h2
    obtain ⟨hs2, hsi⟩ := (h.2 i h0 h2).subs
    have hr := (h.2 i h0 h2).rule
    have hl40 := h.1
    by_cases c1 : (agt L i).Rule < 0
    · refine ⟨[], ?_, ?_, by unfold lastStep; rw [if_pos c1], .nil, by simp⟩
      · show ref07_Last_b (ref07_Last_n n) b L i = _
        unfold ref07_Last_b
        rw [decide_eq_false (by omega), cond_false, decide_eq_false (by omega), cond_false, idx_arg h0 h2, some_bind, decide_eq_true c1, cond_true]
      · show argument_Last_b (argument_Last_n n) b L i = _
        unfold argument_Last_b
        rw [inside_in h0 h2, some_bind, Bool.not_true, cond_false, idx_arg h0 h2, some_bind, decide_eq_true c1, cond_true]
    have c1' : 0 ≤ (agt L i).Rule := by omega
    cases c2 : (rul b (agt L i).Rule).Strict
    · refine ⟨[(agt L i).Rule], ?_, ?_, by unfold lastStep; rw [if_neg c1, c2]; rfl, by simp [Asc], by simp; omega⟩
      · show ref07_Last_b (ref07_Last_n n) b L i = _
        unfold ref07_Last_b
        rw [decide_eq_false (by omega), cond_false, decide_eq_false (by omega), cond_false, idx_arg h0 h2, some_bind, decide_eq_false c1, cond_false, some_bind, idx_rul c1' hr, some_bind, c2]
        rfl
      · show argument_Last_b (argument_Last_n n) b L i = _
        unfold argument_Last_b
        rw [inside_in h0 h2, some_bind, Bool.not_true, cond_false, idx_arg h0 h2, some_bind, decide_eq_false c1, cond_false, some_bind, idx_rul c1' hr, some_bind, c2]
        rfl
    have K : ∀ s ∈ (agt L i).Subs, ref07_Last_n n b L s = some (lastP b L s) ∧ argument_Last_n n b L s = some (lastP b L s) ∧ Asc (lastP b L s) ∧ (∀ x ∈ lastP b L s, 0 ≤ x ∧ x < b.Rules.length) ∧ (lastP b L s).length ≤ b.Rules.length := by
      intro s hs
      obtain ⟨s0, s1⟩ := hsi s hs
      obtain ⟨S, e1, e2, e3, e4, e6⟩ := ih s s0 (by omega) (by omega)
      have e5 : lastP b L s = S := by unfold lastP; rw [show ref07_Last_m b L s = some S from recC_of (fun n => ref07_Last_n_le n _ _ _) e1]; rfl
      rw [e5]
      refine ⟨e1, e2, e4, e6, ?_⟩
      have := asc_len (N := b.Rules.length) (a := 0) e4 e6 (by omega)
      omega
    have ls : lastStep b L i = nf ((agt L i).Subs.flatMap (lastP b L)) := by unfold lastStep; rw [if_neg c1, if_pos c2]
    refine ⟨nf ((agt L i).Subs.flatMap (lastP b L)), ?_, ?_, ls.symm, nf_asc _, fun x hx => ?_⟩
    · show ref07_Last_b (ref07_Last_n n) b L i = _
      unfold ref07_Last_b
      rw [decide_eq_false (by omega), cond_false, decide_eq_false (by omega), cond_false, idx_arg h0 h2, some_bind, decide_eq_false c1, cond_false, some_bind, idx_rul c1' hr, some_bind, c2, Bool.not_true, cond_false]
      refine T.eq (T.bind (P := fun q => q = nf ((agt L i).Subs.flatMap (lastP b L))) ?_ fun q hq => .ret hq)
      refine T.loopK (agt L i).Subs.length (fun k s => k ≤ (agt L i).Subs.length ∧ s.2 = (k : Int) ∧ Asc s.1 ∧ (∀ x, x ∈ s.1 ↔ x ∈ ((agt L i).Subs.take k).flatMap (lastP b L)) ∧ s.1.length ≤ k * b.Rules.length) ⟨by omega, rfl, .nil, by simp, by simp⟩ ?_
      rintro k ⟨s, _⟩ ⟨hk, rfl, hs, hm, hlen⟩
      dsimp only [ref07_Last_l1] at hs hm hlen ⊢
      rw [idx_arg h0 h2, some_bind]
      refine T.cond (fun g => ?_) fun g => ?_
      · have hk2 : k < (agt L i).Subs.length := by have := of_decide_eq_true g; omega
        obtain ⟨q1, q2, q3, q4, q5⟩ := K _ (List.getElem_mem hk2)
        have hlen2 : s.length ≤ 1 * b.Rules.length := Nat.le_trans hlen (Nat.mul_le_mul_right _ (by omega))
        rw [some_bind, idxM_nat hk2, some_bind, q1, some_bind]
        refine T.bind (union_plain hs (by omega)) ?_
        rintro r ⟨r1, r2, r3⟩
        rw [letM_eq, iadd1 (by omega)]
        refine .ret ⟨hk2, hk2, rfl, r1, fun x => ?_, by simp only [Nat.succ_mul]; omega⟩
        rw [r2, hm, flat_tk hk2, List.mem_append]
      · have e : k = (agt L i).Subs.length := by have := of_decide_eq_false g; omega
        subst e
        rw [List.take_length] at hm
        exact .ret (nf_of hs hm)
    · show argument_Last_b (argument_Last_n n) b L i = _
      unfold argument_Last_b
      rw [inside_in h0 h2, some_bind, Bool.not_true, cond_false, idx_arg h0 h2, some_bind, decide_eq_false c1, cond_false, some_bind, idx_rul c1' hr, some_bind, c2, Bool.not_true, cond_false, some_bind]
      refine T.eq (T.bind (P := fun q => q = (agt L i).Subs.flatMap (lastP b L) ∧ q.length ≤ 2 * b.Rules.length) ?_ fun q hq => ?_)
      · refine T.loopK (agt L i).Subs.length (fun k s => k ≤ (agt L i).Subs.length ∧ s.1 = (k : Int) ∧ s.2 = ((agt L i).Subs.take k).flatMap (lastP b L) ∧ s.2.length ≤ k * b.Rules.length) ⟨by omega, rfl, by simp, by simp⟩ ?_
        rintro k ⟨_, s⟩ ⟨hk, rfl, hs, hlen⟩
        dsimp only [argument_Last_l1] at hs hlen ⊢
        have hlen3 : s.length ≤ 2 * b.Rules.length := Nat.le_trans hlen (Nat.mul_le_mul_right _ (by omega))
        refine T.cond (fun g => ?_) fun g => ?_
        · have hk2 : k < (agt L i).Subs.length := by have := of_decide_eq_true g; omega
          obtain ⟨q1, q2, q3, q4, q5⟩ := K _ (List.getElem_mem hk2)
          rw [idxM_nat hk2, some_bind, q2, some_bind, appM_eq (by omega), some_bind, iadd1 (by omega)]
          exact .ret ⟨hk2, hk2, rfl, by simp only; rw [hs, flat_tk hk2], by simp only [List.length_append, Nat.succ_mul]; omega⟩
        · have e : k = (agt L i).Subs.length := by have := of_decide_eq_false g; omega
          subst e
          rw [List.take_length] at hs
          exact .ret ⟨hs, hlen3⟩
      · rw [sc_plain (by omega), hq.1]; exact .ret rfl
    · rw [mem_nf, List.mem_flatMap] at hx
      obtain ⟨s, hs, hx⟩ := hx
      exact (K s hs).2.2.2.1 x hx
end Go.Dc
