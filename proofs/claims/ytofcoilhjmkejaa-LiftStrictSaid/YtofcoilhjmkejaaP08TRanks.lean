/- Part P08T.Ranks of a proof: lemmas. -/
import Derived.Test.YtofcoilhjmkejaaP08TParts
import Derived.Test.YtofcoilhjmkejaaP08TBase
import Derived.Test.YtofcoilhjmkejaaP08TSets
set_option linter.unusedVariables false
set_option linter.unusedSimpArgs false
set_option linter.unusedSectionVars false
/-! Ranks, and the comparison of arguments. -/
namespace Go.Dc
variable {b : T_api_Base} {L : List T_api_Argument}

theorem lastP_eq (h : AsOk b L) (hR : b.Rules.length ≤ 24) {i : Int} (h0 : 0 ≤ i) (h1 : i < L.length) : lastP b L i = lastStep b L i := by
  obtain ⟨S, e1, e2, e3, _⟩ := Last_n h hR (i.toNat + 1) i h0 (by omega) h1
  have e5 : lastP b L i = S := by unfold lastP; rw [show ref07_Last_m b L i = some S from recC_of (fun n => ref07_Last_n_le n _ _ _) e1]; rfl
  rw [e5]; exact e3
theorem lastP_out {i : Int} (h : i < 0 ∨ L.length ≤ i) : lastP b L i = [] := by unfold lastP; rw [(Last_out h).1]; rfl
theorem Last_plain (h : AsOk b L) (hR : b.Rules.length ≤ 24) (i : Int) : ref07_Last_m b L i = some (lastP b L i) ∧ argument_Last_m b L i = some (lastP b L i) ∧ (∀ x ∈ lastP b L i, 0 ≤ x ∧ x < b.Rules.length) ∧ (lastP b L i).length ≤ 24 := by
  by_cases h1 : 0 ≤ i ∧ i < L.length
  · obtain ⟨S, e1, e2, e3, e4, e6⟩ := Last_n h hR (i.toNat + 1) i h1.1 (by omega) h1.2
    have e := recC_of (fun n => ref07_Last_n_le n _ _ _) e1
    have e5 : lastP b L i = S := by unfold lastP; rw [show ref07_Last_m b L i = some S from e]; rfl
    rw [e5]
    refine ⟨e, recC_of (fun n => argument_Last_n_le n _ _ _) e2, e6, ?_⟩
    have := asc_len (N := b.Rules.length) (a := 0) e4 e6 (by omega)
    omega
  · obtain ⟨e1, e2⟩ := Last_out (b := b) (L := L) (i := i) (by omega)
    rw [lastP_out (by omega)]
    exact ⟨e1, e2, by simp, by simp⟩

def rk (b : T_api_Base) (r : Int) : Int := (rul b r).Rank
theorem ranks_plain {l : List Int} (hl : l.length ≤ 1000) (hb : ∀ x ∈ l, 0 ≤ x ∧ x < b.Rules.length) : loopC (lift_ranks_l1 b l) (0, []) = some (l.map (rk b)) := by
  refine T.eq (T.loopK l.length (fun k s => k ≤ l.length ∧ s.1 = (k : Int) ∧ s.2 = (l.take k).map (rk b)) ⟨by omega, rfl, by simp⟩ ?_)
  rintro k ⟨_, s⟩ ⟨hk, rfl, hs⟩
  dsimp only [lift_ranks_l1] at hs ⊢
  refine T.cond (fun g => ?_) fun g => ?_
  · have hk2 : k < l.length := by have := of_decide_eq_true g; omega
    obtain ⟨b1, b2⟩ := hb _ (List.getElem_mem hk2)
    have hlen : s.length = k := by rw [hs]; simp; omega
    rw [idxM_nat hk2, some_bind, idx_rul b1 b2, some_bind, appM_eq (by simp; omega), some_bind, iadd1 (by omega)]
    exact .ret ⟨hk2, hk2, rfl, by simp only; rw [hs, List.take_add_one, List.getElem?_eq_getElem hk2, List.map_append]; rfl⟩
  · have e : k = l.length := by have := of_decide_eq_false g; omega
    subst e
    rw [List.take_length] at hs
    exact .ret hs

noncomputable def rlRanks (b : T_api_Base) (L : List T_api_Argument) (i : Int) : List Int := (defL b L i).map (rk b)
noncomputable def ltRanks (b : T_api_Base) (L : List T_api_Argument) (i : Int) : List Int := (lastP b L i).map (rk b)
def prk (b : T_api_Base) (p : Int) : List Int := if (prm b p).Kind = 2 then [(prm b p).Rank] else if (prm b p).Kind = 3 then [-1] else []
noncomputable def prRanks (b : T_api_Base) (L : List T_api_Argument) (i : Int) : List Int := (premL L i).flatMap (prk b)
noncomputable def assm (b : T_api_Base) (L : List T_api_Argument) (i : Int) : Bool := (premL L i).any fun p => (prm b p).Kind == 3

theorem RuleRanks_plain (h : AsOk b L) (i : Int) : lift_RuleRanks_m b L i = some (rlRanks b L i) ∧ ref08_RuleRanks_m b L i = some (rlRanks b L i) := by
  obtain ⟨e1, e2⟩ := Defeasible_plain h i
  have e := ranks_plain (b := b) (l := defL b L i) (by have := defL_len h i; omega) fun x hx => defL_in h hx
  constructor
  · first
    | unfold lift_RuleRanks_m lift_ranks_1_m
      rw [e2, some_bind, show loopC (lift_ranks_1_l1 b (defL b L i)) (0, []) = _ from e]; rfl
    | unfold lift_RuleRanks_m lift_ranks_m
      rw [e2, some_bind, show loopC (lift_ranks_l1 b (defL b L i)) (0, []) = _ from e]; rfl
  · unfold ref08_RuleRanks_m
    rw [e1, some_bind, show loopC (ref08_RuleRanks_l1 b (defL b L i)) (0, []) = _ from e]; rfl
theorem LastRanks_plain (h : AsOk b L) (hR : b.Rules.length ≤ 24) (i : Int) : lift_LastRanks_m b L i = some (ltRanks b L i) ∧ ref08_LastRanks_m b L i = some (ltRanks b L i) := by
  obtain ⟨e1, e2, e3, e4⟩ := Last_plain h hR i
  have e := ranks_plain (b := b) (l := lastP b L i) (by omega) e3
  constructor
  · unfold lift_LastRanks_m lift_ranks_m
    rw [e2, some_bind, show loopC (lift_ranks_l1 b (lastP b L i)) (0, []) = _ from e]; rfl
  · unfold ref08_LastRanks_m
    rw [e1, some_bind, show loopC (ref08_LastRanks_l1 b (lastP b L i)) (0, []) = _ from e]; rfl

theorem prk_len (p : Int) : (prk b p).length ≤ 1 := by
  unfold prk
  split
  · simp
  · split <;> simp
theorem prem_loop (h : AsOk b L) {i : Int} : loopC (ref08_PremiseRanks_l1 b (premL L i)) (0, []) = some (prRanks b L i) ∧ loopC (lift_PremiseRanks_l1 b (premL L i)) (0, []) = some (prRanks b L i) := by
  have hl := premL_len h i
  have hlen : ∀ (k : Nat) (s : List Int), k ≤ (premL L i).length → s = ((premL L i).take k).flatMap (prk b) → s.length ≤ 40 := by
    rintro k s hk rfl
    have := flat_len (l := (premL L i).take k) (f := prk b) (N := 1) fun x _ => prk_len x
    rw [List.length_take] at this; omega
  have end_ : ∀ (k : Nat) (s : List Int), k ≤ (premL L i).length → decide ((k : Int) < ((premL L i).length : Int)) = false → s = ((premL L i).take k).flatMap (prk b) → s = prRanks b L i := by
    intro k s hk g hs
    have e : k = (premL L i).length := by have := of_decide_eq_false g; omega
    subst e
    rw [List.take_length] at hs
    exact hs
  constructor
  · refine T.eq (T.loopK (premL L i).length (fun k s => k ≤ (premL L i).length ∧ s.1 = (k : Int) ∧ s.2 = ((premL L i).take k).flatMap (prk b)) ⟨by omega, rfl, by simp⟩ ?_)
    rintro k ⟨_, s⟩ ⟨hk, rfl, hs⟩
    dsimp only [ref08_PremiseRanks_l1] at hs ⊢
    refine T.cond (fun g => ?_) fun g => .ret (end_ k s hk g hs)
    have hk2 : k < (premL L i).length := by have := of_decide_eq_true g; omega
    obtain ⟨b1, b2⟩ := premL_in h (List.getElem_mem hk2)
    have hl2 := hlen k s hk hs
    rw [idxM_nat hk2, some_bind, idx_prm b1 b2, some_bind, iadd1 (by omega)]
    refine T.cond (fun g2 => ?_) fun g2 => T.cond (fun g3 => ?_) fun g3 => ?_
    · rw [some_bind, appM_eq (by simp; omega), some_bind]
      exact .ret ⟨hk2, hk2, rfl, by simp only; rw [hs, flat_tk hk2]; congr 1; unfold prk; rw [if_pos (eq_of_beq g2)]⟩
    · rw [appM_eq (by simp; omega), some_bind]
      exact .ret ⟨hk2, hk2, rfl, by simp only; rw [hs, flat_tk hk2]; congr 1; unfold prk; rw [if_neg (by simpa using g2), if_pos (eq_of_beq g3)]⟩
    · refine .ret ⟨hk2, hk2, rfl, ?_⟩
      have : prk b (premL L i)[k] = [] := by unfold prk; rw [if_neg (by simpa using g2), if_neg (by simpa using g3)]
      simp only; rw [hs, flat_tk hk2, this, List.append_nil]
  · refine T.eq (T.loopK (premL L i).length (fun k s => k ≤ (premL L i).length ∧ s.1 = (k : Int) ∧ s.2 = ((premL L i).take k).flatMap (prk b)) ⟨by omega, rfl, by simp⟩ ?_)
    rintro k ⟨_, s⟩ ⟨hk, rfl, hs⟩
    dsimp only [lift_PremiseRanks_l1] at hs ⊢
    refine T.cond (fun g => ?_) fun g => .ret (end_ k s hk g hs)
    have hk2 : k < (premL L i).length := by have := of_decide_eq_true g; omega
    obtain ⟨b1, b2⟩ := premL_in h (List.getElem_mem hk2)
    have hl2 := hlen k s hk hs
    rw [idxM_nat hk2, some_bind, idx_prm b1 b2, some_bind, iadd1 (by omega)]
    refine T.cond (fun g2 => ?_) fun g2 => T.cond (fun g3 => ?_) fun g3 => ?_
    · rw [appM_eq (by simp; omega), some_bind]
      exact .ret ⟨hk2, hk2, rfl, by simp only; rw [hs, flat_tk hk2]; congr 1; unfold prk; rw [if_pos (eq_of_beq g2)]⟩
    · rw [appM_eq (by simp; omega), some_bind]
      exact .ret ⟨hk2, hk2, rfl, by simp only; rw [hs, flat_tk hk2]; congr 1; unfold prk; rw [if_neg (by simpa using g2), if_pos (eq_of_beq g3)]⟩
    · refine .ret ⟨hk2, hk2, rfl, ?_⟩
      have : prk b (premL L i)[k] = [] := by unfold prk; rw [if_neg (by simpa using g2), if_neg (by simpa using g3)]
      simp only; rw [hs, flat_tk hk2, this, List.append_nil]
theorem PremiseRanks_plain (h : AsOk b L) (i : Int) : lift_PremiseRanks_m b L i = some (prRanks b L i) ∧ ref08_PremiseRanks_m b L i = some (prRanks b L i) := by
  obtain ⟨e1, e2⟩ := Premises_plain h i
  constructor
  · unfold lift_PremiseRanks_m
    rw [e2, some_bind, (prem_loop h).2]; rfl
  · unfold ref08_PremiseRanks_m
    rw [e1, some_bind, (prem_loop h).1]; rfl

theorem Assumes_plain (h : AsOk b L) (i : Int) : lift_Assumes_m b L i = some (assm b L i) ∧ ref08_Assumes_m b L i = some (assm b L i) := by
  obtain ⟨e1, e2⟩ := Premises_plain h i
  have hl := premL_len h i
  constructor
  · unfold lift_Assumes_m slices_ContainsFunc_int_int_m slices_IndexFunc_int_int_m
    rw [e2, some_bind]
    refine T.eq (T.bind (P := fun q => q = assm b L i) (T.bind (P := fun q : Int => decide (q ≥ 0) = assm b L i) (T.bind (P := fun o : Sum Int Unit => match o with | .inl r => 0 ≤ r ∧ assm b L i = true | .inr _ => assm b L i = false) ?_ ?_) ?_) fun q hq => .ret hq)
    · refine T.loopK (premL L i).length (fun k s => k ≤ (premL L i).length ∧ s = (k : Int) ∧ ∀ x ∈ (premL L i).take k, ((prm b x).Kind == 3) = false) ⟨by omega, rfl, by simp⟩ ?_
      rintro k _ ⟨hk, rfl, hn⟩
      dsimp only [slices_IndexFunc_int_int_l1, lift_Assumes_1_m]
      refine T.cond (fun g => ?_) fun g => ?_
      · have hk2 : k < (premL L i).length := by have := of_decide_eq_true g; omega
        obtain ⟨b1, b2⟩ := premL_in h (List.getElem_mem hk2)
        rw [idxM_nat hk2, some_bind, idx_prm b1 b2, some_bind, some_bind, iadd1 (by omega)]
        refine T.cond (fun g2 => .ret ⟨by omega, List.any_eq_true.2 ⟨_, List.getElem_mem hk2, g2⟩⟩) fun g2 => .ret ⟨hk2, hk2, rfl, fun x hx => ?_⟩
        rcases (mem_take1 hk2).1 hx with hx | rfl
        · exact hn x hx
        · exact g2
      · have e : k = (premL L i).length := by have := of_decide_eq_false g; omega
        subst e
        rw [List.take_length] at hn
        refine .ret ?_
        show assm b L i = false
        unfold assm
        rw [List.any_eq_false]
        intro x hx; rw [hn x hx]; exact Bool.false_ne_true
    · rintro (r | _) ho
      · exact .ret (by rw [ho.2]; exact decide_eq_true ho.1)
      · exact .ret (by rw [ho]; rfl)
    · intro q hq
      exact .ret hq
  · unfold ref08_Assumes_m
    rw [e1, some_bind]
    refine any_bind (fun k hk => ?_) ?_
    · obtain ⟨b1, b2⟩ := premL_in h (List.getElem_mem hk)
      dsimp only [ref08_Assumes_l1]
      rw [decide_eq_true (by omega), cond_true, idxM_nat hk, some_bind, idx_prm b1 b2, some_bind, iadd1 (by omega)]
      cases (prm b (premL L i)[k]).Kind == 3 <;> rfl
    · dsimp only [ref08_Assumes_l1]
      rw [decide_eq_false (by omega)]; rfl

theorem rl_len (h : AsOk b L) (i : Int) : (rlRanks b L i).length ≤ 1000000 := by unfold rlRanks; rw [List.length_map]; have := defL_len h i; omega
theorem lt_len (h : AsOk b L) (hR : b.Rules.length ≤ 24) (i : Int) : (ltRanks b L i).length ≤ 1000000 := by unfold ltRanks; rw [List.length_map]; have := (Last_plain h hR i).2.2.2; omega
theorem pr_len (h : AsOk b L) (i : Int) : (prRanks b L i).length ≤ 1000000 := by
  have := flat_len (l := premL L i) (f := prk b) (N := 1) fun x _ => prk_len x
  have := premL_len h i
  unfold prRanks; omega
end Go.Dc
