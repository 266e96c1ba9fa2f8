/- Part P08T.Less of a proof: lemmas. -/
import Derived.Test.YtofcoilhjmkejaaP08TRanks
set_option linter.unusedVariables false
set_option linter.unusedSimpArgs false
set_option linter.unusedSectionVars false
/-! The comparison of arguments. -/
namespace Go.Dc
variable {b : T_api_Base} {L : List T_api_Argument}

theorem condB (x y : Bool) : (bif x then some y else some false) = some (x && y) := by cases x <;> rfl
/-- the comparison of two arguments of the list by their ranks -/
def lessR (k1 k2 r1 r2 p1 p2 : List Int) (o : T_api_Ordering) : Bool :=
  if o.Link = 1 then setLess k1 k2 o.Lift || (decide (k1 = []) && decide (k2 = []) && setLess p1 p2 o.Lift)
  else if o.Link = 2 then
    if r1 = [] ∧ r2 = [] then setLess p1 p2 o.Lift else if p1 = [] ∧ p2 = [] then setLess r1 r2 o.Lift else setLess p1 p2 o.Lift && setLess r1 r2 o.Lift
  else false
noncomputable def lessB (b : T_api_Base) (L : List T_api_Argument) (i k : Int) (o : T_api_Ordering) : Bool :=
  if (0 ≤ i ∧ i < L.length) ∧ (0 ≤ k ∧ k < L.length) ∧ assm b L k = false then lessR (ltRanks b L i) (ltRanks b L k) (rlRanks b L i) (rlRanks b L k) (prRanks b L i) (prRanks b L k) o else false

theorem Less_plain (h : AsOk b L) (hR : b.Rules.length ≤ 24) (i k : Int) (o : T_api_Ordering) : lift_Less_m b L i k o = some (lessB b L i k o) ∧ ref08_Less_m b L i k o = some (lessB b L i k o) := by
  have SP := SetLess_plain (k := o.Lift) (pr_len h i) (pr_len h k)
  have SR := SetLess_plain (k := o.Lift) (rl_len h i) (rl_len h k)
  have SL := SetLess_plain (k := o.Lift) (lt_len h hR i) (lt_len h hR k)
  have A := Assumes_plain h k
  constructor
  · unfold lift_Less_m lessB
    by_cases c : (0 ≤ i ∧ i < L.length) ∧ (0 ≤ k ∧ k < L.length)
    · have c1 : ¬ imin i k < 0 := by unfold imin; split <;> omega
      have c2 : ¬ imax i k ≥ L.length := by unfold imax; split <;> omega
      rw [decide_eq_false c1, cond_false, decide_eq_false c2, cond_false, A.1, some_bind]
      cases ha : assm b L k
      · rw [cond_false, if_pos ⟨c.1, c.2, rfl⟩]
        unfold lift_Less_3_m lift_Less_4_m lift_Less_1_m lift_Less_2_m lift_Less_1_1_m lift_Less_2_1_m lift_Less_2_2_m lift_Less_1_2_m lessR
        rw [(LastRanks_plain h hR i).1, (LastRanks_plain h hR k).1, (RuleRanks_plain h i).1, (RuleRanks_plain h k).1, (PremiseRanks_plain h i).1, (PremiseRanks_plain h k).1]
        simp only [some_bind, letM_eq, SP.1, SR.1, SL.1, len0]
        by_cases l1 : o.Link = 1
        · simp only [l1, if_true]
          cases setLess (ltRanks b L i) (ltRanks b L k) o.Lift <;> cases decide (ltRanks b L i = []) <;> cases decide (ltRanks b L k = []) <;> rfl
        · rw [show (o.Link == 1) = false by simpa using l1, cond_false, if_neg l1]
          by_cases l2 : o.Link = 2
          · simp only [l2, if_true]
            by_cases q1 : rlRanks b L i = [] <;> by_cases q2 : rlRanks b L k = [] <;> by_cases q3 : prRanks b L i = [] <;> by_cases q4 : prRanks b L k = [] <;> simp [q1, q2, q3, q4, condB]
          · rw [show (o.Link == 2) = false by simpa using l2, cond_false, if_neg l2]
      · rw [cond_true, if_neg (by rintro ⟨_, _, h⟩; cases h)]
    · rw [if_neg (fun hh => c ⟨hh.1, hh.2.1⟩)]
      by_cases c1 : imin i k < 0
      · rw [decide_eq_true c1]; rfl
      · have c2 : imax i k ≥ L.length := by unfold imin at c1; unfold imax; split at c1 <;> split <;> omega
        rw [decide_eq_false c1, cond_false, decide_eq_true c2]; rfl
  · unfold ref08_Less_m lessB
    by_cases c : (0 ≤ i ∧ i < L.length) ∧ (0 ≤ k ∧ k < L.length)
    · rw [decide_eq_false (by omega), cond_false, decide_eq_false (by omega), cond_false, decide_eq_false (by omega), cond_false, decide_eq_false (by omega), cond_false, A.2, some_bind]
      cases ha : assm b L k
      · rw [cond_false, if_pos ⟨c.1, c.2, rfl⟩]
        unfold lessR
        rw [(LastRanks_plain h hR i).2, (LastRanks_plain h hR k).2, (RuleRanks_plain h i).2, (RuleRanks_plain h k).2, (PremiseRanks_plain h i).2, (PremiseRanks_plain h k).2]
        simp only [some_bind, letM_eq, joinM_eq, SP.2, SR.2, SL.2, len0]
        by_cases l1 : o.Link = 1
        · simp only [l1, if_true]
          cases setLess (ltRanks b L i) (ltRanks b L k) o.Lift <;> cases decide (ltRanks b L i = []) <;> cases decide (ltRanks b L k = []) <;> rfl
        · rw [show (o.Link == 1) = false by simpa using l1, cond_false, if_neg l1]
          by_cases l2 : o.Link = 2
          · simp only [l2, if_true]
            by_cases q1 : rlRanks b L i = [] <;> by_cases q2 : rlRanks b L k = [] <;> by_cases q3 : prRanks b L i = [] <;> by_cases q4 : prRanks b L k = [] <;> simp [q1, q2, q3, q4, condB]
          · rw [show (o.Link == 2) = false by simpa using l2, cond_false, if_neg l2]
      · rw [cond_true, if_neg (by rintro ⟨_, _, h⟩; cases h)]
    · rw [if_neg (fun hh => c ⟨hh.1, hh.2.1⟩)]
      refine T.eq ?_
      exact T.cond (fun _ => .ret rfl) fun g1 => T.cond (fun _ => .ret rfl) fun g2 => T.cond (fun _ => .ret rfl) fun g3 => T.cond (fun _ => .ret rfl) fun g4 => absurd (by
        have h1 := of_decide_eq_false g1; have h2 := of_decide_eq_false g2; have h3 := of_decide_eq_false g3; have h4 := of_decide_eq_false g4
        exact ⟨⟨by omega, by omega⟩, by omega, by omega⟩) c
end Go.Dc
