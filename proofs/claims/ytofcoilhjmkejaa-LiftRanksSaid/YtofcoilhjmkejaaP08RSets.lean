/- Part P08R.Sets of a proof: lemmas. -/
import Derived.Test.YtofcoilhjmkejaaP08RKeep
import Derived.Test.YtofcoilhjmkejaaP08RAwake
set_option linter.unusedVariables false
set_option linter.unusedSimpArgs false
set_option linter.unusedSectionVars false
/-! SetLess, and the law LiftSets. -/
namespace Go.Dc

def minL (l : List Int) : Int := (l.drop 1).foldl imin (l.getD 0 0)
def maxL (l : List Int) : Int := (l.drop 1).foldl imax (l.getD 0 0)

theorem drop1_take {l : List Int} {k : Nat} (h0 : 1 ≤ k) (hk : k < l.length) : (l.take (k + 1)).drop 1 = (l.take k).drop 1 ++ [l[k]] := by
  rw [List.take_add_one, List.getElem?_eq_getElem hk, List.drop_append_of_le_length (by rw [List.length_take]; omega)]; rfl

theorem Min_plain {l : List Int} (h : 1 ≤ l.length) (hl : l.length ≤ 1000000) : slices_Min_int_int_m l = some (minL l) := by
  unfold slices_Min_int_int_m
  rw [decide_eq_false (by omega), cond_false, show idxM l (0 : Int) = some (l.getD 0 0) from idxM_getD (n := 0) (by omega), some_bind]
  refine T.eq (T.bind (P := fun q => q = minL l) ?_ fun q hq => .ret hq)
  refine T.loopK l.length (fun k s => k + 1 ≤ l.length ∧ s = (((l.take (k + 1)).drop 1).foldl imin (l.getD 0 0), ((k + 1 : Nat) : Int))) ⟨by omega, ?_⟩ ?_
  · match l, h with
    | x :: l, _ => rfl
  rintro k _ ⟨hk, rfl⟩
  dsimp only [slices_Min_int_int_l1]
  refine T.cond (fun g1 => ?_) fun g1 => ?_
  · have hk1 : k + 1 < l.length := by have := of_decide_eq_true g1; omega
    rw [idxM_nat hk1, some_bind, letM_eq, iadd1 (by omega)]
    exact .ret ⟨by omega, by omega, by rw [drop1_take (by omega) hk1, List.foldl_append]; rfl⟩
  · have e : k + 1 = l.length := by have := of_decide_eq_false g1; omega
    refine .ret ?_
    show _ = _
    rw [e, List.take_length]; rfl

theorem Max_plain {l : List Int} (h : 1 ≤ l.length) (hl : l.length ≤ 1000000) : slices_Max_int_int_m l = some (maxL l) := by
  unfold slices_Max_int_int_m
  rw [decide_eq_false (by omega), cond_false, show idxM l (0 : Int) = some (l.getD 0 0) from idxM_getD (n := 0) (by omega), some_bind]
  refine T.eq (T.bind (P := fun q => q = maxL l) ?_ fun q hq => .ret hq)
  refine T.loopK l.length (fun k s => k + 1 ≤ l.length ∧ s = (((l.take (k + 1)).drop 1).foldl imax (l.getD 0 0), ((k + 1 : Nat) : Int))) ⟨by omega, ?_⟩ ?_
  · match l, h with
    | x :: l, _ => rfl
  rintro k _ ⟨hk, rfl⟩
  dsimp only [slices_Max_int_int_l1]
  refine T.cond (fun g1 => ?_) fun g1 => ?_
  · have hk1 : k + 1 < l.length := by have := of_decide_eq_true g1; omega
    rw [idxM_nat hk1, some_bind, letM_eq, iadd1 (by omega)]
    exact .ret ⟨by omega, by omega, by rw [drop1_take (by omega) hk1, List.foldl_append]; rfl⟩
  · have e : k + 1 = l.length := by have := of_decide_eq_false g1; omega
    refine .ret ?_
    show _ = _
    rw [e, List.take_length]; rfl

/-- the comparison of lists of ranks -/
def setLess (a b : List Int) (k : Int) : Bool :=
  if (k = 1 ∨ k = 2) ∧ a ≠ [] then
    if b = [] then true else if k = 1 then decide (minL a < minL b) else decide (maxL a < maxL b)
  else false

theorem len0 {a : List Int} : ((a.length : Int) == 0) = decide (a = []) := by
  cases a <;> simp <;> omega

theorem setLess_irr {x : List Int} {k : Int} : setLess x x k = false := by
  unfold setLess
  by_cases h : (k = 1 ∨ k = 2) ∧ x ≠ []
  · rw [if_pos h, if_neg h.2]; split <;> simp
  · rw [if_neg h]
theorem setLess_nil {x : List Int} {k : Int} : setLess [] x k = false := by unfold setLess; rw [if_neg (by simp)]
theorem setLess_asym {x y : List Int} {k : Int} (h : setLess x y k = true) : setLess y x k = false := by
  unfold setLess at h ⊢
  by_cases h1 : (k = 1 ∨ k = 2) ∧ x ≠ []
  · rw [if_pos h1] at h
    by_cases h2 : (k = 1 ∨ k = 2) ∧ y ≠ []
    · rw [if_neg h2.2] at h
      rw [if_pos h2, if_neg h1.2]
      by_cases hk : k = 1
      · rw [if_pos hk] at h ⊢
        have := of_decide_eq_true h
        exact decide_eq_false (by omega)
      · rw [if_neg hk] at h ⊢
        have := of_decide_eq_true h
        exact decide_eq_false (by omega)
    · rw [if_neg h2]
  · rw [if_neg h1] at h; cases h
theorem setLess_neg {x y z : List Int} {k : Int} (h : setLess x y k = true) : setLess x z k = true ∨ setLess z y k = true := by
  unfold setLess at h ⊢
  by_cases h1 : (k = 1 ∨ k = 2) ∧ x ≠ []
  · rw [if_pos h1] at h ⊢
    by_cases hz : z = []
    · rw [if_pos hz]; exact .inl rfl
    · rw [if_neg hz, if_pos (show (k = 1 ∨ k = 2) ∧ z ≠ [] from ⟨h1.1, hz⟩)]
      by_cases hy : y = []
      · rw [if_pos hy]; exact .inr rfl
      · rw [if_neg hy] at h ⊢
        by_cases hk : k = 1
        · rw [if_pos hk] at h ⊢
          rw [if_pos hk]
          have := of_decide_eq_true h
          by_cases h5 : minL x < minL z
          · exact .inl (decide_eq_true h5)
          · exact .inr (decide_eq_true (by omega))
        · rw [if_neg hk] at h ⊢
          rw [if_neg hk]
          have := of_decide_eq_true h
          by_cases h5 : maxL x < maxL z
          · exact .inl (decide_eq_true h5)
          · exact .inr (decide_eq_true (by omega))
  · rw [if_neg h1] at h; cases h

end Go.Dc
