/- Part P08T.Sets of a proof: lemmas. -/
import Derived.Test.YtofcoilhjmkejaaP08TKeep
import Derived.Test.YtofcoilhjmkejaaP08TAwake
set_option linter.unusedVariables false
set_option linter.unusedSimpArgs false
set_option linter.unusedSectionVars false
/-! SetLess, and the law LiftSets. -/
namespace Go.Dc

def minL (l : List Int) : Int := (l.drop 1).foldl imin (l.getD 0 0)
def maxL (l : List Int) : Int := (l.drop 1).foldl imax (l.getD 0 0)

theorem drop1_take {l : List Int} {k : Nat} (h0 : 1 ≤ k) (hk : k < l.length) : (l.take (k + 1)).drop 1 = (l.take k).drop 1 ++ [l[k]] := by
  rw [List.take_add_one, List.getElem?_eq_getElem hk, List.drop_append_of_le_length (by rw [List.length_take]; omega)]; rfl

theorem Min_plain {l : List Int} (h : 1 ≤ l.length) (hl : l.length ≤ 1000000) : slices_Min_int_int_m l = some (minL l) := by
  unfold slices_Min_int_int_m
  rw [decide_eq_false (by omega), cond_false, show idxM l (0 : Int) = some (l.getD 0 0) from idxM_getD (n := 0) (by omega), some_bind]
  refine T.eq (T.bind (P := fun q => q = minL l) ?_ fun q hq => .ret hq)
  refine T.loopK l.length (fun k s => k + 1 ≤ l.length ∧ s = (((l.take (k + 1)).drop 1).foldl imin (l.getD 0 0), ((k + 1 : Nat) : Int))) ⟨by omega, ?_⟩ ?_
  · match l, h with
    | x :: l, _ => rfl
  rintro k _ ⟨hk, rfl⟩
  dsimp only [slices_Min_int_int_l1]
  refine T.cond (fun g1 => ?_) fun g1 => ?_
  · have hk1 : k + 1 < l.length := by have := of_decide_eq_true g1; omega
    rw [idxM_nat hk1, some_bind, letM_eq, iadd1 (by omega)]
    exact .ret ⟨by omega, by omega, by rw [drop1_take (by omega) hk1, List.foldl_append]; rfl⟩
  · have e : k + 1 = l.length := by have := of_decide_eq_false g1; omega
    refine .ret ?_
    show _ = _
    rw [e, List.take_length]; rfl

theorem Max_plain {l : List Int} (h : 1 ≤ l.length) (hl : l.length ≤ 1000000) : slices_Max_int_int_m l = some (maxL l) := by
  unfold slices_Max_int_int_m
  rw [decide_eq_false (by omega), cond_false, show idxM l (0 : Int) = some (l.getD 0 0) from idxM_getD (n := 0) (by omega), some_bind]
  refine T.eq (T.bind (P := fun q => q = maxL l) ?_ fun q hq => .ret hq)
  refine T.loopK l.length (fun k s => k + 1 ≤ l.length ∧ s = (((l.take (k + 1)).drop 1).foldl imax (l.getD 0 0), ((k + 1 : Nat) : Int))) ⟨by omega, ?_⟩ ?_
  · match l, h with
    | x :: l, _ => rfl
  rintro k _ ⟨hk, rfl⟩
  dsimp only [slices_Max_int_int_l1]
  refine T.cond (fun g1 => ?_) fun g1 => ?_
  · have hk1 : k + 1 < l.length := by have := of_decide_eq_true g1; omega
    rw [idxM_nat hk1, some_bind, letM_eq, iadd1 (by omega)]
    exact .ret ⟨by omega, by omega, by rw [drop1_take (by omega) hk1, List.foldl_append]; rfl⟩
  · have e : k + 1 = l.length := by have := of_decide_eq_false g1; omega
    refine .ret ?_
    show _ = _
    rw [e, List.take_length]; rfl

theorem extremes_plain {l : List Int} (h : 1 ≤ l.length) (hl : l.length ≤ 1000000) : ref08_extremes_m l = some (minL l, maxL l) := by
  unfold ref08_extremes_m
  rw [show idxM l (0 : Int) = some (l.getD 0 0) from idxM_getD (n := 0) (by omega), some_bind, some_bind]
  refine T.eq (T.bind (P := fun q => q = (minL l, maxL l)) ?_ fun q hq => .ret (by rw [hq]))
  refine T.loopK l.length (fun k s => k + 1 ≤ l.length ∧ s = (((l.take (k + 1)).drop 1).foldl imin (l.getD 0 0), ((l.take (k + 1)).drop 1).foldl imax (l.getD 0 0), ((k + 1 : Nat) : Int))) ⟨by omega, ?_⟩ ?_
  · match l, h with
    | x :: l, _ => rfl
  rintro k _ ⟨hk, rfl⟩
  dsimp only [ref08_extremes_l1]
  refine T.cond (fun g1 => ?_) fun g1 => ?_
  · have hk1 : k + 1 < l.length := by have := of_decide_eq_true g1; omega
    rw [idxM_nat hk1, some_bind, some_bind, letM_eq, iadd1 (by omega)]
    exact .ret ⟨by omega, by omega, by rw [drop1_take (by omega) hk1, List.foldl_append, List.foldl_append]; rfl⟩
  · have e : k + 1 = l.length := by have := of_decide_eq_false g1; omega
    refine .ret ?_
    show (_, _) = _
    rw [e, List.take_length]; rfl

/-- the comparison of lists of ranks -/
def setLess (a b : List Int) (k : Int) : Bool :=
  if (k = 1 ∨ k = 2) ∧ a ≠ [] then
    if b = [] then true else if k = 1 then decide (minL a < minL b) else decide (maxL a < maxL b)
  else false

theorem len0 {a : List Int} : ((a.length : Int) == 0) = decide (a = []) := by
  cases a <;> simp <;> omega

theorem SetLess_plain {a b : List Int} {k : Int} (ha : a.length ≤ 1000000) (hb : b.length ≤ 1000000) : lift_SetLess_m a b k = some (setLess a b k) ∧ ref08_SetLess_m a b k = some (setLess a b k) := by
  unfold lift_SetLess_m ref08_SetLess_m setLess
  simp only [joinM_eq, letM_eq, len0]
  by_cases h1 : k = 1
  · subst h1
    by_cases hA : a = []
    · subst hA; constructor <;> simp
    · have la : 1 ≤ a.length := List.length_pos_iff.2 hA
      by_cases hB : b = []
      · subst hB; constructor <;> simp [hA]
      · have lb : 1 ≤ b.length := List.length_pos_iff.2 hB
        rw [Min_plain la ha, Min_plain lb hb, extremes_plain la ha, extremes_plain lb hb]
        constructor <;> simp [hA, hB]
  · by_cases h2 : k = 2
    · subst h2
      by_cases hA : a = []
      · subst hA; constructor <;> simp
      · have la : 1 ≤ a.length := List.length_pos_iff.2 hA
        by_cases hB : b = []
        · subst hB; constructor <;> simp [hA]
        · have lb : 1 ≤ b.length := List.length_pos_iff.2 hB
          rw [Max_plain la ha, Max_plain lb hb, extremes_plain la ha, extremes_plain lb hb]
          constructor <;> simp [hA, hB]
    · have e1 : (k != 1) = true := by simp [h1]
      have e2 : (k != 2) = true := by simp [h2]
      rw [e1, e2]
      constructor <;> simp [h1, h2]

theorem setLess_irr {x : List Int} {k : Int} : setLess x x k = false := by
  unfold setLess
  by_cases h : (k = 1 ∨ k = 2) ∧ x ≠ []
  · rw [if_pos h, if_neg h.2]; split <;> simp
  · rw [if_neg h]
theorem setLess_nil {x : List Int} {k : Int} : setLess [] x k = false := by unfold setLess; rw [if_neg (by simp)]
theorem setLess_asym {x y : List Int} {k : Int} (h : setLess x y k = true) : setLess y x k = false := by
  unfold setLess at h ⊢
  by_cases h1 : (k = 1 ∨ k = 2) ∧ x ≠ []
  · rw [if_pos h1] at h
    by_cases h2 : (k = 1 ∨ k = 2) ∧ y ≠ []
    · rw [if_neg h2.2] at h
      rw [if_pos h2, if_neg h1.2]
      by_cases hk : k = 1
      · rw [if_pos hk] at h ⊢
        have := of_decide_eq_true h
        exact decide_eq_false (by omega)
      · rw [if_neg hk] at h ⊢
        have := of_decide_eq_true h
        exact decide_eq_false (by omega)
    · rw [if_neg h2]
  · rw [if_neg h1] at h; cases h
theorem setLess_neg {x y z : List Int} {k : Int} (h : setLess x y k = true) : setLess x z k = true ∨ setLess z y k = true := by
  unfold setLess at h ⊢
  by_cases h1 : (k = 1 ∨ k = 2) ∧ x ≠ []
  · rw [if_pos h1] at h ⊢
    by_cases hz : z = []
    · rw [if_pos hz]; exact .inl rfl
    · rw [if_neg hz, if_pos (show (k = 1 ∨ k = 2) ∧ z ≠ [] from ⟨h1.1, hz⟩)]
      by_cases hy : y = []
      · rw [if_pos hy]; exact .inr rfl
      · rw [if_neg hy] at h ⊢
        by_cases hk : k = 1
        · rw [if_pos hk] at h ⊢
          rw [if_pos hk]
          have := of_decide_eq_true h
          by_cases h5 : minL x < minL z
          · exact .inl (decide_eq_true h5)
          · exact .inr (decide_eq_true (by omega))
        · rw [if_neg hk] at h ⊢
          rw [if_neg hk]
          have := of_decide_eq_true h
          by_cases h5 : maxL x < maxL z
          · exact .inl (decide_eq_true h5)
          · exact .inr (decide_eq_true (by omega))
  · rw [if_neg h1] at h; cases h

theorem law08_LiftSets_plain (a b c : List Int) (which : Int) (l : List Int) {p0 p1 p2 p3 p4 : Prop} (_ : p0) (_ : p1) (_ : p2) (_ : p3) (_ : p4) : law08_LiftSets_m a b c which l = some true := by
  refine T.eq ?_
  unfold law08_LiftSets_m
  refine T.cond (fun _ => .ret rfl) fun g1 => T.cond (fun _ => .ret rfl) fun g2 => T.cond (fun _ => .ret rfl) fun g3 => ?_
  have ha : a.length ≤ 20 := by have := of_decide_eq_false g1; omega
  have hb : b.length ≤ 20 := by have := of_decide_eq_false g2; omega
  have hc : c.length ≤ 20 := by have := of_decide_eq_false g3; omega
  refine T.bind New_plain fun s1 hs1 => ?_
  refine T.bind (N_plain hs1 (n := 4) (by omega)) ?_
  rintro t4 ⟨hs4, _⟩
  refine T.bind (N_plain hs4 (n := 4) (by omega)) ?_
  rintro t5 ⟨hs5, _⟩
  have hsl : slM [t4.1, t5.1] 0 1 = some [t4.1] := rfl
  rw [hsl, some_bind]
  have key : ∀ x ∈ ([a, b, c, [t4.1, t5.1], [t4.1], []] : List (List Int)), x.length ≤ 20 := by
    intro x hx
    simp only [List.mem_cons, List.not_mem_nil, or_false] at hx
    rcases hx with rfl | rfl | rfl | rfl | rfl | rfl <;> first | omega | (simp; done)
  have i6 : ([a, b, c, [t4.1, t5.1], [t4.1], []] : List (List Int)).length = 6 := rfl
  have get : ∀ k : Nat, k < 6 → ∃ x : List Int, idxM ([a, b, c, [t4.1, t5.1], [t4.1], []] : List (List Int)) (k : Int) = some x ∧ x.length ≤ 20 := fun k hk => by
    have hk' : k < ([a, b, c, [t4.1, t5.1], [t4.1], []] : List (List Int)).length := hk
    exact ⟨_, idxM_nat hk', key _ (List.getElem_mem hk')⟩
  have SL := fun (x y : List Int) (k : Int) (hx : x.length ≤ 20) (hy : y.length ≤ 20) => SetLess_plain (a := x) (b := y) (k := k) (by omega) (by omega)
  have L4 : ∀ (k : Int) (x y : List Int), x.length ≤ 20 → y.length ≤ 20 → loopC (law08_LiftSets_l4 a b c t4 t5 [t4.1] k x y (setLess x y k)) 0 = some (.inr ()) := fun k x y hx hy => by
    refine T.eq (T.loopK 6 (fun i s => i ≤ 6 ∧ s = (i : Int)) ⟨by omega, rfl⟩ ?_)
    rintro i _ ⟨hi, rfl⟩
    dsimp only [law08_LiftSets_l4]
    refine T.cond (fun g => ?_) fun g => .ret rfl
    have hi6 : i < 6 := by have := of_decide_eq_true g; rw [i6] at this; omega
    obtain ⟨z, hz, hzl⟩ := get i hi6
    rw [hz, some_bind, (SL x z k hx hzl).1, some_bind, (SL z y k hzl hy).1, some_bind, iadd1 (by omega)]
    refine T.cond (fun h1 => ?_) fun _ => .ret ⟨hi6, by omega, rfl⟩
    refine T.cond (fun h2 => ?_) fun _ => .ret ⟨hi6, by omega, rfl⟩
    refine T.cond (fun h3 => ?_) fun _ => .ret ⟨hi6, by omega, rfl⟩
    rcases setLess_neg (z := z) h1 with h | h
    · rw [h] at h2; cases h2
    · rw [h] at h3; cases h3
  have L3 : ∀ (k : Int) (x : List Int), x.length ≤ 20 → loopC (law08_LiftSets_l3 a b c t4 t5 [t4.1] k x) 0 = some (.inr ()) := fun k x hx => by
    refine T.eq (T.loopK 6 (fun i s => i ≤ 6 ∧ s = (i : Int)) ⟨by omega, rfl⟩ ?_)
    rintro i _ ⟨hi, rfl⟩
    dsimp only [law08_LiftSets_l3]
    refine T.cond (fun g => ?_) fun g => .ret rfl
    have hi6 : i < 6 := by have := of_decide_eq_true g; rw [i6] at this; omega
    obtain ⟨y, hy, hyl⟩ := get i hi6
    rw [hy, some_bind, (SL x y k hx hyl).1, some_bind]
    refine T.joinP (fun _ => True) (fun j _ => ?_) fun kk hkk => ?_
    · rw [L4 k x y hx hyl, some_bind, sumK_inr, iadd1 (by omega)]
      exact .ret ⟨hi6, by omega, rfl⟩
    · rw [(SL x y k hx hyl).2, some_bind]
      refine T.cond (fun h => by simp at h) fun _ => ?_
      refine T.cond (fun h => ?_) fun _ => hkk _ trivial
      rw [(SL y x k hyl hx).1, some_bind, setLess_asym h]
      exact hkk _ trivial
  have L2 : ∀ k : Int, loopC (law08_LiftSets_l2 a b c t4 t5 [t4.1] k) 0 = some (.inr ()) := fun k => by
    refine T.eq (T.loopK 6 (fun i s => i ≤ 6 ∧ s = (i : Int)) ⟨by omega, rfl⟩ ?_)
    rintro i _ ⟨hi, rfl⟩
    dsimp only [law08_LiftSets_l2]
    refine T.cond (fun g => ?_) fun g => .ret rfl
    have hi6 : i < 6 := by have := of_decide_eq_true g; rw [i6] at this; omega
    obtain ⟨x, hx, hxl⟩ := get i hi6
    rw [hx, some_bind, (SL x x k hxl hxl).1, some_bind, setLess_irr, cond_false, (SL [] x k (by simp) hxl).1, some_bind, setLess_nil, cond_false, L3 k x hxl, some_bind, sumK_inr, iadd1 (by omega)]
    exact .ret ⟨hi6, by omega, rfl⟩
  have L1 : loopC (law08_LiftSets_l1 a b c which t4 t5 [t4.1]) 0 = some (.inr ()) := by
    refine T.eq (T.loopK 3 (fun i s => i ≤ 3 ∧ s = (i : Int)) ⟨by omega, rfl⟩ ?_)
    rintro i _ ⟨hi, rfl⟩
    dsimp only [law08_LiftSets_l1]
    refine T.cond (fun g => ?_) fun g => .ret rfl
    have hi3 : i < 3 := by have := of_decide_eq_true g; simp at this; omega
    have hi' : i < ([which, 1, 2] : List Int).length := hi3
    rw [idxM_nat hi', some_bind, L2, some_bind, sumK_inr, iadd1 (by omega)]
    exact .ret ⟨hi3, by omega, rfl⟩
  rw [L1, some_bind, sumK_inr, awake_plain, some_bind]
  exact .ret rfl
end Go.Dc
