/- Part P28C.Play of a proof: lemmas. -/
import Derived.Test.YtodnndlcnignbaaP28CPick
set_option linter.unusedVariables false
set_option linter.unusedSimpArgs false
/-! Players that are valid; the least attack. -/
namespace Go.Dc

def AscAt (l : List Int) (n : Int) (j : Nat) : Prop := 0 ≤ l.getD j 0 ∧ l.getD j 0 < n ∧ (0 < j → l.getD (j - 1) 0 < l.getD j 0)
def Asc (l : List Int) (n : Int) : Prop := ∀ j, j < l.length → AscAt l n j

theorem Asc_plain {l : List Int} {n : Int} (hl : l.length ≤ 100000000) : T (network_Ascending_m l n) fun r => r = true ↔ Asc l n := by
  unfold network_Ascending_m
  refine T.bind (P := fun o => match o with | .inl b => b = false ∧ ¬ Asc l n | .inr _ => Asc l n) ?_ fun o ho => ?_
  · refine T.loopK l.length (fun i s => s = (i : Int) ∧ i ≤ l.length ∧ ∀ j, j < i → AscAt l n j) ⟨rfl, by omega, fun j hj => by omega⟩ ?_
    rintro i _ ⟨rfl, hi, hpre⟩
    dsimp only [network_Ascending_l1]
    refine T.cond (fun g => ?_) fun g => ?_
    · simp only [decide_eq_true_eq] at g
      have g' : i < l.length := by omega
      rw [idxM_getD (z := 0) g', some_bind]
      have bad : ¬ AscAt l n i → ¬ Asc l n := fun h h2 => h (h2 i g')
      refine T.cond (fun h => ?_) fun h => ?_
      · simp at h; exact .ret ⟨rfl, bad fun hh => by have := hh.1; simp at this; omega⟩
      · simp at h
        refine T.cond (fun h2 => ?_) fun h2 => ?_
        · simp at h2; exact .ret ⟨rfl, bad fun hh => by have := hh.2.1; simp at this; omega⟩
        · simp at h2
          have next : (0 < i → l.getD (i - 1) 0 < l.getD i 0) → ∀ j, j < i + 1 → AscAt l n j := fun h3 j hj => by
            rcases Nat.lt_or_ge j i with h4 | h4
            · exact hpre j h4
            · have e : j = i := by omega
              subst e
              exact ⟨by simpa using h, by simpa using h2, h3⟩
          refine T.cond (fun h3 => ?_) fun h3 => ?_
          · simp at h3
            rw [isub1 (by omega), show ((i : Int) - 1) = ((i - 1 : Nat) : Int) from by omega, idxM_getD (z := 0) (by omega), some_bind]
            refine T.cond (fun h4 => ?_) fun h4 => ?_
            · simp at h4; exact .ret ⟨rfl, bad fun hh => by have := hh.2.2 (by omega); simp at this; omega⟩
            · simp at h4
              rw [iadd1 (by omega)]
              exact .ret ⟨g', rfl, g', next fun _ => by simpa using h4⟩
          · simp at h3
            rw [iadd1 (by omega)]
            exact .ret ⟨g', rfl, g', next fun h4 => by omega⟩
    · simp only [decide_eq_false_iff_not] at g
      exact .ret (fun j hj => hpre j (by omega))
  · match o, ho with
    | .inl b, ⟨h1, h2⟩ => subst h1; exact .ret (by simp [h2])
    | .inr _, h => exact .ret (by simpa using h)

open Classical in
noncomputable def errV (n : Int) (p : Pl) : Int := if ¬ (Asc p.Pool n ∧ Asc p.Withheld n) then 1 else if p.Style < 1 ∨ 3 < p.Style then 4 else 0

theorem valid_plain {d : Dg} {p : Pl} (hp : Len p) : participant_valid_m d p = some (errV d.Graph.N p) := by
  refine T.eq ?_
  unfold participant_valid_m
  refine T.joinP (fun b => b = true ↔ ¬ (Asc p.Pool d.Graph.N ∧ Asc p.Withheld d.Graph.N)) (fun b hb => ?_) fun k hk => ?_
  · unfold errV
    refine T.cond (fun h => ?_) fun h => ?_
    · rw [if_pos (hb.1 h)]; exact .ret rfl
    · rw [if_neg (fun hh => by rw [hb.2 hh] at h; cases h)]
      refine T.cond (fun h1 => ?_) fun h1 => ?_
      · simp at h1; rw [if_pos (.inl h1)]; exact .ret rfl
      · simp at h1
        refine .letM (T.cond (fun h2 => ?_) fun h2 => ?_)
        · simp at h2; rw [if_pos (.inr h2)]; exact .ret rfl
        · simp at h2; rw [if_neg (by omega)]; exact .ret rfl
  · refine T.bind (Asc_plain hp.po) fun r hr => ?_
    refine T.cond (fun h => hk _ ?_) fun h => ?_
    · simp at h
      exact ⟨fun _ hh => (by rw [hr.2 hh.1] at h; cases h), fun _ => rfl⟩
    · simp at h
      refine T.bind (Asc_plain hp.wi) fun r2 hr2 => hk _ ?_
      have h1 := hr.1 h
      cases r2 with
      | true => simp [h1, hr2.1 rfl]
      | false => exact ⟨fun _ hh => (by have := hr2.2 hh.2; cases this), fun _ => rfl⟩

/-! ### the first least one -/
def pickF (better : Mv → Mv → Bool) (y : Mv) (r : List Mv) : Mv := r.foldl (fun m z => bif better z m then z else m) y

theorem pick_mem {better : Mv → Mv → Bool} : ∀ {r : List Mv} {y : Mv}, pickF better y r ∈ y :: r
  | [], y => by simp [pickF]
  | z :: r, y => by
    have ih := pick_mem (better := better) (r := r) (y := bif better z y then z else y)
    show pickF better (bif better z y then z else y) r ∈ _
    rcases List.mem_cons.1 ih with h | h
    · rw [h]; cases better z y <;> simp
    · exact List.mem_cons_of_mem _ (List.mem_cons_of_mem _ h)

theorem min_loop {x : List Mv} {better : Mv → Mv → Bool} {f : Int × Mv → Option (Sum Mv (Int × Mv))} (k : Nat) (hk : k ≤ x.length)
    (hf : ∀ i (hi : i < x.length) m, f ((i : Int), m) = some (.inr ((i : Int) + 1, bif better x[i] m then x[i] else m)))
    (hend : ∀ m, f ((x.length : Int), m) = some (.inl m)) (y : Mv) : loopC f ((k : Int), y) = some (pickF better y (x.drop k)) := by
  suffices hh : ∀ n k, x.length - k ≤ n → k ≤ x.length → ∀ y, loopC f ((k : Int), y) = some (pickF better y (x.drop k)) from hh _ k (Nat.le_refl _) hk y
  intro n
  induction n with
  | zero =>
    intro k h1 h2 y
    have e : k = x.length := by omega
    subst e
    rw [loopC_eq, hend]; simp [pickF]
  | succ n ih =>
    intro k h1 h2 y
    by_cases e : k = x.length
    · subst e; rw [loopC_eq, hend]; simp [pickF]
    · have hi : k < x.length := by omega
      rw [loopC_eq, hf k hi y]
      simp only [Option.bind_some]
      rw [show ((k : Int) + 1) = ((k + 1 : Nat) : Int) from rfl, ih (k + 1) (by omega) (by omega), List.drop_eq_getElem_cons hi]
      rfl

theorem compare_plain {x y : Int} : T (cmp_Compare_int_m x y) fun r => decide (r < 0) = decide (x < y) := by
  unfold cmp_Compare_int_m cmp_isNaN_int_m
  simp only [bne_self_eq_false, some_bind, cond_false]
  refine T.cond (fun h => ?_) fun h => ?_
  · simp at h; exact .ret (by simp [h])
  · simp at h
    refine T.cond (fun h2 => .ret ?_) fun h2 => .ret ?_
    · simp; omega
    · simp; omega

def attN (g : T_api_Graph) (a : Int) : Int := ((g.L.filter fun p => p.To == a).length : Int)

theorem att_take {g : T_api_Graph} {a : Int} {i : Nat} (hi : i < g.L.length) : ((g.L.take (i + 1)).filter fun p => p.To == a).length = ((g.L.take i).filter fun p => p.To == a).length + if (g.L[i].To == a) = true then 1 else 0 := by
  rw [List.take_succ_eq_append_getElem hi, List.filter_append, List.length_append]
  cases h : g.L[i].To == a <;> simp [h]

theorem attackers_plain {d : Dg} (hd : d.Graph.L.length ≤ 100000000) {a : Int} : participant_style_1_m a d = some (attN d.Graph a) := by
  unfold participant_style_1_m
  refine T.eq (T.bind (P := fun r => r = attN d.Graph a) ?_ fun r hr => .ret hr)
  refine T.loopK d.Graph.L.length (fun i s => s.2 = (i : Int) ∧ i ≤ d.Graph.L.length ∧ s.1 = (((d.Graph.L.take i).filter fun p => p.To == a).length : Int)) ⟨rfl, by omega, by simp⟩ ?_
  rintro i ⟨_, _⟩ ⟨rfl, hi, rfl⟩
  dsimp only [participant_style_1_l1]
  refine T.cond (fun g => ?_) fun g => ?_
  · simp only [decide_eq_true_eq] at g
    have g' : i < d.Graph.L.length := by omega
    have h1 := att_take (a := a) g'
    have h2 := List.length_filter_le (fun p : T_api_Pair => p.To == a) (d.Graph.L.take i)
    simp at h2
    rw [idxM_nat g', some_bind, iadd1 (n := i) (by omega)]
    refine T.cond (fun h => .letM (.ret ⟨g', rfl, g', ?_⟩)) fun h => .ret ⟨g', rfl, g', ?_⟩
    · rw [if_pos h] at h1
      dsimp only
      rw [h1, iadd1 (by omega)]
    · rw [if_neg (by rw [h]; simp)] at h1
      dsimp only
      rw [h1]; rfl
  · simp only [decide_eq_false_iff_not] at g
    refine .ret (show _ = attN d.Graph a from ?_)
    rw [List.take_of_length_le (by omega)]; rfl

/-- by what a style goes -/
def betterF (g : T_api_Graph) (style : Int) (z m : Mv) : Bool := bif style == 2 then decide (m.Target < z.Target) else bif style == 3 then decide (attN g z.Node < attN g m.Node) else false

theorem Min0 {x : List Mv} {g : T_api_Graph} (hx : x.length ≤ 100000000) {y : Mv} {r : List Mv} (he : x = y :: r) : slices_MinFunc_api_Move_api_Move_m x = some (pickF (betterF g 2) y r) := by
  unfold slices_MinFunc_api_Move_api_Move_m
  have hl : x.length = r.length + 1 := by rw [he]; rfl
  rw [show decide ((x.length : Int) < 1) = false from decide_eq_false (by omega)]
  simp only [cond_false]
  rw [show idxM x 0 = some y from by rw [idxM_eq (by omega) (by simp; omega)]; simp [he], some_bind]
  have := min_loop (x := x) (better := betterF g 2) (f := slices_MinFunc_api_Move_api_Move_l1 x) 1 (by omega) (fun i hi m => ?_) (fun m => ?_) y
  · rw [show (1 : Int) = ((1 : Nat) : Int) from rfl, this, some_bind]; simp [he]
  · simp only [slices_MinFunc_api_Move_api_Move_l1]
    rw [show decide ((i : Int) < x.length) = true from decide_eq_true (by omega), idxM_nat hi, some_bind, iadd1 (by omega)]
    simp only [cond_true]
    unfold participant_style_2_m
    obtain ⟨c, hc, hcv⟩ := compare_plain (x := m.Target) (y := x[i].Target)
    rw [hc]
    simp only [some_bind, hcv, letM, betterF]
    simp only [beq_self_eq_true, cond_true]
    cases decide (m.Target < x[i].Target) <;> rfl
  · simp only [slices_MinFunc_api_Move_api_Move_l1]
    rw [show decide ((x.length : Int) < x.length) = false from decide_eq_false (by omega)]; rfl

theorem Min1 {x : List Mv} {d : Dg} (hd : d.Graph.L.length ≤ 100000000) (hx : x.length ≤ 100000000) {y : Mv} {r : List Mv} (he : x = y :: r) : slices_MinFunc_api_Move_api_Move_1_m x d = some (pickF (betterF d.Graph 3) y r) := by
  unfold slices_MinFunc_api_Move_api_Move_1_m
  have hl : x.length = r.length + 1 := by rw [he]; rfl
  rw [show decide ((x.length : Int) < 1) = false from decide_eq_false (by omega)]
  simp only [cond_false]
  rw [show idxM x 0 = some y from by rw [idxM_eq (by omega) (by simp; omega)]; simp [he], some_bind]
  have := min_loop (x := x) (better := betterF d.Graph 3) (f := slices_MinFunc_api_Move_api_Move_1_l1 x d) 1 (by omega) (fun i hi m => ?_) (fun m => ?_) y
  · rw [show (1 : Int) = ((1 : Nat) : Int) from rfl, this, some_bind]; simp [he]
  · simp only [slices_MinFunc_api_Move_api_Move_1_l1]
    rw [show decide ((i : Int) < x.length) = true from decide_eq_true (by omega), idxM_nat hi, some_bind, iadd1 (by omega)]
    simp only [cond_true]
    unfold participant_style_3_m
    rw [attackers_plain hd, some_bind, attackers_plain hd, some_bind]
    obtain ⟨c, hc, hcv⟩ := compare_plain (x := attN d.Graph x[i].Node) (y := attN d.Graph m.Node)
    rw [hc]
    simp only [some_bind, hcv, letM, betterF]
    simp only [show ((3 : Int) == 2) = false from rfl, beq_self_eq_true, cond_true, cond_false]
    cases decide (attN d.Graph x[i].Node < attN d.Graph m.Node) <;> rfl
  · simp only [slices_MinFunc_api_Move_api_Move_1_l1]
    rw [show decide ((x.length : Int) < x.length) = false from decide_eq_false (by omega)]; rfl

theorem Min2 {x : List Mv} {g : T_api_Graph} {st : Int} (h2 : st ≠ 2) (h3 : st ≠ 3) (hx : x.length ≤ 100000000) {y : Mv} {r : List Mv} (he : x = y :: r) : slices_MinFunc_api_Move_api_Move_2_m x = some (pickF (betterF g st) y r) := by
  unfold slices_MinFunc_api_Move_api_Move_2_m
  have hl : x.length = r.length + 1 := by rw [he]; rfl
  rw [show decide ((x.length : Int) < 1) = false from decide_eq_false (by omega)]
  simp only [cond_false]
  rw [show idxM x 0 = some y from by rw [idxM_eq (by omega) (by simp; omega)]; simp [he], some_bind]
  have := min_loop (x := x) (better := betterF g st) (f := slices_MinFunc_api_Move_api_Move_2_l1 x) 1 (by omega) (fun i hi m => ?_) (fun m => ?_) y
  · rw [show (1 : Int) = ((1 : Nat) : Int) from rfl, this, some_bind]; simp [he]
  · simp only [slices_MinFunc_api_Move_api_Move_2_l1]
    rw [show decide ((i : Int) < x.length) = true from decide_eq_true (by omega), idxM_nat hi, some_bind, iadd1 (by omega)]
    simp only [cond_true]
    unfold participant_style_4_m
    simp only [some_bind, letM, betterF]
    rw [show (st == 2) = false from by simp [h2], show (st == 3) = false from by simp [h3]]
    rfl
  · simp only [slices_MinFunc_api_Move_api_Move_2_l1]
    rw [show decide ((x.length : Int) < x.length) = false from decide_eq_false (by omega)]; rfl
end Go.Dc
