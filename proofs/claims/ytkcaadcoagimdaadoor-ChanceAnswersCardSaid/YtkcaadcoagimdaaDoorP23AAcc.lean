/- Part P23A.Acc of a proof: lemmas. -/
import Derived.Test.YtkcaadcoagimdaaDoorP23AJoint
import Derived.Test.YtkcaadcoagimdaaDoorDcGr
set_option linter.unusedVariables false
set_option linter.unusedSimpArgs false
set_option linter.unusedSectionVars false
/-! Arguments that are valid; Joint, Given and Extension of them. -/
namespace Go.Dc

theorem pw {l : List T_api_Pair} (h : l.Pairwise plt) {i : Nat} (h0 : 1 ≤ i) (hi : i < l.length) : plt (l[i - 1]'(by omega)) l[i] :=
  List.pairwise_iff_getElem.1 h (i - 1) i (by omega) hi (by omega)

theorem cmp_plain {x y : Int} : cmp_Compare_int_m x y = some (if x < y then -1 else if y < x then 1 else 0) := by
  unfold cmp_Compare_int_m cmp_isNaN_int_m
  simp only [some_bind, bne_self_eq_false, cond_false]
  by_cases h : x < y
  · simp [h]
  · by_cases h2 : y < x <;> simp [h, h2]

theorem or_plain {a b : Int} : cmp_Or_int_m [a, b] = some (if a = 0 then b else a) := by
  have h0 : cmp_Or_int_l1 [a, b] 0 = some (bif a != 0 then .inl (.inl a) else .inr 1) := by
    unfold cmp_Or_int_l1
    rw [show decide ((0 : Int) < (([a, b] : List Int).length : Int)) = true from rfl, show idxM [a, b] 0 = some a from rfl, iadd64 (by omega) (by omega)]
    simp only [cond_true, some_bind]
    cases a != 0 <;> rfl
  have h1 : cmp_Or_int_l1 [a, b] 1 = some (bif b != 0 then .inl (.inl b) else .inr 2) := by
    unfold cmp_Or_int_l1
    rw [show decide ((1 : Int) < (([a, b] : List Int).length : Int)) = true from rfl, show idxM [a, b] 1 = some b from rfl, iadd64 (by omega) (by omega)]
    simp only [cond_true, some_bind]
    cases b != 0 <;> rfl
  have h2 : cmp_Or_int_l1 [a, b] 2 = some (.inl (.inr ())) := by
    unfold cmp_Or_int_l1
    rw [show decide ((2 : Int) < (([a, b] : List Int).length : Int)) = false from rfl]; rfl
  unfold cmp_Or_int_m
  rw [loopC_eq, h0]
  by_cases ha : a = 0
  · subst ha
    rw [if_pos rfl, show ((0 : Int) != 0) = false from rfl]
    simp only [cond_false, Option.bind_some]
    rw [loopC_eq, h1]
    by_cases hb : b = 0
    · subst hb
      rw [show ((0 : Int) != 0) = false from rfl]
      simp only [cond_false, Option.bind_some]
      rw [loopC_eq, h2]; rfl
    · rw [show (b != 0) = true from by simp [hb]]; rfl
  · rw [if_neg ha, show (a != 0) = true from by simp [ha]]; rfl

theorem pcmp_plain {p q : T_api_Pair} (h : plt p q) : graph_compare_m p q = some (-1) := by
  unfold graph_compare_m
  rw [cmp_plain, some_bind, cmp_plain, some_bind, or_plain, some_bind]
  unfold plt at h
  congr 1
  rcases h with h | ⟨h1, h2⟩
  · simp [h]
  · rw [h1]; simp [h2]

theorem Validate_plain {g : T_api_Graph} (h : GVal g) (hl : g.L.length ≤ 1000000) : graph_Validate_m g = some 0 := by
  have h0 := h.n0; have h1 := h.n1
  unfold graph_Validate_m
  rw [decide_eq_false (by omega : ¬ g.N < 0), decide_eq_false (by omega : ¬ g.N > 40)]
  simp only [cond_false]
  have : loopC (graph_Validate_l1 g) 0 = some (.inr ()) := by
    refine T.eq (T.loopK g.L.length (fun i s => s = (i : Int) ∧ i ≤ g.L.length) ⟨rfl, by omega⟩ ?_)
    rintro i _ ⟨rfl, hi⟩
    dsimp only [graph_Validate_l1]
    refine T.cond (fun g1 => ?_) fun g1 => .ret rfl
    simp at g1
    have hv := h.v _ (List.getElem_mem g1)
    rw [idxM_nat g1, some_bind, iadd1 (by omega)]
    have m1 : 0 ≤ imin g.L[i].From g.L[i].To := by unfold imin; split <;> omega
    have m2 : imax g.L[i].From g.L[i].To < g.N := by unfold imax; split <;> omega
    refine T.cond (fun g2 => by simp at g2; omega) fun _ => T.cond (fun g2 => by simp at g2; omega) fun _ => ?_
    refine T.cond (fun g3 => ?_) fun g3 => .ret ⟨g1, rfl, by omega⟩
    simp at g3
    have hp := pw h.s g3 g1
    rw [isub1 (by omega), show (i : Int) - 1 = ((i - 1 : Nat) : Int) from by omega, idxM_nat (by omega), some_bind, pcmp_plain hp, some_bind]
    exact T.cond (fun g4 => by simp at g4) fun _ => .ret ⟨g1, rfl, by omega⟩
  rw [this]; rfl


theorem proper_plain {l : List Fr} (h : ∀ f ∈ l, FrOk f) (hl : l.length ≤ 1000000) : chance_proper_m l = some true := by
  unfold chance_proper_m slices_ContainsFunc_api_Fraction_api_Fraction_m slices_IndexFunc_api_Fraction_api_Fraction_m
  have : loopC (slices_IndexFunc_api_Fraction_api_Fraction_l1 l) 0 = some (.inr ()) := by
    refine T.eq (T.loopK l.length (fun i s => s = (i : Int) ∧ i ≤ l.length) ⟨rfl, by omega⟩ ?_)
    rintro i _ ⟨rfl, hi⟩
    dsimp only [slices_IndexFunc_api_Fraction_api_Fraction_l1]
    refine T.cond (fun g1 => ?_) fun g1 => .ret rfl
    simp at g1
    have hf := h _ (List.getElem_mem g1)
    obtain ⟨h1, h2, h3, h4⟩ := hf
    have hp : chance_proper_1_m l[i] = some false := by
      unfold chance_proper_1_m
      rw [decide_eq_false (by omega), decide_eq_false (by omega), decide_eq_false (by omega), cond_false, cond_false, cond_false, letM_eq, decide_eq_false (by omega)]
    rw [idxM_nat g1, some_bind, iadd1 (by omega), hp, some_bind]
    exact T.cond (fun g2 => by cases g2) fun _ => .ret ⟨g1, rfl, by omega⟩
  rw [this]; rfl

section
variable {N : Nat} {g : T_api_Graph} {o : T_api_Odds} (h : OOk N g o)
include h
theorem OOk.gval : GVal g := ⟨by rw [h.gg.n]; omega, by rw [h.gg.n]; have := h.gg.hN; omega, fun p hp => by have := h.gg.v p hp; rw [h.gg.n]; exact this, h.s⟩

theorem asc_plain {l : List Int} (ha : Asc N l) : network_Ascending_m l (N : Int) = some true := by
  have hN := h.gg.hN
  have hlen := ha.len
  unfold network_Ascending_m
  have : loopC (network_Ascending_l1 l (N : Int)) 0 = some (.inr ()) := by
    refine T.eq (T.loopK l.length (fun i s => s = (i : Int) ∧ i ≤ l.length) ⟨rfl, by omega⟩ ?_)
    rintro i _ ⟨rfl, hi⟩
    dsimp only [network_Ascending_l1]
    refine T.cond (fun g1 => ?_) fun g1 => .ret rfl
    simp at g1
    have hm := ha.2 _ (List.getElem_mem g1)
    rw [idxM_nat g1, some_bind, iadd1 (by omega)]
    refine T.cond (fun g2 => by simp at g2; omega) fun _ => T.cond (fun g2 => by simp at g2; omega) fun _ => T.cond (fun g3 => ?_) fun g3 => .ret ⟨g1, rfl, by omega⟩
    simp at g3
    have hp := List.pairwise_iff_getElem.1 ha.1 (i - 1) i (by omega) g1 (by omega)
    rw [isub1 (by omega), show (i : Int) - 1 = ((i - 1 : Nat) : Int) from by omega, idxM_nat (by omega), some_bind]
    exact T.cond (fun g4 => by simp at g4; omega) fun _ => .ret ⟨g1, rfl, by omega⟩
  rw [this]; rfl

theorem count_loop {l : List Fr} (hl : l.length ≤ 100000) : loopC (chance_arguments_l1 l) (0, 0) = some (((l.filter fun f => !cert f).length : Nat) : Int) := by
  refine T.eq (T.loopK l.length (fun k s => k ≤ l.length ∧ s.2 = (k : Int) ∧ s.1 = ((((l.take k).filter fun f => !cert f).length : Nat) : Int)) ⟨by omega, rfl, by simp⟩ ?_)
  rintro k ⟨_, _⟩ ⟨hk, rfl, rfl⟩
  dsimp only [chance_arguments_l1] at *
  refine T.cond (fun g1 => ?_) fun g1 => ?_
  · simp at g1
    have htk : l.take (k + 1) = l.take k ++ [l[k]] := by rw [List.take_add_one, List.getElem?_eq_getElem g1]; rfl
    have hle : ((l.take k).filter fun f => !cert f).length ≤ k := Nat.le_trans (List.length_filter_le _ _) (by simp; omega)
    rw [idxM_nat g1, some_bind, certain_plain, some_bind, iadd1 (n := k) (by omega)]
    cases hc : cert l[k] with
    | true =>
      rw [Bool.not_true, cond_false]
      refine .ret ⟨g1, by omega, rfl, ?_⟩
      rw [htk, List.filter_append, List.filter_cons_of_neg (by simp [hc])]; simp
    | false =>
      rw [Bool.not_false, cond_true, iadd1 (by omega)]
      refine .letM (.ret ⟨g1, by omega, rfl, ?_⟩)
      rw [htk, List.filter_append, List.filter_cons_of_pos (by simp [hc])]; simp
  · simp at g1
    have e : k = l.length := by omega
    refine .ret ?_
    simp only [e, List.take_length]

theorem args_plain {l : List Int} {q : Int} (ha : Asc N l) (h1 : 1 ≤ q) (h4 : q ≤ 4) : chance_arguments_m g o l q = some 0 := by
  have hl2 : (o.Nodes ++ o.Attacks).length ≤ 10010 := h.len2
  have hl3 := hl2
  rw [List.length_append] at hl3
  have hgl := h.gg.l
  have hN := h.gg.hN
  unfold chance_arguments_m
  rw [Validate_plain h.gval (by omega), some_bind, show ((0 : Int) != 0) = false from rfl, cond_false]
  have hfit : chance_fits_m g o = some true := by
    unfold chance_fits_m
    rw [h.ln, h.la, h.gg.n, show ((N : Int) == (N : Int)) = true by simp, cond_true, show ((g.L.length : Int) == (g.L.length : Int)) = true by simp, cond_true,
      proper_plain (fun f hf => h.fr f (List.mem_append_left _ hf)) (by omega), some_bind, cond_true, proper_plain (fun f hf => h.fr f (List.mem_append_right _ hf)) (by omega), some_bind]
  have hq : network_Question_m q = some true := by
    unfold network_Question_m
    rw [decide_eq_true (by omega), cond_true, letM_eq, decide_eq_true (by omega)]
  rw [hfit, some_bind, Bool.not_true, cond_false, hq, some_bind, Bool.not_true, cond_false, h.gg.n, asc_plain h ha, some_bind, Bool.not_true, cond_false, Concat_plain (by omega), some_bind, count_loop h (by omega), some_bind,
    decide_eq_false (by omega), cond_false, decide_eq_false (by have := h.un; omega), cond_false]

/-- the naturals of a list -/
abbrev nl (l : List Int) : List Nat := l.map Int.toNat
theorem nl_il {l : List Int} (ha : Asc N l) : l = il (nl l) := by
  show l = (l.map Int.toNat).map _
  rw [List.map_map]
  conv => lhs; rw [← List.map_id l]
  refine List.map_congr_left fun x hx => ?_
  have := (ha.2 x hx).1
  simp; omega
theorem nl_lt {l : List Int} (ha : Asc N l) : ∀ x ∈ nl l, x < N := fun x hx => by
  obtain ⟨y, hy, rfl⟩ := List.mem_map.1 hx
  have := ha.2 y hy; omega
theorem nl_mem {l : List Int} (ha : Asc N l) {x : Nat} : x ∈ nl l ↔ (x : Int) ∈ l := by
  constructor
  · intro hx
    obtain ⟨y, hy, rfl⟩ := List.mem_map.1 hx
    have := ha.2 y hy
    rwa [Int.toNat_of_nonneg this.1]
  · intro hx; exact List.mem_map.2 ⟨_, hx, by simp⟩
theorem Of_plain2 {l : List Int} (ha : Asc N l) : network_Of_m l = some ((setOf (nl l) : Nat) : Int) := by
  have hN := h.gg.hN
  have := ha.len
  conv => lhs; rw [nl_il h ha]
  exact Of_plain (fun x hx => by have := nl_lt h ha x hx; omega) (by simp; omega)
theorem setOf_lt64 {l : List Int} (ha : Asc N l) : setOf (nl l) < 2 ^ 64 := lt64 (setOf_lt (nl_lt h ha)) (by have := h.gg.hN; omega)

theorem Joint_plain {l : List Int} {q : Int} (ha : Asc N l) (h1 : 1 ≤ q) (h4 : q ≤ 4) : chance_Joint_m g o l q = some (rd (J (frs o) (jc g (setOf (nl l)) q)) (dn (frs o)), 0) := by
  have hB := h.dnB
  have hB2 : dn (o.Nodes ++ o.Attacks) ≤ 100000000000 := h.dnB
  have hj : J (frs o) (jc g (setOf (nl l)) q) ≤ dn (frs o) := J_le
  unfold chance_Joint_m
  rw [args_plain h ha h1 h4, some_bind, show ((0 : Int) != 0) = false from rfl, cond_false, Of_plain2 h ha, some_bind, joint_plain h (setOf_lt64 h ha), some_bind]
  simp only
  rw [reduced_plain (dn_pos h.fr) (by omega) (by omega), some_bind]

theorem Given_plain {a b : List Int} {q : Int} (ha : Asc N a) (hb : Asc N b) (h1 : 1 ≤ q) (h4 : q ≤ 4) :
    chance_Given_m g o a b q = some (if J (frs o) (jc g (setOf (nl b)) q) = 0 then (⟨0, 0⟩, 9) else (rd (J (frs o) (jc g (setOf (nl a) ||| setOf (nl b)) q)) (J (frs o) (jc g (setOf (nl b)) q)), 0)) := by
  have hB := h.dnB
  have hB2 : dn (o.Nodes ++ o.Attacks) ≤ 100000000000 := h.dnB
  have hj : J (frs o) (jc g (setOf (nl b)) q) ≤ dn (frs o) := J_le
  have hj2 : J (frs o) (jc g (setOf (nl a) ||| setOf (nl b)) q) ≤ dn (frs o) := J_le
  unfold chance_Given_m
  have hloop : loopC (chance_Given_l1 g o a b q) 0 = some (.inr ()) := by
    have e0 : chance_Given_l1 g o a b q 0 = some (.inr 1) := by
      unfold chance_Given_l1
      rw [show decide ((0 : Int) < (([a, b] : List (List Int)).length : Int)) = true from rfl, cond_true, show idxM [a, b] 0 = some a from rfl, some_bind, args_plain h ha h1 h4, some_bind]; rfl
    have e1 : chance_Given_l1 g o a b q 1 = some (.inr 2) := by
      unfold chance_Given_l1
      rw [show decide ((1 : Int) < (([a, b] : List (List Int)).length : Int)) = true from rfl, cond_true, show idxM [a, b] 1 = some b from rfl, some_bind, args_plain h hb h1 h4, some_bind]; rfl
    rw [loopC_eq, e0]
    show loopC _ 1 = _
    rw [loopC_eq, e1]
    show loopC _ 2 = _
    rw [loopC_eq]; rfl
  rw [hloop, some_bind, sumK_inr, Of_plain2 h hb, some_bind, joint_plain h (setOf_lt64 h hb), some_bind]
  simp only
  by_cases h0 : J (frs o) (jc g (setOf (nl b)) q) = 0
  · rw [h0, if_pos rfl]; rfl
  · rw [if_neg h0, show (((J (frs o) (jc g (setOf (nl b)) q) : Nat) : Int) == 0) = false from by simpa using h0, cond_false, Of_plain2 h ha, some_bind, some_bind, ior_u (setOf_lt64 h ha) (setOf_lt64 h hb),
      joint_plain h (or_lt (setOf_lt64 h ha) (setOf_lt64 h hb)), some_bind]
    simp only
    rw [reduced_plain (by omega) (by omega) (by omega), some_bind]

theorem Extension_plain {l : List Int} (ha : Asc N l) : chance_Extension_m g o l = some (rd (J (frs o) (ec g (setOf (nl l)))) (dn (frs o)), 0) := by
  have hB := h.dnB
  have hB2 : dn (o.Nodes ++ o.Attacks) ≤ 100000000000 := h.dnB
  have hN := h.gg.hN
  have := ha.len
  have hj : J (frs o) (ec g (setOf (nl l))) ≤ dn (frs o) := J_le
  unfold chance_Extension_m
  rw [args_plain h ha (by omega) (by omega), some_bind, show ((0 : Int) != 0) = false from rfl, cond_false]
  have he := ext_plain h (l := nl l) (fun x hx => by have := nl_lt h ha x hx; omega) (by simp; omega)
  rw [← nl_il h ha] at he
  rw [he, some_bind]
  simp only
  rw [reduced_plain (dn_pos h.fr) (by omega) (by omega), some_bind]
end

/-! odds that are drawn -/
theorem Odds_plain {s : T_deliberationkeep_Src} (hs : SrcOk s) {N : Nat} {g : T_api_Graph} (hg : GVal g) (hn : g.N = (N : Int)) (hN : N ≤ 10) (hl : g.L.length ≤ 10000) {m : Nat} (hm : m ≤ 10) :
    T (law23_odds_m s g (m : Int)) fun r => OOk N g r.1 ∧ SrcOk r.2 ∧ dn (frs r.1) ≤ 5 ^ m := by
  unfold law23_odds_m
  have hgl : GOk N g := ⟨hn, hN, fun p hp => by have := hg.v p hp; rw [hn] at this; exact this, hl⟩
  refine T.bind (P := fun q : T_deliberationkeep_Src × List Fr × List Fr => SrcOk q.1 ∧ q.2.1.length = N ∧ q.2.2.length = g.L.length ∧ (∀ f ∈ q.2.1 ++ q.2.2, FrOk f) ∧ ((q.2.1 ++ q.2.2).filter fun f => !cert f).length ≤ m ∧ dn (q.2.1 ++ q.2.2) ≤ 5 ^ m) ?_
    fun q ⟨h1, h2, h3, h4, h5, h6⟩ => .ret ⟨⟨hgl, hg.s, h2, h3, h4, by simp only; omega⟩, h1, h6⟩
  refine T.loopK (N + g.L.length) (fun k st => k ≤ N + g.L.length ∧ st.2.1 = (k : Int) ∧ ∃ m' : Nat, st.1 = (m' : Int) ∧ m' ≤ m ∧ SrcOk st.2.2.1 ∧ st.2.2.2.1.length = min k N ∧ st.2.2.2.2.length = k - N ∧ (∀ f ∈ st.2.2.2.1 ++ st.2.2.2.2, FrOk f) ∧
    ((st.2.2.2.1 ++ st.2.2.2.2).filter fun f => !cert f).length + m' ≤ m ∧ dn (st.2.2.2.1 ++ st.2.2.2.2) * 5 ^ m' ≤ 5 ^ m)
    ⟨by omega, rfl, m, rfl, by omega, hs, by simp, by simp, by simp, by simp, by simp [dn, J]⟩ ?_
  rintro k ⟨_, _, sr, A, B⟩ ⟨hk, rfl, m', rfl, hm', hsr, hA, hB, hfr, hun, hdn⟩
  dsimp only [law23_odds_l1] at *
  rw [hn, iadd_n (by omega)]
  refine T.cond (fun g1 => ?_) fun g1 => ?_
  · simp at g1
    have hk1 : k < N + g.L.length := by omega
    have dn_snoc : ∀ (l : List Fr) (f : Fr), (∀ x ∈ l, FrOk x) → FrOk f → dn (l ++ [f]) = dn l * (if cert f then 1 else f.Den.toNat) := by
      intro l f hl hf
      induction l with
      | nil => rw [List.nil_append, dn_cons hf]; simp [dn, J]
      | cons x l ih =>
        rw [List.cons_append, dn_cons (hl x (by simp)), dn_cons (hl x (by simp)), ih fun y hy => hl y (by simp [hy])]
        split
        · rfl
        · rw [Nat.mul_assoc]
    have step : ∀ (sr' : T_deliberationkeep_Src) (m2 : Nat) (f : Fr), SrcOk sr' → FrOk f → (cert f = true ∧ m2 ≤ m' ∨ m2 + 1 ≤ m' ∧ f.Den ≤ 5) →
        T ((fun j96 : T_deliberationkeep_Src × Int × T_api_Fraction =>
        bif decide ((k : Int) < (N : Int)) then
          Option.bind (appM 16 A [j96.2.2]) fun t100 =>
          letM (iadd .i64 (k : Int) 1) fun i104 =>
          some (Sum.inr (j96.2.1, i104, j96.1, t100, B))
        else
          Option.bind (appM 16 B [j96.2.2]) fun t102 =>
          letM (iadd .i64 (k : Int) 1) fun i105 =>
          some (Sum.inr (j96.2.1, i105, j96.1, A, t102))) (sr', (m2 : Int), f) : Option (Sum (T_deliberationkeep_Src × List Fr × List Fr) (Int × Int × T_deliberationkeep_Src × List Fr × List Fr)))
        (onO (fun q => SrcOk q.1 ∧ q.2.1.length = N ∧ q.2.2.length = g.L.length ∧ (∀ f ∈ q.2.1 ++ q.2.2, FrOk f) ∧ ((q.2.1 ++ q.2.2).filter fun f => !cert f).length ≤ m ∧ dn (q.2.1 ++ q.2.2) ≤ 5 ^ m) fun st => k < N + g.L.length ∧ k + 1 ≤ N + g.L.length ∧ st.2.1 = ((k + 1 : Nat) : Int) ∧ ∃ m' : Nat, st.1 = (m' : Int) ∧ m' ≤ m ∧ SrcOk st.2.2.1 ∧ st.2.2.2.1.length = min (k + 1) N ∧ st.2.2.2.2.length = k + 1 - N ∧ (∀ f ∈ st.2.2.2.1 ++ st.2.2.2.2, FrOk f) ∧
          ((st.2.2.2.1 ++ st.2.2.2.2).filter fun f => !cert f).length + m' ≤ m ∧ dn (st.2.2.2.1 ++ st.2.2.2.2) * 5 ^ m' ≤ 5 ^ m) := by
      intro sr' m2 f hsr' hf hc
      have hlenAB : ∀ (A' B' : List Fr), A' ++ B' = (A ++ B) ++ [f] → (∀ x ∈ A' ++ B', FrOk x) ∧ ((A' ++ B').filter fun f => !cert f).length + m2 ≤ m ∧ dn (A' ++ B') * 5 ^ m2 ≤ 5 ^ m := by
        intro A' B' e
        rw [e]
        refine ⟨fun x hx => ?_, ?_, ?_⟩
        · rcases List.mem_append.1 hx with hx | hx
          · exact hfr x hx
          · rw [List.mem_singleton.1 hx]; exact hf
        · rw [List.filter_append]
          rcases hc with ⟨hc, h2⟩ | ⟨h2, _⟩
          · rw [List.filter_cons_of_neg (by simp [hc])]; simp only [List.filter_nil, List.append_nil]; omega
          · have : ([f].filter fun f => !cert f).length ≤ 1 := List.length_filter_le _ _
            rw [List.length_append]; omega
        · rw [dn_snoc _ _ hfr hf]
          refine Nat.le_trans ?_ hdn
          rw [Nat.mul_assoc]
          refine Nat.mul_le_mul_left _ ?_
          rcases hc with ⟨hc, h2⟩ | ⟨h2, h5⟩
          · rw [if_pos hc, Nat.one_mul]; exact Nat.pow_le_pow_right (by decide) h2
          · have h6 : (if cert f then 1 else f.Den.toNat) ≤ 5 := by split <;> omega
            exact Nat.le_trans (Nat.mul_le_mul_right _ h6) (by rw [← Nat.pow_succ']; exact Nat.pow_le_pow_right (by decide) h2)
      dsimp only
      refine T.cond (fun g2 => ?_) fun g2 => ?_
      · simp at g2
        have hB0 : B = [] := List.length_eq_zero_iff.1 (by omega)
        subst hB0
        have := hlenAB (A ++ [f]) [] (by simp)
        rw [appM_eq (by simp; omega), some_bind, iadd1 (by omega)]
        exact .letM (.ret ⟨hk1, by omega, rfl, m2, rfl, by omega, hsr', by simp; omega, by simp; omega, this.1, this.2.1, this.2.2⟩)
      · simp at g2
        have := hlenAB A (B ++ [f]) (by simp)
        rw [appM_eq (by simp; omega), some_bind, iadd1 (by omega)]
        exact .letM (.ret ⟨hk1, by omega, rfl, m2, rfl, by omega, hsr', by simp only; omega, by simp; omega, this.1, this.2.1, this.2.2⟩)
    refine T.join ?_
    refine T.bind (N_plain hsr (by omega)) fun t ⟨ht, _⟩ => ?_
    refine T.cond (fun _ => ?_) fun _ => ?_
    · refine T.bind (Range_plain ht (by omega) (by omega) (by omega)) fun t2 ⟨ht2, h1, h2⟩ => ?_
      exact step t2.2 m' ⟨0, t2.1⟩ ht2 ⟨h1, by simp only; omega, by simp, by simp only; omega⟩ (.inl ⟨by simp [cert], Nat.le_refl _⟩)
    · refine T.join ?_
      have one : T ((fun j96 : T_deliberationkeep_Src × Int × T_api_Fraction =>
        bif decide ((k : Int) < (N : Int)) then
          Option.bind (appM 16 A [j96.2.2]) fun t100 =>
          letM (iadd .i64 (k : Int) 1) fun i104 =>
          some (Sum.inr (j96.2.1, i104, j96.1, t100, B))
        else
          Option.bind (appM 16 B [j96.2.2]) fun t102 =>
          letM (iadd .i64 (k : Int) 1) fun i105 =>
          some (Sum.inr (j96.2.1, i105, j96.1, A, t102))) (t.2, (m' : Int), ⟨1, 1⟩) : Option (Sum (T_deliberationkeep_Src × List Fr × List Fr) (Int × Int × T_deliberationkeep_Src × List Fr × List Fr))) _ :=
        step t.2 m' ⟨1, 1⟩ ht ⟨by simp, by simp, by simp, by simp⟩ (.inl ⟨by simp [cert], Nat.le_refl _⟩)
      have all : ∀ b : Bool, T ((fun j88 : Bool =>
          bif j88 then
            bif decide ((m' : Int) > 0) then
              Option.bind (keep_Src_Range_m t.2 2 5) fun t93 =>
              Option.bind (keep_Src_Range_m t93.2 1 (isub .i64 t93.1 1)) fun t94 =>
              letM (isub .i64 (m' : Int) 1) fun n95 =>
              (fun j96 : T_deliberationkeep_Src × Int × T_api_Fraction =>
        bif decide ((k : Int) < (N : Int)) then
          Option.bind (appM 16 A [j96.2.2]) fun t100 =>
          letM (iadd .i64 (k : Int) 1) fun i104 =>
          some (Sum.inr (j96.2.1, i104, j96.1, t100, B))
        else
          Option.bind (appM 16 B [j96.2.2]) fun t102 =>
          letM (iadd .i64 (k : Int) 1) fun i105 =>
          some (Sum.inr (j96.2.1, i105, j96.1, A, t102))) (t94.2, n95, (T_api_Fraction.mk t94.1 t93.1))
            else
              (fun j96 : T_deliberationkeep_Src × Int × T_api_Fraction =>
        bif decide ((k : Int) < (N : Int)) then
          Option.bind (appM 16 A [j96.2.2]) fun t100 =>
          letM (iadd .i64 (k : Int) 1) fun i104 =>
          some (Sum.inr (j96.2.1, i104, j96.1, t100, B))
        else
          Option.bind (appM 16 B [j96.2.2]) fun t102 =>
          letM (iadd .i64 (k : Int) 1) fun i105 =>
          some (Sum.inr (j96.2.1, i105, j96.1, A, t102))) (t.2, (m' : Int), (T_api_Fraction.mk 1 1))
          else
            (fun j96 : T_deliberationkeep_Src × Int × T_api_Fraction =>
        bif decide ((k : Int) < (N : Int)) then
          Option.bind (appM 16 A [j96.2.2]) fun t100 =>
          letM (iadd .i64 (k : Int) 1) fun i104 =>
          some (Sum.inr (j96.2.1, i104, j96.1, t100, B))
        else
          Option.bind (appM 16 B [j96.2.2]) fun t102 =>
          letM (iadd .i64 (k : Int) 1) fun i105 =>
          some (Sum.inr (j96.2.1, i105, j96.1, A, t102))) (t.2, (m' : Int), (T_api_Fraction.mk 1 1))) b : Option (Sum (T_deliberationkeep_Src × List Fr × List Fr) (Int × Int × T_deliberationkeep_Src × List Fr × List Fr))) _ := fun b => by
        refine T.cond (fun _ => T.cond (fun g4 => ?_) fun _ => one) fun _ => one
        simp at g4
        refine T.bind (Range_plain ht (by omega) (by omega) (by omega)) fun t2 ⟨ht2, h1, h2⟩ => ?_
        rw [isub64 (by omega) (by omega)]
        refine T.bind (Range_plain ht2 (by omega) (by omega) (by omega)) fun t3 ⟨ht3, h3, h4⟩ => ?_
        rw [isub1 (by omega), show (m' : Int) - 1 = ((m' - 1 : Nat) : Int) by omega]
        refine .letM ?_
        exact step t3.2 (m' - 1) ⟨t3.1, t2.1⟩ ht3 ⟨by simp only; omega, by simp only; omega, by simp only; omega, by simp only; omega⟩ (.inr ⟨by omega, by simp only; omega⟩)
      exact T.cond (fun _ => all _) fun _ => all _
  · simp at g1
    have e : k = N + g.L.length := by omega
    refine .ret ⟨hsr, by simp only; omega, by simp only; omega, hfr, by simp only; omega, ?_⟩
    exact Nat.le_trans (Nat.le_mul_of_pos_right _ (Nat.pos_of_ne_zero (by have := Nat.pow_pos (n := m') (show 0 < 5 by decide); omega))) hdn
end Go.Dc

set_option linter.unusedVariables false
set_option linter.unusedSimpArgs false
set_option linter.unusedSectionVars false
/-! Sets as lists. -/
namespace Go.Dc

theorem Members_plain {k : Nat} (hk : k < 2 ^ 64) : net_Members_m (k : Int) = some (il (bitsL k)) := by
  unfold net_Members_m
  have : loopC (net_Members_l1 (k : Int)) (0, []) = some (il (bitsL k)) := by
    refine T.eq (T.loopK 64 (fun i s => i ≤ 64 ∧ s.1 = (i : Int) ∧ s.2 = il ((List.range i).filter k.testBit)) ⟨by omega, rfl, rfl⟩ ?_)
    rintro i ⟨_, _⟩ ⟨hi, rfl, rfl⟩
    dsimp only [net_Members_l1] at *
    refine T.cond (fun g1 => ?_) fun g1 => ?_
    · simp at g1
      have hi64 : i < 64 := by omega
      have hlen : ((List.range i).filter k.testBit).length ≤ i := Nat.le_trans (List.length_filter_le _ _) (by simp)
      have hh := Has_plain hk hi64
      unfold network_Set_Has_m at hh
      rw [wrapU (by omega)] at hh ⊢
      cases hs : ishrM .u64 (k : Int) (i : Int) with
      | none => rw [hs] at hh; cases hh
      | some t =>
        rw [hs, some_bind, letM_eq] at hh
        rw [some_bind, iadd1 (by omega), Option.some.inj hh, List.range_succ, List.filter_append]
        cases hb : k.testBit i with
        | true =>
          rw [cond_true, appM_eq (by simp; omega), some_bind]
          refine .letM (.ret ⟨hi64, by omega, rfl, ?_⟩)
          rw [List.filter_cons_of_pos hb]; simp [il]
        | false =>
          rw [cond_false]
          refine .letM (.ret ⟨hi64, by omega, rfl, ?_⟩)
          rw [List.filter_cons_of_neg (by simp [hb])]; simp
    · simp at g1
      have e : i = 64 := by omega
      subst e
      exact .ret rfl
  rw [this, some_bind]

theorem asc_bits {N k : Nat} (hk : k < 2 ^ N) (hN : N ≤ 40) : Asc N (il (bitsL k)) := by
  have hk64 := lt64 hk (by omega)
  refine ⟨?_, fun x hx => ?_⟩
  · have h1 : (bitsL k).Pairwise (· < ·) := List.Pairwise.filter _ List.pairwise_lt_range
    exact List.pairwise_map.2 (h1.imp fun h => by omega)
  · obtain ⟨n, hn, rfl⟩ := il_mem.1 hx
    have := bits_lt hk ((mem_bitsL hk64).1 hn)
    omega
theorem nl_il2 {l : List Nat} : nl (il l) = l := by
  show (l.map _).map Int.toNat = l
  rw [List.map_map]
  conv => rhs; rw [← List.map_id l]
  exact List.map_congr_left fun x _ => by simp
theorem setOf_bits {k : Nat} (hk : k < 2 ^ 64) : setOf (bitsL k) = k := eq_of_bits fun i => by
  rw [Bool.eq_iff_iff, setOf_bit, mem_bitsL hk]

section
variable {N : Nat} {g : T_api_Graph} {o : T_api_Odds} (h : OOk N g o)
include h
theorem wn_ok {has : List Bool} (hl : has.length = (frs o).length) : WOk N g.L has (wn g has) := (wn_spec h.gg (by rw [hl, h.len])).2
end
end Go.Dc

set_option linter.unusedVariables false
set_option linter.unusedSimpArgs false
/-! The grounded labelling of the reference. -/
namespace Go.Dc

def sf (l : List Int) : Nat → Int := fun i => l.getD i 0
theorem idx_sf {l : List Int} {i : Nat} (h : i < l.length) : idxM l (i : Int) = some (sf l i) := idxM_getD h
theorem sf_set {l : List Int} {i j : Nat} {x : Int} (h : i < l.length) : sf (l.set i x) j = if i = j then x else sf l j := getD_set h

/-- a graph, its attacks in whatever order -/
structure GV0 (g : T_api_Graph) : Prop where
  n0 : 0 ≤ g.N
  n1 : g.N ≤ 40
  v : ∀ p ∈ g.L, 0 ≤ p.From ∧ p.From < g.N ∧ 0 ≤ p.To ∧ p.To < g.N

def att (g : T_api_Graph) (a b : Int) : Prop := ∃ p ∈ g.L, p.From = a ∧ p.To = b

theorem nHas_plain {g : T_api_Graph} (hl : g.L.length ≤ 1000000) {a b : Int} : net_Has_m g a b = some (g.L.any fun p => p.From == a && p.To == b) := by
  unfold net_Has_m
  refine any_bind (fun i hi => ?_) ?_
  · simp only [net_Has_l1]
    rw [decide_eq_true (by omega : (i : Int) < g.L.length), idxM_nat hi]
    simp only [cond_true, some_bind]
    rw [iadd1 (by omega)]
    by_cases h1 : g.L[i].From == a
    · by_cases h2 : g.L[i].To == b <;> simp [h1, h2]
    · simp [h1]
  · simp only [net_Has_l1]
    rw [decide_eq_false (by omega)]; rfl

theorem has_iff {g : T_api_Graph} {a b : Int} : (g.L.any fun p => p.From == a && p.To == b) = true ↔ att g a b := by
  simp [att, List.any_eq_true]

theorem nAttacked_plain {g : T_api_Graph} (hl : g.L.length ≤ 1000000) {s : List Int} (hs : s.length ≤ 1000000) {b : Int} : T (net_Attacked_m g s b) fun r => (r = true ↔ ∃ a ∈ s, att g a b) := by
  unfold net_Attacked_m
  have : (loopC (net_Attacked_l1 g s b) 0).bind (sumK (fun a : Bool => some a) fun _ : Unit => some false) = some (s.any fun a => g.L.any fun p => p.From == a && p.To == b) := by
    refine any_bind (fun i hi => ?_) ?_
    · simp only [net_Attacked_l1]
      rw [decide_eq_true (by omega : (i : Int) < s.length), idxM_nat hi]
      simp only [cond_true, some_bind, nHas_plain hl]
      rw [iadd1 (by omega)]
      cases (g.L.any fun p => p.From == s[i] && p.To == b) <;> rfl
    · simp only [net_Attacked_l1]
      rw [decide_eq_false (by omega)]; rfl
  rw [this]
  refine .ret ?_
  rw [List.any_eq_true]
  constructor
  · rintro ⟨a, h1, h2⟩; exact ⟨a, h1, has_iff.1 h2⟩
  · rintro ⟨a, h1, h2⟩; exact ⟨a, h1, has_iff.2 h2⟩

/-- the labels behind some rounds -/
structure Lb (g : T_api_Graph) (r : Nat) (l : Nat → Int) : Prop where
  v : ∀ i : Nat, (i : Int) < g.N → l i = 1 ∨ l i = 2 ∨ l i = 3
  i1 : ∀ i : Nat, (i : Int) < g.N → l i = 1 → ∀ b : Nat, att g b i → l b = 2
  i2 : ∀ i : Nat, (i : Int) < g.N → l i = 1 → ∀ b : Nat, att g i b → l b = 2
  i3 : ∀ i : Nat, (i : Int) < g.N → l i = 2 → ∃ a : Nat, (a : Int) < g.N ∧ att g a i ∧ l a = 1
  i4 : ∀ i : Nat, (i : Int) < g.N → GrN (att g) r i → l i = 1
  i5 : ∀ i : Nat, (i : Int) < g.N → l i = 1 → Gr (att g) i

open Classical in
theorem nGrounded_plain {g : T_api_Graph} (hg : GV0 g) (hl : g.L.length ≤ 1000000) : T (net_Grounded_m g) fun r => r.1.length = g.N.toNat ∧ (∀ i : Nat, (i : Int) < g.N → (sf r.1 i = 1 ∨ sf r.1 i = 2 ∨ sf r.1 i = 3) ∧ (sf r.1 i = 1 ↔ Gr (att g) i)) := by
  obtain ⟨N, hN⟩ : ∃ N : Nat, g.N = (N : Int) := ⟨g.N.toNat, by have := hg.n0; omega⟩
  have h40 := hg.n1
  have hatt : ∀ a b, att g a b → 0 ≤ a ∧ a < (N : Int) ∧ 0 ≤ b ∧ b < (N : Int) := by
    rintro a b ⟨p, hp, rfl, rfl⟩
    have := hg.v p hp; omega
  have nat : ∀ a b, att g a b → ∃ m n : Nat, a = m ∧ b = n ∧ m < N ∧ n < N := fun a b h => by
    have := hatt a b h; exact ⟨a.toNat, b.toNat, by omega, by omega, by omega, by omega⟩
  unfold net_Grounded_m
  rw [hN, mkM_T (by omega), some_bind, some_bind]
  -- all undecided
  refine T.bind (P := fun l => l.length = N ∧ ∀ i, i < N → sf l i = 3) ?_ fun l0 ⟨hl0, h3⟩ => ?_
  · refine T.loopK N (fun i s => s.1 = (i : Int) ∧ i ≤ N ∧ s.2.length = N ∧ ∀ j, j < i → sf s.2 j = 3) ⟨rfl, by omega, by simp, by simp⟩ ?_
    rintro i ⟨_, l⟩ ⟨rfl, hi, hll, hj⟩
    dsimp only [net_Grounded_l1] at *
    rw [hN]
    refine T.cond (fun h => ?_) fun h => ?_
    · simp at h
      rw [idx_sf (by omega), some_bind, iadd1 (by omega)]
      refine .letM (.ret ⟨h, rfl, by omega, by simpa using hll, fun j hj2 => ?_⟩)
      dsimp only
      rw [Int.toNat_natCast, sf_set (by omega)]
      by_cases e : i = j
      · rw [if_pos e]
      · rw [if_neg e]; exact hj j (by omega)
    · simp at h
      exact .ret ⟨hll, fun j hj2 => hj j (by omega)⟩
  -- rounds
  refine T.bind (P := fun q => q.1.length = N ∧ Lb g (N + 1) (sf q.1)) ?_ fun q ⟨hq, hb⟩ =>   .ret ⟨by rw [hq]; omega, fun i hi => ⟨hb.v i (by omega), hb.i5 i (by omega), fun h => hb.i4 i (by omega) ((Gr.bound (n := N) (fun a b h => ⟨(hatt a b h).1, (hatt a b h).2.1⟩) (by omega) (by omega) h).mono (by omega))⟩⟩
  refine T.loopK (N + 1) (fun r s => s.1 = ((r + 1 : Nat) : Int) ∧ r ≤ N + 1 ∧ s.2.1.length = N ∧ s.2.2.length = N ∧ Lb g r (sf s.2.1)) ⟨rfl, by omega, hl0, by simp, ?_⟩ ?_
  · exact ⟨fun i hi => .inr (.inr (h3 i (by omega))), fun i hi h => by rw [h3 i (by omega)] at h; omega, fun i hi h => by rw [h3 i (by omega)] at h; omega,
      fun i hi h => by rw [h3 i (by omega)] at h; omega, fun i _ h => h.elim, fun i hi h => by rw [h3 i (by omega)] at h; omega⟩
  rintro r ⟨_, l, rk⟩ ⟨rfl, hr, hll, hrk, hb⟩
  dsimp only [net_Grounded_l2] at *
  rw [hN, iadd1 (by omega)]
  refine T.cond (fun h => ?_) fun h => ?_
  rotate_left
  · simp at h
    have e : r = N + 1 := by omega
    exact .ret ⟨hll, e ▸ hb⟩
  simp at h
  -- the nodes of this round
  refine T.bind (P := fun now => now.length ≤ N ∧ ∀ x : Int, x ∈ now ↔ ∃ i : Nat, x = i ∧ i < N ∧ sf l i = 3 ∧ ∀ b : Nat, att g b i → sf l b = 2) ?_ fun now ⟨hnl, hnow⟩ => ?_
  · refine T.loopK N (fun i s => s.1 = (i : Int) ∧ i ≤ N ∧ s.2.length ≤ i ∧ ∀ x : Int, x ∈ s.2 ↔ ∃ j : Nat, x = j ∧ j < i ∧ sf l j = 3 ∧ ∀ b : Nat, att g b j → sf l b = 2) ⟨rfl, by omega, by simp, by simp⟩ ?_
    rintro i ⟨_, now⟩ ⟨rfl, hi, hnl, hnow⟩
    dsimp only [net_Grounded_l3] at *
    rw [hN]
    refine T.cond (fun h2 => ?_) fun h2 => ?_
    rotate_left
    · simp at h2
      have e : i = N := by omega
      subst e
      exact .ret ⟨hnl, hnow⟩
    simp at h2
    rw [idx_sf (by omega), some_bind, iadd1 (by omega)]
    refine T.bind (P := fun ok => (ok = true ↔ sf l i = 3 ∧ ∀ b : Nat, att g b i → sf l b = 2)) ?_ fun ok hok => ?_
    · refine T.loopK N (fun b s => s.2 = (b : Int) ∧ b ≤ N ∧ (s.1 = true ↔ sf l i = 3 ∧ ∀ c : Nat, c < b → att g c i → sf l c = 2)) ⟨rfl, by omega, by simp⟩ ?_
      rintro b ⟨ok, _⟩ ⟨rfl, hbl, hok⟩
      dsimp only [net_Grounded_l4] at *
      rw [hN]
      refine T.cond (fun h5 => ?_) fun h5 => ?_
      rotate_left
      · simp at h5
        refine .ret (show (ok = true ↔ _) from ?_)
        rw [hok]
        constructor
        · rintro ⟨h6, h7⟩
          refine ⟨h6, fun c hc => h7 c ?_ hc⟩
          obtain ⟨m, n, h8, _, h9, _⟩ := nat _ _ hc
          omega
        · rintro ⟨h6, h7⟩; exact ⟨h6, fun c _ hc => h7 c hc⟩
      simp at h5
      rw [nHas_plain hl, some_bind, iadd1 (by omega), idx_sf (by omega), some_bind]
      have stp : ∀ ok' : Bool, (ok' = true ↔ ok = true ∧ (att g b i → sf l b = 2)) → T (some (Sum.inr (ok', ((b + 1 : Nat) : Int))) : Option (Sum Bool (Bool × Int))) (onO (fun ok => (ok = true ↔ sf l i = 3 ∧ ∀ b : Nat, att g b i → sf l b = 2)) fun s' => b < N ∧ s'.2 = ((b + 1 : Nat) : Int) ∧ b + 1 ≤ N ∧ (s'.1 = true ↔ sf l i = 3 ∧ ∀ c : Nat, c < b + 1 → att g c i → sf l c = 2)) := fun ok' ho => .ret ⟨h5, rfl, by omega, by
        dsimp only
        rw [ho, hok]
        constructor
        · rintro ⟨⟨h6, h7⟩, h8⟩
          refine ⟨h6, fun c hc hca => ?_⟩
          by_cases e : c = b
          · subst e; exact h8 hca
          · exact h7 c (by omega) hca
        · rintro ⟨h6, h7⟩; exact ⟨⟨h6, fun c hc => h7 c (by omega)⟩, h7 b (by omega)⟩⟩
      refine T.cond (fun h6 => ?_) fun h6 => .letM (stp false (by simp [h6]))
      refine T.cond (fun h7 => .letM (stp true ?_)) fun h7 => .letM (stp _ ?_)
      · have : ¬ att g b i := fun hh => by rw [has_iff.2 hh] at h7; cases h7
        simp [h6, this]
      · have : att g b i := has_iff.1 (by simpa using h7)
        simp [h6, this]
    · have new : ∀ (P : Prop), (sf l i = 3 ∧ ∀ b : Nat, att g b i → sf l b = 2) = P → ∀ x : Int, (∃ j : Nat, x = j ∧ j < i + 1 ∧ sf l j = 3 ∧ ∀ b : Nat, att g b j → sf l b = 2) ↔ x ∈ now ∨ (x = i ∧ P) := by
        rintro _ rfl x
        rw [hnow]
        constructor
        · rintro ⟨j, h6, h7, h8⟩
          by_cases e : j = i
          · subst e; exact .inr ⟨h6, h8⟩
          · exact .inl ⟨j, h6, by omega, h8⟩
        · rintro (⟨j, h6, h7, h8⟩ | ⟨h6, h7⟩)
          · exact ⟨j, h6, by omega, h8⟩
          · exact ⟨i, h6, by omega, h7⟩
      refine T.cond (fun h6 => ?_) fun h6 => ?_
      · rw [appM_eq (by simp; omega), some_bind]
        refine .letM (.ret ⟨h2, rfl, by omega, by simp; omega, fun x => ?_⟩)
        rw [new True (eq_true (hok.1 h6))]
        simp
      · refine .letM (.ret ⟨h2, rfl, by omega, by dsimp only; omega, fun x => ?_⟩)
        rw [new False (eq_false fun hh => by rw [← hok, h6] at hh; cases hh)]
        simp
  -- they are in
  refine T.bind (P := fun q => q.1.length = N ∧ q.2.length = N ∧ ∀ i, i < N → sf q.1 i = if (i : Int) ∈ now then 1 else sf l i) ?_ fun q ⟨hq1, hq2, hq⟩ => ?_
  · refine T.loopK now.length (fun k s => s.1 = (k : Int) ∧ k ≤ now.length ∧ s.2.1.length = N ∧ s.2.2.length = N ∧ ∀ i, i < N → sf s.2.1 i = if (i : Int) ∈ now.take k then 1 else sf l i) ⟨rfl, by omega, hll, hrk, by simp⟩ ?_
    rintro k ⟨_, l', rk'⟩ ⟨rfl, hk, h1, h2, h3⟩
    dsimp only [net_Grounded_l5] at *
    refine T.cond (fun h4 => ?_) fun h4 => ?_
    rotate_left
    · simp at h4
      rw [List.take_of_length_le (by omega)] at h3
      exact .ret ⟨h1, h2, h3⟩
    simp at h4
    obtain ⟨i, hi, hiN, _⟩ := (hnow now[k]).1 (List.getElem_mem h4)
    rw [idxM_nat h4, some_bind, hi, idx_sf (by omega), some_bind, idx_sf (by omega), some_bind, iadd1 (by omega)]
    refine .ret ⟨h4, rfl, by omega, by simpa using h1, by simpa using h2, fun j hj => ?_⟩
    dsimp only
    rw [Int.toNat_natCast, sf_set (by omega), List.take_succ_eq_append_getElem h4, hi]
    simp only [List.mem_append, List.mem_singleton]
    by_cases e : i = j
    · subst e; simp
    · rw [if_neg e, h3 j hj]
      have : ¬ (j : Int) = i := by omega
      simp [this]
  -- and what they attack is out
  refine T.bind (P := fun q' => q'.1.length = N ∧ q'.2.length = N ∧ ∀ i, i < N → sf q'.1 i = if sf q.1 i = 3 ∧ ∃ a ∈ now, att g a i then 2 else sf q.1 i) ?_ fun q' ⟨hr1, hr2, hr3⟩ => ?_
  · refine T.loopK N (fun k s => s.1 = (k : Int) ∧ k ≤ N ∧ s.2.1.length = N ∧ s.2.2.length = N ∧ ∀ i, i < N → sf s.2.1 i = if i < k ∧ sf q.1 i = 3 ∧ ∃ a ∈ now, att g a i then 2 else sf q.1 i) ⟨rfl, by omega, hq1, hq2, by simp⟩ ?_
    rintro k ⟨_, l', rk'⟩ ⟨rfl, hk, h1, h2, h3⟩
    dsimp only [net_Grounded_l6] at *
    rw [hN]
    refine T.cond (fun h4 => ?_) fun h4 => ?_
    rotate_left
    · simp at h4
      refine .ret ⟨h1, h2, fun i hi => ?_⟩
      dsimp only
      rw [h3 i hi]
      simp [show i < k by omega]
    simp at h4
    have hk3 : sf l' k = sf q.1 k := by rw [h3 k h4]; simp
    rw [iadd1 (by omega), idx_sf (by omega), some_bind]
    refine T.joinP (fun j => (j = true ↔ sf q.1 k = 3 ∧ ∃ a ∈ now, att g a k)) (fun j hj => ?_) fun kk hkk => ?_
    · refine T.cond (fun h5 => ?_) fun h5 => ?_
      · rw [idx_sf (by omega), some_bind]
        refine .letM (.ret ⟨h4, rfl, by omega, by simpa using h1, by simpa using h2, fun i hi => ?_⟩)
        dsimp only
        rw [Int.toNat_natCast, sf_set (by omega)]
        by_cases e : k = i
        · subst e; rw [if_pos rfl, if_pos ⟨by omega, hj.1 h5⟩]
        · rw [if_neg e, h3 i hi]
          have : i < k + 1 ↔ i < k := by omega
          simp only [this]
      · refine .letM (.ret ⟨h4, rfl, by omega, h1, h2, fun i hi => ?_⟩)
        dsimp only
        rw [h3 i hi]
        by_cases e : k = i
        · subst e
          have : ¬ (sf q.1 k = 3 ∧ ∃ a ∈ now, att g a k) := fun hh => by rw [hj.2 hh] at h5; cases h5
          simp [this]
        · have : i < k + 1 ↔ i < k := by omega
          simp only [this]
    · rw [hk3]
      refine T.cond (fun h5 => ?_) fun h5 => hkk _ ?_
      · exact T.bind (nAttacked_plain hl (by omega)) fun r hr => hkk _ (by rw [hr]; simp at h5; simp [h5])
      · simp at h5; simp [h5]
  -- the labels behind this round
  rw [iadd1 (by omega)]
  refine .letM (.ret ⟨by omega, rfl, by omega, hr1, hr2, ?_⟩)
  have val : ∀ i, i < N → (sf q'.1 i = 1 ↔ sf l i = 1 ∨ (i : Int) ∈ now) := fun i hi => by
    rw [hr3 i hi, hq i hi]
    by_cases h1 : (i : Int) ∈ now
    · simp [h1]
    · by_cases h2 : sf l i = 3
      · by_cases h3 : ∃ a ∈ now, att g a i <;> simp [h1, h2, h3]
      · simp [h1, h2]
  have val2 : ∀ i, i < N → (sf q'.1 i = 2 ↔ sf l i = 2 ∨ (sf l i = 3 ∧ (i : Int) ∉ now ∧ ∃ a ∈ now, att g a i)) := fun i hi => by
    rw [hr3 i hi, hq i hi]
    by_cases h1 : (i : Int) ∈ now
    · obtain ⟨j, e, _, h3, _⟩ := (hnow _).1 h1
      have e' : j = i := by omega
      subst e'
      simp [h1, h3]
    · by_cases h2 : sf l i = 3
      · by_cases h3 : ∃ a ∈ now, att g a i
        · simp [h1, h2, h3]
        · simp [h1, h2, h3]
      · simp [h1, h2]
  have nowi : ∀ i : Nat, (i : Int) ∈ now → i < N ∧ sf l i = 3 ∧ ∀ b : Nat, att g b i → sf l b = 2 := fun i hi => by
    obtain ⟨j, e, h1, h2, h3⟩ := (hnow _).1 hi
    have e' : j = i := by omega
    subst e'
    exact ⟨h1, h2, h3⟩
  have inow : ∀ i : Nat, i < N → sf l i = 3 → (∀ b : Nat, att g b i → sf l b = 2) → (i : Int) ∈ now := fun i h1 h2 h3 => (hnow _).2 ⟨i, rfl, h1, h2, h3⟩
  have lt : ∀ a b : Nat, att g a b → a < N ∧ b < N := fun a b h => by have := hatt _ _ h; omega
  -- what an in node attacks
  have i2' : ∀ i : Nat, i < N → sf q'.1 i = 1 → ∀ b : Nat, att g i b → sf q'.1 b = 2 := fun i hi h1 b hb' => by
    have hbN := (lt _ _ hb').2
    rw [val2 b hbN]
    rcases (val i hi).1 h1 with h2 | h2
    · exact .inl (hb.i2 i (by omega) h2 b hb')
    · have h3 := nowi i h2
      rcases hb.v b (by omega) with h4 | h4 | h4
      · have := hb.i1 b (by omega) h4 i hb'; omega
      · exact .inl h4
      · refine .inr ⟨h4, fun h5 => ?_, _, h2, hb'⟩
        have := (nowi b h5).2.2 i hb'; omega
  have i5' : ∀ i : Nat, i < N → sf q'.1 i = 1 → Gr (att g) i := fun i hi h1 => by
    rcases (val i hi).1 h1 with h2 | h2
    · exact hb.i5 i (by omega) h2
    · refine Gr.mk (n := N) (fun a b h => ⟨(hatt a b h).1, (hatt a b h).2.1⟩) fun b hbi => ?_
      obtain ⟨m, _, rfl, _, hm, _⟩ := nat _ _ hbi
      obtain ⟨a, ha, h3, h4⟩ := hb.i3 m (by omega) ((nowi i h2).2.2 m hbi)
      exact ⟨a, h3, hb.i5 a ha h4⟩
  refine ⟨fun i hi => ?_, fun i hi h1 b hbi => ?_, fun i hi h1 b hbi => i2' i (by omega) h1 b hbi, fun i hi h1 => ?_, fun i hi h1 => ?_, fun i hi h1 => i5' i (by omega) h1⟩
  · rw [hr3 i (by omega), hq i (by omega)]
    rcases hb.v i hi with h1 | h1 | h1 <;> by_cases h2 : (i : Int) ∈ now <;> by_cases h3 : ∃ a ∈ now, att g a i <;> simp [h1, h2, h3]
  · rw [val2 b (lt _ _ hbi).1]
    rcases (val i (by omega)).1 h1 with h2 | h2
    · exact .inl (hb.i1 i hi h2 b hbi)
    · exact .inl ((nowi i h2).2.2 b hbi)
  · rcases (val2 i (by omega)).1 h1 with h2 | ⟨_, _, a, ha, h2⟩
    · obtain ⟨a, h3, h4, h5⟩ := hb.i3 i hi h2
      exact ⟨a, h3, h4, (val a (by omega)).2 (.inl h5)⟩
    · obtain ⟨m, _, rfl, _, hm, _⟩ := nat _ _ h2
      exact ⟨m, by omega, h2, (val m hm).2 (.inr ha)⟩
  · rw [val i (by omega)]
    have hall : ∀ b : Nat, att g b i → sf l b = 2 := fun b hbi => by
      obtain ⟨c, h2, h3⟩ := h1 b hbi
      obtain ⟨m, _, rfl, _, hm, _⟩ := nat _ _ h2
      exact hb.i2 m (by omega) (hb.i4 m (by omega) h3) b h2
    rcases hb.v i hi with h2 | h2 | h2
    · exact .inl h2
    · obtain ⟨a, h3, h4, h5⟩ := hb.i3 i hi h2
      have := hall a h4; omega
    · exact .inr (inow i (by omega) h2 hall)
end Go.Dc

set_option linter.unusedVariables false
set_option linter.unusedSimpArgs false
set_option linter.unusedSectionVars false
/-! The reference's acceptance, and the program's answers. -/
namespace Go.Dc

theorem nIn_plain {l : List Int} {x : Int} (hl : l.length ≤ 1000000) : net_In_m l x = some (decide (x ∈ l)) := by
  unfold net_In_m
  rw [any_bind (l := l) (p := fun y => y == x)]
  · congr 1
    rw [Bool.eq_iff_iff]
    simp only [List.any_eq_true, beq_iff_eq, decide_eq_true_eq]
    exact ⟨fun ⟨y, h1, h2⟩ => h2 ▸ h1, fun h => ⟨x, h, rfl⟩⟩
  · intro i hi
    unfold net_In_l1
    rw [show decide ((i : Int) < (l.length : Int)) = true from decide_eq_true (by omega), idxM_nat hi, iadd1 (by omega)]
    simp only [cond_true, some_bind]
    cases l[i] == x <;> rfl
  · unfold net_In_l1
    rw [show decide ((l.length : Int) < (l.length : Int)) = false from decide_eq_false (by omega)]; rfl

theorem Without_plain {g : T_api_Graph} {gone : List Int} (hl : g.L.length ≤ 1000000) (hgl : gone.length ≤ 1000000) :
    T (net_Without_m g gone) fun r => r.N = g.N ∧ r.L.length ≤ g.L.length ∧ ∀ p, p ∈ r.L ↔ p ∈ g.L ∧ p.From ∉ gone ∧ p.To ∉ gone := by
  unfold net_Without_m
  refine T.bind (P := fun q : List Pr => q.length ≤ g.L.length ∧ ∀ p, p ∈ q ↔ p ∈ g.L ∧ p.From ∉ gone ∧ p.To ∉ gone) ?_ fun q hq => .ret ⟨rfl, hq.1, hq.2⟩
  refine T.loopK g.L.length (fun k s => k ≤ g.L.length ∧ s.1 = (k : Int) ∧ s.2.length ≤ k ∧ ∀ p, p ∈ s.2 ↔ p ∈ g.L.take k ∧ p.From ∉ gone ∧ p.To ∉ gone) ⟨by omega, rfl, by simp, by simp⟩ ?_
  rintro k ⟨_, l⟩ ⟨hk, rfl, hlen, hm⟩
  dsimp only [net_Without_l1] at *
  refine T.cond (fun g1 => ?_) fun g1 => ?_
  · simp at g1
    have htk : g.L.take (k + 1) = g.L.take k ++ [g.L[k]] := by rw [List.take_add_one, List.getElem?_eq_getElem g1]; rfl
    rw [idxM_nat g1, some_bind, iadd1 (by omega)]
    have keep : ∀ b : Bool, (b = true ↔ g.L[k].From ∉ gone ∧ g.L[k].To ∉ gone) → T ((fun j57 : Bool =>
        bif j57 then
          Option.bind (some g.L[k]) fun t61 =>
          Option.bind (appM 16 l [t61]) fun t62 =>
          letM ((k + 1 : Nat) : Int) fun i64x =>
          some (Sum.inr (i64x, t62))
        else
          letM ((k + 1 : Nat) : Int) fun i65 =>
          some (Sum.inr (i65, l))) b : Option (Sum (List Pr) (Int × List Pr))) (onO (fun q : List Pr => q.length ≤ g.L.length ∧ ∀ p, p ∈ q ↔ p ∈ g.L ∧ p.From ∉ gone ∧ p.To ∉ gone) fun s => k < g.L.length ∧ k + 1 ≤ g.L.length ∧ s.1 = ((k + 1 : Nat) : Int) ∧ s.2.length ≤ k + 1 ∧ ∀ p, p ∈ s.2 ↔ p ∈ g.L.take (k + 1) ∧ p.From ∉ gone ∧ p.To ∉ gone) := by
      intro b hb
      dsimp only
      refine T.cond (fun g2 => ?_) fun g2 => ?_
      · rw [some_bind, appM_eq (by simp; omega), some_bind]
        refine .letM (.ret ⟨g1, by omega, rfl, by simp; omega, fun p => ?_⟩)
        simp only
        rw [htk, List.mem_append, List.mem_append, hm, List.mem_singleton]
        constructor
        · rintro (⟨h1, h2⟩ | rfl)
          · exact ⟨.inl h1, h2⟩
          · exact ⟨.inr rfl, hb.1 g2⟩
        · rintro ⟨h1 | h1, h2⟩
          · exact .inl ⟨h1, h2⟩
          · exact .inr h1
      · refine .letM (.ret ⟨g1, by omega, rfl, by simp only; omega, fun p => ?_⟩)
        simp only
        rw [htk, List.mem_append, hm, List.mem_singleton]
        constructor
        · rintro ⟨h1, h2⟩; exact ⟨.inl h1, h2⟩
        · rintro ⟨h1 | rfl, h2⟩
          · exact ⟨h1, h2⟩
          · rw [hb.2 h2] at g2; cases g2
    refine T.join ?_
    rw [some_bind, nIn_plain hgl, some_bind]
    refine T.cond (fun g2 => ?_) fun g2 => keep false ?_
    · rw [some_bind, nIn_plain hgl, some_bind]
      refine keep _ ?_
      simp at g2; simp [g2]
    · simp at g2; simp [g2]
  · simp at g1
    have e : k = g.L.length := by omega
    refine .ret ⟨by omega, fun p => ?_⟩
    rw [hm, e, List.take_length]

/-- the graph h stands for the net n: its attacks are those of n -/
structure Sim (N : Nat) (n : Nt) (h : T_api_Graph) : Prop where
  ok : NtOk N n
  hN : N ≤ 10
  nn : h.N = (N : Int)
  l : h.L.length ≤ 10000
  v : ∀ p ∈ h.L, 0 ≤ p.From ∧ p.From < N ∧ 0 ≤ p.To ∧ p.To < N
  at_ : ∀ i j, n.a i j ↔ att h (i : Int) (j : Int)

section
variable {N : Nat} {n : Nt} {h : T_api_Graph} (s : Sim N n h)
include s
theorem Sim.gv : GV0 h := ⟨by rw [s.nn]; omega, by rw [s.nn]; have := s.hN; omega, fun p hp => by rw [s.nn]; exact s.v p hp⟩
theorem Sim.nat {a b : Int} (hab : att h a b) : ∃ i j : Nat, a = i ∧ b = j ∧ n.a i j := by
  obtain ⟨p, hp, rfl, rfl⟩ := hab
  have := s.v p hp
  obtain ⟨i, hi⟩ := Int.eq_ofNat_of_zero_le this.1
  obtain ⟨j, hj⟩ := Int.eq_ofNat_of_zero_le this.2.2.1
  refine ⟨i, j, hi, hj, (s.at_ i j).2 ⟨p, hp, hi, hj⟩⟩

theorem bits_in {y i : Nat} (hy : y < 2 ^ N) : (i : Int) ∈ il (bitsL y) ↔ y.testBit i = true := by
  rw [il_mem, ← mem_bitsL (lt64 hy (by have := s.hN; omega))]
  exact ⟨fun ⟨m, hm, e⟩ => by have : i = m := by omega
                              rw [this]; exact hm, fun hm => ⟨i, hm, rfl⟩⟩

theorem atk_list {y : Nat} (hy : y < 2 ^ N) {i : Nat} : (∃ a ∈ il (bitsL y), att h a (i : Int)) ↔ ∃ k, y.testBit k = true ∧ n.a k i := by
  constructor
  · rintro ⟨a, ha, hat⟩
    obtain ⟨k, j, rfl, e, hk⟩ := s.nat hat
    have : j = i := by omega
    subst this
    exact ⟨k, (bits_in s hy).1 ha, hk⟩
  · rintro ⟨k, hk, hka⟩
    exact ⟨k, (bits_in s hy).2 hk, (s.at_ k i).1 hka⟩

open Classical in
theorem nFree_plain {y : Nat} (hy : y < 2 ^ N) : net_Free_m h (il (bitsL y)) = some (decide (FreeP n y)) := by
  have hb := bitsL_len (s := y)
  have hN := s.hN
  have hl := s.l
  unfold net_Free_m
  refine T.eq (T.bind (P := fun r : Sum Bool Unit => match r with | .inl b => b = false ∧ ¬ FreeP n y | .inr _ => FreeP n y) ?_ ?_)
  · refine T.loopK (bitsL y).length (fun k st => k ≤ (bitsL y).length ∧ st = (k : Int) ∧ ∀ j (hj : j < (bitsL y).length), j < k → ¬ ∃ i, y.testBit i = true ∧ n.a i (bitsL y)[j]) ⟨by omega, rfl, fun j _ hj => by omega⟩ ?_
    rintro k _ ⟨hk, rfl, hinv⟩
    dsimp only [net_Free_l1] at *
    rw [il_len]
    refine T.cond (fun g1 => ?_) fun g1 => ?_
    · simp at g1
      have e0 : (bitsL y).getD k 0 = (bitsL y)[k] := by simp [List.getD, g1]
      rw [il_idx g1, some_bind, e0, iadd1 (by omega)]
      refine T.bind (nAttacked_plain (by omega) (by simp; omega)) fun r hr => ?_
      rw [atk_list s hy] at hr
      refine T.cond (fun g2 => .ret ⟨rfl, fun hf => ?_⟩) fun g2 => .ret ⟨g1, by omega, rfl, fun j hj hjk => ?_⟩
      · obtain ⟨i, h1, h2⟩ := hr.1 g2
        exact hf i _ h1 ((mem_bitsL (lt64 hy (by omega))).1 (List.getElem_mem g1)) h2
      · by_cases e : j = k
        · subst e; exact fun hx => by rw [hr.2 hx] at g2; cases g2
        · exact hinv j hj (by omega)
    · simp at g1
      refine .ret fun i j hi hj hij => ?_
      obtain ⟨q, hq, e⟩ := List.mem_iff_getElem.1 ((mem_bitsL (lt64 hy (by omega))).2 hj)
      exact hinv q hq (by omega) ⟨i, hi, by rw [e]; exact hij⟩
  · rintro (b | u) hr
    · obtain ⟨rfl, hn⟩ := hr
      rw [sumK_inl]; exact .ret (decide_eq_false hn).symm
    · rw [sumK_inr]; exact .ret (decide_eq_true hr).symm

open Classical in
theorem nAdm_plain {y : Nat} (hy : y < 2 ^ N) : net_Admissible_m h (il (bitsL y)) = some (decide (AdmP n y)) := by
  have hb := bitsL_len (s := y)
  have hN := s.hN
  have hl := s.l
  unfold net_Admissible_m
  refine T.eq (T.bind (P := fun r : Sum Bool Unit => match r with | .inl b => b = false ∧ ¬ AdmP n y | .inr _ => ∀ i j, y.testBit j = true → n.a i j → ∃ k, y.testBit k = true ∧ n.a k i) ?_ ?_)
  · refine T.loopK h.L.length (fun k st => k ≤ h.L.length ∧ st = (k : Int) ∧ ∀ p ∈ h.L.take k, p.To ∈ il (bitsL y) → ∃ a ∈ il (bitsL y), att h a p.From) ⟨by omega, rfl, by simp⟩ ?_
    rintro k _ ⟨hk, rfl, hinv⟩
    dsimp only [net_Admissible_l1] at *
    refine T.cond (fun g1 => ?_) fun g1 => ?_
    · simp at g1
      have htk : h.L.take (k + 1) = h.L.take k ++ [h.L[k]] := by rw [List.take_add_one, List.getElem?_eq_getElem g1]; rfl
      rw [idxM_nat g1, some_bind, nIn_plain (by simp; omega), some_bind, some_bind, iadd1 (by omega)]
      have nxt : (h.L[k].To ∈ il (bitsL y) → ∃ a ∈ il (bitsL y), att h a h.L[k].From) → ∀ p ∈ h.L.take (k + 1), p.To ∈ il (bitsL y) → ∃ a ∈ il (bitsL y), att h a p.From := fun hx p hp => by
        rw [htk] at hp
        rcases List.mem_append.1 hp with hp | hp
        · exact hinv p hp
        · rw [List.mem_singleton.1 hp]; exact hx
      refine T.cond (fun g2 => ?_) fun g2 => .letM (.ret ⟨g1, by omega, rfl, nxt fun hx => ?_⟩)
      · have g2' := of_decide_eq_true g2
        refine T.bind (nAttacked_plain (by omega) (by simp; omega)) fun r hr => ?_
        refine T.cond (fun g3 => .ret ⟨rfl, fun ha => ?_⟩) fun g3 => .letM (.ret ⟨g1, by omega, rfl, nxt fun _ => hr.1 (by simpa using g3)⟩)
        have hp := s.v _ (List.getElem_mem g1)
        obtain ⟨i, hi⟩ := Int.eq_ofNat_of_zero_le hp.1
        obtain ⟨j, hj⟩ := Int.eq_ofNat_of_zero_le hp.2.2.1
        rw [hj] at g2'
        obtain ⟨q, h1, h2⟩ := ha.2 i j ((bits_in s hy).1 g2') ((s.at_ i j).2 ⟨_, List.getElem_mem g1, hi, hj⟩)
        have : r = true := hr.2 (by rw [hi]; exact (atk_list s hy).2 ⟨q, h1, h2⟩)
        rw [this] at g3; cases g3
      · exact absurd hx (of_decide_eq_false g2)
    · simp at g1
      have e : k = h.L.length := by omega
      rw [e, List.take_length] at hinv
      refine .ret fun i j hj hij => ?_
      obtain ⟨p, hp, h1, h2⟩ := (s.at_ i j).1 hij
      have := hinv p hp (by rw [h2]; exact (bits_in s hy).2 hj)
      rw [h1] at this
      exact (atk_list s hy).1 this
  · rintro (b | u) hr
    · obtain ⟨rfl, hn⟩ := hr
      rw [sumK_inl]; exact .ret (decide_eq_false hn).symm
    · rw [sumK_inr, nFree_plain s hy, some_bind]
      refine .ret ?_
      by_cases hf : FreeP n y
      · rw [decide_eq_true hf]; exact (decide_eq_true ⟨hf, hr⟩).symm
      · rw [decide_eq_false hf]; exact (decide_eq_false fun hx => hf hx.1).symm

/-- stable among all nodes -/
def StG (N : Nat) (n : Nt) (y : Nat) : Prop := FreeP n y ∧ ∀ i, i < N → y.testBit i = false → ∃ k, y.testBit k = true ∧ n.a k i

open Classical in
theorem nStable_plain {y : Nat} (hy : y < 2 ^ N) : net_Stable_m h (il (bitsL y)) = some (decide (StG N n y)) := by
  have hb := bitsL_len (s := y)
  have hN := s.hN
  have hl := s.l
  unfold net_Stable_m
  refine T.eq (T.bind (P := fun r : Sum Bool Unit => match r with | .inl b => b = false ∧ ¬ StG N n y | .inr _ => ∀ i, i < N → y.testBit i = false → ∃ k, y.testBit k = true ∧ n.a k i) ?_ ?_)
  · refine T.loopK N (fun k st => k ≤ N ∧ st = (k : Int) ∧ ∀ i, i < k → y.testBit i = false → ∃ q, y.testBit q = true ∧ n.a q i) ⟨by omega, rfl, fun i hi => by omega⟩ ?_
    rintro k _ ⟨hk, rfl, hinv⟩
    dsimp only [net_Stable_l1] at *
    rw [s.nn]
    refine T.cond (fun g1 => ?_) fun g1 => ?_
    · simp at g1
      have hmem : decide ((k : Int) ∈ il (bitsL y)) = y.testBit k := by
        rw [Bool.eq_iff_iff, decide_eq_true_eq]; exact bits_in s hy
      rw [nIn_plain (by simp; omega), some_bind, iadd1 (by omega), hmem]
      refine T.cond (fun g2 => ?_) fun g2 => .ret ⟨g1, by omega, rfl, fun i hi hf => ?_⟩
      · refine T.bind (nAttacked_plain (by omega) (by simp; omega)) fun r hr => ?_
        rw [atk_list s hy] at hr
        refine T.cond (fun g3 => .ret ⟨rfl, fun ha => ?_⟩) fun g3 => .ret ⟨g1, by omega, rfl, fun i hi hf => ?_⟩
        · rw [hr.2 (ha.2 k g1 (by simpa using g2))] at g3; cases g3
        · by_cases e : i = k
          · subst e; exact hr.1 (by simpa using g3)
          · exact hinv i (by omega) hf
      · by_cases e : i = k
        · subst e; rw [hf] at g2; cases g2
        · exact hinv i (by omega) hf
    · simp at g1
      have e : k = N := by omega
      exact .ret (e ▸ hinv)
  · rintro (b | u) hr
    · obtain ⟨rfl, hn⟩ := hr
      rw [sumK_inl]; exact .ret (decide_eq_false hn).symm
    · rw [sumK_inr, nFree_plain s hy, some_bind]
      refine .ret ?_
      by_cases hf : FreeP n y
      · rw [decide_eq_true hf]; exact (decide_eq_true ⟨hf, hr⟩).symm
      · rw [decide_eq_false hf]; exact (decide_eq_false fun hx => hf hx.1).symm

theorem stg_iff {y : Nat} : StG N n y ↔ (∀ i, i < N → n.all.testBit i = false → y.testBit i = true) ∧ StbP n (y &&& n.all) := by
  have hbit : ∀ i, (y &&& n.all).testBit i = true ↔ y.testBit i = true ∧ n.all.testBit i = true := fun i => by rw [Nat.testBit_and, Bool.and_eq_true]
  constructor
  · rintro ⟨hf, hs⟩
    refine ⟨fun i hi hna => ?_, fun i j hi hj => hf i j ((hbit i).1 hi).1 ((hbit j).1 hj).1, fun i hi hni => ?_⟩
    · cases hb : y.testBit i
      · obtain ⟨k, _, hk⟩ := hs i hi hb
        rw [(s.ok.ab k i hk).2] at hna; cases hna
      · rfl
    · have hyi : y.testBit i = false := by
        cases hb : y.testBit i
        · rfl
        · rw [(hbit i).2 ⟨hb, hi⟩] at hni; cases hni
      obtain ⟨k, h1, h2⟩ := hs i (s.ok.al i hi) hyi
      exact ⟨k, (hbit k).2 ⟨h1, (s.ok.ab k i h2).1⟩, h2⟩
  · rintro ⟨hg, hf, hs⟩
    refine ⟨fun i j hi hj hij => hf i j ((hbit i).2 ⟨hi, (s.ok.ab i j hij).1⟩) ((hbit j).2 ⟨hj, (s.ok.ab i j hij).2⟩) hij, fun i hi hyi => ?_⟩
    have hai : n.all.testBit i = true := by
      cases hb : n.all.testBit i
      · rw [hg i hi hb] at hyi; cases hyi
      · rfl
    obtain ⟨k, h1, h2⟩ := hs i hai (by
      cases hb : (y &&& n.all).testBit i
      · rfl
      · rw [((hbit i).1 hb).1] at hyi; cases hyi)
    exact ⟨k, ((hbit k).1 h1).1, h2⟩

open Classical in
/-- the grounded set of the reference is the program's -/
theorem gr_iff {i : Nat} (hi : n.all.testBit i = true) : Gr (att h) (i : Int) ↔ (grd n).testBit i = true := by
  have hG := (In_plain2 s.ok).2
  have hatt : ∀ a b, att h a b → 0 ≤ a ∧ a < (N : Int) := fun a b ⟨p, hp, h1, h2⟩ => by have := s.v p hp; omega
  constructor
  · rintro ⟨k, hk⟩
    induction k using Nat.strongRecOn generalizing i with
    | _ k ih =>
      cases k with
      | zero => exact hk.elim
      | succ k =>
        refine hG.cls i hi fun b hb => ?_
        obtain ⟨c, h1, h2⟩ := hk (b : Int) ((s.at_ b i).1 hb)
        obtain ⟨m, b', rfl, e, hm⟩ := s.nat h1
        have : b' = b := by omega
        subst this
        exact ⟨m, ih k (by omega) (s.ok.ab m b' hm).1 h2, hm⟩
  · intro hg
    let S := setOf ((List.range N).filter fun i => decide (Gr (att h) (i : Int)))
    have hS : ∀ j, S.testBit j = true ↔ j < N ∧ Gr (att h) (j : Int) := fun j => by
      show (setOf _).testBit j = true ↔ _
      rw [setOf_bit, List.mem_filter, List.mem_range, decide_eq_true_eq]
    have hc : ClsP n S := fun j hj hd => (hS j).2 ⟨s.ok.al j hj, Gr.mk (n := N) hatt fun b hb => by
      obtain ⟨b', j', rfl, e, hb'⟩ := s.nat hb
      have : j' = j := by omega
      subst this
      obtain ⟨m, h1, h2⟩ := hd b' hb'
      exact ⟨m, (s.at_ m b').1 h2, ((hS m).1 h1).2⟩⟩
    exact ((hS i).1 (hG.least S hc i hg)).2
end

/-- gone are the nodes that are not in the net -/
def GoneOk (N : Nat) (n : Nt) (gone : List Int) : Prop := gone.length ≤ 1000 ∧ ∀ i : Nat, i < N → ((i : Int) ∈ gone ↔ n.all.testBit i = false)

section
variable {N : Nat} {n : Nt} {h : T_api_Graph} (s : Sim N n h) {gone : List Int} (hg : GoneOk N n gone)
include s hg

open Classical in
theorem SomeAdm_plain {a : Nat} (ha : a < N) : net_SomeAdmissible_m h (a : Int) gone = some (decide (∃ y, SubB y n.all ∧ AdmP n y ∧ y.testBit a = true)) := by
  have hN := s.hN
  have hpw : 2 ^ N ≤ 1024 := Nat.le_trans (Nat.pow_le_pow_right (by decide) hN) (by decide)
  unfold net_SomeAdmissible_m
  refine T.eq (T.bind (P := fun r : Sum Bool Unit => match r with | .inl b => b = true ∧ ∃ y, SubB y n.all ∧ AdmP n y ∧ y.testBit a = true | .inr _ => ¬ ∃ y, SubB y n.all ∧ AdmP n y ∧ y.testBit a = true) ?_ ?_)
  · refine T.loopK (2 ^ N) (fun k st => k ≤ 2 ^ N ∧ st = (k : Int) ∧ ∀ y, y < k → SubB y n.all → AdmP n y → y.testBit a = false) ⟨Nat.zero_le _, rfl, fun y hy => by omega⟩ ?_
    rintro k _ ⟨hk, rfl, hinv⟩
    dsimp only [net_SomeAdmissible_l1] at *
    rw [s.nn, wrapU (by omega)]
    unfold ishlM
    rw [if_neg (by omega), some_bind, ishl_u (by omega)]
    refine T.cond (fun g1 => ?_) fun g1 => ?_
    · have hlt : k < 2 ^ N := by
        have := of_decide_eq_true g1
        exact_mod_cast this
      have hk64 : k < 2 ^ 64 := by omega
      have hb := bitsL_len (s := k)
      have hadd : iadd .u64 (k : Int) 1 = ((k + 1 : Nat) : Int) := wrapU (n := k + 1) (by omega)
      have hhas := Has_plain (n := a) hk64 (by omega)
      unfold network_Set_Has_m at hhas
      rw [wrapU (by omega)] at hhas ⊢
      have next : ∀ b : Prop, (SubB k n.all → AdmP n k → k.testBit a = false) → T (some (Sum.inr ((k + 1 : Nat) : Int)) : Option (Sum (Sum Bool Unit) Int)) (onO (fun r : Sum Bool Unit => match r with | .inl b => b = true ∧ ∃ y, SubB y n.all ∧ AdmP n y ∧ y.testBit a = true | .inr _ => ¬ ∃ y, SubB y n.all ∧ AdmP n y ∧ y.testBit a = true) fun st => k < 2 ^ N ∧ k + 1 ≤ 2 ^ N ∧ st = ((k + 1 : Nat) : Int) ∧ ∀ y, y < k + 1 → SubB y n.all → AdmP n y → y.testBit a = false) := fun _ hx => .ret ⟨hlt, by omega, rfl, fun y hy => by
        by_cases e : y = k
        · subst e; exact hx
        · exact hinv y (by omega)⟩
      cases hs : ishrM .u64 (k : Int) (a : Int) with
      | none => rw [hs] at hhas; cases hhas
      | some t =>
        rw [hs, some_bind, letM_eq] at hhas
        have hh := Option.some.inj hhas
        have hz : (iand .u64 t 1 == 0) = !k.testBit a := by
          unfold ishrM at hs
          rw [if_neg (by omega), ishr_u (by omega)] at hs
          have ht := (Option.some.inj hs).symm
          subst ht
          have h1 : k >>> a < 2 ^ 64 := Nat.lt_of_le_of_lt (Nat.shiftRight_le _ _) hk64
          have h2 := iand_u (a := k >>> a) (b := 1) h1 (by decide)
          rw [show ((1 : Nat) : Int) = 1 from rfl] at h2
          rw [h2] at hh ⊢
          rw [← hh]
          have h3 : k >>> a &&& 1 = 0 ∨ k >>> a &&& 1 = 1 := by
            have : k >>> a &&& 1 = (k >>> a) % 2 := Nat.and_one_is_mod _
            omega
          rcases h3 with h3 | h3 <;> rw [h3] <;> rfl
        rw [some_bind, hz, hadd]
        refine T.cond (fun g2 => .letM (next True fun _ _ => by simpa using g2)) fun g2 => ?_
        have hka : k.testBit a = true := by simpa using g2
        rw [Members_plain hk64, some_bind]
        refine T.bind (P := fun r : Bool => (r = true ↔ ∃ i, k.testBit i = true ∧ (i : Int) ∈ gone)) ?_ fun r hr => ?_
        · refine T.loopK (bitsL k).length (fun q st => q ≤ (bitsL k).length ∧ st.2 = (q : Int) ∧ (st.1 = true ↔ ∃ x ∈ (bitsL k).take q, (x : Int) ∈ gone)) ⟨by omega, rfl, by simp⟩ ?_
          rintro q ⟨b, _⟩ ⟨hq, rfl, hb2⟩
          dsimp only [net_SomeAdmissible_l2] at *
          rw [il_len]
          refine T.cond (fun g3 => ?_) fun g3 => ?_
          · simp at g3
            have htk : (bitsL k).take (q + 1) = (bitsL k).take q ++ [(bitsL k)[q]] := by rw [List.take_add_one, List.getElem?_eq_getElem g3]; rfl
            rw [iadd1 (by omega)]
            refine T.cond (fun g4 => .letM (.ret ⟨g3, by omega, rfl, ?_⟩)) fun g4 => ?_
            · simp only [true_iff]
              obtain ⟨x, h1, h2⟩ := hb2.1 g4
              exact ⟨x, by rw [htk]; exact List.mem_append_left _ h1, h2⟩
            · rw [il_idx g3, some_bind, show (bitsL k).getD q 0 = (bitsL k)[q] by simp [List.getD, g3], nIn_plain (by have := hg.1; omega), some_bind]
              refine .letM (.ret ⟨g3, by omega, rfl, ?_⟩)
              simp only
              rw [decide_eq_true_eq, htk]
              constructor
              · intro hx; exact ⟨_, List.mem_append_right _ (by simp), hx⟩
              · rintro ⟨x, hx, h2⟩
                rcases List.mem_append.1 hx with hx | hx
                · rw [hb2.2 ⟨x, hx, h2⟩] at g4; cases g4
                · rw [← List.mem_singleton.1 hx]; exact h2
          · simp at g3
            refine .ret (show (b = true ↔ _) from ?_)
            rw [hb2, List.take_of_length_le (by omega)]
            exact ⟨fun ⟨x, h1, h2⟩ => ⟨x, (mem_bitsL hk64).1 h1, h2⟩, fun ⟨x, h1, h2⟩ => ⟨x, (mem_bitsL hk64).2 h1, h2⟩⟩
        · have hsub : r = false ↔ SubB k n.all := by
            constructor
            · intro hrf i hi
              have hiN := bits_lt hlt hi
              cases hb3 : n.all.testBit i
              · rw [hr.2 ⟨i, hi, (hg.2 i hiN).2 hb3⟩] at hrf; cases hrf
              · rfl
            · intro hs
              cases hr2 : r
              · rfl
              · obtain ⟨i, h1, h2⟩ := hr.1 hr2
                have := (hg.2 i (bits_lt hlt h1)).1 h2
                rw [hs i h1] at this; cases this
          refine T.cond (fun g3 => ?_) fun g3 => .letM (next True fun hs => ?_)
          · have hsb := hsub.1 (by simpa using g3)
            rw [nAdm_plain s hlt, some_bind]
            refine T.cond (fun g4 => .ret ⟨rfl, k, hsb, of_decide_eq_true g4, hka⟩) fun g4 => .letM (next True fun _ had => absurd had (of_decide_eq_false g4))
          · rw [hsub.2 hs] at g3; cases g3
    · have hge : 2 ^ N ≤ k := by
        have := of_decide_eq_false g1
        have h2 : ¬ k < 2 ^ N := fun hh => this (by exact_mod_cast hh)
        omega
      refine .ret ?_
      rintro ⟨y, h1, h2, h3⟩
      have hy : y < 2 ^ N := lt_of_bits fun j hj => s.ok.al j (h1 j hj)
      rw [hinv y (by omega) h1 h2] at h3; cases h3
  · rintro (b | u) hr
    · obtain ⟨rfl, hx⟩ := hr
      rw [sumK_inl]; exact .ret (decide_eq_true hx).symm
    · rw [sumK_inr]; exact .ret (decide_eq_false hr).symm

open Classical in
theorem acc_loop {g0 : T_api_Graph} (hg0 : g0.N = (N : Int)) {a : Nat} (ha : a < N) :
    loopC (ref23_Accepted_l1 g0 (a : Int) h) (false, true, 0) = some (decide (∃ y, y < 2 ^ N ∧ StG N n y ∧ y.testBit a = true), decide (∀ y, y < 2 ^ N → StG N n y → y.testBit a = true)) := by
  have hN := s.hN
  have hpw : 2 ^ N ≤ 1024 := Nat.le_trans (Nat.pow_le_pow_right (by decide) hN) (by decide)
  refine T.eq (T.loopK (2 ^ N) (fun k st => k ≤ 2 ^ N ∧ st = (decide (∃ y, y < k ∧ StG N n y ∧ y.testBit a = true), decide (∀ y, y < k → StG N n y → y.testBit a = true), (k : Int))) ⟨Nat.zero_le _, ?_⟩ ?_)
  · rw [decide_eq_false (by rintro ⟨y, hy, _⟩; omega), decide_eq_true (fun y hy => by omega)]; rfl
  rintro k _ ⟨hk, rfl⟩
  dsimp only [ref23_Accepted_l1] at *
  rw [hg0, wrapU (by omega)]
  unfold ishlM
  rw [if_neg (by omega), some_bind, ishl_u (by omega)]
  refine T.cond (fun g1 => ?_) fun g1 => ?_
  · have hlt : k < 2 ^ N := by
      have := of_decide_eq_true g1
      exact_mod_cast this
    have hk64 : k < 2 ^ 64 := by omega
    have hb := bitsL_len (s := k)
    have hadd : iadd .u64 (k : Int) 1 = ((k + 1 : Nat) : Int) := wrapU (n := k + 1) (by omega)
    rw [Members_plain hk64, some_bind, nStable_plain s hlt, some_bind, hadd]
    have hex : (∃ y, y < k + 1 ∧ StG N n y ∧ y.testBit a = true) ↔ (∃ y, y < k ∧ StG N n y ∧ y.testBit a = true) ∨ (StG N n k ∧ k.testBit a = true) := by
      constructor
      · rintro ⟨y, h1, h2⟩
        by_cases e : y = k
        · subst e; exact .inr h2
        · exact .inl ⟨y, by omega, h2⟩
      · rintro (⟨y, h1, h2⟩ | h2)
        · exact ⟨y, by omega, h2⟩
        · exact ⟨k, by omega, h2⟩
    have hal : (∀ y, y < k + 1 → StG N n y → y.testBit a = true) ↔ (∀ y, y < k → StG N n y → y.testBit a = true) ∧ (StG N n k → k.testBit a = true) := by
      constructor
      · intro hx; exact ⟨fun y hy => hx y (by omega), hx k (by omega)⟩
      · rintro ⟨h1, h2⟩ y hy
        by_cases e : y = k
        · subst e; exact h2
        · exact h1 y (by omega)
    have hmem : decide ((a : Int) ∈ il (bitsL k)) = k.testBit a := by
      rw [Bool.eq_iff_iff, decide_eq_true_eq]; exact bits_in s hlt
    refine T.cond (fun g2 => .letM (.ret ⟨hlt, by omega, ?_⟩)) fun g2 => ?_
    · have hns : ¬ StG N n k := fun hx => by rw [decide_eq_true hx] at g2; cases g2
      simp only [hex, hal, hns, false_and, or_false, false_implies, and_true]
    · have hns : StG N n k := by
        have := of_decide_eq_true (p := StG N n k) (by simpa using g2)
        exact this
      rw [nIn_plain (by simp; omega), some_bind, hmem]
      refine T.cond (fun g3 => .letM (.ret ⟨hlt, by omega, ?_⟩)) fun g3 => .letM (.ret ⟨hlt, by omega, ?_⟩)
      · simp only [hex, hal, hns, g3, true_and, or_true, forall_const, and_true, decide_true]
      · simp only [hex, hal, hns, g3, true_and, Bool.false_eq_true, or_false, forall_const, and_false, decide_false]
  · have hge : 2 ^ N ≤ k := by
      have := of_decide_eq_false g1
      have h2 : ¬ k < 2 ^ N := fun hh => this (by exact_mod_cast hh)
      omega
    have e : k = 2 ^ N := by omega
    subst e
    exact .ret rfl
end

open Classical in
/-- the reference's acceptance is the program's -/
theorem acc_iff {N : Nat} {n : Nt} {gone : List Int} (hg : GoneOk N n gone) {g0 : T_api_Graph} (hg0 : g0.N = (N : Int)) (hl0 : g0.L.length ≤ 10000) (hw : ∀ r : T_api_Graph, r.N = g0.N → r.L.length ≤ g0.L.length → (∀ p, p ∈ r.L ↔ p ∈ g0.L ∧ p.From ∉ gone ∧ p.To ∉ gone) → Sim N n r)
    {a : Nat} (ha : a < N) {q : Int} (hq1 : 1 ≤ q) (hq4 : q ≤ 4) :
    ref23_Accepted_m g0 gone (a : Int) q = some (decide (n.all.testBit a = true ∧ ansP n q a)) := by
  unfold ref23_Accepted_m
  refine T.eq ?_
  refine T.bind (Without_plain (by omega) (by have := hg.1; omega)) fun h' ⟨w1, w2, w3⟩ => ?_
  have s' := hw h' w1 w2 w3
  rw [nIn_plain (by have := hg.1; omega), some_bind]
  refine T.cond (fun g1 => .ret ?_) fun g1 => ?_
  · have := (hg.2 a ha).1 (of_decide_eq_true g1)
    rw [this]; simp
  · have hall : n.all.testBit a = true := by
      cases hb : n.all.testBit a
      · exact absurd ((hg.2 a ha).2 hb) (of_decide_eq_false g1)
      · rfl
    have hL := s'.l
    refine T.bind (nGrounded_plain s'.gv (by omega)) fun r ⟨hr, hr2⟩ => ?_
    have hra := hr2 a (by rw [s'.nn]; omega)
    rw [s'.nn] at hr
    simp only [letM_eq]
    unfold ansP
    refine T.cond (fun g2 => ?_) fun g2 => ?_
    · have e : q = 4 := eq_of_beq g2
      rw [if_pos e, idx_sf (by rw [hr]; omega), some_bind]
      refine .ret ?_
      rw [Bool.eq_iff_iff, beq_iff_eq, hra.2, gr_iff s' hall]
      simp [hall]
    · have e4 : q ≠ 4 := fun e => by subst e; cases g2
      rw [if_neg e4]
      refine T.cond (fun g3 => ?_) fun g3 => ?_
      · have e : q = 1 := eq_of_beq g3
        rw [if_pos e, SomeAdm_plain s' hg ha, some_bind]
        refine .ret ?_
        simp only [hall, true_and]
      · have e1 : q ≠ 1 := fun e => by subst e; cases g3
        rw [if_neg e1, acc_loop s' hg hg0 ha, some_bind]
        have hst : ∀ y', SubB y' n.all → StbP n y' → ∃ y, y < 2 ^ N ∧ StG N n y ∧ (y.testBit a = y'.testBit a) := fun y' h1 h2 => by
          let y := setOf ((List.range N).filter fun i => y'.testBit i || !n.all.testBit i)
          have hy : ∀ i, y.testBit i = true ↔ i < N ∧ (y'.testBit i = true ∨ n.all.testBit i = false) := fun i => by
            show (setOf _).testBit i = true ↔ _
            rw [setOf_bit, List.mem_filter, List.mem_range, Bool.or_eq_true]; simp
          have hya : y &&& n.all = y' := eq_of_bits fun i => by
            rw [Bool.eq_iff_iff, Nat.testBit_and, Bool.and_eq_true, hy]
            constructor
            · rintro ⟨⟨_, h3 | h3⟩, h4⟩
              · exact h3
              · rw [h3] at h4; cases h4
            · intro h3; exact ⟨⟨s'.ok.al i (h1 i h3), .inl h3⟩, h1 i h3⟩
          refine ⟨y, lt_of_bits fun j hj => ((hy j).1 hj).1, (stg_iff s').2 ⟨fun i hi hna => (hy i).2 ⟨hi, .inr hna⟩, by rw [hya]; exact h2⟩, ?_⟩
          rw [Bool.eq_iff_iff, hy]
          exact ⟨fun ⟨_, h3⟩ => h3.elim id (fun h4 => by rw [hall] at h4; cases h4), fun h3 => ⟨ha, .inl h3⟩⟩
        have hand : ∀ y : Nat, y.testBit a = (y &&& n.all).testBit a := fun y => by rw [Nat.testBit_and, hall, Bool.and_true]
        refine T.cond (fun g5 => .ret ?_) fun g5 => .ret ?_
        · have e : q = 2 := eq_of_beq g5
          subst e
          rw [if_neg (by decide)]
          simp only [hall, true_and]
          rw [Bool.eq_iff_iff, decide_eq_true_eq, decide_eq_true_eq]
          constructor
          · rintro ⟨y, h1, h2, h3⟩
            exact ⟨y &&& n.all, SubB.and, ((stg_iff s').1 h2).2, by rw [← hand]; exact h3⟩
          · rintro ⟨y', h1, h2, h3⟩
            obtain ⟨y, h4, h5, h6⟩ := hst y' h1 h2
            exact ⟨y, h4, h5, by rw [h6]; exact h3⟩
        · have e : q ≠ 2 := fun e => by subst e; cases g5
          have e3 : q = 3 := by omega
          subst e3
          rw [if_pos rfl]
          simp only [hall, true_and]
          rw [Bool.eq_iff_iff, decide_eq_true_eq, decide_eq_true_eq]
          constructor
          · intro hx y' h1 h2
            obtain ⟨y, h4, h5, h6⟩ := hst y' h1 h2
            rw [← h6]; exact hx y h4 h5
          · intro hx y h1 h2
            rw [hand]; exact hx _ SubB.and ((stg_iff s').1 h2).2
end Go.Dc
