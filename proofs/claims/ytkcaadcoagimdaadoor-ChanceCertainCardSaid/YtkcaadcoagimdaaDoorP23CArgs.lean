/- Part P23C.Args of a proof: lemmas. -/
import Derived.Test.YtkcaadcoagimdaaDoorP23CJoint
set_option linter.unusedVariables false
set_option linter.unusedSimpArgs false
set_option linter.unusedSectionVars false
/-! Arguments that are valid; Joint, Given and Extension of them. -/
namespace Go.Dc

theorem pw {l : List T_api_Pair} (h : l.Pairwise plt) {i : Nat} (h0 : 1 ≤ i) (hi : i < l.length) : plt (l[i - 1]'(by omega)) l[i] :=
  List.pairwise_iff_getElem.1 h (i - 1) i (by omega) hi (by omega)

theorem cmp_plain {x y : Int} : cmp_Compare_int_m x y = some (if x < y then -1 else if y < x then 1 else 0) := by
  unfold cmp_Compare_int_m cmp_isNaN_int_m
  simp only [some_bind, bne_self_eq_false, cond_false]
  by_cases h : x < y
  · simp [h]
  · by_cases h2 : y < x <;> simp [h, h2]

theorem or_plain {a b : Int} : cmp_Or_int_m [a, b] = some (if a = 0 then b else a) := by
  have h0 : cmp_Or_int_l1 [a, b] 0 = some (bif a != 0 then .inl (.inl a) else .inr 1) := by
    unfold cmp_Or_int_l1
    rw [show decide ((0 : Int) < (([a, b] : List Int).length : Int)) = true from rfl, show idxM [a, b] 0 = some a from rfl, iadd64 (by omega) (by omega)]
    simp only [cond_true, some_bind]
    cases a != 0 <;> rfl
  have h1 : cmp_Or_int_l1 [a, b] 1 = some (bif b != 0 then .inl (.inl b) else .inr 2) := by
    unfold cmp_Or_int_l1
    rw [show decide ((1 : Int) < (([a, b] : List Int).length : Int)) = true from rfl, show idxM [a, b] 1 = some b from rfl, iadd64 (by omega) (by omega)]
    simp only [cond_true, some_bind]
    cases b != 0 <;> rfl
  have h2 : cmp_Or_int_l1 [a, b] 2 = some (.inl (.inr ())) := by
    unfold cmp_Or_int_l1
    rw [show decide ((2 : Int) < (([a, b] : List Int).length : Int)) = false from rfl]; rfl
  unfold cmp_Or_int_m
  rw [loopC_eq, h0]
  by_cases ha : a = 0
  · subst ha
    rw [if_pos rfl, show ((0 : Int) != 0) = false from rfl]
    simp only [cond_false, Option.bind_some]
    rw [loopC_eq, h1]
    by_cases hb : b = 0
    · subst hb
      rw [show ((0 : Int) != 0) = false from rfl]
      simp only [cond_false, Option.bind_some]
      rw [loopC_eq, h2]; rfl
    · rw [show (b != 0) = true from by simp [hb]]; rfl
  · rw [if_neg ha, show (a != 0) = true from by simp [ha]]; rfl

theorem pcmp_plain {p q : T_api_Pair} (h : plt p q) : graph_compare_m p q = some (-1) := by
  unfold graph_compare_m
  rw [cmp_plain, some_bind, cmp_plain, some_bind, or_plain, some_bind]
  unfold plt at h
  congr 1
  rcases h with h | ⟨h1, h2⟩
  · simp [h]
  · rw [h1]; simp [h2]

theorem Validate_plain {g : T_api_Graph} (h : GVal g) (hl : g.L.length ≤ 1000000) : graph_Validate_m g = some 0 := by
  have h0 := h.n0; have h1 := h.n1
  unfold graph_Validate_m
  rw [decide_eq_false (by omega : ¬ g.N < 0), decide_eq_false (by omega : ¬ g.N > 40)]
  simp only [cond_false]
  have : loopC (graph_Validate_l1 g) 0 = some (.inr ()) := by
    refine T.eq (T.loopK g.L.length (fun i s => s = (i : Int) ∧ i ≤ g.L.length) ⟨rfl, by omega⟩ ?_)
    rintro i _ ⟨rfl, hi⟩
    dsimp only [graph_Validate_l1]
    refine T.cond (fun g1 => ?_) fun g1 => .ret rfl
    simp at g1
    have hv := h.v _ (List.getElem_mem g1)
    rw [idxM_nat g1, some_bind, iadd1 (by omega)]
    have m1 : 0 ≤ imin g.L[i].From g.L[i].To := by unfold imin; split <;> omega
    have m2 : imax g.L[i].From g.L[i].To < g.N := by unfold imax; split <;> omega
    refine T.cond (fun g2 => by simp at g2; omega) fun _ => T.cond (fun g2 => by simp at g2; omega) fun _ => ?_
    refine T.cond (fun g3 => ?_) fun g3 => .ret ⟨g1, rfl, by omega⟩
    simp at g3
    have hp := pw h.s g3 g1
    rw [isub1 (by omega), show (i : Int) - 1 = ((i - 1 : Nat) : Int) from by omega, idxM_nat (by omega), some_bind, pcmp_plain hp, some_bind]
    exact T.cond (fun g4 => by simp at g4) fun _ => .ret ⟨g1, rfl, by omega⟩
  rw [this]; rfl


theorem proper_plain {l : List Fr} (h : ∀ f ∈ l, FrOk f) (hl : l.length ≤ 1000000) : chance_proper_m l = some true := by
  unfold chance_proper_m slices_ContainsFunc_api_Fraction_api_Fraction_m slices_IndexFunc_api_Fraction_api_Fraction_m
  have : loopC (slices_IndexFunc_api_Fraction_api_Fraction_l1 l) 0 = some (.inr ()) := by
    refine T.eq (T.loopK l.length (fun i s => s = (i : Int) ∧ i ≤ l.length) ⟨rfl, by omega⟩ ?_)
    rintro i _ ⟨rfl, hi⟩
    dsimp only [slices_IndexFunc_api_Fraction_api_Fraction_l1]
    refine T.cond (fun g1 => ?_) fun g1 => .ret rfl
    simp at g1
    have hf := h _ (List.getElem_mem g1)
    obtain ⟨h1, h2, h3, h4⟩ := hf
    have hp : chance_proper_1_m l[i] = some false := by
      unfold chance_proper_1_m
      rw [decide_eq_false (by omega), decide_eq_false (by omega), decide_eq_false (by omega), cond_false, cond_false, cond_false, letM_eq, decide_eq_false (by omega)]
    rw [idxM_nat g1, some_bind, iadd1 (by omega), hp, some_bind]
    exact T.cond (fun g2 => by cases g2) fun _ => .ret ⟨g1, rfl, by omega⟩
  rw [this]; rfl

section
variable {N : Nat} {g : T_api_Graph} {o : T_api_Odds} (h : OOk N g o)
include h
theorem OOk.gval : GVal g := ⟨by rw [h.gg.n]; omega, by rw [h.gg.n]; have := h.gg.hN; omega, fun p hp => by have := h.gg.v p hp; rw [h.gg.n]; exact this, h.s⟩

theorem asc_plain {l : List Int} (ha : Asc N l) : network_Ascending_m l (N : Int) = some true := by
  have hN := h.gg.hN
  have hlen := ha.len
  unfold network_Ascending_m
  have : loopC (network_Ascending_l1 l (N : Int)) 0 = some (.inr ()) := by
    refine T.eq (T.loopK l.length (fun i s => s = (i : Int) ∧ i ≤ l.length) ⟨rfl, by omega⟩ ?_)
    rintro i _ ⟨rfl, hi⟩
    dsimp only [network_Ascending_l1]
    refine T.cond (fun g1 => ?_) fun g1 => .ret rfl
    simp at g1
    have hm := ha.2 _ (List.getElem_mem g1)
    rw [idxM_nat g1, some_bind, iadd1 (by omega)]
    refine T.cond (fun g2 => by simp at g2; omega) fun _ => T.cond (fun g2 => by simp at g2; omega) fun _ => T.cond (fun g3 => ?_) fun g3 => .ret ⟨g1, rfl, by omega⟩
    simp at g3
    have hp := List.pairwise_iff_getElem.1 ha.1 (i - 1) i (by omega) g1 (by omega)
    rw [isub1 (by omega), show (i : Int) - 1 = ((i - 1 : Nat) : Int) from by omega, idxM_nat (by omega), some_bind]
    exact T.cond (fun g4 => by simp at g4; omega) fun _ => .ret ⟨g1, rfl, by omega⟩
  rw [this]; rfl

theorem count_loop {l : List Fr} (hl : l.length ≤ 100000) : loopC (chance_arguments_l1 l) (0, 0) = some (((l.filter fun f => !cert f).length : Nat) : Int) := by
  refine T.eq (T.loopK l.length (fun k s => k ≤ l.length ∧ s.2 = (k : Int) ∧ s.1 = ((((l.take k).filter fun f => !cert f).length : Nat) : Int)) ⟨by omega, rfl, by simp⟩ ?_)
  rintro k ⟨_, _⟩ ⟨hk, rfl, rfl⟩
  dsimp only [chance_arguments_l1] at *
  refine T.cond (fun g1 => ?_) fun g1 => ?_
  · simp at g1
    have htk : l.take (k + 1) = l.take k ++ [l[k]] := by rw [List.take_add_one, List.getElem?_eq_getElem g1]; rfl
    have hle : ((l.take k).filter fun f => !cert f).length ≤ k := Nat.le_trans (List.length_filter_le _ _) (by simp; omega)
    rw [idxM_nat g1, some_bind, certain_plain, some_bind, iadd1 (n := k) (by omega)]
    cases hc : cert l[k] with
    | true =>
      rw [Bool.not_true, cond_false]
      refine .ret ⟨g1, by omega, rfl, ?_⟩
      rw [htk, List.filter_append, List.filter_cons_of_neg (by simp [hc])]; simp
    | false =>
      rw [Bool.not_false, cond_true, iadd1 (by omega)]
      refine .letM (.ret ⟨g1, by omega, rfl, ?_⟩)
      rw [htk, List.filter_append, List.filter_cons_of_pos (by simp [hc])]; simp
  · simp at g1
    have e : k = l.length := by omega
    refine .ret ?_
    simp only [e, List.take_length]

theorem args_plain {l : List Int} {q : Int} (ha : Asc N l) (h1 : 1 ≤ q) (h4 : q ≤ 4) : chance_arguments_m g o l q = some 0 := by
  have hl2 : (o.Nodes ++ o.Attacks).length ≤ 10010 := h.len2
  have hl3 := hl2
  rw [List.length_append] at hl3
  have hgl := h.gg.l
  have hN := h.gg.hN
  unfold chance_arguments_m
  rw [Validate_plain h.gval (by omega), some_bind, show ((0 : Int) != 0) = false from rfl, cond_false]
  have hfit : chance_fits_m g o = some true := by
    unfold chance_fits_m
    rw [h.ln, h.la, h.gg.n, show ((N : Int) == (N : Int)) = true by simp, cond_true, show ((g.L.length : Int) == (g.L.length : Int)) = true by simp, cond_true,
      proper_plain (fun f hf => h.fr f (List.mem_append_left _ hf)) (by omega), some_bind, cond_true, proper_plain (fun f hf => h.fr f (List.mem_append_right _ hf)) (by omega), some_bind]
  have hq : network_Question_m q = some true := by
    unfold network_Question_m
    rw [decide_eq_true (by omega), cond_true, letM_eq, decide_eq_true (by omega)]
  rw [hfit, some_bind, Bool.not_true, cond_false, hq, some_bind, Bool.not_true, cond_false, h.gg.n, asc_plain h ha, some_bind, Bool.not_true, cond_false, Concat_plain (by omega), some_bind, count_loop h (by omega), some_bind,
    decide_eq_false (by omega), cond_false, decide_eq_false (by have := h.un; omega), cond_false]

/-- the naturals of a list -/
abbrev nl (l : List Int) : List Nat := l.map Int.toNat
theorem nl_il {l : List Int} (ha : Asc N l) : l = il (nl l) := by
  show l = (l.map Int.toNat).map _
  rw [List.map_map]
  conv => lhs; rw [← List.map_id l]
  refine List.map_congr_left fun x hx => ?_
  have := (ha.2 x hx).1
  simp; omega
theorem nl_lt {l : List Int} (ha : Asc N l) : ∀ x ∈ nl l, x < N := fun x hx => by
  obtain ⟨y, hy, rfl⟩ := List.mem_map.1 hx
  have := ha.2 y hy; omega
theorem nl_mem {l : List Int} (ha : Asc N l) {x : Nat} : x ∈ nl l ↔ (x : Int) ∈ l := by
  constructor
  · intro hx
    obtain ⟨y, hy, rfl⟩ := List.mem_map.1 hx
    have := ha.2 y hy
    rwa [Int.toNat_of_nonneg this.1]
  · intro hx; exact List.mem_map.2 ⟨_, hx, by simp⟩
theorem Of_plain2 {l : List Int} (ha : Asc N l) : network_Of_m l = some ((setOf (nl l) : Nat) : Int) := by
  have hN := h.gg.hN
  have := ha.len
  conv => lhs; rw [nl_il h ha]
  exact Of_plain (fun x hx => by have := nl_lt h ha x hx; omega) (by simp; omega)
theorem setOf_lt64 {l : List Int} (ha : Asc N l) : setOf (nl l) < 2 ^ 64 := lt64 (setOf_lt (nl_lt h ha)) (by have := h.gg.hN; omega)

theorem Joint_plain {l : List Int} {q : Int} (ha : Asc N l) (h1 : 1 ≤ q) (h4 : q ≤ 4) : chance_Joint_m g o l q = some (rd (J (frs o) (jc g (setOf (nl l)) q)) (dn (frs o)), 0) := by
  have hB := h.dnB
  have hB2 : dn (o.Nodes ++ o.Attacks) ≤ 100000000000 := h.dnB
  have hj : J (frs o) (jc g (setOf (nl l)) q) ≤ dn (frs o) := J_le
  unfold chance_Joint_m
  rw [args_plain h ha h1 h4, some_bind, show ((0 : Int) != 0) = false from rfl, cond_false, Of_plain2 h ha, some_bind, joint_plain h (setOf_lt64 h ha), some_bind]
  simp only
  rw [reduced_plain (dn_pos h.fr) (by omega) (by omega), some_bind]

theorem Given_plain {a b : List Int} {q : Int} (ha : Asc N a) (hb : Asc N b) (h1 : 1 ≤ q) (h4 : q ≤ 4) :
    chance_Given_m g o a b q = some (if J (frs o) (jc g (setOf (nl b)) q) = 0 then (⟨0, 0⟩, 9) else (rd (J (frs o) (jc g (setOf (nl a) ||| setOf (nl b)) q)) (J (frs o) (jc g (setOf (nl b)) q)), 0)) := by
  have hB := h.dnB
  have hB2 : dn (o.Nodes ++ o.Attacks) ≤ 100000000000 := h.dnB
  have hj : J (frs o) (jc g (setOf (nl b)) q) ≤ dn (frs o) := J_le
  have hj2 : J (frs o) (jc g (setOf (nl a) ||| setOf (nl b)) q) ≤ dn (frs o) := J_le
  unfold chance_Given_m
  have hloop : loopC (chance_Given_l1 g o a b q) 0 = some (.inr ()) := by
    have e0 : chance_Given_l1 g o a b q 0 = some (.inr 1) := by
      unfold chance_Given_l1
      rw [show decide ((0 : Int) < (([a, b] : List (List Int)).length : Int)) = true from rfl, cond_true, show idxM [a, b] 0 = some a from rfl, some_bind, args_plain h ha h1 h4, some_bind]; rfl
    have e1 : chance_Given_l1 g o a b q 1 = some (.inr 2) := by
      unfold chance_Given_l1
      rw [show decide ((1 : Int) < (([a, b] : List (List Int)).length : Int)) = true from rfl, cond_true, show idxM [a, b] 1 = some b from rfl, some_bind, args_plain h hb h1 h4, some_bind]; rfl
    rw [loopC_eq, e0]
    show loopC _ 1 = _
    rw [loopC_eq, e1]
    show loopC _ 2 = _
    rw [loopC_eq]; rfl
  rw [hloop, some_bind, sumK_inr, Of_plain2 h hb, some_bind, joint_plain h (setOf_lt64 h hb), some_bind]
  simp only
  by_cases h0 : J (frs o) (jc g (setOf (nl b)) q) = 0
  · rw [h0, if_pos rfl]; rfl
  · rw [if_neg h0, show (((J (frs o) (jc g (setOf (nl b)) q) : Nat) : Int) == 0) = false from by simpa using h0, cond_false, Of_plain2 h ha, some_bind, some_bind, ior_u (setOf_lt64 h ha) (setOf_lt64 h hb),
      joint_plain h (or_lt (setOf_lt64 h ha) (setOf_lt64 h hb)), some_bind]
    simp only
    rw [reduced_plain (by omega) (by omega) (by omega), some_bind]

end

/-! odds that are drawn -/
theorem Odds_plain {s : T_deliberationkeep_Src} (hs : SrcOk s) {N : Nat} {g : T_api_Graph} (hg : GVal g) (hn : g.N = (N : Int)) (hN : N ≤ 10) (hl : g.L.length ≤ 10000) {m : Nat} (hm : m ≤ 10) :
    T (law23_odds_m s g (m : Int)) fun r => OOk N g r.1 ∧ SrcOk r.2 ∧ dn (frs r.1) ≤ 5 ^ m := by
  unfold law23_odds_m
  have hgl : GOk N g := ⟨hn, hN, fun p hp => by have := hg.v p hp; rw [hn] at this; exact this, hl⟩
  refine T.bind (P := fun q : T_deliberationkeep_Src × List Fr × List Fr => SrcOk q.1 ∧ q.2.1.length = N ∧ q.2.2.length = g.L.length ∧ (∀ f ∈ q.2.1 ++ q.2.2, FrOk f) ∧ ((q.2.1 ++ q.2.2).filter fun f => !cert f).length ≤ m ∧ dn (q.2.1 ++ q.2.2) ≤ 5 ^ m) ?_
    fun q ⟨h1, h2, h3, h4, h5, h6⟩ => .ret ⟨⟨hgl, hg.s, h2, h3, h4, by simp only; omega⟩, h1, h6⟩
  refine T.loopK (N + g.L.length) (fun k st => k ≤ N + g.L.length ∧ st.2.1 = (k : Int) ∧ ∃ m' : Nat, st.1 = (m' : Int) ∧ m' ≤ m ∧ SrcOk st.2.2.1 ∧ st.2.2.2.1.length = min k N ∧ st.2.2.2.2.length = k - N ∧ (∀ f ∈ st.2.2.2.1 ++ st.2.2.2.2, FrOk f) ∧
    ((st.2.2.2.1 ++ st.2.2.2.2).filter fun f => !cert f).length + m' ≤ m ∧ dn (st.2.2.2.1 ++ st.2.2.2.2) * 5 ^ m' ≤ 5 ^ m)
    ⟨by omega, rfl, m, rfl, by omega, hs, by simp, by simp, by simp, by simp, by simp [dn, J]⟩ ?_
  rintro k ⟨_, _, sr, A, B⟩ ⟨hk, rfl, m', rfl, hm', hsr, hA, hB, hfr, hun, hdn⟩
  dsimp only [law23_odds_l1] at *
  rw [hn, iadd_n (by omega)]
  refine T.cond (fun g1 => ?_) fun g1 => ?_
  · simp at g1
    have hk1 : k < N + g.L.length := by omega
    have dn_snoc : ∀ (l : List Fr) (f : Fr), (∀ x ∈ l, FrOk x) → FrOk f → dn (l ++ [f]) = dn l * (if cert f then 1 else f.Den.toNat) := by
      intro l f hl hf
      induction l with
      | nil => rw [List.nil_append, dn_cons hf]; simp [dn, J]
      | cons x l ih =>
        rw [List.cons_append, dn_cons (hl x (by simp)), dn_cons (hl x (by simp)), ih fun y hy => hl y (by simp [hy])]
        split
        · rfl
        · rw [Nat.mul_assoc]
    have step : ∀ (sr' : T_deliberationkeep_Src) (m2 : Nat) (f : Fr), SrcOk sr' → FrOk f → (cert f = true ∧ m2 ≤ m' ∨ m2 + 1 ≤ m' ∧ f.Den ≤ 5) →
        T ((fun j96 : T_deliberationkeep_Src × Int × T_api_Fraction =>
        bif decide ((k : Int) < (N : Int)) then
          Option.bind (appM 16 A [j96.2.2]) fun t100 =>
          letM (iadd .i64 (k : Int) 1) fun i104 =>
          some (Sum.inr (j96.2.1, i104, j96.1, t100, B))
        else
          Option.bind (appM 16 B [j96.2.2]) fun t102 =>
          letM (iadd .i64 (k : Int) 1) fun i105 =>
          some (Sum.inr (j96.2.1, i105, j96.1, A, t102))) (sr', (m2 : Int), f) : Option (Sum (T_deliberationkeep_Src × List Fr × List Fr) (Int × Int × T_deliberationkeep_Src × List Fr × List Fr)))
        (onO (fun q => SrcOk q.1 ∧ q.2.1.length = N ∧ q.2.2.length = g.L.length ∧ (∀ f ∈ q.2.1 ++ q.2.2, FrOk f) ∧ ((q.2.1 ++ q.2.2).filter fun f => !cert f).length ≤ m ∧ dn (q.2.1 ++ q.2.2) ≤ 5 ^ m) fun st => k < N + g.L.length ∧ k + 1 ≤ N + g.L.length ∧ st.2.1 = ((k + 1 : Nat) : Int) ∧ ∃ m' : Nat, st.1 = (m' : Int) ∧ m' ≤ m ∧ SrcOk st.2.2.1 ∧ st.2.2.2.1.length = min (k + 1) N ∧ st.2.2.2.2.length = k + 1 - N ∧ (∀ f ∈ st.2.2.2.1 ++ st.2.2.2.2, FrOk f) ∧
          ((st.2.2.2.1 ++ st.2.2.2.2).filter fun f => !cert f).length + m' ≤ m ∧ dn (st.2.2.2.1 ++ st.2.2.2.2) * 5 ^ m' ≤ 5 ^ m) := by
      intro sr' m2 f hsr' hf hc
      have hlenAB : ∀ (A' B' : List Fr), A' ++ B' = (A ++ B) ++ [f] → (∀ x ∈ A' ++ B', FrOk x) ∧ ((A' ++ B').filter fun f => !cert f).length + m2 ≤ m ∧ dn (A' ++ B') * 5 ^ m2 ≤ 5 ^ m := by
        intro A' B' e
        rw [e]
        refine ⟨fun x hx => ?_, ?_, ?_⟩
        · rcases List.mem_append.1 hx with hx | hx
          · exact hfr x hx
          · rw [List.mem_singleton.1 hx]; exact hf
        · rw [List.filter_append]
          rcases hc with ⟨hc, h2⟩ | ⟨h2, _⟩
          · rw [List.filter_cons_of_neg (by simp [hc])]; simp only [List.filter_nil, List.append_nil]; omega
          · have : ([f].filter fun f => !cert f).length ≤ 1 := List.length_filter_le _ _
            rw [List.length_append]; omega
        · rw [dn_snoc _ _ hfr hf]
          refine Nat.le_trans ?_ hdn
          rw [Nat.mul_assoc]
          refine Nat.mul_le_mul_left _ ?_
          rcases hc with ⟨hc, h2⟩ | ⟨h2, h5⟩
          · rw [if_pos hc, Nat.one_mul]; exact Nat.pow_le_pow_right (by decide) h2
          · have h6 : (if cert f then 1 else f.Den.toNat) ≤ 5 := by split <;> omega
            exact Nat.le_trans (Nat.mul_le_mul_right _ h6) (by rw [← Nat.pow_succ']; exact Nat.pow_le_pow_right (by decide) h2)
      dsimp only
      refine T.cond (fun g2 => ?_) fun g2 => ?_
      · simp at g2
        have hB0 : B = [] := List.length_eq_zero_iff.1 (by omega)
        subst hB0
        have := hlenAB (A ++ [f]) [] (by simp)
        rw [appM_eq (by simp; omega), some_bind, iadd1 (by omega)]
        exact .letM (.ret ⟨hk1, by omega, rfl, m2, rfl, by omega, hsr', by simp; omega, by simp; omega, this.1, this.2.1, this.2.2⟩)
      · simp at g2
        have := hlenAB A (B ++ [f]) (by simp)
        rw [appM_eq (by simp; omega), some_bind, iadd1 (by omega)]
        exact .letM (.ret ⟨hk1, by omega, rfl, m2, rfl, by omega, hsr', by simp only; omega, by simp; omega, this.1, this.2.1, this.2.2⟩)
    refine T.join ?_
    refine T.bind (N_plain hsr (by omega)) fun t ⟨ht, _⟩ => ?_
    refine T.cond (fun _ => ?_) fun _ => ?_
    · refine T.bind (Range_plain ht (by omega) (by omega) (by omega)) fun t2 ⟨ht2, h1, h2⟩ => ?_
      exact step t2.2 m' ⟨0, t2.1⟩ ht2 ⟨h1, by simp only; omega, by simp, by simp only; omega⟩ (.inl ⟨by simp [cert], Nat.le_refl _⟩)
    · refine T.join ?_
      have one : T ((fun j96 : T_deliberationkeep_Src × Int × T_api_Fraction =>
        bif decide ((k : Int) < (N : Int)) then
          Option.bind (appM 16 A [j96.2.2]) fun t100 =>
          letM (iadd .i64 (k : Int) 1) fun i104 =>
          some (Sum.inr (j96.2.1, i104, j96.1, t100, B))
        else
          Option.bind (appM 16 B [j96.2.2]) fun t102 =>
          letM (iadd .i64 (k : Int) 1) fun i105 =>
          some (Sum.inr (j96.2.1, i105, j96.1, A, t102))) (t.2, (m' : Int), ⟨1, 1⟩) : Option (Sum (T_deliberationkeep_Src × List Fr × List Fr) (Int × Int × T_deliberationkeep_Src × List Fr × List Fr))) _ :=
        step t.2 m' ⟨1, 1⟩ ht ⟨by simp, by simp, by simp, by simp⟩ (.inl ⟨by simp [cert], Nat.le_refl _⟩)
      have all : ∀ b : Bool, T ((fun j88 : Bool =>
          bif j88 then
            bif decide ((m' : Int) > 0) then
              Option.bind (keep_Src_Range_m t.2 2 5) fun t93 =>
              Option.bind (keep_Src_Range_m t93.2 1 (isub .i64 t93.1 1)) fun t94 =>
              letM (isub .i64 (m' : Int) 1) fun n95 =>
              (fun j96 : T_deliberationkeep_Src × Int × T_api_Fraction =>
        bif decide ((k : Int) < (N : Int)) then
          Option.bind (appM 16 A [j96.2.2]) fun t100 =>
          letM (iadd .i64 (k : Int) 1) fun i104 =>
          some (Sum.inr (j96.2.1, i104, j96.1, t100, B))
        else
          Option.bind (appM 16 B [j96.2.2]) fun t102 =>
          letM (iadd .i64 (k : Int) 1) fun i105 =>
          some (Sum.inr (j96.2.1, i105, j96.1, A, t102))) (t94.2, n95, (T_api_Fraction.mk t94.1 t93.1))
            else
              (fun j96 : T_deliberationkeep_Src × Int × T_api_Fraction =>
        bif decide ((k : Int) < (N : Int)) then
          Option.bind (appM 16 A [j96.2.2]) fun t100 =>
          letM (iadd .i64 (k : Int) 1) fun i104 =>
          some (Sum.inr (j96.2.1, i104, j96.1, t100, B))
        else
          Option.bind (appM 16 B [j96.2.2]) fun t102 =>
          letM (iadd .i64 (k : Int) 1) fun i105 =>
          some (Sum.inr (j96.2.1, i105, j96.1, A, t102))) (t.2, (m' : Int), (T_api_Fraction.mk 1 1))
          else
            (fun j96 : T_deliberationkeep_Src × Int × T_api_Fraction =>
        bif decide ((k : Int) < (N : Int)) then
          Option.bind (appM 16 A [j96.2.2]) fun t100 =>
          letM (iadd .i64 (k : Int) 1) fun i104 =>
          some (Sum.inr (j96.2.1, i104, j96.1, t100, B))
        else
          Option.bind (appM 16 B [j96.2.2]) fun t102 =>
          letM (iadd .i64 (k : Int) 1) fun i105 =>
          some (Sum.inr (j96.2.1, i105, j96.1, A, t102))) (t.2, (m' : Int), (T_api_Fraction.mk 1 1))) b : Option (Sum (T_deliberationkeep_Src × List Fr × List Fr) (Int × Int × T_deliberationkeep_Src × List Fr × List Fr))) _ := fun b => by
        refine T.cond (fun _ => T.cond (fun g4 => ?_) fun _ => one) fun _ => one
        simp at g4
        refine T.bind (Range_plain ht (by omega) (by omega) (by omega)) fun t2 ⟨ht2, h1, h2⟩ => ?_
        rw [isub64 (by omega) (by omega)]
        refine T.bind (Range_plain ht2 (by omega) (by omega) (by omega)) fun t3 ⟨ht3, h3, h4⟩ => ?_
        rw [isub1 (by omega), show (m' : Int) - 1 = ((m' - 1 : Nat) : Int) by omega]
        refine .letM ?_
        exact step t3.2 (m' - 1) ⟨t3.1, t2.1⟩ ht3 ⟨by simp only; omega, by simp only; omega, by simp only; omega, by simp only; omega⟩ (.inr ⟨by omega, by simp only; omega⟩)
      exact T.cond (fun _ => all _) fun _ => all _
  · simp at g1
    have e : k = N + g.L.length := by omega
    refine .ret ⟨hsr, by simp only; omega, by simp only; omega, hfr, by simp only; omega, ?_⟩
    exact Nat.le_trans (Nat.le_mul_of_pos_right _ (Nat.pos_of_ne_zero (by have := Nat.pow_pos (n := m') (show 0 < 5 by decide); omega))) hdn
end Go.Dc
