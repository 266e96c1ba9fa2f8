/- Part P23A.World of a proof: lemmas. -/
import Derived.Test.YtkcaadcoagimdaaDoorP23AGrd
import Derived.Test.YtkcaadcoagimdaaDoorP23AFrac
set_option linter.unusedVariables false
set_option linter.unusedSimpArgs false
set_option linter.unusedSectionVars false
/-! The net of a graph, and of a world. -/
namespace Go.Dc
abbrev Pr := T_api_Pair

/-- the attacks of a list -/
def atL (l : List Pr) (i j : Nat) : Prop := ∃ p ∈ l, p.From = (i : Int) ∧ p.To = (j : Int)

theorem getD_setN {l : List Nat} {i j x : Nat} (h : i < l.length) : (l.set i x).getD j 0 = if i = j then x else l.getD j 0 := getD_set h

theorem New_plain2 {N : Nat} {l : List Pr} (hN : N ≤ 40) (hv : ∀ p ∈ l, 0 ≤ p.From ∧ p.From < N ∧ 0 ≤ p.To ∧ p.To < N) (hl : l.length ≤ 1000000) :
    T (network_New_m ⟨(N : Int), l⟩) fun t => ∃ n : Nt, t = n.t ∧ NtOk N n ∧ (∀ i, n.all.testBit i = true ↔ i < N) ∧ ∀ i j, n.a i j ↔ atL l i j := by
  unfold network_New_m
  simp only
  rw [mkM_T (by omega), some_bind, some_bind, show List.replicate N (0 : Int) = il (List.replicate N 0) by simp [il]]
  refine T.bind (P := fun q : Int => ∃ a : Nat, q = (a : Int) ∧ ∀ i, a.testBit i = true ↔ i < N) ?_ ?_
  · refine T.loopK N (fun k s => k ≤ N ∧ s.1 = (k : Int) ∧ ∃ a : Nat, s.2 = (a : Int) ∧ ∀ i, a.testBit i = true ↔ i < k) ⟨by omega, rfl, 0, rfl, fun i => by simp⟩ ?_
    rintro k ⟨_, _⟩ ⟨hk, rfl, a, rfl, ha⟩
    dsimp only [network_New_l1] at *
    refine T.cond (fun g => ?_) fun g => ?_
    · simp at g
      have ha64 : a < 2 ^ 64 := lt64 (n := 40) (lt_of_bits fun j hj => by have := (ha j).1 hj; omega) (by omega)
      rw [With_plain ha64 (by omega), some_bind, iadd1 (by omega)]
      refine .ret ⟨g, by omega, rfl, _, rfl, fun i => ?_⟩
      rw [Nat.testBit_or, Nat.testBit_two_pow]
      simp only [Bool.or_eq_true, ha i, decide_eq_true_eq]; omega
    · simp at g
      have e : k = N := by omega
      exact .ret ⟨a, rfl, e ▸ ha⟩
  · rintro _ ⟨al, rfl, hal⟩
    refine T.bind (P := fun q : List Int × List Int => ∃ b o : List Nat, q = (il b, il o) ∧ b.length = N ∧ o.length = N ∧ (∀ i j, (b.getD j 0).testBit i = true ↔ atL l i j) ∧ ∀ i j, (o.getD i 0).testBit j = true ↔ atL l i j) ?_ ?_
    · refine T.loopK l.length (fun k s => k ≤ l.length ∧ s.1 = (k : Int) ∧ ∃ b o : List Nat, s.2 = (il b, il o) ∧ b.length = N ∧ o.length = N ∧ (∀ i j, (b.getD j 0).testBit i = true ↔ atL (l.take k) i j) ∧ ∀ i j, (o.getD i 0).testBit j = true ↔ atL (l.take k) i j)
        ⟨by omega, rfl, List.replicate N 0, List.replicate N 0, rfl, by simp, by simp, fun i j => by rw [getD_rep]; simp [atL], fun i j => by rw [getD_rep]; simp [atL]⟩ ?_
      rintro k ⟨_, _, _⟩ ⟨hk, rfl, b, o, he, hb, ho, hb2, ho2⟩
      cases he
      dsimp only [network_New_l2] at *
      refine T.cond (fun g => ?_) fun g => ?_
      · simp at g
        have hp := hv _ (List.getElem_mem g)
        have htk : l.take (k + 1) = l.take k ++ [l[k]] := by rw [List.take_add_one, List.getElem?_eq_getElem g]; rfl
        rw [idxM_nat g, some_bind]
        generalize hgp : l[k] = p at *
        obtain ⟨F, hF⟩ := Int.eq_ofNat_of_zero_le hp.1
        obtain ⟨U, hU⟩ := Int.eq_ofNat_of_zero_le hp.2.2.1
        have hFN : F < N := by have := hp.2.1; rw [hF] at this; omega
        have hUN : U < N := by have := hp.2.2.2; rw [hU] at this; omega
        have atk : ∀ i j, atL (l.take (k + 1)) i j ↔ atL (l.take k) i j ∨ i = F ∧ j = U := fun i j => by
          unfold atL
          rw [htk]
          constructor
          · rintro ⟨q, hq, h1, h2⟩
            rcases List.mem_append.1 hq with hq | hq
            · exact .inl ⟨q, hq, h1, h2⟩
            · rw [List.mem_singleton.1 hq] at h1 h2; rw [hF] at h1; rw [hU] at h2; exact .inr ⟨by omega, by omega⟩
          · rintro (⟨q, hq, h1, h2⟩ | ⟨rfl, rfl⟩)
            · exact ⟨q, List.mem_append_left _ hq, h1, h2⟩
            · exact ⟨p, List.mem_append_right _ (by simp), hF, hU⟩
        have lb : ∀ j, b.getD j 0 < 2 ^ 64 := fun j => lt64 (n := 40) (lt_of_bits fun i hi => by
          obtain ⟨q, hq, h1, h2⟩ := (hb2 i j).1 hi
          have := hv q (List.mem_of_mem_take hq); omega) (by omega)
        have lo : ∀ i, o.getD i 0 < 2 ^ 64 := fun i => lt64 (n := 40) (lt_of_bits fun j hj => by
          obtain ⟨q, hq, h1, h2⟩ := (ho2 i j).1 hj
          have := hv q (List.mem_of_mem_take hq); omega) (by omega)
        rw [hF, hU]
        simp only [Int.toNat_natCast]
        rw [il_idx (by omega), some_bind, With_plain (lb U) (by omega), some_bind, some_bind, il_idx (by omega), some_bind, With_plain (lo F) (by omega), some_bind, some_bind, il_set, il_set, iadd1 (by omega)]
        refine .ret ⟨g, by omega, rfl, _, _, rfl, by simpa using hb, by simpa using ho, fun i j => ?_, fun i j => ?_⟩
        · rw [getD_setN (by omega), atk]
          by_cases e : U = j
          · subst e
            rw [if_pos rfl, Nat.testBit_or, Nat.testBit_two_pow, Bool.or_eq_true, hb2, decide_eq_true_eq]
            simp [eq_comm]
          · rw [if_neg e, hb2]
            simp [show ¬ j = U from fun h => e h.symm]
        · rw [getD_setN (by omega), atk]
          by_cases e : F = i
          · subst e
            rw [if_pos rfl, Nat.testBit_or, Nat.testBit_two_pow, Bool.or_eq_true, ho2, decide_eq_true_eq]
            simp [eq_comm]
          · rw [if_neg e, ho2]
            simp [show ¬ i = F from fun h => e h.symm]
      · simp at g
        have e : k = l.length := by omega
        rw [e, List.take_length] at hb2 ho2
        exact .ret ⟨b, o, rfl, hb, ho, hb2, ho2⟩
    · rintro _ ⟨b, o, rfl, hb, ho, hb2, ho2⟩
      refine .ret ⟨⟨al, b, o⟩, rfl, ⟨hN, hb, ho, fun i hi => (hal i).1 hi, fun i j hij => ?_, fun i j => ?_⟩, hal, fun i j => ho2 i j⟩
      · obtain ⟨p, hp, h1, h2⟩ := (ho2 i j).1 hij
        have := hv p hp
        exact ⟨(hal i).2 (by omega), (hal j).2 (by omega)⟩
      · exact (hb2 i j).trans (ho2 i j).symm

theorem Within_plain {N : Nat} {n : Nt} (h : NtOk N n) {s : Nat} (hs : s < 2 ^ 64) :
    T (network_Net_Within_m n.t (s : Int)) fun t => ∃ n' : Nt, t = n'.t ∧ NtOk N n' ∧ (∀ i, n'.all.testBit i = true ↔ n.all.testBit i = true ∧ s.testBit i = true) ∧
      ∀ i j, n'.a i j ↔ n.a i j ∧ s.testBit i = true ∧ s.testBit j = true := by
  have hN := h.hN
  unfold network_Net_Within_m
  rw [show n.t.By = il n.by_ from rfl, show n.t.All = (n.all : Int) from rfl, il_len, h.lb, mkM_T (by omega), some_bind, some_bind, show List.replicate N (0 : Int) = il (List.replicate N 0) by simp [il]]
  have hal := h.allLt
  have hA : ∀ i, (n.all &&& s).testBit i = true ↔ n.all.testBit i = true ∧ s.testBit i = true := fun i => by rw [Nat.testBit_and, Bool.and_eq_true]
  refine T.bind (P := fun q : List Int × List Int => ∃ b o : List Nat, q = (il b, il o) ∧ b.length = N ∧ o.length = N ∧
    (∀ i, i < N → b.getD i 0 = (if (n.all &&& s).testBit i then n.by_.getD i 0 &&& s else 0)) ∧ ∀ i, i < N → o.getD i 0 = (if (n.all &&& s).testBit i then n.out.getD i 0 &&& s else 0)) ?_ ?_
  · refine T.loopK N (fun k st => k ≤ N ∧ st.1 = (k : Int) ∧ ∃ b o : List Nat, st.2 = (il b, il o) ∧ b.length = N ∧ o.length = N ∧
      (∀ i, b.getD i 0 = (if i < k ∧ (n.all &&& s).testBit i then n.by_.getD i 0 &&& s else 0)) ∧ ∀ i, o.getD i 0 = (if i < k ∧ (n.all &&& s).testBit i then n.out.getD i 0 &&& s else 0))
      ⟨by omega, rfl, List.replicate N 0, List.replicate N 0, rfl, by simp, by simp, fun i => by rw [getD_rep]; simp, fun i => by rw [getD_rep]; simp⟩ ?_
    rintro k ⟨_, _, _⟩ ⟨hk, rfl, b, o, he, hb, ho, hb2, ho2⟩
    cases he
    dsimp only [network_Net_Within_l1] at *
    rw [show n.t.By = il n.by_ from rfl, show n.t.All = (n.all : Int) from rfl, show n.t.Out = il n.out from rfl, il_len, h.lb]
    refine T.cond (fun g => ?_) fun g => ?_
    · simp at g
      rw [iand_u hal hs, Has_plain (and_lt hal) (by omega), some_bind, iadd1 (by omega)]
      cases hc : (n.all &&& s).testBit k with
      | true =>
        rw [cond_true, il_idx (by rw [h.lb]; exact g), some_bind, il_idx (by rw [h.lo]; exact g), some_bind, il_idx (by omega), some_bind, il_idx (by omega), some_bind, iand_u (h.byLt k) hs, iand_u (h.outLt k) hs]
        simp only [Int.toNat_natCast]
        rw [il_set, il_set]
        refine .ret ⟨g, by omega, rfl, _, _, rfl, by simpa using hb, by simpa using ho, fun i => ?_, fun i => ?_⟩
        · rw [getD_setN (by omega), hb2]
          by_cases e : k = i
          · subst e; rw [if_pos rfl, if_pos ⟨by omega, hc⟩]
          · rw [if_neg e]
            have : (i < k + 1) = (i < k) := propext (by omega)
            simp only [this]
        · rw [getD_setN (by omega), ho2]
          by_cases e : k = i
          · subst e; rw [if_pos rfl, if_pos ⟨by omega, hc⟩]
          · rw [if_neg e]
            have : (i < k + 1) = (i < k) := propext (by omega)
            simp only [this]
      | false =>
        rw [cond_false]
        have key : ∀ i, (i < k + 1 ∧ (n.all &&& s).testBit i = true) ↔ (i < k ∧ (n.all &&& s).testBit i = true) := fun i => by
          constructor
          · rintro ⟨h1, h2⟩
            by_cases e : i = k
            · subst e; rw [hc] at h2; cases h2
            · exact ⟨by omega, h2⟩
          · rintro ⟨h1, h2⟩; exact ⟨by omega, h2⟩
        refine .ret ⟨g, by omega, rfl, b, o, rfl, hb, ho, fun i => ?_, fun i => ?_⟩
        · rw [hb2]; simp only [key i]
        · rw [ho2]; simp only [key i]
    · simp at g
      have e : k = N := by omega
      exact .ret ⟨b, o, rfl, hb, ho, fun i hi => by rw [hb2 i, e]; simp [hi], fun i hi => by rw [ho2 i, e]; simp [hi]⟩
  · rintro _ ⟨b, o, rfl, hb, ho, hb2, ho2⟩
    have hbit : ∀ i j, (o.getD i 0).testBit j = true ↔ n.a i j ∧ s.testBit i = true ∧ s.testBit j = true := fun i j => by
      by_cases hi : i < N
      · rw [ho2 i hi]
        by_cases hc : (n.all &&& s).testBit i = true
        · rw [if_pos hc, Nat.testBit_and, Bool.and_eq_true]
          exact ⟨fun ⟨h1, h2⟩ => ⟨h1, ((hA i).1 hc).2, h2⟩, fun ⟨h1, h2, h3⟩ => ⟨h1, h3⟩⟩
        · rw [if_neg hc]
          simp only [Nat.zero_testBit, Bool.false_eq_true, false_iff]
          rintro ⟨h1, h2, h3⟩
          exact hc ((hA i).2 ⟨(h.ab i j h1).1, h2⟩)
      · rw [show o.getD i 0 = 0 by rw [List.getD_eq_getElem?_getD, List.getElem?_eq_none (by omega)]; rfl]
        simp only [Nat.zero_testBit, Bool.false_eq_true, false_iff]
        rintro ⟨h1, h2, h3⟩
        exact hi (h.al i (h.ab i j h1).1)
    have hbit2 : ∀ i j, (b.getD j 0).testBit i = true ↔ n.a i j ∧ s.testBit i = true ∧ s.testBit j = true := fun i j => by
      by_cases hi : j < N
      · rw [hb2 j hi]
        by_cases hc : (n.all &&& s).testBit j = true
        · rw [if_pos hc, Nat.testBit_and, Bool.and_eq_true, h.sy]
          exact ⟨fun ⟨h1, h2⟩ => ⟨h1, h2, ((hA j).1 hc).2⟩, fun ⟨h1, h2, h3⟩ => ⟨h1, h2⟩⟩
        · rw [if_neg hc]
          simp only [Nat.zero_testBit, Bool.false_eq_true, false_iff]
          rintro ⟨h1, h2, h3⟩
          exact hc ((hA j).2 ⟨(h.ab i j h1).2, h3⟩)
      · rw [show b.getD j 0 = 0 by rw [List.getD_eq_getElem?_getD, List.getElem?_eq_none (by omega)]; rfl]
        simp only [Nat.zero_testBit, Bool.false_eq_true, false_iff]
        rintro ⟨h1, h2, h3⟩
        exact hi (h.al j (h.ab i j h1).2)
    rw [iand_u hal hs]
    refine .ret ⟨⟨n.all &&& s, b, o⟩, rfl, ⟨hN, hb, ho, fun i hi => h.al i ((hA i).1 hi).1, fun i j hij => ?_, fun i j => ?_⟩, hA, hbit⟩
    · have h1 := (hbit i j).1 hij
      exact ⟨(hA i).2 ⟨(h.ab i j h1.1).1, h1.2.1⟩, (hA j).2 ⟨(h.ab i j h1.1).2, h1.2.2⟩⟩
    · exact (hbit2 i j).trans (hbit i j).symm

/-! ### worlds -/
/-- the net of the nodes and attacks that exist -/
structure WOk (N : Nat) (l : List Pr) (has : List Bool) (n : Nt) : Prop where
  ok : NtOk N n
  all : ∀ i, n.all.testBit i = true ↔ i < N ∧ has.getD i false = true
  at_ : ∀ i j, n.a i j ↔ n.all.testBit i = true ∧ n.all.testBit j = true ∧ ∃ k, k < l.length ∧ has.getD (N + k) false = true ∧ (l.getD k default).From = (i : Int) ∧ (l.getD k default).To = (j : Int)

structure GOk (N : Nat) (g : T_api_Graph) : Prop where
  n : g.N = (N : Int)
  hN : N ≤ 10
  v : ∀ p ∈ g.L, 0 ≤ p.From ∧ p.From < N ∧ 0 ≤ p.To ∧ p.To < N
  l : g.L.length ≤ 10000

theorem world_plain {N : Nat} {g : T_api_Graph} (hg : GOk N g) {has : List Bool} (hh : has.length = N + g.L.length) : T (chance_world_m g has) fun t => ∃ n : Nt, t = n.t ∧ WOk N g.L has n := by
  have hN := hg.hN
  have hl := hg.l
  unfold chance_world_m
  refine T.bind (P := fun q : Int => ∃ a : Nat, q = (a : Int) ∧ ∀ i, a.testBit i = true ↔ i < N ∧ has.getD i false = true) ?_ ?_
  · refine T.loopK N (fun k s => k ≤ N ∧ s.2 = (k : Int) ∧ ∃ a : Nat, s.1 = (a : Int) ∧ ∀ i, a.testBit i = true ↔ i < k ∧ has.getD i false = true) ⟨by omega, rfl, 0, rfl, fun i => by simp⟩ ?_
    rintro k ⟨_, _⟩ ⟨hk, rfl, a, rfl, ha⟩
    dsimp only [chance_world_l1] at *
    rw [hg.n]
    refine T.cond (fun g1 => ?_) fun g1 => ?_
    · simp at g1
      have ha64 : a < 2 ^ 64 := lt64 (n := 40) (lt_of_bits fun j hj => by have := (ha j).1 hj; omega) (by omega)
      rw [idxM_getD (z := false) (by omega), some_bind, iadd1 (by omega)]
      cases hc : has.getD k false with
      | true =>
        rw [cond_true, With_plain ha64 (by omega), some_bind]
        refine .ret ⟨g1, by omega, rfl, _, rfl, fun i => ?_⟩
        rw [Nat.testBit_or, Nat.testBit_two_pow]
        simp only [Bool.or_eq_true, ha i, decide_eq_true_eq]
        constructor
        · rintro (⟨h1, h2⟩ | rfl)
          · exact ⟨by omega, h2⟩
          · exact ⟨by omega, hc⟩
        · rintro ⟨h1, h2⟩
          by_cases e : k = i
          · exact .inr e
          · exact .inl ⟨by omega, h2⟩
      | false =>
        rw [cond_false]
        refine .ret ⟨g1, by omega, rfl, a, rfl, fun i => ?_⟩
        rw [ha i]
        constructor
        · rintro ⟨h1, h2⟩; exact ⟨by omega, h2⟩
        · rintro ⟨h1, h2⟩
          by_cases e : i = k
          · subst e; rw [hc] at h2; cases h2
          · exact ⟨by omega, h2⟩
    · simp at g1
      have e : k = N := by omega
      exact .ret ⟨a, rfl, e ▸ ha⟩
  · rintro _ ⟨nd, rfl, hnd⟩
    have hnd64 : nd < 2 ^ 64 := lt64 (n := 40) (lt_of_bits fun j hj => by have := (hnd j).1 hj; omega) (by omega)
    refine T.bind (P := fun q : List Pr => q.length ≤ g.L.length ∧ ∀ p, p ∈ q ↔ ∃ k, k < g.L.length ∧ has.getD (N + k) false = true ∧ g.L.getD k default = p) ?_ ?_
    · refine T.loopK g.L.length (fun k s => k ≤ g.L.length ∧ s.1 = (k : Int) ∧ s.2.length ≤ k ∧ ∀ p, p ∈ s.2 ↔ ∃ i, i < k ∧ has.getD (N + i) false = true ∧ g.L.getD i default = p) ⟨by omega, rfl, by simp, fun p => by simp⟩ ?_
      rintro k ⟨_, l⟩ ⟨hk, rfl, hlen, hm⟩
      dsimp only [chance_world_l2] at *
      refine T.cond (fun g1 => ?_) fun g1 => ?_
      · simp at g1
        rw [idxM_getD (z := default) g1, some_bind, hg.n, iadd_n (by omega), idxM_getD (z := false) (by omega), some_bind, iadd1 (by omega)]
        cases hc : has.getD (N + k) false with
        | true =>
          rw [cond_true, appM_eq (by simp; omega), some_bind]
          refine .ret ⟨g1, by omega, rfl, by simp; omega, fun p => ?_⟩
          rw [List.mem_append, hm, List.mem_singleton]
          constructor
          · rintro (⟨i, h1, h2⟩ | rfl)
            · exact ⟨i, by omega, h2⟩
            · exact ⟨k, by omega, hc, rfl⟩
          · rintro ⟨i, h1, h2, h3⟩
            by_cases e : i = k
            · subst e; exact .inr h3.symm
            · exact .inl ⟨i, by omega, h2, h3⟩
        | false =>
          rw [cond_false]
          refine .ret ⟨g1, by omega, rfl, by simp only; omega, fun p => ?_⟩
          rw [hm]
          constructor
          · rintro ⟨i, h1, h2⟩; exact ⟨i, by omega, h2⟩
          · rintro ⟨i, h1, h2, h3⟩
            by_cases e : i = k
            · subst e; rw [hc] at h2; cases h2
            · exact ⟨i, by omega, h2, h3⟩
      · simp at g1
        have e : k = g.L.length := by omega
        exact .ret ⟨by omega, e ▸ hm⟩
    · rintro q ⟨hq, hm⟩
      have hqv : ∀ p ∈ q, 0 ≤ p.From ∧ p.From < N ∧ 0 ≤ p.To ∧ p.To < N := fun p hp => by
        obtain ⟨k, hk, _, rfl⟩ := (hm p).1 hp
        have : g.L.getD k default ∈ g.L := by simp [List.getD, hk]
        exact hg.v _ this
      rw [hg.n]
      refine T.bind (New_plain2 (by omega) hqv (by omega)) ?_
      rintro _ ⟨n0, rfl, hn0, hall, hat⟩
      refine T.bind (Within_plain hn0 hnd64) ?_
      rintro _ ⟨n', rfl, hn', hall', hat'⟩
      refine .ret ⟨n', rfl, hn', fun i => ?_, fun i j => ?_⟩
      · rw [hall', hall, hnd]; exact ⟨fun h => h.2, fun h => ⟨h.1, h⟩⟩
      · rw [hat', hat, hall', hall']
        unfold atL
        constructor
        · rintro ⟨⟨p, hp, h1, h2⟩, h3, h4⟩
          have := hqv p hp
          refine ⟨⟨(hall i).2 (by omega), h3⟩, ⟨(hall j).2 (by omega), h4⟩, ?_⟩
          obtain ⟨k, hk, h5, rfl⟩ := (hm p).1 hp
          exact ⟨k, hk, h5, h1, h2⟩
        · rintro ⟨⟨_, h3⟩, ⟨_, h4⟩, k, hk, h5, h6, h7⟩
          exact ⟨⟨_, (hm _).2 ⟨k, hk, h5, rfl⟩, h6, h7⟩, h3, h4⟩
end Go.Dc
