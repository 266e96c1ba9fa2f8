/- Part P22A.World of a proof: lemmas. -/
import Derived.Test.YtmbflfngkcmfeaaDoorP22AGrd
import Derived.Test.YtmbflfngkcmfeaaDoorP22AFrac
set_option linter.unusedVariables false
set_option linter.unusedSimpArgs false
set_option linter.unusedSectionVars false
/-! The net of a graph, and of a world. -/
namespace Go.Dc
abbrev Pr := T_api_Pair

/-- the attacks of a list -/
def atL (l : List Pr) (i j : Nat) : Prop := ∃ p ∈ l, p.From = (i : Int) ∧ p.To = (j : Int)

theorem getD_setN {l : List Nat} {i j x : Nat} (h : i < l.length) : (l.set i x).getD j 0 = if i = j then x else l.getD j 0 := getD_set h

theorem New_plain2 {N : Nat} {l : List Pr} (hN : N ≤ 40) (hv : ∀ p ∈ l, 0 ≤ p.From ∧ p.From < N ∧ 0 ≤ p.To ∧ p.To < N) (hl : l.length ≤ 1000000) :
    T (network_New_m ⟨(N : Int), l⟩) fun t => ∃ n : Nt, t = n.t ∧ NtOk N n ∧ (∀ i, n.all.testBit i = true ↔ i < N) ∧ ∀ i j, n.a i j ↔ atL l i j := by
  unfold network_New_m
  simp only
  rw [mkM_T (by omega), some_bind, some_bind, show List.replicate N (0 : Int) = il (List.replicate N 0) by simp [il]]
  refine T.bind (P := fun q : Int => ∃ a : Nat, q = (a : Int) ∧ ∀ i, a.testBit i = true ↔ i < N) ?_ ?_
  · refine T.loopK N (fun k s => k ≤ N ∧ s.1 = (k : Int) ∧ ∃ a : Nat, s.2 = (a : Int) ∧ ∀ i, a.testBit i = true ↔ i < k) ⟨by omega, rfl, 0, rfl, fun i => by simp⟩ ?_
    rintro k ⟨_, _⟩ ⟨hk, rfl, a, rfl, ha⟩
    dsimp only [network_New_l1] at *
    refine T.cond (fun g => ?_) fun g => ?_
    · simp at g
      have ha64 : a < 2 ^ 64 := lt64 (n := 40) (lt_of_bits fun j hj => by have := (ha j).1 hj; omega) (by omega)
      rw [With_plain ha64 (by omega), some_bind, iadd1 (by omega)]
      refine .ret ⟨g, by omega, rfl, _, rfl, fun i => ?_⟩
      rw [Nat.testBit_or, Nat.testBit_two_pow]
      simp only [Bool.or_eq_true, ha i, decide_eq_true_eq]; omega
    · simp at g
      have e : k = N := by omega
      exact .ret ⟨a, rfl, e ▸ ha⟩
  · rintro _ ⟨al, rfl, hal⟩
    refine T.bind (P := fun q : List Int × List Int => ∃ b o : List Nat, q = (il b, il o) ∧ b.length = N ∧ o.length = N ∧ (∀ i j, (b.getD j 0).testBit i = true ↔ atL l i j) ∧ ∀ i j, (o.getD i 0).testBit j = true ↔ atL l i j) ?_ ?_
    · refine T.loopK l.length (fun k s => k ≤ l.length ∧ s.1 = (k : Int) ∧ ∃ b o : List Nat, s.2 = (il b, il o) ∧ b.length = N ∧ o.length = N ∧ (∀ i j, (b.getD j 0).testBit i = true ↔ atL (l.take k) i j) ∧ ∀ i j, (o.getD i 0).testBit j = true ↔ atL (l.take k) i j)
        ⟨by omega, rfl, List.replicate N 0, List.replicate N 0, rfl, by simp, by simp, fun i j => by rw [getD_rep]; simp [atL], fun i j => by rw [getD_rep]; simp [atL]⟩ ?_
      rintro k ⟨_, _, _⟩ ⟨hk, rfl, b, o, he, hb, ho, hb2, ho2⟩
      cases he
      dsimp only [network_New_l2] at *
      refine T.cond (fun g => ?_) fun g => ?_
      · simp at g
        have hp := hv _ (List.getElem_mem g)
        have htk : l.take (k + 1) = l.take k ++ [l[k]] := by rw [List.take_add_one, List.getElem?_eq_getElem g]; rfl
        rw [idxM_nat g, some_bind]
        generalize hgp : l[k] = p at *
        obtain ⟨F, hF⟩ := Int.eq_ofNat_of_zero_le hp.1
        obtain ⟨U, hU⟩ := Int.eq_ofNat_of_zero_le hp.2.2.1
        have hFN : F < N := by have := hp.2.1; rw [hF] at this; omega
        have hUN : U < N := by have := hp.2.2.2; rw [hU] at this; omega
        have atk : ∀ i j, atL (l.take (k + 1)) i j ↔ atL (l.take k) i j ∨ i = F ∧ j = U := fun i j => by
          unfold atL
          rw [htk]
          constructor
          · rintro ⟨q, hq, h1, h2⟩
            rcases List.mem_append.1 hq with hq | hq
            · exact .inl ⟨q, hq, h1, h2⟩
            · rw [List.mem_singleton.1 hq] at h1 h2; rw [hF] at h1; rw [hU] at h2; exact .inr ⟨by omega, by omega⟩
          · rintro (⟨q, hq, h1, h2⟩ | ⟨rfl, rfl⟩)
            · exact ⟨q, List.mem_append_left _ hq, h1, h2⟩
            · exact ⟨p, List.mem_append_right _ (by simp), hF, hU⟩
        have lb : ∀ j, b.getD j 0 < 2 ^ 64 := fun j => lt64 (n := 40) (lt_of_bits fun i hi => by
          obtain ⟨q, hq, h1, h2⟩ := (hb2 i j).1 hi
          have := hv q (List.mem_of_mem_take hq); omega) (by omega)
        have lo : ∀ i, o.getD i 0 < 2 ^ 64 := fun i => lt64 (n := 40) (lt_of_bits fun j hj => by
          obtain ⟨q, hq, h1, h2⟩ := (ho2 i j).1 hj
          have := hv q (List.mem_of_mem_take hq); omega) (by omega)
        rw [hF, hU]
        simp only [Int.toNat_natCast]
        rw [il_idx (by omega), some_bind, With_plain (lb U) (by omega), some_bind, some_bind, il_idx (by omega), some_bind, With_plain (lo F) (by omega), some_bind, some_bind, il_set, il_set, iadd1 (by omega)]
        refine .ret ⟨g, by omega, rfl, _, _, rfl, by simpa using hb, by simpa using ho, fun i j => ?_, fun i j => ?_⟩
        · rw [getD_setN (by omega), atk]
          by_cases e : U = j
          · subst e
            rw [if_pos rfl, Nat.testBit_or, Nat.testBit_two_pow, Bool.or_eq_true, hb2, decide_eq_true_eq]
            simp [eq_comm]
          · rw [if_neg e, hb2]
            simp [show ¬ j = U from fun h => e h.symm]
        · rw [getD_setN (by omega), atk]
          by_cases e : F = i
          · subst e
            rw [if_pos rfl, Nat.testBit_or, Nat.testBit_two_pow, Bool.or_eq_true, ho2, decide_eq_true_eq]
            simp [eq_comm]
          · rw [if_neg e, ho2]
            simp [show ¬ i = F from fun h => e h.symm]
      · simp at g
        have e : k = l.length := by omega
        rw [e, List.take_length] at hb2 ho2
        exact .ret ⟨b, o, rfl, hb, ho, hb2, ho2⟩
    · rintro _ ⟨b, o, rfl, hb, ho, hb2, ho2⟩
      refine .ret ⟨⟨al, b, o⟩, rfl, ⟨hN, hb, ho, fun i hi => (hal i).1 hi, fun i j hij => ?_, fun i j => ?_⟩, hal, fun i j => ho2 i j⟩
      · obtain ⟨p, hp, h1, h2⟩ := (ho2 i j).1 hij
        have := hv p hp
        exact ⟨(hal i).2 (by omega), (hal j).2 (by omega)⟩
      · exact (hb2 i j).trans (ho2 i j).symm

/-! ### worlds -/
/-- the net of the nodes and attacks that exist -/
structure WOk (N : Nat) (l : List Pr) (has : List Bool) (n : Nt) : Prop where
  ok : NtOk N n
  all : ∀ i, n.all.testBit i = true ↔ i < N ∧ has.getD i false = true
  at_ : ∀ i j, n.a i j ↔ n.all.testBit i = true ∧ n.all.testBit j = true ∧ ∃ k, k < l.length ∧ has.getD (N + k) false = true ∧ (l.getD k default).From = (i : Int) ∧ (l.getD k default).To = (j : Int)

structure GOk (N : Nat) (g : T_api_Graph) : Prop where
  n : g.N = (N : Int)
  hN : N ≤ 10
  v : ∀ p ∈ g.L, 0 ≤ p.From ∧ p.From < N ∧ 0 ≤ p.To ∧ p.To < N
  l : g.L.length ≤ 10000

end Go.Dc
