/- Part P38Z.Bas of a proof: lemmas. -/
import Derived.Test.YtcpkdjlfgfikcaaGreatDoorP38ZGnd
import Derived.Test.YtcpkdjlfgfikcaaGreatDoorDcBits
set_option linter.unusedVariables false
set_option linter.unusedSimpArgs false
set_option linter.unusedSectionVars false
/-! Valid graphs, and whom a node attacks. -/
namespace Go.Dc
def plt (p q : T_Pai) : Prop := p.From < q.From ∨ p.From = q.From ∧ p.To < q.To
structure GVal (g : T_Gra) : Prop where
  n0 : 0 ≤ g.N
  n1 : g.N ≤ 40
  v : ∀ p ∈ g.L, 0 ≤ p.From ∧ p.From < g.N ∧ 0 ≤ p.To ∧ p.To < g.N
  s : g.L.Pairwise plt
theorem GVal.gv {g : T_Gra} (h : GVal g) : GV0 g := ⟨h.n0, h.n1, h.v⟩
theorem pw {l : List T_Pai} (h : l.Pairwise plt) {i : Nat} (h0 : 1 ≤ i) (hi : i < l.length) : plt (l[i - 1]'(by omega)) l[i] :=
  List.pairwise_iff_getElem.1 h (i - 1) i (by omega) hi (by omega)

theorem cmp_plain {x y : Int} : cmp_Compare_int_m x y = some (if x < y then -1 else if y < x then 1 else 0) := by
  unfold cmp_Compare_int_m cmp_isNaN_int_m
  simp only [some_bind, bne_self_eq_false, cond_false]
  by_cases h : x < y
  · simp [h]
  · by_cases h2 : y < x <;> simp [h, h2]

theorem or_plain {a b : Int} : cmp_Or_int_m [a, b] = some (if a = 0 then b else a) := by
  have h0 : cmp_Or_int_l1 [a, b] 0 = some (bif a != 0 then .inl (.inl a) else .inr 1) := by
    unfold cmp_Or_int_l1
    rw [show decide ((0 : Int) < (([a, b] : List Int).length : Int)) = true from rfl, show idxM [a, b] 0 = some a from rfl, iadd64 (by omega) (by omega)]
    simp only [cond_true, some_bind]
    cases a != 0 <;> rfl
  have h1 : cmp_Or_int_l1 [a, b] 1 = some (bif b != 0 then .inl (.inl b) else .inr 2) := by
    unfold cmp_Or_int_l1
    rw [show decide ((1 : Int) < (([a, b] : List Int).length : Int)) = true from rfl, show idxM [a, b] 1 = some b from rfl, iadd64 (by omega) (by omega)]
    simp only [cond_true, some_bind]
    cases b != 0 <;> rfl
  have h2 : cmp_Or_int_l1 [a, b] 2 = some (.inl (.inr ())) := by
    unfold cmp_Or_int_l1
    rw [show decide ((2 : Int) < (([a, b] : List Int).length : Int)) = false from rfl]; rfl
  unfold cmp_Or_int_m
  rw [loopC_eq, h0]
  by_cases ha : a = 0
  · subst ha
    rw [if_pos rfl, show ((0 : Int) != 0) = false from rfl]
    simp only [cond_false, Option.bind_some]
    rw [loopC_eq, h1]
    by_cases hb : b = 0
    · subst hb
      rw [show ((0 : Int) != 0) = false from rfl]
      simp only [cond_false, Option.bind_some]
      rw [loopC_eq, h2]; rfl
    · rw [show (b != 0) = true from by simp [hb]]; rfl
  · rw [if_neg ha, show (a != 0) = true from by simp [ha]]; rfl

theorem pcmp_plain {p q : T_Pai} (h : plt p q) : graph_compare_m p q = some (-1) := by
  unfold graph_compare_m
  rw [cmp_plain, some_bind, cmp_plain, some_bind, or_plain, some_bind]
  unfold plt at h
  congr 1
  rcases h with h | ⟨h1, h2⟩
  · simp [h]
  · rw [h1]; simp [h2]

theorem gValidate_plain {g : T_Gra} (h : GVal g) (hl : g.L.length ≤ 1000000) : graph_Validate_m g = some 0 := by
  have h0 := h.n0; have h1 := h.n1
  unfold graph_Validate_m
  rw [decide_eq_false (by omega : ¬ g.N < 0), decide_eq_false (by omega : ¬ g.N > 40)]
  simp only [cond_false]
  have : loopC (graph_Validate_l1 g) 0 = some (.inr ()) := by
    refine T.eq (T.loopK g.L.length (fun i s => s = (i : Int) ∧ i ≤ g.L.length) ⟨rfl, by omega⟩ ?_)
    rintro i _ ⟨rfl, hi⟩
    dsimp only [graph_Validate_l1]
    refine T.cond (fun g1 => ?_) fun g1 => .ret rfl
    simp at g1
    have hv := h.v _ (List.getElem_mem g1)
    rw [idxM_nat g1, some_bind, iadd1 (by omega)]
    have m1 : 0 ≤ imin g.L[i].From g.L[i].To := by unfold imin; split <;> omega
    have m2 : imax g.L[i].From g.L[i].To < g.N := by unfold imax; split <;> omega
    refine T.cond (fun g2 => by simp at g2; omega) fun _ => T.cond (fun g2 => by simp at g2; omega) fun _ => ?_
    refine T.cond (fun g3 => ?_) fun g3 => .ret ⟨g1, rfl, by omega⟩
    simp at g3
    have hp := pw h.s g3 g1
    rw [isub1 (by omega), show (i : Int) - 1 = ((i - 1 : Nat) : Int) from by omega, idxM_nat (by omega), some_bind, pcmp_plain hp, some_bind]
    exact T.cond (fun g4 => by simp at g4) fun _ => .ret ⟨g1, rfl, by omega⟩
  rw [this]; rfl



theorem tz_plain {s k : Nat} (hs : s < 2 ^ 64) (hk : s.testBit k = true) (hl : ∀ j, j < k → s.testBit j = false) : mb_TrailingZeros64_m (s : Int) = some (k : Int) := by
  have h0 : s ≠ 0 := fun e => by rw [e] at hk; simp at hk
  have hk64 := bit_lt hs hk
  unfold mb_TrailingZeros64_m
  rw [show ((s : Int) == 0) = false by simp; exact h0, cond_false, show tab_0 = tzTab from rfl, tz_look hs hk hl, some_bind, letM_eq]
  congr 1
  have : IntKind.wrap .i64 (k : Int) = (k : Int) := wrap64 (by omega) (by omega)
  exact this
theorem list_plain {m : Nat} (hm : m < 2 ^ 64) : graph_list_m (m : Int) = some ((bitsL m).map fun k : Nat => (k : Int)) := by
  unfold graph_list_m
  refine T.eq (T.bind (P := fun q => q = (bitsL m).map fun k : Nat => (k : Int)) ?_ fun q hq => .ret hq)
  refine T.loopM (fun s => ∃ t : Nat, s.1 = (t : Int) ∧ t < 2 ^ 64 ∧ s.2 ++ ((bitsL t).map fun k : Nat => (k : Int)) = (bitsL m).map fun k : Nat => (k : Int)) (fun s => s.1.toNat) ⟨m, rfl, hm, rfl⟩ ?_
  rintro ⟨_, out⟩ ⟨t, rfl, ht, ho⟩
  dsimp only [graph_list_l1] at ho ⊢
  have hlen : out.length ≤ 64 := by
    have := congrArg List.length ho
    simp only [List.length_append, List.length_map] at this
    have := bitsL_len (s := m)
    omega
  refine T.cond (fun c => ?_) fun c => ?_
  · have h0 : t ≠ 0 := fun e => by rw [e] at c; simp at c
    obtain ⟨k, hk, hl⟩ := low_exists h0
    rw [tz_plain ht hk hl, some_bind, appM_eq (by simp; omega), some_bind, letM_eq, isub1_u ht (by omega), iand_u ht (by omega)]
    refine .ret ⟨⟨t &&& (t - 1), rfl, Nat.lt_of_le_of_lt Nat.and_le_left ht, ?_⟩, ?_⟩
    · rw [bitsL_cons ht hk hl] at ho
      rw [← ho]; simp
    · simp only [Int.toNat_natCast]; exact low_lt h0
  · have h0 : t = 0 := by simpa using c
    subst h0
    rw [bitsL_zero, List.map_nil, List.append_nil] at ho
    exact .ret ho

theorem Attacked_plain {g : T_Gra} (h : GVal g) (hl : g.L.length ≤ 10000) {i : Nat} (hi : (i : Int) < g.N) : ∃ L, graph_Attacked_m g (i : Int) = some L ∧ (∀ j : Int, j ∈ L ↔ att g i j) ∧ L.Nodup ∧ L.length ≤ 64 := by
  obtain ⟨N, hN⟩ : ∃ N : Nat, g.N = (N : Int) := ⟨g.N.toNat, by have := h.n0; omega⟩
  have h40 := h.n1
  suffices hm : T (graph_masks_m g) fun d => d.length = N ∧ ∀ a : Nat, a < N → ∃ m : Nat, sf d a = (m : Int) ∧ m < 2 ^ 64 ∧ ∀ j : Nat, m.testBit j = true ↔ att g a j by
    obtain ⟨d, e1, hd, hd2⟩ := hm
    obtain ⟨m, hm1, hm2, hm3⟩ := hd2 i (by omega)
    refine ⟨(bitsL m).map fun k : Nat => (k : Int), ?_, fun j => ?_, ?_, by rw [List.length_map]; exact bitsL_len⟩
    · unfold graph_Attacked_m graph_proper_m
      rw [gValidate_plain h (by omega), some_bind, show ((0 : Int) != 0) = false from rfl, cond_false, some_bind, decide_eq_false (by omega), cond_false, decide_eq_false (by omega), cond_false, e1, some_bind, idx_sf (by omega), hm1, some_bind, list_plain hm2]; rfl
    · rw [List.mem_map]
      constructor
      · rintro ⟨k, hk, rfl⟩
        exact (hm3 k).1 ((mem_bitsL hm2).1 hk)
      · intro hj
        obtain ⟨p, hp, h1, h2⟩ := hj
        have := h.v p hp
        exact ⟨j.toNat, (mem_bitsL hm2).2 ((hm3 j.toNat).2 ⟨p, hp, h1, by omega⟩), by omega⟩
    · unfold List.Nodup
      rw [List.pairwise_map]
      unfold bitsL
      refine List.Pairwise.imp ?_ (List.Pairwise.filter _ (List.nodup_range (n := 64)))
      intro a b hab e
      exact hab (by omega)
  unfold graph_masks_m
  rw [hN, mkM_T (by omega), some_bind]
  refine T.bind (P := fun d => d.length = N ∧ ∀ a : Nat, a < N → ∃ m : Nat, sf d a = (m : Int) ∧ m < 2 ^ 64 ∧ ∀ j : Nat, m.testBit j = true ↔ att g a j) ?_ fun d hd => .ret hd
  refine T.loopK g.L.length (fun k s => k ≤ g.L.length ∧ s.1 = (k : Int) ∧ s.2.length = N ∧ ∀ a : Nat, a < N → ∃ m : Nat, sf s.2 a = (m : Int) ∧ m < 2 ^ 64 ∧ ∀ j : Nat, m.testBit j = true ↔ ∃ p ∈ g.L.take k, p.From = a ∧ p.To = j) ⟨by omega, rfl, by simp, fun a ha => ⟨0, by simp [sf, ha], by omega, by simp⟩⟩ ?_
  rintro k ⟨_, d⟩ ⟨hk, rfl, hd, hd2⟩
  dsimp only [graph_masks_l1] at hd hd2 ⊢
  refine T.cond (fun c => ?_) fun c => ?_
  · have hk2 : k < g.L.length := by have := of_decide_eq_true c; omega
    obtain ⟨v0, v1, v2, v3⟩ := h.v _ (List.getElem_mem hk2)
    obtain ⟨a, ha⟩ : ∃ a : Nat, g.L[k].From = (a : Int) := ⟨g.L[k].From.toNat, by omega⟩
    obtain ⟨t, ht⟩ : ∃ t : Nat, g.L[k].To = (t : Int) := ⟨g.L[k].To.toNat, by omega⟩
    obtain ⟨m, m1, m2, m3⟩ := hd2 a (by omega)
    have hsh : ishlM .u64 1 (t : Int) = some (((2 ^ t : Nat) : Int)) := by
      unfold ishlM
      rw [if_neg (by omega), ishl_u (by omega)]
    have p2 : 2 ^ t < 2 ^ 64 := Nat.pow_lt_pow_right (by omega) (by omega)
    rw [idxM_nat hk2, some_bind, ha, ht, idx_sf (by omega), some_bind, hsh, some_bind, some_bind, m1, ior_u m2 p2, iadd1 (by omega), Int.toNat_natCast]
    refine .ret ⟨hk2, hk2, rfl, by simp [hd], fun b hb => ?_⟩
    have htk : ∀ q : T_Pai, q ∈ g.L.take (k + 1) ↔ q ∈ g.L.take k ∨ q = g.L[k] := fun q => by
      rw [List.take_add_one, List.getElem?_eq_getElem hk2]; simp only [Option.toList_some, List.mem_append, List.mem_singleton]
    simp only
    rw [sf_set (by omega)]
    by_cases e : a = b
    · subst e
      rw [if_pos rfl]
      refine ⟨_, rfl, or_lt m2 p2, fun j => ?_⟩
      rw [Nat.testBit_or, Bool.or_eq_true, m3, Nat.testBit_two_pow, decide_eq_true_iff]
      constructor
      · rintro (⟨p, hp, q1, q2⟩ | rfl)
        · exact ⟨p, (htk p).2 (.inl hp), q1, q2⟩
        · exact ⟨_, (htk _).2 (.inr rfl), ha, ht⟩
      · rintro ⟨p, hp, q1, q2⟩
        rcases (htk p).1 hp with hp | rfl
        · exact .inl ⟨p, hp, q1, q2⟩
        · exact .inr (by omega)
    · rw [if_neg e]
      obtain ⟨m', n1, n2, n3⟩ := hd2 b hb
      refine ⟨m', n1, n2, fun j => ?_⟩
      rw [n3]
      constructor
      · rintro ⟨p, hp, q1, q2⟩; exact ⟨p, (htk p).2 (.inl hp), q1, q2⟩
      · rintro ⟨p, hp, q1, q2⟩
        rcases (htk p).1 hp with hp | rfl
        · exact ⟨p, hp, q1, q2⟩
        · exact absurd (by omega) e
  · have e : k = g.L.length := by have := of_decide_eq_false c; omega
    subst e
    rw [List.take_length] at hd2
    exact .ret ⟨hd, hd2⟩
end Go.Dc
