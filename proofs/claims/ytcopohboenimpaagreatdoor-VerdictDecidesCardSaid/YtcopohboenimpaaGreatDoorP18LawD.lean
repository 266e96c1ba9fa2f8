/- Part P18.LawD of a proof: lemmas. -/
import Derived.Test.YtcopohboenimpaaGreatDoorP18LawX
set_option linter.unusedVariables false
set_option linter.unusedSimpArgs false
set_option linter.unusedSectionVars false
/-! The law VerdictDecides in plain words. -/
namespace Go.Dc
open Go.Proofs Go.Sort
variable {g : T_api_Graph}

/-- the labellings that a question looks at -/
def useP (q : Int) (z : List Int) : Bool := q == 1 || q == 4 || !(z.any fun x => x == 3)
theorem Truth_plain {q : Int} {n N : Nat} (hn : n < N) (hN : N ≤ 40) {all : List (List Int)} (hl : all.length ≤ 1000000) (ha : ∀ z ∈ all, LOk N z) :
    T (ref18_Truth_m g q (n : Int) all) fun b => b = if q = 3 ∨ q = 4 then all.all (fun z => !useP q z || sf z n == 1) else all.any fun z => useP q z && sf z n == 1 := by
  unfold ref18_Truth_m
  refine T.bind (P := fun s => s = (all.any (fun z => useP q z && sf z n == 1), all.all fun z => !useP q z || sf z n == 1)) ?_ fun s hs => ?_
  · refine T.loopK all.length (fun k s => k ≤ all.length ∧ s = ((all.take k).any (fun z => useP q z && sf z n == 1), (all.take k).all (fun z => !useP q z || sf z n == 1), (k : Int))) ⟨by omega, by simp⟩ ?_
    rintro k _ ⟨hk, rfl⟩
    dsimp only [ref18_Truth_l1]
    refine T.cond (fun c => ?_) fun c => ?_
    · have hk2 : k < all.length := by simpa using c
      have hz := ha _ (List.getElem_mem hk2)
      have hzl := hz.len
      have t1 : ∀ p : List Int → Bool, (all.take (k + 1)).any p = ((all.take k).any p || p all[k]) := fun p => by
        rw [List.take_add_one, List.getElem?_eq_getElem hk2, Option.toList_some, List.any_append]; simp
      have t2 : ∀ p : List Int → Bool, (all.take (k + 1)).all p = ((all.take k).all p && p all[k]) := fun p => by
        rw [List.take_add_one, List.getElem?_eq_getElem hk2, Option.toList_some, List.all_append]; simp
      simp only [joinM_eq, idxM_nat hk2, some_bind, iadd1 (show k ≤ 4611686018427387904 by omega), idx_sf (l := all[k]) (i := n) (by omega), rIn_plain (l := all[k]) (x := 3) (by omega), t1, t2]
      generalize (all.take k).any (fun z => useP q z && sf z n == 1) = A
      generalize (all.take k).all (fun z => !useP q z || sf z n == 1) = B
      have use : ∀ u : Bool, useP q all[k] = u → T (bif u then (bif A then bif B then (some (Sum.inr (true, sf all[k] n == 1, ((k + 1 : Nat) : Int))) : Option (Sum (Bool × Bool) (Bool × Bool × Int))) else some (Sum.inr (true, false, ((k + 1 : Nat) : Int))) else bif B then some (Sum.inr (sf all[k] n == 1, sf all[k] n == 1, ((k + 1 : Nat) : Int))) else some (Sum.inr (sf all[k] n == 1, false, ((k + 1 : Nat) : Int)))) else some (Sum.inr (A, B, ((k + 1 : Nat) : Int))))
          (onO (fun s => s = (all.any (fun z => useP q z && sf z n == 1), all.all fun z => !useP q z || sf z n == 1)) fun s => k < all.length ∧ k + 1 ≤ all.length ∧ s = (A || (useP q all[k] && sf all[k] n == 1), B && (!useP q all[k] || sf all[k] n == 1), ((k + 1 : Nat) : Int))) := by
        intro u hu
        rw [hu]
        cases u <;> cases A <;> cases B <;> exact .ret ⟨hk2, hk2, by simp⟩
      by_cases h1 : q = 1
      · subst h1; exact use true rfl
      · by_cases h4 : q = 4
        · subst h4; exact use true rfl
        · rw [show (q != 1) = true by simp [h1], show (q != 4) = true by simp [h4]]
          have hu : useP q all[k] = !(all[k].any fun x => x == 3) := by unfold useP; rw [show (q == 1) = false by simp [h1], show (q == 4) = false by simp [h4]]; simp
          simp only [cond_true]
          cases h3 : all[k].any fun z => z == 3 with
          | true => exact use false (by rw [hu, h3]; rfl)
          | false => exact use true (by rw [hu, h3]; rfl)
    · have e : k = all.length := by have : ¬ (k : Int) < all.length := of_decide_eq_false c; omega
      subst e
      exact .ret (by simp)
  · subst hs
    dsimp only
    by_cases h3 : q = 3
    · subst h3; exact .ret rfl
    · by_cases h4 : q = 4
      · subst h4; exact .ret rfl
      · rw [show (q == 3) = false by simp [h3], show (q == 4) = false by simp [h4], if_neg (by omega)]
        exact .ret rfl

/-- what all is said of a verdict -/
def Right (g : T_api_Graph) (q : Int) (n : Nat) (v : T_api_Verdict) : Prop :=
  v.Labels.length ≤ 1000000 ∧ ref18_Check_m g q (n : Int) v = some 0 ∧ ∀ all : List (List Int), all.length ≤ 1000000 → (∀ z, z ∈ all ↔ Cpl g z) → T (ref18_Truth_m g q (n : Int) all) fun b => b = v.Holds
theorem nvs_le12 {L : List (List Int)} {n : Int} (hn : n ≤ 12) : nvs L n ≤ 12 := by
  unfold nvs
  rw [← List.countP_eq_length_filter]
  refine Nat.le_trans (List.countP_mono_left (q := fun v : Nat => decide (v ≤ 12)) fun v _ hv => ?_) (by decide +kernel)
  simp only [Bool.and_eq_true, decide_eq_true_eq] at hv ⊢
  omega
theorem right3 (h : GVal g) (hg : g.L.length ≤ 100000) {q : Int} (hq1 : 1 ≤ q) (hq3 : q ≤ 3) {n : Nat} (hn : n < g.N.toNat) {v : T_api_Verdict} (hd : DecR g q n v) : Right g q n v := by
  have h40 := h.n1
  refine ⟨?_, rCheck_q h hg hq1 hq3 hn (Dec_acc hd), fun all hl hall => (Truth_plain hn (by omega) hl fun z hz => ((hall z).1 hz).1).mono fun b hb => ?_⟩
  · rcases hd with ⟨y, rfl, hy, _⟩ | ⟨st, rfl, _⟩
    · have := hy.len; simp only; omega
    · simp
  have forU : ∀ z, Cpl g z → useP q z = true → forP g q n z = ((sf z n == 1) == (q != 3)) := fun z hz hu => by
    unfold forP useP at *
    rw [hz.2]
    rw [show (q == 4) = false by simp; omega] at hu
    simp only [Bool.or_false] at hu
    rw [hu]; simp
  rcases hd with ⟨y, rfl, hy, hf⟩ | ⟨st, rfl, _, hs⟩
  · have hc : Cpl g y := ⟨hy, by unfold forP at hf; simp only [Bool.and_eq_true] at hf; exact hf.1.1⟩
    have hu : useP q y = true := by
      unfold forP at hf; simp only [Bool.and_eq_true] at hf
      unfold useP
      rw [show (q == 4) = false by simp; omega]
      simpa using hf.1.2
    have hy1 : (sf y n == 1) = (q != 3) := by
      unfold forP at hf; simp only [Bool.and_eq_true] at hf
      exact eq_of_beq hf.2
    have hm := (hall y).2 hc
    simp only
    by_cases h3 : q = 3
    · subst h3
      rw [hb, if_pos (.inl rfl)]
      refine List.all_eq_false.2 ⟨y, hm, ?_⟩
      rw [hu, hy1]; decide
    · rw [hb, if_neg (by omega), show (q != 3) = true by simp [h3]]
      refine List.any_eq_true.2 ⟨y, hm, ?_⟩
      rw [hu, hy1, show (q != 3) = true by simp [h3]]; rfl
  · have no : ∀ z, Cpl g z → useP q z = true → ((sf z n == 1) == (q != 3)) = false := fun z hz hu => by
      rw [← forU z hz hu]; exact no_both h hn hs hz.1
    simp only
    by_cases h3 : q = 3
    · subst h3
      rw [hb, if_pos (.inl rfl)]
      refine List.all_eq_true.2 fun z hz => ?_
      cases hu : useP 3 z with
      | false => rfl
      | true =>
        have := no z ((hall z).1 hz) hu
        cases hs : sf z n == 1 with
        | true => rfl
        | false => rw [hs] at this; cases this
    · rw [hb, if_neg (by omega), show (q == 3) = false by simp [h3]]
      rw [List.any_eq_false]
      intro z hz hh
      simp only [Bool.and_eq_true] at hh
      have := no z ((hall z).1 hz) hh.1
      rw [hh.2, show (q != 3) = true by simp [h3]] at this; cases this
theorem right4 (h : GVal g) (hg : g.L.length ≤ 100000) {n : Nat} (hn : n < g.N.toNat) {L R : List Int} (ha : AccG g L R) : Right g 4 n ⟨sf L n == 1, L, R, []⟩ := by
  have h40 := h.n1; have hl := ha.1.len
  refine ⟨by simp only; omega, rCheck_4 h hg hn ha, fun all hl hall => (Truth_plain hn (by omega) hl fun z hz => ((hall z).1 hz).1).mono fun b hb => ?_⟩
  rw [hb, if_pos (.inr rfl)]
  simp only
  cases hs : sf L n == 1 with
  | true =>
    refine List.all_eq_true.2 fun z hz => ?_
    have hz' := (hall z).1 hz
    rw [acc_sub h ha hz'.1 hz'.2 n hn (eq_of_beq hs)]; simp
  | false =>
    refine List.all_eq_false.2 ⟨L, (hall L).2 ⟨ha.1, ha.2.2.1⟩, ?_⟩
    rw [hs]; unfold useP; simp

/-- Decide, whatever it is asked -/
def DecA (g : T_api_Graph) (q i : Int) (r : T_api_Verdict × Int) : Prop :=
  (¬ (GVal g ∧ 0 ≤ i ∧ i < g.N) ∧ r = (⟨false, [], [], []⟩, 1)) ∨ ((GVal g ∧ 0 ≤ i ∧ i < g.N) ∧ ¬ (1 ≤ q ∧ q ≤ 4) ∧ r = (⟨false, [], [], []⟩, 4)) ∨
  ((GVal g ∧ 0 ≤ i ∧ i < g.N) ∧ (1 ≤ q ∧ q ≤ 4) ∧ ((r.2 = 0 ∧ Right g q i.toNat r.1) ∨ (r = (⟨false, [], [], []⟩, 2) ∧ 6 < g.N ∧ q ≠ 4)))
theorem DecideA_plain (hg : g.L.length ≤ 100000) {q i : Int} : T (verdict_Decide_m g q i) (DecA g q i) := by
  by_cases hv : GVal g ∧ 0 ≤ i ∧ i < g.N
  · obtain ⟨h, h0, h1⟩ := hv
    obtain ⟨n, rfl⟩ := Int.eq_ofNat_of_zero_le h0
    have hn : n < g.N.toNat := by omega
    by_cases h4 : q = 4
    · subst h4
      refine (Decide4_plain h hg hn).mono fun r hr => ?_
      obtain ⟨e0, L, R, e1, ha⟩ := hr
      exact .inr (.inr ⟨⟨h, h0, h1⟩, ⟨by omega, by omega⟩, .inl ⟨e0, by rw [e1]; exact right4 h hg hn ha⟩⟩)
    · by_cases hq : 1 ≤ q ∧ q ≤ 3
      · refine (Decide_plain h hg hq.1 hq.2 hn).mono fun r hr => ?_
        rcases hr with ⟨e0, hd⟩ | ⟨e, hb⟩
        · exact .inr (.inr ⟨⟨h, h0, h1⟩, ⟨by omega, by omega⟩, .inl ⟨e0, right3 h hg hq.1 hq.2 hn hd⟩⟩)
        · refine .inr (.inr ⟨⟨h, h0, h1⟩, ⟨by omega, by omega⟩, .inr ⟨e, ?_, h4⟩⟩)
          refine Classical.byContradiction fun hc => ?_
          have := nvs_le12 (L := encP g q (n : Int)) (n := 2 * g.N) (by omega)
          omega
      · unfold verdict_Decide_m
        refine T.bind (asked_plain hg) fun r hr => ?_
        rcases hr with ⟨rfl, _, _, _⟩ | ⟨_, hb⟩
        case inr => exact absurd ⟨h, h0, h1⟩ hb
        rw [show ((0 : Int) != 0) = false from rfl, cond_false, show (q == 4) = false by simp [h4], cond_false]
        refine T.bind (Encode_plain hg) fun e he => ?_
        have er : e = (0, 4, []) := by
          rcases he with ⟨_, _, _, a, b, _⟩ | ⟨_, _, _, _, hr⟩ | ⟨hc, _⟩
          · exact absurd ⟨a, b⟩ hq
          · exact hr
          · exact absurd ⟨h, h0, h1⟩ hc
        subst er
        dsimp only
        rw [show ((4 : Int) != 0) = true from rfl, cond_true]
        exact .ret (.inr (.inl ⟨⟨h, h0, h1⟩, by omega, rfl⟩))
  · unfold verdict_Decide_m
    refine T.bind (asked_plain hg) fun r hr => ?_
    rcases hr with ⟨_, a, b, c⟩ | ⟨rfl, hb⟩
    · exact absurd ⟨a, b, c⟩ hv
    · exact .ret (.inl ⟨hv, rfl⟩)
theorem Errors_plain (hg : g.L.length ≤ 100000) {q i : Int} : T (ref18_Errors_m g q i) fun e => (¬ (GVal g ∧ 0 ≤ i ∧ i < g.N) ∧ e = 1) ∨ ((GVal g ∧ 0 ≤ i ∧ i < g.N) ∧ ¬ (1 ≤ q ∧ q ≤ 4) ∧ e = 4) ∨ ((GVal g ∧ 0 ≤ i ∧ i < g.N) ∧ (1 ≤ q ∧ q ≤ 4) ∧ e = 0) := by
  unfold ref18_Errors_m
  refine T.bind (rValidate_all (by omega)) fun r hr => ?_
  refine T.cond (fun c => .ret (.inl ⟨fun h => by rw [hr.2 h.1] at c; simp at c, rfl⟩)) fun c => ?_
  have hv := hr.1 (by simpa using c)
  refine T.cond (fun c1 => .ret (.inl ⟨fun h => by have := of_decide_eq_true c1; omega, rfl⟩)) fun c1 => T.cond (fun c2 => .ret (.inl ⟨fun h => by have := of_decide_eq_true c2; omega, rfl⟩)) fun c2 => ?_
  have h0 := of_decide_eq_false c1; have h1 := of_decide_eq_false c2
  refine T.cond (fun c3 => .ret (.inr (.inl ⟨⟨hv, by omega, by omega⟩, fun h => by have := of_decide_eq_true c3; omega, rfl⟩))) fun c3 => T.cond (fun c4 => .ret (.inr (.inl ⟨⟨hv, by omega, by omega⟩, fun h => by have := of_decide_eq_true c4; omega, rfl⟩))) fun c4 => ?_
  have h2 := of_decide_eq_false c3; have h3 := of_decide_eq_false c4
  exact .ret (.inr (.inr ⟨⟨hv, by omega, by omega⟩, ⟨by omega, by omega⟩, rfl⟩))

theorem decs_l1 (hg : g.L.length ≤ 2000) (hN : g.N ≤ 7 ∨ 40 < g.N ∨ ∀ p ∈ g.L, p.To < 7) {n q : Int} {t : Int × T_deliberationkeep_Src} : loopC (law18_VerdictDecides_l1 n g q t) 0 = some (.inr ()) := by
  refine T.eq (T.loopK 2 (fun k s => k ≤ 2 ∧ s = (k : Int)) ⟨by omega, rfl⟩ ?_)
  rintro k _ ⟨hk, rfl⟩
  dsimp only [law18_VerdictDecides_l1]
  refine T.cond (fun c => ?_) fun c => .ret rfl
  have hk2 : k < [n, t.1].length := by have := of_decide_eq_true c; exact Int.ofNat_lt.1 this
  rw [idxM_nat hk2, some_bind]
  generalize [n, t.1][k] = i
  obtain ⟨r, e1, hr⟩ := DecideA_plain (g := g) (by omega) (q := q) (i := i)
  obtain ⟨e, e2, he⟩ := Errors_plain (g := g) (by omega) (q := q) (i := i)
  have hll : r.1.Labels.length ≤ 1000000 := by
    rcases hr with ⟨_, rfl⟩ | ⟨_, _, rfl⟩ | ⟨_, _, ⟨_, h, _⟩ | ⟨rfl, _⟩⟩
    · simp
    · simp
    · exact h
    · simp
  rw [e1, some_bind, some_bind, bne_self_eq_false, cond_false, show (!(r.1.Holds == r.1.Holds)) = false by simp, cond_false, Ints_refl hll, some_bind, show (!true) = false from rfl, cond_false, bne_self_eq_false, cond_false, e2, some_bind, iadd1 (by omega)]
  rcases hr with ⟨hv, rfl⟩ | ⟨hv, hq, rfl⟩ | ⟨hv, hq, hr⟩
  · have : e = 1 := by
      rcases he with ⟨_, h⟩ | ⟨h, _⟩ | ⟨h, _⟩
      · exact h
      · exact absurd h hv
      · exact absurd h hv
    subst this
    exact .ret ⟨hk2, hk2, rfl⟩
  · have : e = 4 := by
      rcases he with ⟨h, _⟩ | ⟨_, _, h⟩ | ⟨_, h, _⟩
      · exact absurd hv h
      · exact h
      · exact absurd h hq
    subst this
    exact .ret ⟨hk2, hk2, rfl⟩
  · have : e = 0 := by
      rcases he with ⟨h, _⟩ | ⟨_, h, _⟩ | ⟨_, _, h⟩
      · exact absurd hv h
      · exact absurd hq h
      · exact h
    subst this
    rw [show ((0 : Int) != 0) = false from rfl, cond_false]
    simp only [joinM_eq]
    rcases hr with ⟨h0, _, hc, ht⟩ | ⟨rfl, h6, h4⟩
    · obtain ⟨h, i0, i1⟩ := hv
      obtain ⟨m, rfl⟩ := Int.eq_ofNat_of_zero_le i0
      rw [Int.toNat_natCast] at hc ht
      rw [h0]
      have h40 := h.n1
      have h7 : ∀ p ∈ g.L, p.To < 7 := by
        rcases hN with a | a | a
        · exact fun p hp => by have := h.v p hp; omega
        · omega
        · exact a
      obtain ⟨A, eA, hA⟩ := Complete_plain h (by omega) h7
      have hAl : A.2.length ≤ 1000000 := by
        unfold ref14_Complete_m at eA
        obtain ⟨x, ex, hx⟩ := Option.bind_eq_some_iff.1 eA
        have hval : ref10_Validate_m g = some 0 := by
          obtain ⟨x, e, hx⟩ := rValidate_all (g := g) (by omega)
          rw [e, hx.2 h]
        rw [hval] at ex; cases ex
        rw [show ((0 : Int) != 0) = false from rfl, cond_false] at hx
        obtain ⟨f, ef, hf⟩ := Option.bind_eq_some_iff.1 hx
        cases hd : decide ((f.length : Int) > 200) with
        | true => rw [hd] at hf; cases hf; simp
        | false => rw [hd] at hf; cases hf; have := of_decide_eq_false hd; simp only; omega
      show T (Option.bind (ref14_Complete_m g) _) _
      rw [eA, some_bind, hc, some_bind, show ((0 : Int) != 0) = false from rfl, cond_false]
      refine T.bind (ht A.2 hAl hA) fun b hb => ?_
      subst hb
      rw [show (!(r.1.Holds == r.1.Holds)) = false by simp, cond_false]
      exact .ret ⟨hk2, hk2, rfl⟩
    · dsimp only
      rw [show ((2 : Int) == 2) = true from rfl, cond_true, decide_eq_false (by omega : ¬ g.N ≤ 6), cond_false, show (q == 4) = false by simp [h4], cond_false]
      exact .ret ⟨hk2, hk2, rfl⟩

theorem decs_l2 (hg : g.L.length ≤ 2000) (hN : g.N ≤ 7 ∨ 40 < g.N ∨ ∀ p ∈ g.L, p.To < 7) {n q : Int} {t u s : Int × T_deliberationkeep_Src} (hs : RdOk s.2) : T (loopC (law18_VerdictDecides_l2 q n t g u) (0, s.2.L, s.2.At)) fun r => ∃ o, r = .inr o ∧ RdOk ⟨o.1, o.2⟩ := by
  refine T.loopK 3 (fun k s => k ≤ 3 ∧ s.1 = (k : Int) ∧ RdOk ⟨s.2.1, s.2.2⟩) ⟨by omega, rfl, hs⟩ ?_
  rintro k ⟨_, sl, sa⟩ ⟨hk, rfl, hr⟩
  dsimp only at hr
  dsimp only [law18_VerdictDecides_l2]
  refine T.cond (fun c => ?_) fun c => .ret ⟨_, rfl, hr⟩
  have hk2 : k < [q, iadd .i64 1 t.1, iadd .i64 1 u.1].length := by have := of_decide_eq_true c; exact Int.ofNat_lt.1 this
  rw [idxM_nat hk2, some_bind]
  refine T.bind (N_plain hr (by omega)) fun v ⟨hv, _⟩ => ?_
  rw [decs_l1 hg hN, some_bind, sumK_inr, iadd1 (by omega)]
  exact .ret ⟨hk2, hk2, rfl, hv⟩
theorem Spoilt7_plain {s : T_deliberationkeep_Src} (h : RdOk s) {g : T_api_Graph} (hg : g.L.length ≤ 1640) (hN : g.N ≤ 6) (h7 : ∀ p ∈ g.L, p.To < 7) : T (keep_Src_SpoiltGraph_m s g) fun r => r.1.L.length ≤ 1641 ∧ RdOk r.2 ∧ (r.1.N ≤ 7 ∨ 40 < r.1.N ∨ ∀ p ∈ r.1.L, p.To < 7) := by
  unfold keep_Src_SpoiltGraph_m
  simp only [appM_eq (b := 16) (d := ([] : List T_api_Pair)) (e := g.L) (by simp; omega), some_bind, meetO_self, List.nil_append]
  refine T.join ?_
  dsimp only
  refine T.cond (fun c => ?_) fun c => ?_
  · refine T.bind (N_plain h (by omega)) fun t ⟨ht, _⟩ => T.bind (N_plain ht (by omega)) fun u ⟨hu, _⟩ => ?_
    rw [appM_eq (by simp; omega), some_bind]
    exact .ret ⟨by simp; omega, hu, .inl (by simp only; omega)⟩
  · have hpos : 0 < g.L.length := by
      rcases Nat.eq_zero_or_pos g.L.length with e | e
      · rw [e] at c; simp at c
      · exact e
    refine T.bind (N_plain h (by omega)) fun i ⟨hi, hib⟩ => T.bind (N_plain hi (by omega)) fun t ⟨ht, _⟩ => ?_
    have hib := hib (by omega)
    obtain ⟨k, hk⟩ : ∃ k : Nat, i.1 = (k : Int) := ⟨i.1.toNat, by omega⟩
    rw [hk]
    have hkl : k < g.L.length := by omega
    refine T.cond (fun _ => ?_) fun _ => T.cond (fun _ => ?_) fun _ => T.cond (fun _ => ?_) fun _ => T.cond (fun _ => ?_) fun _ => ?_
    · refine T.bind (N_plain ht (by omega)) fun u ⟨hu, _⟩ => ?_
      rw [idxM_nat hkl, some_bind]
      exact .ret ⟨by simp; omega, hu, .inl (by simp only; omega)⟩
    · refine T.bind (N_plain ht (by omega)) fun u ⟨hu, _⟩ => ?_
      rw [idxM_nat hkl, some_bind]
      exact .ret ⟨by simp; omega, hu, .inl (by simp only; omega)⟩
    · rw [idxM_nat hkl, some_bind, appM_eq (by simp; omega), some_bind]
      exact .ret ⟨by simp; omega, ht, .inl (by simp only; omega)⟩
    · rw [show (0 : Int) = ((0 : Nat) : Int) from rfl, idxM_nat hpos, some_bind, idxM_nat hkl, some_bind, some_bind, idxM_nat (by simpa using hpos), some_bind]
      exact .ret ⟨by simp; omega, ht, .inl (by simp only; omega)⟩
    · refine T.bind (N_plain ht (by omega)) fun u ⟨hu, _⟩ => .ret ⟨by simp only; omega, hu, .inr (.inr h7)⟩


theorem law18_VerdictDecides_plain (raw : T_api_Graph) (question n : Int) (l : List Int) {p0 p1 p2 p3 : Prop} (_ : p0) (_ : p1) (_ : p2) (_ : p3) : law18_VerdictDecides_m raw question n l = some true := by
  refine T.eq ?_
  unfold law18_VerdictDecides_m
  refine T.join ?_
  have key : raw.L.length ≤ 60 → (raw.N ≤ 7 ∨ 40 < raw.N) → T (Option.bind (keep_New_m l) fun s3 => Option.bind (keep_Src_Graph_m ((T_deliberationkeep_Src.mk s3.1 s3.2)) 6) fun t4 => Option.bind (keep_Src_SpoiltGraph_m t4.2 t4.1) fun t6 =>
      Option.bind (loopC (law18_VerdictDecides_l3 raw question n t4 t6) ((0, t6.2.L, t6.2.At))) (sumK (fun a : Bool => some a) fun q253 : Unit => Option.bind (law18_awake_m) fun t254 => some t254)) fun r => r = true := by
    intro hrl hrN
    refine T.bind New_plain fun s hs => T.bind (Graph_plain hs (by omega) (by omega)) fun t2 ⟨hv2, hn2, h2, hs2⟩ => ?_
    have h72 : ∀ p ∈ t2.1.L, p.To < 7 := fun p hp => by have := hv2.v p hp; omega
    refine T.bind (Spoilt7_plain hs2 h2 hn2 h72) fun t5 ⟨h5, hs5, h75⟩ => ?_
    refine T.bind (P := fun q => q = .inr ()) ?_ fun q hq => ?_
    · refine T.loopK 3 (fun k s => k ≤ 3 ∧ s.1 = (k : Int) ∧ RdOk ⟨s.2.1, s.2.2⟩) ⟨by omega, rfl, hs5⟩ ?_
      rintro k ⟨_, sl, sa⟩ ⟨hk, rfl, hr⟩
      dsimp only at hr
      dsimp only [law18_VerdictDecides_l3]
      refine T.cond (fun c => ?_) fun c => .ret rfl
      have hk2 : k < [raw, t2.1, t5.1].length := by have := of_decide_eq_true c; exact Int.ofNat_lt.1 this
      have hall : ∀ g ∈ [raw, t2.1, t5.1], g.L.length ≤ 2000 ∧ (g.N ≤ 7 ∨ 40 < g.N ∨ ∀ p ∈ g.L, p.To < 7) := fun g hg => by
        simp only [List.mem_cons, List.not_mem_nil, or_false] at hg
        rcases hg with rfl | rfl | rfl
        · exact ⟨by omega, hrN.elim .inl fun h => .inr (.inl h)⟩
        · exact ⟨by omega, .inr (.inr h72)⟩
        · exact ⟨by omega, h75⟩
      rw [idxM_nat hk2, some_bind]
      obtain ⟨q1, q2⟩ := hall _ (List.getElem_mem hk2)
      refine T.bind (N_plain hr (by omega)) fun u ⟨hu, _⟩ => T.bind (N_plain hu (by omega)) fun v ⟨hv, _⟩ => ?_
      refine T.bind (decs_l2 (s := v) q1 q2 hv) fun r ⟨o, ho, hro⟩ => ?_
      subst ho
      rw [sumK_inr, iadd1 (by omega)]
      exact .ret ⟨hk2, hk2, rfl, hro⟩
    · subst hq
      rw [sumK_inr, awake18, some_bind]
      exact .ret rfl
  refine T.cond (fun c => .ret rfl) fun c => T.cond (fun c2 => T.cond (fun c3 => .ret rfl) fun c3 => key ?_ ?_) fun c2 => key ?_ ?_
  · have := of_decide_eq_false c; omega
  · have := of_decide_eq_false c3; omega
  · have := of_decide_eq_false c; omega
  · have := of_decide_eq_false c2; omega
end Go.Dc
