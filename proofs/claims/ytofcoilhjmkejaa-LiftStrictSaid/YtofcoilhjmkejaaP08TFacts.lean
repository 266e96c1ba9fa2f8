/- Part P08T.Facts of a proof: lemmas. -/
import Derived.Test.YtofcoilhjmkejaaP08TLess
set_option linter.unusedVariables false
set_option linter.unusedSimpArgs false
set_option linter.unusedSectionVars false
/-! What the comparison says of firm arguments and of strict ones. -/
namespace Go.Dc
variable {b : T_api_Base} {L : List T_api_Argument}

theorem foldl_imin : ∀ (l : List Int) (a : Int), (l.foldl imin a = a ∨ l.foldl imin a ∈ l) ∧ l.foldl imin a ≤ a ∧ ∀ x ∈ l, l.foldl imin a ≤ x
  | [], a => by simp
  | y :: l, a => by
    obtain ⟨h1, h2, h3⟩ := foldl_imin l (imin a y)
    rw [List.foldl_cons]
    have e : imin a y = a ∨ imin a y = y := by unfold imin; split <;> simp
    have e1 : imin a y ≤ a ∧ imin a y ≤ y := by unfold imin; split <;> omega
    refine ⟨?_, by omega, fun x hx => ?_⟩
    · rcases h1 with h1 | h1
      · rcases e with e | e
        · exact .inl (by rw [h1, e])
        · exact .inr (by rw [h1, e]; simp)
      · exact .inr (by simp [h1])
    · rcases List.mem_cons.1 hx with rfl | hx
      · omega
      · exact h3 x hx
theorem foldl_imax : ∀ (l : List Int) (a : Int), (l.foldl imax a = a ∨ l.foldl imax a ∈ l) ∧ a ≤ l.foldl imax a ∧ ∀ x ∈ l, x ≤ l.foldl imax a
  | [], a => by simp
  | y :: l, a => by
    obtain ⟨h1, h2, h3⟩ := foldl_imax l (imax a y)
    rw [List.foldl_cons]
    have e : imax a y = a ∨ imax a y = y := by unfold imax; split <;> simp
    have e1 : a ≤ imax a y ∧ y ≤ imax a y := by unfold imax; split <;> omega
    refine ⟨?_, by omega, fun x hx => ?_⟩
    · rcases h1 with h1 | h1
      · rcases e with e | e
        · exact .inl (by rw [h1, e])
        · exact .inr (by rw [h1, e]; simp)
      · exact .inr (by simp [h1])
    · rcases List.mem_cons.1 hx with rfl | hx
      · omega
      · exact h3 x hx
theorem minL_ok {l : List Int} (h : l ≠ []) : minL l ∈ l ∧ ∀ x ∈ l, minL l ≤ x := by
  match l, h with
  | a :: l, _ =>
    obtain ⟨h1, h2, h3⟩ := foldl_imin l a
    show l.foldl imin a ∈ a :: l ∧ ∀ x ∈ a :: l, l.foldl imin a ≤ x
    refine ⟨by rcases h1 with h | h <;> simp [h], fun x hx => ?_⟩
    rcases List.mem_cons.1 hx with rfl | hx
    · exact h2
    · exact h3 x hx
theorem maxL_ok {l : List Int} (h : l ≠ []) : maxL l ∈ l ∧ ∀ x ∈ l, x ≤ maxL l := by
  match l, h with
  | a :: l, _ =>
    obtain ⟨h1, h2, h3⟩ := foldl_imax l a
    show l.foldl imax a ∈ a :: l ∧ ∀ x ∈ a :: l, x ≤ l.foldl imax a
    refine ⟨by rcases h1 with h | h <;> simp [h], fun x hx => ?_⟩
    rcases List.mem_cons.1 hx with rfl | hx
    · exact h2
    · exact h3 x hx

theorem setLess_end {x : List Int} {k : Int} (hk : k = 1 ∨ k = 2) : setLess x [] k = decide (x ≠ []) := by
  unfold setLess
  by_cases h : x = []
  · rw [if_neg (by simp [h])]; simp [h]
  · rw [if_pos ⟨hk, h⟩, if_pos rfl]; simp [h]
theorem setLess_cover {A : List Int} {Q : List Int} {B : Int → List Int} {k : Int} (hm : ∀ x, x ∈ A ↔ ∃ q ∈ Q, x ∈ B q) (hQ : Q ≠ []) : ∃ q ∈ Q, setLess A (B q) k = false := by
  by_cases hA : A = []
  · obtain ⟨q, hq⟩ := List.exists_mem_of_ne_nil Q hQ
    exact ⟨q, hq, by rw [hA]; exact setLess_nil⟩
  by_cases hk : k = 1
  · obtain ⟨h1, h2⟩ := minL_ok hA
    obtain ⟨q, hq, hx⟩ := (hm _).1 h1
    have hB : B q ≠ [] := fun e => by rw [e] at hx; cases hx
    refine ⟨q, hq, ?_⟩
    unfold setLess
    rw [if_pos ⟨.inl hk, hA⟩, if_neg hB, if_pos hk]
    have := (minL_ok hB).2 _ hx
    exact decide_eq_false (by omega)
  by_cases hk2 : k = 2
  · obtain ⟨h1, h2⟩ := maxL_ok hA
    obtain ⟨q, hq, hx⟩ := (hm _).1 h1
    have hB : B q ≠ [] := fun e => by rw [e] at hx; cases hx
    refine ⟨q, hq, ?_⟩
    unfold setLess
    rw [if_pos ⟨.inr hk2, hA⟩, if_neg hB, if_neg hk]
    have := h2 _ ((hm _).2 ⟨q, hq, (maxL_ok hB).1⟩)
    exact decide_eq_false (by omega)
  · obtain ⟨q, hq⟩ := List.exists_mem_of_ne_nil Q hQ
    exact ⟨q, hq, by unfold setLess; rw [if_neg (by rintro ⟨h | h, _⟩ <;> contradiction)]⟩

theorem mem_subsP (h : AsOk b L) {i : Int} (h0 : 0 ≤ i) (h1 : i < L.length) {x : Int} : x ∈ subsP L i ↔ x = i ∨ ∃ s ∈ (agt L i).Subs, x ∈ subsP L s := by
  rw [(subsP_eq h h0 h1).1, mem_nf, List.mem_cons, List.mem_flatMap]
theorem lastP_asc (h : AsOk b L) (hR : b.Rules.length ≤ 24) (i : Int) : Asc (lastP b L i) := by
  by_cases h1 : 0 ≤ i ∧ i < L.length
  · rw [lastP_eq h hR h1.1 h1.2]
    unfold lastStep
    split
    · exact .nil
    · split
      · exact nf_asc _
      · simp [Asc]
  · rw [lastP_out (by omega)]; exact .nil
theorem defL_nil (h : AsOk b L) {i : Int} : defL b L i = [] ↔ ∀ k ∈ subsP L i, isDef b L k = false := by
  unfold defL
  rw [nf_eq_nil, List.map_eq_nil_iff, List.filter_eq_nil_iff]
  simp
theorem last_def (h : AsOk b L) (hR : b.Rules.length ≤ 24) : ∀ (n : Nat) (i : Int), i < n → (lastP b L i = [] ↔ defL b L i = []) := by
  intro n
  induction n with
  | zero =>
    intro i hi
    rw [lastP_out (by omega), defL_nil h, subsP_out (by omega)]; simp
  | succ n ih =>
    intro i hi
    by_cases h1 : 0 ≤ i ∧ i < L.length
    · obtain ⟨hs2, hsi⟩ := (h.2 i h1.1 h1.2).subs
      have key : (∀ k ∈ subsP L i, isDef b L k = false) ↔ isDef b L i = false ∧ ∀ s ∈ (agt L i).Subs, defL b L s = [] := by
        constructor
        · intro hk
          refine ⟨hk i ((mem_subsP h h1.1 h1.2).2 (.inl rfl)), fun s hs => (defL_nil h).2 fun k hk2 => hk k ((mem_subsP h h1.1 h1.2).2 (.inr ⟨s, hs, hk2⟩))⟩
        · rintro ⟨ha, hb⟩ k hk
          rcases (mem_subsP h h1.1 h1.2).1 hk with rfl | ⟨s, hs, hk⟩
          · exact ha
          · exact (defL_nil h).1 (hb s hs) k hk
      rw [lastP_eq h hR h1.1 h1.2, defL_nil h, key]
      unfold lastStep
      by_cases c1 : (agt L i).Rule < 0
      · rw [if_pos c1]
        refine ⟨fun _ => ⟨by unfold isDef; rw [decide_eq_false (by omega)]; rfl, fun s hs => ?_⟩, fun _ => rfl⟩
        rcases h.2 i h1.1 h1.2 with ⟨_, _, _, e⟩ | ⟨_, e, _⟩
        · rw [e] at hs; cases hs
        · omega
      · rw [if_neg c1]
        cases c2 : (rul b (agt L i).Rule).Strict
        · rw [if_neg (by simp)]
          refine ⟨fun e => by simp at e, fun e => ?_⟩
          have := e.1
          unfold isDef at this
          rw [decide_eq_true (by omega), c2] at this
          cases this
        · rw [if_pos rfl, nf_eq_nil, List.flatMap_eq_nil_iff]
          constructor
          · exact fun e => ⟨by unfold isDef; rw [c2]; simp, fun s hs => (ih s (by have := hsi s hs; omega)).1 (e s hs)⟩
          · exact fun e s hs => (ih s (by have := hsi s hs; omega)).2 (e.2 s hs)
    · rw [lastP_out (by omega), defL_nil h, subsP_out (by omega)]; simp

theorem lt_rl (h : AsOk b L) (hR : b.Rules.length ≤ 24) (i : Int) : ltRanks b L i = [] ↔ rlRanks b L i = [] := by
  unfold ltRanks rlRanks
  rw [List.map_eq_nil_iff, List.map_eq_nil_iff]
  exact last_def h hR (i.toNat + 1) i (by omega)
theorem assm_pr {i : Int} (h : prRanks b L i = []) : assm b L i = false := by
  unfold assm
  rw [List.any_eq_false]
  intro p hp hk
  unfold prRanks at h
  rw [List.flatMap_eq_nil_iff] at h
  have := h p hp
  unfold prk at this
  have e : (prm b p).Kind = 3 := by simpa using hk
  rw [e] at this
  simp at this

/-- an argument from axioms by strict rules -/
theorem firm_no (h : AsOk b L) (hR : b.Rules.length ≤ 24) {p q : Int} {o : T_api_Ordering} (h1 : prRanks b L p = []) (h2 : rlRanks b L p = []) : lessB b L p q o = false := by
  have h3 := (lt_rl h hR p).2 h2
  unfold lessB
  split
  · unfold lessR
    rw [h1, h2, h3]
    simp only [setLess_nil]
    split
    · simp
    · split
      · split
        · rfl
        · split <;> simp
      · rfl
  · rfl
theorem firm_yes (h : AsOk b L) (hR : b.Rules.length ≤ 24) {p q : Int} {o : T_api_Ordering} (hl : o.Link = 1 ∨ o.Link = 2) (hk : o.Lift = 1 ∨ o.Lift = 2) (p0 : 0 ≤ p) (p1 : p < L.length) (q0 : 0 ≤ q) (q1 : q < L.length) (h1 : prRanks b L p = []) (h2 : rlRanks b L p = []) : lessB b L q p o = (decide (prRanks b L q ≠ []) || decide (rlRanks b L q ≠ [])) := by
  have h3 := (lt_rl h hR p).2 h2
  unfold lessB
  rw [if_pos ⟨⟨q0, q1⟩, ⟨p0, p1⟩, assm_pr h1⟩]
  unfold lessR
  rw [h1, h2, h3]
  simp only [setLess_end hk]
  have e := lt_rl h hR q
  by_cases c1 : rlRanks b L q = [] <;> by_cases c2 : prRanks b L q = []
  all_goals
    have c3 := e
    simp only [c1, iff_true, iff_false] at c3
    rcases hl with hl | hl
    · rw [if_pos hl]; simp [c1, c2, c3]
    · rw [if_neg (by omega), if_pos hl]; simp [c1, c2, c3]

/-! ### strict arguments -/
structure StrictArg (b : T_api_Base) (L : List T_api_Argument) (p : Int) : Prop where
  p0 : 0 ≤ p
  p1 : p < L.length
  r0 : 0 ≤ (agt L p).Rule
  st : (rul b (agt L p).Rule).Strict = true
variable {p : Int}
theorem StrictArg.subs (h : AsOk b L) (g : StrictArg b L p) {s : Int} (hs : s ∈ (agt L p).Subs) : 0 ≤ s ∧ s < L.length := by
  have := (h.2 p g.p0 g.p1).subs.2 s hs
  have := g.p1
  omega
theorem StrictArg.prem (h : AsOk b L) (g : StrictArg b L p) {x : Int} : x ∈ premL L p ↔ ∃ s ∈ (agt L p).Subs, x ∈ premL L s := by
  have e : (agt L p).Premise = -1 := by
    rcases h.2 p g.p0 g.p1 with ⟨_, _, e, _⟩ | ⟨e, _⟩
    · have := g.r0; omega
    · exact e
  rw [mem_premL h, mem_subsP h g.p0 g.p1]
  constructor
  · rintro ⟨rfl | ⟨s, hs, hx⟩, hp⟩
    · rw [e] at hp; omega
    · exact ⟨s, hs, (mem_premL h).2 ⟨hx, hp⟩⟩
  · rintro ⟨s, hs, hx⟩
    obtain ⟨h1, h2⟩ := (mem_premL h).1 hx
    exact ⟨.inr ⟨s, hs, h1⟩, h2⟩
theorem StrictArg.defs (h : AsOk b L) (g : StrictArg b L p) {x : Int} : x ∈ defL b L p ↔ ∃ s ∈ (agt L p).Subs, x ∈ defL b L s := by
  simp only [mem_defL, mem_subsP h g.p0 g.p1]
  constructor
  · rintro ⟨k, rfl | ⟨s, hs, hk⟩, h1, h2, h3⟩
    · rw [g.st] at h2; cases h2
    · exact ⟨s, hs, k, hk, h1, h2, h3⟩
  · rintro ⟨s, hs, k, hk, h1, h2, h3⟩
    exact ⟨k, .inr ⟨s, hs, hk⟩, h1, h2, h3⟩
theorem StrictArg.last (h : AsOk b L) (hR : b.Rules.length ≤ 24) (g : StrictArg b L p) : lastP b L p = nf ((agt L p).Subs.flatMap (lastP b L)) := by
  rw [lastP_eq h hR g.p0 g.p1]
  unfold lastStep
  have := g.r0
  rw [if_neg (by omega), if_pos g.st]
theorem StrictArg.pr (h : AsOk b L) (g : StrictArg b L p) {x : Int} : x ∈ prRanks b L p ↔ ∃ s ∈ (agt L p).Subs, x ∈ prRanks b L s := by
  simp only [prRanks, List.mem_flatMap, g.prem h]
  constructor
  · rintro ⟨k, ⟨s, hs, hk⟩, hx⟩; exact ⟨s, hs, k, hk, hx⟩
  · rintro ⟨s, hs, k, hk, hx⟩; exact ⟨k, ⟨s, hs, hk⟩, hx⟩
theorem StrictArg.rl (h : AsOk b L) (g : StrictArg b L p) {x : Int} : x ∈ rlRanks b L p ↔ ∃ s ∈ (agt L p).Subs, x ∈ rlRanks b L s := by
  simp only [rlRanks, List.mem_map, g.defs h]
  constructor
  · rintro ⟨k, ⟨s, hs, hk⟩, hx⟩; exact ⟨s, hs, k, hk, hx⟩
  · rintro ⟨s, hs, k, hk, hx⟩; exact ⟨k, ⟨s, hs, hk⟩, hx⟩
theorem StrictArg.lt (h : AsOk b L) (hR : b.Rules.length ≤ 24) (g : StrictArg b L p) {x : Int} : x ∈ ltRanks b L p ↔ ∃ s ∈ (agt L p).Subs, x ∈ ltRanks b L s := by
  simp only [ltRanks, List.mem_map, g.last h hR, mem_nf, List.mem_flatMap]
  constructor
  · rintro ⟨k, ⟨s, hs, hk⟩, hx⟩; exact ⟨s, hs, k, hk, hx⟩
  · rintro ⟨s, hs, k, hk, hx⟩; exact ⟨k, ⟨s, hs, hk⟩, hx⟩
theorem nil_cover {A : List Int} {Q : List Int} {B : Int → List Int} (hm : ∀ x, x ∈ A ↔ ∃ q ∈ Q, x ∈ B q) (hA : A = []) {q : Int} (hq : q ∈ Q) : B q = [] :=
  List.eq_nil_iff_forall_not_mem.2 fun x hx => by
    have := (hm x).2 ⟨q, hq, hx⟩
    rw [hA] at this; cases this

/-- a strict argument is not less than one of its subarguments -/
theorem strict_some (h : AsOk b L) (hR : b.Rules.length ≤ 24) (g : StrictArg b L p) (hs : (agt L p).Subs ≠ []) (o : T_api_Ordering) : ∃ q ∈ (agt L p).Subs, lessB b L p q o = false := by
  have out : ∀ q, lessR (ltRanks b L p) (ltRanks b L q) (rlRanks b L p) (rlRanks b L q) (prRanks b L p) (prRanks b L q) o = false → lessB b L p q o = false := by
    intro q e
    unfold lessB
    split
    · exact e
    · rfl
  by_cases l1 : o.Link = 1
  · by_cases c : ltRanks b L p = []
    · obtain ⟨q, hq, e⟩ := setLess_cover (k := o.Lift) (fun x => g.pr h (x := x)) hs
      refine ⟨q, hq, out q ?_⟩
      unfold lessR
      rw [if_pos l1, c, setLess_nil, e]; simp
    · obtain ⟨q, hq, e⟩ := setLess_cover (k := o.Lift) (fun x => g.lt h hR (x := x)) hs
      refine ⟨q, hq, out q ?_⟩
      unfold lessR
      rw [if_pos l1, e]; simp [c]
  by_cases l2 : o.Link = 2
  · by_cases c : rlRanks b L p = []
    · obtain ⟨q, hq, e⟩ := setLess_cover (k := o.Lift) (fun x => g.pr h (x := x)) hs
      refine ⟨q, hq, out q ?_⟩
      unfold lessR
      rw [if_neg l1, if_pos l2, if_pos ⟨c, nil_cover (fun x => g.rl h (x := x)) c hq⟩, e]
    by_cases c2 : prRanks b L p = []
    · obtain ⟨q, hq, e⟩ := setLess_cover (k := o.Lift) (fun x => g.rl h (x := x)) hs
      refine ⟨q, hq, out q ?_⟩
      unfold lessR
      rw [if_neg l1, if_pos l2, if_neg (fun e => c e.1), if_pos ⟨c2, nil_cover (fun x => g.pr h (x := x)) c2 hq⟩, e]
    · obtain ⟨q, hq, e⟩ := setLess_cover (k := o.Lift) (fun x => g.rl h (x := x)) hs
      refine ⟨q, hq, out q ?_⟩
      unfold lessR
      rw [if_neg l1, if_pos l2, if_neg (fun e => c e.1), if_neg (fun e => c2 e.1), e]; simp
  · obtain ⟨q, hq⟩ := List.exists_mem_of_ne_nil _ hs
    refine ⟨q, hq, out q ?_⟩
    unfold lessR
    rw [if_neg l1, if_neg l2]

/-- one subargument: the same ranks -/
theorem strict_one (h : AsOk b L) (hR : b.Rules.length ≤ 24) (g : StrictArg b L p) {s : Int} (hs : (agt L p).Subs = [s]) (q : Int) (o : T_api_Ordering) : lessB b L p q o = lessB b L s q o ∧ lessB b L q p o = lessB b L q s o := by
  have e1 : premL L p = premL L s := asc_ext (premL_asc h p) (premL_asc h s) fun x => by rw [g.prem h, hs]; simp
  have e2 : defL b L p = defL b L s := asc_ext (defL_asc p) (defL_asc s) fun x => by rw [g.defs h, hs]; simp
  have e3 : lastP b L p = lastP b L s := by rw [g.last h hR, hs]; simp only [List.flatMap_cons, List.flatMap_nil, List.append_nil]; exact nf_self (lastP_asc h hR s)
  have f1 : prRanks b L p = prRanks b L s := by unfold prRanks; rw [e1]
  have f2 : rlRanks b L p = rlRanks b L s := by unfold rlRanks; rw [e2]
  have f3 : ltRanks b L p = ltRanks b L s := by unfold ltRanks; rw [e3]
  have f4 : assm b L p = assm b L s := by unfold assm; rw [e1]
  have r := g.subs h (s := s) (by rw [hs]; simp)
  have p0 := g.p0; have p1 := g.p1
  unfold lessB
  simp only [f1, f2, f3, f4, p0, p1, r.1, r.2, true_and, and_self]
end Go.Dc
