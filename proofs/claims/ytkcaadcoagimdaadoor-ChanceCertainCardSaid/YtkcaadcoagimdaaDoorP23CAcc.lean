/- Part P23C.Acc of a proof: lemmas. -/
import Derived.Test.YtkcaadcoagimdaaDoorP23CGnd
import Derived.Test.YtkcaadcoagimdaaDoorP23CSets
set_option linter.unusedVariables false
set_option linter.unusedSimpArgs false
set_option linter.unusedSectionVars false
/-! The reference's acceptance, and the program's answers. -/
namespace Go.Dc

theorem nIn_plain {l : List Int} {x : Int} (hl : l.length ≤ 1000000) : net_In_m l x = some (decide (x ∈ l)) := by
  unfold net_In_m
  rw [any_bind (l := l) (p := fun y => y == x)]
  · congr 1
    rw [Bool.eq_iff_iff]
    simp only [List.any_eq_true, beq_iff_eq, decide_eq_true_eq]
    exact ⟨fun ⟨y, h1, h2⟩ => h2 ▸ h1, fun h => ⟨x, h, rfl⟩⟩
  · intro i hi
    unfold net_In_l1
    rw [show decide ((i : Int) < (l.length : Int)) = true from decide_eq_true (by omega), idxM_nat hi, iadd1 (by omega)]
    simp only [cond_true, some_bind]
    cases l[i] == x <;> rfl
  · unfold net_In_l1
    rw [show decide ((l.length : Int) < (l.length : Int)) = false from decide_eq_false (by omega)]; rfl

theorem Without_plain {g : T_api_Graph} {gone : List Int} (hl : g.L.length ≤ 1000000) (hgl : gone.length ≤ 1000000) :
    T (net_Without_m g gone) fun r => r.N = g.N ∧ r.L.length ≤ g.L.length ∧ ∀ p, p ∈ r.L ↔ p ∈ g.L ∧ p.From ∉ gone ∧ p.To ∉ gone := by
  unfold net_Without_m
  refine T.bind (P := fun q : List Pr => q.length ≤ g.L.length ∧ ∀ p, p ∈ q ↔ p ∈ g.L ∧ p.From ∉ gone ∧ p.To ∉ gone) ?_ fun q hq => .ret ⟨rfl, hq.1, hq.2⟩
  refine T.loopK g.L.length (fun k s => k ≤ g.L.length ∧ s.1 = (k : Int) ∧ s.2.length ≤ k ∧ ∀ p, p ∈ s.2 ↔ p ∈ g.L.take k ∧ p.From ∉ gone ∧ p.To ∉ gone) ⟨by omega, rfl, by simp, by simp⟩ ?_
  rintro k ⟨_, l⟩ ⟨hk, rfl, hlen, hm⟩
  dsimp only [net_Without_l1] at *
  refine T.cond (fun g1 => ?_) fun g1 => ?_
  · simp at g1
    have htk : g.L.take (k + 1) = g.L.take k ++ [g.L[k]] := by rw [List.take_add_one, List.getElem?_eq_getElem g1]; rfl
    rw [idxM_nat g1, some_bind, iadd1 (by omega)]
    have keep : ∀ b : Bool, (b = true ↔ g.L[k].From ∉ gone ∧ g.L[k].To ∉ gone) → T ((fun j57 : Bool =>
        bif j57 then
          Option.bind (some g.L[k]) fun t61 =>
          Option.bind (appM 16 l [t61]) fun t62 =>
          letM ((k + 1 : Nat) : Int) fun i64x =>
          some (Sum.inr (i64x, t62))
        else
          letM ((k + 1 : Nat) : Int) fun i65 =>
          some (Sum.inr (i65, l))) b : Option (Sum (List Pr) (Int × List Pr))) (onO (fun q : List Pr => q.length ≤ g.L.length ∧ ∀ p, p ∈ q ↔ p ∈ g.L ∧ p.From ∉ gone ∧ p.To ∉ gone) fun s => k < g.L.length ∧ k + 1 ≤ g.L.length ∧ s.1 = ((k + 1 : Nat) : Int) ∧ s.2.length ≤ k + 1 ∧ ∀ p, p ∈ s.2 ↔ p ∈ g.L.take (k + 1) ∧ p.From ∉ gone ∧ p.To ∉ gone) := by
      intro b hb
      dsimp only
      refine T.cond (fun g2 => ?_) fun g2 => ?_
      · rw [some_bind, appM_eq (by simp; omega), some_bind]
        refine .letM (.ret ⟨g1, by omega, rfl, by simp; omega, fun p => ?_⟩)
        simp only
        rw [htk, List.mem_append, List.mem_append, hm, List.mem_singleton]
        constructor
        · rintro (⟨h1, h2⟩ | rfl)
          · exact ⟨.inl h1, h2⟩
          · exact ⟨.inr rfl, hb.1 g2⟩
        · rintro ⟨h1 | h1, h2⟩
          · exact .inl ⟨h1, h2⟩
          · exact .inr h1
      · refine .letM (.ret ⟨g1, by omega, rfl, by simp only; omega, fun p => ?_⟩)
        simp only
        rw [htk, List.mem_append, hm, List.mem_singleton]
        constructor
        · rintro ⟨h1, h2⟩; exact ⟨.inl h1, h2⟩
        · rintro ⟨h1 | rfl, h2⟩
          · exact ⟨h1, h2⟩
          · rw [hb.2 h2] at g2; cases g2
    refine T.join ?_
    rw [some_bind, nIn_plain hgl, some_bind]
    refine T.cond (fun g2 => ?_) fun g2 => keep false ?_
    · rw [some_bind, nIn_plain hgl, some_bind]
      refine keep _ ?_
      simp at g2; simp [g2]
    · simp at g2; simp [g2]
  · simp at g1
    have e : k = g.L.length := by omega
    refine .ret ⟨by omega, fun p => ?_⟩
    rw [hm, e, List.take_length]

/-- the graph h stands for the net n: its attacks are those of n -/
structure Sim (N : Nat) (n : Nt) (h : T_api_Graph) : Prop where
  ok : NtOk N n
  hN : N ≤ 10
  nn : h.N = (N : Int)
  l : h.L.length ≤ 10000
  v : ∀ p ∈ h.L, 0 ≤ p.From ∧ p.From < N ∧ 0 ≤ p.To ∧ p.To < N
  at_ : ∀ i j, n.a i j ↔ att h (i : Int) (j : Int)

section
variable {N : Nat} {n : Nt} {h : T_api_Graph} (s : Sim N n h)
include s
theorem Sim.gv : GV0 h := ⟨by rw [s.nn]; omega, by rw [s.nn]; have := s.hN; omega, fun p hp => by rw [s.nn]; exact s.v p hp⟩
theorem Sim.nat {a b : Int} (hab : att h a b) : ∃ i j : Nat, a = i ∧ b = j ∧ n.a i j := by
  obtain ⟨p, hp, rfl, rfl⟩ := hab
  have := s.v p hp
  obtain ⟨i, hi⟩ := Int.eq_ofNat_of_zero_le this.1
  obtain ⟨j, hj⟩ := Int.eq_ofNat_of_zero_le this.2.2.1
  refine ⟨i, j, hi, hj, (s.at_ i j).2 ⟨p, hp, hi, hj⟩⟩

theorem bits_in {y i : Nat} (hy : y < 2 ^ N) : (i : Int) ∈ il (bitsL y) ↔ y.testBit i = true := by
  rw [il_mem, ← mem_bitsL (lt64 hy (by have := s.hN; omega))]
  exact ⟨fun ⟨m, hm, e⟩ => by have : i = m := by omega
                              rw [this]; exact hm, fun hm => ⟨i, hm, rfl⟩⟩

theorem atk_list {y : Nat} (hy : y < 2 ^ N) {i : Nat} : (∃ a ∈ il (bitsL y), att h a (i : Int)) ↔ ∃ k, y.testBit k = true ∧ n.a k i := by
  constructor
  · rintro ⟨a, ha, hat⟩
    obtain ⟨k, j, rfl, e, hk⟩ := s.nat hat
    have : j = i := by omega
    subst this
    exact ⟨k, (bits_in s hy).1 ha, hk⟩
  · rintro ⟨k, hk, hka⟩
    exact ⟨k, (bits_in s hy).2 hk, (s.at_ k i).1 hka⟩

open Classical in
theorem nFree_plain {y : Nat} (hy : y < 2 ^ N) : net_Free_m h (il (bitsL y)) = some (decide (FreeP n y)) := by
  have hb := bitsL_len (s := y)
  have hN := s.hN
  have hl := s.l
  unfold net_Free_m
  refine T.eq (T.bind (P := fun r : Sum Bool Unit => match r with | .inl b => b = false ∧ ¬ FreeP n y | .inr _ => FreeP n y) ?_ ?_)
  · refine T.loopK (bitsL y).length (fun k st => k ≤ (bitsL y).length ∧ st = (k : Int) ∧ ∀ j (hj : j < (bitsL y).length), j < k → ¬ ∃ i, y.testBit i = true ∧ n.a i (bitsL y)[j]) ⟨by omega, rfl, fun j _ hj => by omega⟩ ?_
    rintro k _ ⟨hk, rfl, hinv⟩
    dsimp only [net_Free_l1] at *
    rw [il_len]
    refine T.cond (fun g1 => ?_) fun g1 => ?_
    · simp at g1
      have e0 : (bitsL y).getD k 0 = (bitsL y)[k] := by simp [List.getD, g1]
      rw [il_idx g1, some_bind, e0, iadd1 (by omega)]
      refine T.bind (nAttacked_plain (by omega) (by simp; omega)) fun r hr => ?_
      rw [atk_list s hy] at hr
      refine T.cond (fun g2 => .ret ⟨rfl, fun hf => ?_⟩) fun g2 => .ret ⟨g1, by omega, rfl, fun j hj hjk => ?_⟩
      · obtain ⟨i, h1, h2⟩ := hr.1 g2
        exact hf i _ h1 ((mem_bitsL (lt64 hy (by omega))).1 (List.getElem_mem g1)) h2
      · by_cases e : j = k
        · subst e; exact fun hx => by rw [hr.2 hx] at g2; cases g2
        · exact hinv j hj (by omega)
    · simp at g1
      refine .ret fun i j hi hj hij => ?_
      obtain ⟨q, hq, e⟩ := List.mem_iff_getElem.1 ((mem_bitsL (lt64 hy (by omega))).2 hj)
      exact hinv q hq (by omega) ⟨i, hi, by rw [e]; exact hij⟩
  · rintro (b | u) hr
    · obtain ⟨rfl, hn⟩ := hr
      rw [sumK_inl]; exact .ret (decide_eq_false hn).symm
    · rw [sumK_inr]; exact .ret (decide_eq_true hr).symm

open Classical in
theorem nAdm_plain {y : Nat} (hy : y < 2 ^ N) : net_Admissible_m h (il (bitsL y)) = some (decide (AdmP n y)) := by
  have hb := bitsL_len (s := y)
  have hN := s.hN
  have hl := s.l
  unfold net_Admissible_m
  refine T.eq (T.bind (P := fun r : Sum Bool Unit => match r with | .inl b => b = false ∧ ¬ AdmP n y | .inr _ => ∀ i j, y.testBit j = true → n.a i j → ∃ k, y.testBit k = true ∧ n.a k i) ?_ ?_)
  · refine T.loopK h.L.length (fun k st => k ≤ h.L.length ∧ st = (k : Int) ∧ ∀ p ∈ h.L.take k, p.To ∈ il (bitsL y) → ∃ a ∈ il (bitsL y), att h a p.From) ⟨by omega, rfl, by simp⟩ ?_
    rintro k _ ⟨hk, rfl, hinv⟩
    dsimp only [net_Admissible_l1] at *
    refine T.cond (fun g1 => ?_) fun g1 => ?_
    · simp at g1
      have htk : h.L.take (k + 1) = h.L.take k ++ [h.L[k]] := by rw [List.take_add_one, List.getElem?_eq_getElem g1]; rfl
      rw [idxM_nat g1, some_bind, nIn_plain (by simp; omega), some_bind, some_bind, iadd1 (by omega)]
      have nxt : (h.L[k].To ∈ il (bitsL y) → ∃ a ∈ il (bitsL y), att h a h.L[k].From) → ∀ p ∈ h.L.take (k + 1), p.To ∈ il (bitsL y) → ∃ a ∈ il (bitsL y), att h a p.From := fun hx p hp => by
        rw [htk] at hp
        rcases List.mem_append.1 hp with hp | hp
        · exact hinv p hp
        · rw [List.mem_singleton.1 hp]; exact hx
      refine T.cond (fun g2 => ?_) fun g2 => .letM (.ret ⟨g1, by omega, rfl, nxt fun hx => ?_⟩)
      · have g2' := of_decide_eq_true g2
        refine T.bind (nAttacked_plain (by omega) (by simp; omega)) fun r hr => ?_
        refine T.cond (fun g3 => .ret ⟨rfl, fun ha => ?_⟩) fun g3 => .letM (.ret ⟨g1, by omega, rfl, nxt fun _ => hr.1 (by simpa using g3)⟩)
        have hp := s.v _ (List.getElem_mem g1)
        obtain ⟨i, hi⟩ := Int.eq_ofNat_of_zero_le hp.1
        obtain ⟨j, hj⟩ := Int.eq_ofNat_of_zero_le hp.2.2.1
        rw [hj] at g2'
        obtain ⟨q, h1, h2⟩ := ha.2 i j ((bits_in s hy).1 g2') ((s.at_ i j).2 ⟨_, List.getElem_mem g1, hi, hj⟩)
        have : r = true := hr.2 (by rw [hi]; exact (atk_list s hy).2 ⟨q, h1, h2⟩)
        rw [this] at g3; cases g3
      · exact absurd hx (of_decide_eq_false g2)
    · simp at g1
      have e : k = h.L.length := by omega
      rw [e, List.take_length] at hinv
      refine .ret fun i j hj hij => ?_
      obtain ⟨p, hp, h1, h2⟩ := (s.at_ i j).1 hij
      have := hinv p hp (by rw [h2]; exact (bits_in s hy).2 hj)
      rw [h1] at this
      exact (atk_list s hy).1 this
  · rintro (b | u) hr
    · obtain ⟨rfl, hn⟩ := hr
      rw [sumK_inl]; exact .ret (decide_eq_false hn).symm
    · rw [sumK_inr, nFree_plain s hy, some_bind]
      refine .ret ?_
      by_cases hf : FreeP n y
      · rw [decide_eq_true hf]; exact (decide_eq_true ⟨hf, hr⟩).symm
      · rw [decide_eq_false hf]; exact (decide_eq_false fun hx => hf hx.1).symm

/-- stable among all nodes -/
def StG (N : Nat) (n : Nt) (y : Nat) : Prop := FreeP n y ∧ ∀ i, i < N → y.testBit i = false → ∃ k, y.testBit k = true ∧ n.a k i

open Classical in
theorem nStable_plain {y : Nat} (hy : y < 2 ^ N) : net_Stable_m h (il (bitsL y)) = some (decide (StG N n y)) := by
  have hb := bitsL_len (s := y)
  have hN := s.hN
  have hl := s.l
  unfold net_Stable_m
  refine T.eq (T.bind (P := fun r : Sum Bool Unit => match r with | .inl b => b = false ∧ ¬ StG N n y | .inr _ => ∀ i, i < N → y.testBit i = false → ∃ k, y.testBit k = true ∧ n.a k i) ?_ ?_)
  · refine T.loopK N (fun k st => k ≤ N ∧ st = (k : Int) ∧ ∀ i, i < k → y.testBit i = false → ∃ q, y.testBit q = true ∧ n.a q i) ⟨by omega, rfl, fun i hi => by omega⟩ ?_
    rintro k _ ⟨hk, rfl, hinv⟩
    dsimp only [net_Stable_l1] at *
    rw [s.nn]
    refine T.cond (fun g1 => ?_) fun g1 => ?_
    · simp at g1
      have hmem : decide ((k : Int) ∈ il (bitsL y)) = y.testBit k := by
        rw [Bool.eq_iff_iff, decide_eq_true_eq]; exact bits_in s hy
      rw [nIn_plain (by simp; omega), some_bind, iadd1 (by omega), hmem]
      refine T.cond (fun g2 => ?_) fun g2 => .ret ⟨g1, by omega, rfl, fun i hi hf => ?_⟩
      · refine T.bind (nAttacked_plain (by omega) (by simp; omega)) fun r hr => ?_
        rw [atk_list s hy] at hr
        refine T.cond (fun g3 => .ret ⟨rfl, fun ha => ?_⟩) fun g3 => .ret ⟨g1, by omega, rfl, fun i hi hf => ?_⟩
        · rw [hr.2 (ha.2 k g1 (by simpa using g2))] at g3; cases g3
        · by_cases e : i = k
          · subst e; exact hr.1 (by simpa using g3)
          · exact hinv i (by omega) hf
      · by_cases e : i = k
        · subst e; rw [hf] at g2; cases g2
        · exact hinv i (by omega) hf
    · simp at g1
      have e : k = N := by omega
      exact .ret (e ▸ hinv)
  · rintro (b | u) hr
    · obtain ⟨rfl, hn⟩ := hr
      rw [sumK_inl]; exact .ret (decide_eq_false hn).symm
    · rw [sumK_inr, nFree_plain s hy, some_bind]
      refine .ret ?_
      by_cases hf : FreeP n y
      · rw [decide_eq_true hf]; exact (decide_eq_true ⟨hf, hr⟩).symm
      · rw [decide_eq_false hf]; exact (decide_eq_false fun hx => hf hx.1).symm

theorem stg_iff {y : Nat} : StG N n y ↔ (∀ i, i < N → n.all.testBit i = false → y.testBit i = true) ∧ StbP n (y &&& n.all) := by
  have hbit : ∀ i, (y &&& n.all).testBit i = true ↔ y.testBit i = true ∧ n.all.testBit i = true := fun i => by rw [Nat.testBit_and, Bool.and_eq_true]
  constructor
  · rintro ⟨hf, hs⟩
    refine ⟨fun i hi hna => ?_, fun i j hi hj => hf i j ((hbit i).1 hi).1 ((hbit j).1 hj).1, fun i hi hni => ?_⟩
    · cases hb : y.testBit i
      · obtain ⟨k, _, hk⟩ := hs i hi hb
        rw [(s.ok.ab k i hk).2] at hna; cases hna
      · rfl
    · have hyi : y.testBit i = false := by
        cases hb : y.testBit i
        · rfl
        · rw [(hbit i).2 ⟨hb, hi⟩] at hni; cases hni
      obtain ⟨k, h1, h2⟩ := hs i (s.ok.al i hi) hyi
      exact ⟨k, (hbit k).2 ⟨h1, (s.ok.ab k i h2).1⟩, h2⟩
  · rintro ⟨hg, hf, hs⟩
    refine ⟨fun i j hi hj hij => hf i j ((hbit i).2 ⟨hi, (s.ok.ab i j hij).1⟩) ((hbit j).2 ⟨hj, (s.ok.ab i j hij).2⟩) hij, fun i hi hyi => ?_⟩
    have hai : n.all.testBit i = true := by
      cases hb : n.all.testBit i
      · rw [hg i hi hb] at hyi; cases hyi
      · rfl
    obtain ⟨k, h1, h2⟩ := hs i hai (by
      cases hb : (y &&& n.all).testBit i
      · rfl
      · rw [((hbit i).1 hb).1] at hyi; cases hyi)
    exact ⟨k, ((hbit k).1 h1).1, h2⟩

open Classical in
/-- the grounded set of the reference is the program's -/
theorem gr_iff {i : Nat} (hi : n.all.testBit i = true) : Gr (att h) (i : Int) ↔ (grd n).testBit i = true := by
  have hG := (In_plain2 s.ok).2
  have hatt : ∀ a b, att h a b → 0 ≤ a ∧ a < (N : Int) := fun a b ⟨p, hp, h1, h2⟩ => by have := s.v p hp; omega
  constructor
  · rintro ⟨k, hk⟩
    induction k using Nat.strongRecOn generalizing i with
    | _ k ih =>
      cases k with
      | zero => exact hk.elim
      | succ k =>
        refine hG.cls i hi fun b hb => ?_
        obtain ⟨c, h1, h2⟩ := hk (b : Int) ((s.at_ b i).1 hb)
        obtain ⟨m, b', rfl, e, hm⟩ := s.nat h1
        have : b' = b := by omega
        subst this
        exact ⟨m, ih k (by omega) (s.ok.ab m b' hm).1 h2, hm⟩
  · intro hg
    let S := setOf ((List.range N).filter fun i => decide (Gr (att h) (i : Int)))
    have hS : ∀ j, S.testBit j = true ↔ j < N ∧ Gr (att h) (j : Int) := fun j => by
      show (setOf _).testBit j = true ↔ _
      rw [setOf_bit, List.mem_filter, List.mem_range, decide_eq_true_eq]
    have hc : ClsP n S := fun j hj hd => (hS j).2 ⟨s.ok.al j hj, Gr.mk (n := N) hatt fun b hb => by
      obtain ⟨b', j', rfl, e, hb'⟩ := s.nat hb
      have : j' = j := by omega
      subst this
      obtain ⟨m, h1, h2⟩ := hd b' hb'
      exact ⟨m, (s.at_ m b').1 h2, ((hS m).1 h1).2⟩⟩
    exact ((hS i).1 (hG.least S hc i hg)).2
end

/-- gone are the nodes that are not in the net -/
def GoneOk (N : Nat) (n : Nt) (gone : List Int) : Prop := gone.length ≤ 1000 ∧ ∀ i : Nat, i < N → ((i : Int) ∈ gone ↔ n.all.testBit i = false)

section
variable {N : Nat} {n : Nt} {h : T_api_Graph} (s : Sim N n h) {gone : List Int} (hg : GoneOk N n gone)
include s hg

open Classical in
theorem SomeAdm_plain {a : Nat} (ha : a < N) : net_SomeAdmissible_m h (a : Int) gone = some (decide (∃ y, SubB y n.all ∧ AdmP n y ∧ y.testBit a = true)) := by
  have hN := s.hN
  have hpw : 2 ^ N ≤ 1024 := Nat.le_trans (Nat.pow_le_pow_right (by decide) hN) (by decide)
  unfold net_SomeAdmissible_m
  refine T.eq (T.bind (P := fun r : Sum Bool Unit => match r with | .inl b => b = true ∧ ∃ y, SubB y n.all ∧ AdmP n y ∧ y.testBit a = true | .inr _ => ¬ ∃ y, SubB y n.all ∧ AdmP n y ∧ y.testBit a = true) ?_ ?_)
  · refine T.loopK (2 ^ N) (fun k st => k ≤ 2 ^ N ∧ st = (k : Int) ∧ ∀ y, y < k → SubB y n.all → AdmP n y → y.testBit a = false) ⟨Nat.zero_le _, rfl, fun y hy => by omega⟩ ?_
    rintro k _ ⟨hk, rfl, hinv⟩
    dsimp only [net_SomeAdmissible_l1] at *
    rw [s.nn, wrapU (by omega)]
    unfold ishlM
    rw [if_neg (by omega), some_bind, ishl_u (by omega)]
    refine T.cond (fun g1 => ?_) fun g1 => ?_
    · have hlt : k < 2 ^ N := by
        have := of_decide_eq_true g1
        exact_mod_cast this
      have hk64 : k < 2 ^ 64 := by omega
      have hb := bitsL_len (s := k)
      have hadd : iadd .u64 (k : Int) 1 = ((k + 1 : Nat) : Int) := wrapU (n := k + 1) (by omega)
      have hhas := Has_plain (n := a) hk64 (by omega)
      unfold network_Set_Has_m at hhas
      rw [wrapU (by omega)] at hhas ⊢
      have next : ∀ b : Prop, (SubB k n.all → AdmP n k → k.testBit a = false) → T (some (Sum.inr ((k + 1 : Nat) : Int)) : Option (Sum (Sum Bool Unit) Int)) (onO (fun r : Sum Bool Unit => match r with | .inl b => b = true ∧ ∃ y, SubB y n.all ∧ AdmP n y ∧ y.testBit a = true | .inr _ => ¬ ∃ y, SubB y n.all ∧ AdmP n y ∧ y.testBit a = true) fun st => k < 2 ^ N ∧ k + 1 ≤ 2 ^ N ∧ st = ((k + 1 : Nat) : Int) ∧ ∀ y, y < k + 1 → SubB y n.all → AdmP n y → y.testBit a = false) := fun _ hx => .ret ⟨hlt, by omega, rfl, fun y hy => by
        by_cases e : y = k
        · subst e; exact hx
        · exact hinv y (by omega)⟩
      cases hs : ishrM .u64 (k : Int) (a : Int) with
      | none => rw [hs] at hhas; cases hhas
      | some t =>
        rw [hs, some_bind, letM_eq] at hhas
        have hh := Option.some.inj hhas
        have hz : (iand .u64 t 1 == 0) = !k.testBit a := by
          unfold ishrM at hs
          rw [if_neg (by omega), ishr_u (by omega)] at hs
          have ht := (Option.some.inj hs).symm
          subst ht
          have h1 : k >>> a < 2 ^ 64 := Nat.lt_of_le_of_lt (Nat.shiftRight_le _ _) hk64
          have h2 := iand_u (a := k >>> a) (b := 1) h1 (by decide)
          rw [show ((1 : Nat) : Int) = 1 from rfl] at h2
          rw [h2] at hh ⊢
          rw [← hh]
          have h3 : k >>> a &&& 1 = 0 ∨ k >>> a &&& 1 = 1 := by
            have : k >>> a &&& 1 = (k >>> a) % 2 := Nat.and_one_is_mod _
            omega
          rcases h3 with h3 | h3 <;> rw [h3] <;> rfl
        rw [some_bind, hz, hadd]
        refine T.cond (fun g2 => .letM (next True fun _ _ => by simpa using g2)) fun g2 => ?_
        have hka : k.testBit a = true := by simpa using g2
        rw [Members_plain hk64, some_bind]
        refine T.bind (P := fun r : Bool => (r = true ↔ ∃ i, k.testBit i = true ∧ (i : Int) ∈ gone)) ?_ fun r hr => ?_
        · refine T.loopK (bitsL k).length (fun q st => q ≤ (bitsL k).length ∧ st.2 = (q : Int) ∧ (st.1 = true ↔ ∃ x ∈ (bitsL k).take q, (x : Int) ∈ gone)) ⟨by omega, rfl, by simp⟩ ?_
          rintro q ⟨b, _⟩ ⟨hq, rfl, hb2⟩
          dsimp only [net_SomeAdmissible_l2] at *
          rw [il_len]
          refine T.cond (fun g3 => ?_) fun g3 => ?_
          · simp at g3
            have htk : (bitsL k).take (q + 1) = (bitsL k).take q ++ [(bitsL k)[q]] := by rw [List.take_add_one, List.getElem?_eq_getElem g3]; rfl
            rw [iadd1 (by omega)]
            refine T.cond (fun g4 => .letM (.ret ⟨g3, by omega, rfl, ?_⟩)) fun g4 => ?_
            · simp only [true_iff]
              obtain ⟨x, h1, h2⟩ := hb2.1 g4
              exact ⟨x, by rw [htk]; exact List.mem_append_left _ h1, h2⟩
            · rw [il_idx g3, some_bind, show (bitsL k).getD q 0 = (bitsL k)[q] by simp [List.getD, g3], nIn_plain (by have := hg.1; omega), some_bind]
              refine .letM (.ret ⟨g3, by omega, rfl, ?_⟩)
              simp only
              rw [decide_eq_true_eq, htk]
              constructor
              · intro hx; exact ⟨_, List.mem_append_right _ (by simp), hx⟩
              · rintro ⟨x, hx, h2⟩
                rcases List.mem_append.1 hx with hx | hx
                · rw [hb2.2 ⟨x, hx, h2⟩] at g4; cases g4
                · rw [← List.mem_singleton.1 hx]; exact h2
          · simp at g3
            refine .ret (show (b = true ↔ _) from ?_)
            rw [hb2, List.take_of_length_le (by omega)]
            exact ⟨fun ⟨x, h1, h2⟩ => ⟨x, (mem_bitsL hk64).1 h1, h2⟩, fun ⟨x, h1, h2⟩ => ⟨x, (mem_bitsL hk64).2 h1, h2⟩⟩
        · have hsub : r = false ↔ SubB k n.all := by
            constructor
            · intro hrf i hi
              have hiN := bits_lt hlt hi
              cases hb3 : n.all.testBit i
              · rw [hr.2 ⟨i, hi, (hg.2 i hiN).2 hb3⟩] at hrf; cases hrf
              · rfl
            · intro hs
              cases hr2 : r
              · rfl
              · obtain ⟨i, h1, h2⟩ := hr.1 hr2
                have := (hg.2 i (bits_lt hlt h1)).1 h2
                rw [hs i h1] at this; cases this
          refine T.cond (fun g3 => ?_) fun g3 => .letM (next True fun hs => ?_)
          · have hsb := hsub.1 (by simpa using g3)
            rw [nAdm_plain s hlt, some_bind]
            refine T.cond (fun g4 => .ret ⟨rfl, k, hsb, of_decide_eq_true g4, hka⟩) fun g4 => .letM (next True fun _ had => absurd had (of_decide_eq_false g4))
          · rw [hsub.2 hs] at g3; cases g3
    · have hge : 2 ^ N ≤ k := by
        have := of_decide_eq_false g1
        have h2 : ¬ k < 2 ^ N := fun hh => this (by exact_mod_cast hh)
        omega
      refine .ret ?_
      rintro ⟨y, h1, h2, h3⟩
      have hy : y < 2 ^ N := lt_of_bits fun j hj => s.ok.al j (h1 j hj)
      rw [hinv y (by omega) h1 h2] at h3; cases h3
  · rintro (b | u) hr
    · obtain ⟨rfl, hx⟩ := hr
      rw [sumK_inl]; exact .ret (decide_eq_true hx).symm
    · rw [sumK_inr]; exact .ret (decide_eq_false hr).symm

open Classical in
theorem acc_loop {g0 : T_api_Graph} (hg0 : g0.N = (N : Int)) {a : Nat} (ha : a < N) :
    loopC (ref23_Accepted_l1 g0 (a : Int) h) (false, true, 0) = some (decide (∃ y, y < 2 ^ N ∧ StG N n y ∧ y.testBit a = true), decide (∀ y, y < 2 ^ N → StG N n y → y.testBit a = true)) := by
  have hN := s.hN
  have hpw : 2 ^ N ≤ 1024 := Nat.le_trans (Nat.pow_le_pow_right (by decide) hN) (by decide)
  refine T.eq (T.loopK (2 ^ N) (fun k st => k ≤ 2 ^ N ∧ st = (decide (∃ y, y < k ∧ StG N n y ∧ y.testBit a = true), decide (∀ y, y < k → StG N n y → y.testBit a = true), (k : Int))) ⟨Nat.zero_le _, ?_⟩ ?_)
  · rw [decide_eq_false (by rintro ⟨y, hy, _⟩; omega), decide_eq_true (fun y hy => by omega)]; rfl
  rintro k _ ⟨hk, rfl⟩
  dsimp only [ref23_Accepted_l1] at *
  rw [hg0, wrapU (by omega)]
  unfold ishlM
  rw [if_neg (by omega), some_bind, ishl_u (by omega)]
  refine T.cond (fun g1 => ?_) fun g1 => ?_
  · have hlt : k < 2 ^ N := by
      have := of_decide_eq_true g1
      exact_mod_cast this
    have hk64 : k < 2 ^ 64 := by omega
    have hb := bitsL_len (s := k)
    have hadd : iadd .u64 (k : Int) 1 = ((k + 1 : Nat) : Int) := wrapU (n := k + 1) (by omega)
    rw [Members_plain hk64, some_bind, nStable_plain s hlt, some_bind, hadd]
    have hex : (∃ y, y < k + 1 ∧ StG N n y ∧ y.testBit a = true) ↔ (∃ y, y < k ∧ StG N n y ∧ y.testBit a = true) ∨ (StG N n k ∧ k.testBit a = true) := by
      constructor
      · rintro ⟨y, h1, h2⟩
        by_cases e : y = k
        · subst e; exact .inr h2
        · exact .inl ⟨y, by omega, h2⟩
      · rintro (⟨y, h1, h2⟩ | h2)
        · exact ⟨y, by omega, h2⟩
        · exact ⟨k, by omega, h2⟩
    have hal : (∀ y, y < k + 1 → StG N n y → y.testBit a = true) ↔ (∀ y, y < k → StG N n y → y.testBit a = true) ∧ (StG N n k → k.testBit a = true) := by
      constructor
      · intro hx; exact ⟨fun y hy => hx y (by omega), hx k (by omega)⟩
      · rintro ⟨h1, h2⟩ y hy
        by_cases e : y = k
        · subst e; exact h2
        · exact h1 y (by omega)
    have hmem : decide ((a : Int) ∈ il (bitsL k)) = k.testBit a := by
      rw [Bool.eq_iff_iff, decide_eq_true_eq]; exact bits_in s hlt
    refine T.cond (fun g2 => .letM (.ret ⟨hlt, by omega, ?_⟩)) fun g2 => ?_
    · have hns : ¬ StG N n k := fun hx => by rw [decide_eq_true hx] at g2; cases g2
      simp only [hex, hal, hns, false_and, or_false, false_implies, and_true]
    · have hns : StG N n k := by
        have := of_decide_eq_true (p := StG N n k) (by simpa using g2)
        exact this
      rw [nIn_plain (by simp; omega), some_bind, hmem]
      refine T.cond (fun g3 => .letM (.ret ⟨hlt, by omega, ?_⟩)) fun g3 => .letM (.ret ⟨hlt, by omega, ?_⟩)
      · simp only [hex, hal, hns, g3, true_and, or_true, forall_const, and_true, decide_true]
      · simp only [hex, hal, hns, g3, true_and, Bool.false_eq_true, or_false, forall_const, and_false, decide_false]
  · have hge : 2 ^ N ≤ k := by
      have := of_decide_eq_false g1
      have h2 : ¬ k < 2 ^ N := fun hh => this (by exact_mod_cast hh)
      omega
    have e : k = 2 ^ N := by omega
    subst e
    exact .ret rfl
end

open Classical in
/-- the reference's acceptance is the program's -/
theorem acc_iff {N : Nat} {n : Nt} {gone : List Int} (hg : GoneOk N n gone) {g0 : T_api_Graph} (hg0 : g0.N = (N : Int)) (hl0 : g0.L.length ≤ 10000) (hw : ∀ r : T_api_Graph, r.N = g0.N → r.L.length ≤ g0.L.length → (∀ p, p ∈ r.L ↔ p ∈ g0.L ∧ p.From ∉ gone ∧ p.To ∉ gone) → Sim N n r)
    {a : Nat} (ha : a < N) {q : Int} (hq1 : 1 ≤ q) (hq4 : q ≤ 4) :
    ref23_Accepted_m g0 gone (a : Int) q = some (decide (n.all.testBit a = true ∧ ansP n q a)) := by
  unfold ref23_Accepted_m
  refine T.eq ?_
  refine T.bind (Without_plain (by omega) (by have := hg.1; omega)) fun h' ⟨w1, w2, w3⟩ => ?_
  have s' := hw h' w1 w2 w3
  rw [nIn_plain (by have := hg.1; omega), some_bind]
  refine T.cond (fun g1 => .ret ?_) fun g1 => ?_
  · have := (hg.2 a ha).1 (of_decide_eq_true g1)
    rw [this]; simp
  · have hall : n.all.testBit a = true := by
      cases hb : n.all.testBit a
      · exact absurd ((hg.2 a ha).2 hb) (of_decide_eq_false g1)
      · rfl
    have hL := s'.l
    refine T.bind (nGrounded_plain s'.gv (by omega)) fun r ⟨hr, hr2⟩ => ?_
    have hra := hr2 a (by rw [s'.nn]; omega)
    rw [s'.nn] at hr
    simp only [letM_eq]
    unfold ansP
    refine T.cond (fun g2 => ?_) fun g2 => ?_
    · have e : q = 4 := eq_of_beq g2
      rw [if_pos e, idx_sf (by rw [hr]; omega), some_bind]
      refine .ret ?_
      rw [Bool.eq_iff_iff, beq_iff_eq, hra.2, gr_iff s' hall]
      simp [hall]
    · have e4 : q ≠ 4 := fun e => by subst e; cases g2
      rw [if_neg e4]
      refine T.cond (fun g3 => ?_) fun g3 => ?_
      · have e : q = 1 := eq_of_beq g3
        rw [if_pos e, SomeAdm_plain s' hg ha, some_bind]
        refine .ret ?_
        simp only [hall, true_and]
      · have e1 : q ≠ 1 := fun e => by subst e; cases g3
        rw [if_neg e1, acc_loop s' hg hg0 ha, some_bind]
        have hst : ∀ y', SubB y' n.all → StbP n y' → ∃ y, y < 2 ^ N ∧ StG N n y ∧ (y.testBit a = y'.testBit a) := fun y' h1 h2 => by
          let y := setOf ((List.range N).filter fun i => y'.testBit i || !n.all.testBit i)
          have hy : ∀ i, y.testBit i = true ↔ i < N ∧ (y'.testBit i = true ∨ n.all.testBit i = false) := fun i => by
            show (setOf _).testBit i = true ↔ _
            rw [setOf_bit, List.mem_filter, List.mem_range, Bool.or_eq_true]; simp
          have hya : y &&& n.all = y' := eq_of_bits fun i => by
            rw [Bool.eq_iff_iff, Nat.testBit_and, Bool.and_eq_true, hy]
            constructor
            · rintro ⟨⟨_, h3 | h3⟩, h4⟩
              · exact h3
              · rw [h3] at h4; cases h4
            · intro h3; exact ⟨⟨s'.ok.al i (h1 i h3), .inl h3⟩, h1 i h3⟩
          refine ⟨y, lt_of_bits fun j hj => ((hy j).1 hj).1, (stg_iff s').2 ⟨fun i hi hna => (hy i).2 ⟨hi, .inr hna⟩, by rw [hya]; exact h2⟩, ?_⟩
          rw [Bool.eq_iff_iff, hy]
          exact ⟨fun ⟨_, h3⟩ => h3.elim id (fun h4 => by rw [hall] at h4; cases h4), fun h3 => ⟨ha, .inl h3⟩⟩
        have hand : ∀ y : Nat, y.testBit a = (y &&& n.all).testBit a := fun y => by rw [Nat.testBit_and, hall, Bool.and_true]
        refine T.cond (fun g5 => .ret ?_) fun g5 => .ret ?_
        · have e : q = 2 := eq_of_beq g5
          subst e
          rw [if_neg (by decide)]
          simp only [hall, true_and]
          rw [Bool.eq_iff_iff, decide_eq_true_eq, decide_eq_true_eq]
          constructor
          · rintro ⟨y, h1, h2, h3⟩
            exact ⟨y &&& n.all, SubB.and, ((stg_iff s').1 h2).2, by rw [← hand]; exact h3⟩
          · rintro ⟨y', h1, h2, h3⟩
            obtain ⟨y, h4, h5, h6⟩ := hst y' h1 h2
            exact ⟨y, h4, h5, by rw [h6]; exact h3⟩
        · have e : q ≠ 2 := fun e => by subst e; cases g5
          have e3 : q = 3 := by omega
          subst e3
          rw [if_pos rfl]
          simp only [hall, true_and]
          rw [Bool.eq_iff_iff, decide_eq_true_eq, decide_eq_true_eq]
          constructor
          · intro hx y' h1 h2
            obtain ⟨y, h4, h5, h6⟩ := hst y' h1 h2
            rw [← h6]; exact hx y h4 h5
          · intro hx y h1 h2
            rw [hand]; exact hx _ SubB.and ((stg_iff s').1 h2).2
end Go.Dc
