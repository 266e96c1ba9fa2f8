/- Part P38Z.Bld of a proof: lemmas. -/
import Derived.Test.YtcpkdjlfgfikcaaGreatDoorP38ZBas
import Derived.Test.YtcpkdjlfgfikcaaGreatDoorLAW38ZF
set_option linter.unusedVariables false
set_option linter.unusedSimpArgs false
set_option linter.unusedSectionVars false
/-! The program's grounded labelling. -/
namespace Go.Dc
open Classical

theorem countP_one {N k : Nat} (hk : k < N) {p q : Nat → Bool} (h : ∀ a, a ≠ k → p a = q a) (hq : q k = false) : (List.range N).countP p = (List.range N).countP q + (if p k = true then 1 else 0) := by
  induction N with
  | zero => omega
  | succ N ih =>
    rw [List.range_succ, List.countP_append, List.countP_append, List.countP_singleton, List.countP_singleton]
    by_cases e : k = N
    · subst e
      have : (List.range k).countP p = (List.range k).countP q := List.countP_congr fun a ha => by rw [h a (by have := List.mem_range.1 ha; omega)]
      rw [this, hq]; simp
    · rw [ih (by omega), h N (by omega)]; omega
theorem countP_zero {N : Nat} {p : Nat → Bool} : (List.range N).countP p = 0 ↔ ∀ a, a < N → p a = false := by
  rw [List.countP_eq_zero]
  constructor
  · intro h a ha; simpa using h a (List.mem_range.2 ha)
  · intro h a ha; simpa using h a (List.mem_range.1 ha)

/-- the attackers that are not out -/
noncomputable def opn (g : T_Gra) (l : Nat → Int) (j : Nat) : Nat := (List.range g.N.toNat).countP fun a : Nat => decide (att g a j ∧ l a ≠ 2)
variable {g : T_Gra}

theorem pairs_count (h : GVal g) (j : Nat) : g.L.countP (fun p => decide (p.To = (j : Int))) = (List.range g.N.toNat).countP fun a : Nat => decide (att g a j) := by
  rw [List.countP_eq_length_filter, List.countP_eq_length_filter]
  have e : (g.L.filter fun p => decide (p.To = (j : Int))).length = ((g.L.filter fun p => decide (p.To = (j : Int))).map fun p => p.From.toNat).length := by simp
  rw [e]
  refine List.Perm.length_eq ((List.perm_ext_iff_of_nodup ?_ ?_).2 fun a => ?_)
  · unfold List.Nodup
    rw [List.pairwise_map]
    refine List.Pairwise.imp_of_mem ?_ (List.Pairwise.filter _ h.s)
    intro p q hp hq hpq hf
    have h1 := List.mem_filter.1 hp; have h2 := List.mem_filter.1 hq
    have t1 := of_decide_eq_true h1.2; have t2 := of_decide_eq_true h2.2
    have v1 := h.v p h1.1; have v2 := h.v q h2.1
    unfold plt at hpq
    omega
  · exact List.Pairwise.filter _ List.nodup_range
  · rw [List.mem_map, List.mem_filter, List.mem_range, decide_eq_true_iff]
    constructor
    · rintro ⟨p, hp, rfl⟩
      obtain ⟨h1, h2⟩ := List.mem_filter.1 hp
      have v := h.v p h1
      exact ⟨by omega, p, h1, by omega, of_decide_eq_true h2⟩
    · rintro ⟨ha, p, hp, h1, h2⟩
      exact ⟨p, List.mem_filter.2 ⟨hp, decide_eq_true h2⟩, by omega⟩

/-- nothing is both grounded and attacked by what is grounded -/
theorem gr_free (h : GVal g) (hl : g.L.length ≤ 10000) {a b : Nat} (hab : att g a b) (ha : Gr (att g) a) (hb : Gr (att g) b) : False := by
  obtain ⟨r, _, _, hr⟩ := nGrounded_plain h.gv (by omega)
  obtain ⟨p, hp, _, e⟩ := hab
  have := h.v p hp
  have := hr b (by omega)
  have h1 := this.2.1.2 hb
  have h2 := this.2.2.2 ⟨a, ⟨p, hp, by assumption, e⟩, ha⟩
  omega

/-- what holds of labels and open attackers all the time -/
structure Sd (g : T_Gra) (N : Nat) (l o : List Int) : Prop where
  ll : l.length = N
  lo : o.length = 40
  v : ∀ i, i < N → sf l i = 1 ∨ sf l i = 2 ∨ sf l i = 3
  s1 : ∀ i, i < N → sf l i = 1 → Gr (att g) i
  s2 : ∀ i, i < N → sf l i = 2 → ∃ a : Nat, att g a i ∧ Gr (att g) a

/-- nodes that become In -/
structure Nx (g : T_Gra) (N : Nat) (l o : List Int) (Q : List Int) : Prop where
  ok : ∀ q ∈ Q, ∃ i : Nat, q = i ∧ i < N ∧ Gr (att g) i ∧ sf l i ≠ 1 ∧ sf o i = 0
  nd : Q.Nodup

structure Hd (g : T_Gra) (N : Nat) (l o Q : List Int) : Prop where
  sd : Sd g N l o
  nx : Nx g N l o Q
  op : ∀ j, j < N → sf o j = (opn g (sf l) j : Int)
  zero : ∀ j, j < N → sf l j = 3 → sf o j = 0 → (j : Int) ∈ Q
  done : ∀ i, i < N → sf l i = 1 → ∀ k : Nat, att g i k → sf l k ≠ 3

theorem att_lt (h : GVal g) {a b : Nat} (hab : att g a b) : (a : Int) < g.N ∧ (b : Int) < g.N := by
  obtain ⟨p, hp, h1, h2⟩ := hab
  have := h.v p hp
  omega
theorem opn_zero (h : GVal g) {l : Nat → Int} {j : Nat} (hz : opn g l j = 0) : ∀ a : Nat, att g a j → l a = 2 := by
  intro a ha
  have hlt := (att_lt h ha).1
  have := countP_zero.1 hz a (by omega)
  simp only [decide_eq_false_iff_not, not_and, ne_eq, Classical.not_not] at this
  exact this ha
theorem zero_opn {l : Nat → Int} {j : Nat} (hz : ∀ a : Nat, att g a j → l a = 2) : opn g l j = 0 := by
  refine countP_zero.2 fun a _ => ?_
  simp only [decide_eq_false_iff_not, not_and, ne_eq, Classical.not_not]
  exact hz a
theorem gr_of_zero (h : GVal g) {N : Nat} (hN : g.N = N) {l o : List Int} (sd : Sd g N l o) {j : Nat} (hz : opn g (sf l) j = 0) : Gr (att g) j := by
  refine Gr.mk (n := N) (fun a b ⟨p, hp, h1, h2⟩ => by have := h.v p hp; omega) fun b hb => ?_
  obtain ⟨p, hp, h1, h2⟩ := hb
  have hv := h.v p hp
  obtain ⟨m, hm⟩ : ∃ m : Nat, b = (m : Int) := ⟨b.toNat, by omega⟩
  subst hm
  have h3 := opn_zero h hz m ⟨p, hp, h1, h2⟩
  obtain ⟨a, q1, q2⟩ := sd.s2 m (by omega) h3
  exact ⟨a, q1, q2⟩
theorem opn_set (h : GVal g) {N : Nat} (hN : g.N = N) {l : List Int} (hl : l.length = N) {k : Nat} (hk : k < N) (h3 : sf l k = 3) (j : Nat) : opn g (sf l) j = opn g (sf (l.set k 2)) j + (if att g k j then 1 else 0) := by
  unfold opn
  rw [hN, Int.toNat_natCast, countP_one (k := k) hk (q := fun a : Nat => decide (att g a j ∧ sf (l.set k 2) a ≠ 2))]
  · congr 1
    by_cases c : att g k j
    · rw [if_pos c, if_pos (decide_eq_true ⟨c, by omega⟩)]
    · rw [if_neg c, if_neg (by simp [c])]
  · intro a ha
    rw [sf_set (by omega), if_neg (fun e => ha e.symm)]
  · rw [sf_set (by omega), if_pos rfl]; simp

/-- in the end the nodes that are In are the grounded ones -/
theorem Hd.fin (h : GVal g) (hl : g.L.length ≤ 10000) {N : Nat} (hN : g.N = N) {l o : List Int} (H : Hd g N l o []) : ∀ i : Nat, i < N → (sf l i = 1 ↔ Gr (att g) i) := by
  have key : ∀ m (i : Nat), i < N → GrN (att g) m i → sf l i = 1 := by
    intro m
    induction m with
    | zero => intro i _ hg; exact hg.elim
    | succ m ih =>
      intro i hi hg
      have hgi : Gr (att g) i := ⟨m + 1, hg⟩
      have hz : opn g (sf l) i = 0 := zero_opn fun b hb => by
        obtain ⟨c, c1, c2⟩ := hg b hb
        obtain ⟨p, hp, q1, q2⟩ := c1
        have hv := h.v p hp
        obtain ⟨c', rfl⟩ : ∃ m : Nat, c = (m : Int) := ⟨c.toNat, by omega⟩
        have hbl := (att_lt h hb).1
        have hc : sf l c' = 1 := ih c' (by omega) c2
        have h3 := H.done c' (by omega) hc b ⟨p, hp, q1, q2⟩
        rcases H.sd.v b (by omega) with e | e | e
        · exact (gr_free h hl ⟨p, hp, q1, q2⟩ ⟨m, c2⟩ (H.sd.s1 b (by omega) e)).elim
        · exact e
        · exact absurd e h3
      rcases H.sd.v i hi with e | e | e
      · exact e
      · obtain ⟨a, q1, q2⟩ := H.sd.s2 i hi e
        exact (gr_free h hl q1 q2 hgi).elim
      · have := H.zero i hi e (by rw [H.op i hi, hz]; rfl)
        cases this
  exact fun i hi => ⟨H.sd.s1 i hi, fun ⟨m, hm⟩ => key m i hi hm⟩
end Go.Dc
