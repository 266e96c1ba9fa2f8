/- Part P28C.Players of a proof: lemmas. -/
import Derived.Test.YtodnndlcnignbaaP28CRun
set_option linter.unusedVariables false
set_option linter.unusedSimpArgs false
/-! The players of the laws. -/
namespace Go.Dc

theorem asc_of {l : List Int} {n : Int} (hp : l.Pairwise (· < ·)) (hv : ∀ x ∈ l, 0 ≤ x ∧ x < n) : Asc l n := fun j hj => by
  have e : ∀ k (hk : k < l.length), l.getD k 0 = l[k] := fun k hk => by simp [List.getD, hk]
  refine ⟨?_, ?_, fun h => ?_⟩
  · rw [e j hj]; exact (hv _ (List.getElem_mem hj)).1
  · rw [e j hj]; exact (hv _ (List.getElem_mem hj)).2
  · rw [e j hj, e (j - 1) (by omega)]
    exact List.pairwise_iff_getElem.1 hp (j - 1) j (by omega) hj (by omega)

def upto (n : Nat) : List Int := (List.range n).map fun i : Nat => (i : Int)
theorem upto_succ {n : Nat} : upto (n + 1) = upto n ++ [(n : Int)] := by simp [upto, List.range_succ]
theorem upto_len {n : Nat} : (upto n).length = n := by simp [upto]
theorem mem_upto {n : Nat} {x : Int} : x ∈ upto n ↔ 0 ≤ x ∧ x < n := by
  unfold upto
  simp only [List.mem_map, List.mem_range]
  constructor
  · rintro ⟨i, hi, rfl⟩; omega
  · rintro ⟨h0, h1⟩; exact ⟨x.toNat, by omega, by omega⟩
theorem upto_asc {n : Nat} : (upto n).Pairwise (· < ·) := by
  unfold upto
  rw [List.pairwise_map]
  exact List.pairwise_lt_range.imp fun h => by omega

theorem Full_plain {g : T_api_Graph} (h : GVal g) (hl : g.L.length ≤ 1000000) {st : Int} : participant_Full_m g st = some ⟨upto g.N.toNat, [], [], st⟩ := by
  have h0 := h.n0; have h1 := h.n1
  refine T.eq ?_
  unfold participant_Full_m
  rw [Validate_plain h hl, some_bind]
  refine T.cond (fun h => by simp at h) fun _ => ?_
  refine T.bind (P := fun r => r = upto g.N.toNat) ?_ fun r hr => by subst hr; exact .ret rfl
  refine T.loopK g.N.toNat (fun i s => s.1 = (i : Int) ∧ i ≤ g.N.toNat ∧ s.2 = upto i) ⟨rfl, by omega, rfl⟩ ?_
  rintro i ⟨_, _⟩ ⟨rfl, hi, rfl⟩
  dsimp only [participant_Full_l1]
  refine T.cond (fun g1 => ?_) fun g1 => ?_
  · simp at g1
    rw [appM_eq (by rw [upto_len]; simp; omega), some_bind, iadd1 (by omega)]
    exact .ret ⟨by omega, rfl, by omega, upto_succ.symm⟩
  · simp at g1
    exact .ret (show upto i = _ from by congr 1; omega)

theorem rFull_plain {g : T_api_Graph} (h : GVal g) (hl : g.L.length ≤ 1000000) {st : Int} : ref28_Full_m g st = some ⟨upto g.N.toNat, [], [], st⟩ := by
  have h0 := h.n0; have h1 := h.n1
  refine T.eq ?_
  unfold ref28_Full_m
  rw [rValidate_plain h hl, some_bind]
  refine T.cond (fun h => by simp at h) fun _ => ?_
  refine T.bind (P := fun r => r = upto g.N.toNat) ?_ fun r hr => by subst hr; exact .ret rfl
  refine T.loopK g.N.toNat (fun i s => s.1 = (i : Int) ∧ i ≤ g.N.toNat ∧ s.2 = upto i) ⟨rfl, by omega, rfl⟩ ?_
  rintro i ⟨_, _⟩ ⟨rfl, hi, rfl⟩
  dsimp only [ref28_Full_l1]
  refine T.cond (fun g1 => ?_) fun g1 => ?_
  · simp at g1
    rw [appM_eq (by rw [upto_len]; simp; omega), some_bind, iadd1 (by omega)]
    exact .letM (.ret ⟨by omega, rfl, by omega, upto_succ.symm⟩)
  · simp at g1
    exact .ret (show upto i = _ from by congr 1; omega)

/-- a player that is valid -/
structure PlOk (n : Int) (p : Pl) : Prop where
  po : Asc p.Pool n
  wi : Asc p.Withheld n
  st : 1 ≤ p.Style ∧ p.Style ≤ 3
  len : Len p

theorem PlOk.err {n : Int} {p : Pl} (h : PlOk n p) : errV n p = 0 := by
  unfold errV
  rw [if_neg (fun hh => hh ⟨h.po, h.wi⟩), if_neg (by have := h.st; omega)]

theorem full_ok {n : Nat} (hn : n ≤ 1000) {st : Int} (h : 1 ≤ st ∧ st ≤ 3) : PlOk (n : Int) ⟨upto n, [], [], st⟩ :=
  ⟨asc_of upto_asc fun x hx => mem_upto.1 hx, asc_of .nil fun x hx => (by cases hx), h, ⟨by dsimp only; rw [upto_len]; omega, by simp, by simp⟩⟩

theorem Some_plain {s : T_deliberationkeep_Src} (hs : SrcOk s) {n : Int} (h0 : 0 ≤ n) (h1 : n ≤ 40) : T (net_Some_m s n) fun r => Asc r.1 n ∧ r.1.length ≤ 40 ∧ SrcOk r.2 := by
  unfold net_Some_m
  refine T.bind (P := fun r => Asc r.2 n ∧ r.2.length ≤ 40 ∧ SrcOk r.1) ?_ fun r h => .ret h
  refine T.loopK n.toNat (fun i s => s.1 = (i : Int) ∧ i ≤ n.toNat ∧ SrcOk s.2.1 ∧ s.2.2.length ≤ i ∧ s.2.2.Pairwise (· < ·) ∧ ∀ x ∈ s.2.2, 0 ≤ x ∧ x < (i : Int)) ⟨rfl, by omega, hs, by simp, .nil, fun x hx => (by cases hx)⟩ ?_
  rintro i ⟨_, s, l⟩ ⟨rfl, hi, hs, hl, hp, hv⟩
  dsimp only [net_Some_l1] at *
  refine T.cond (fun g1 => ?_) fun g1 => ?_
  · simp at g1
    refine T.bind (N_plain hs (by omega)) fun q ⟨hq, _⟩ => ?_
    refine T.cond (fun _ => ?_) fun _ => ?_
    · rw [appM_eq (by simp; omega), some_bind, iadd1 (by omega)]
      refine .letM (.ret ⟨by omega, rfl, by omega, hq, by simp; omega, ?_, ?_⟩)
      · dsimp only
        refine List.pairwise_append.2 ⟨hp, List.pairwise_singleton _ _, fun x hx y hy => ?_⟩
        rw [List.mem_singleton.1 hy]; exact (hv x hx).2
      · intro x hx
        rcases List.mem_append.1 hx with h | h
        · have := hv x h; omega
        · rw [List.mem_singleton.1 h]; omega
    · rw [iadd1 (by omega)]
      exact .letM (.ret ⟨by omega, rfl, by omega, hq, by dsimp only; omega, hp, fun x hx => by have := hv x hx; omega⟩)
  · simp at g1
    exact .ret ⟨asc_of hp fun x hx => by have := hv x hx; omega, by dsimp only; omega, hs⟩

theorem player_plain {s : T_deliberationkeep_Src} (hs : SrcOk s) {g : T_api_Graph} (hg : GVal g) (hl : g.L.length ≤ 1000000) (hN : 1 ≤ g.N) : T (law28_player_m s g) fun r => PlOk g.N r.1 ∧ SrcOk r.2 := by
  have h0 := hg.n0; have h1 := hg.n1
  have hn : ((g.N.toNat : Nat) : Int) = g.N := by omega
  unfold law28_player_m
  refine T.bind (Range_plain hs (by omega) (by omega) (by omega)) fun st ⟨hst, hst1, hst2⟩ => ?_
  rw [rFull_plain hg hl, some_bind]
  refine T.joinP (fun j => SrcOk j.1 ∧ Asc j.2 g.N ∧ j.2.length ≤ 100000000) (fun j ⟨hj, hja, hjl⟩ => ?_) fun k hk => ?_
  · refine T.joinP (fun j => SrcOk j.1 ∧ Asc j.2 g.N ∧ j.2.length ≤ 100000000) (fun q ⟨hq, hqa, hql⟩ => ?_) fun k hk => ?_
    · refine T.bind (N_plain hq (by omega)) fun i ⟨hi, hib⟩ => ?_
      have hib := hib (by omega)
      refine T.bind (P := fun r => SrcOk r.1 ∧ r.2.length ≤ 4) ?_ fun r ⟨hr, hrl⟩ => .ret ⟨⟨hqa, hja, ⟨hst1, hst2⟩, ⟨hql, hjl, by dsimp only; omega⟩⟩, hr⟩
      refine T.loopK 4 (fun k s => s.1 = i.1 - k ∧ (k : Int) ≤ i.1 ∧ SrcOk s.2.1 ∧ s.2.2.length = k) ⟨by simp, by omega, hi, rfl⟩ ?_
      rintro k ⟨_, s, l⟩ ⟨rfl, hk, hs, hlk⟩
      dsimp only [law28_player_l1] at *
      refine T.cond (fun g1 => ?_) fun g1 => ?_
      · simp at g1
        refine T.bind (N_plain hs (by omega)) fun a ⟨ha, _⟩ => T.bind (Pick_plain ha (by simp) (by simp)) fun b ⟨hb, _⟩ => T.bind (N_plain hb (by omega)) fun c ⟨hc, _⟩ => T.bind (N_plain hc (by omega)) fun e ⟨he, _⟩ => ?_
        rw [appM_eq (by simp; omega), some_bind, isub64 (by omega) (by omega)]
        exact .letM (.ret ⟨by omega, by dsimp only; omega, by omega, he, by simp; omega⟩)
      · simp at g1
        exact .ret ⟨hs, by dsimp only; omega⟩
    · refine T.bind (N_plain hj (by omega)) fun a ⟨ha, _⟩ => ?_
      refine T.cond (fun _ => ?_) fun _ => hk _ ⟨ha, ?_, ?_⟩
      · exact T.bind (Some_plain ha h0 h1) fun r ⟨h2, h3, h4⟩ => hk _ ⟨h4, h2, by dsimp only; omega⟩
      · have := (full_ok (n := g.N.toNat) (by omega) ⟨hst1, hst2⟩).po
        rw [hn] at this; exact this
      · dsimp only; rw [upto_len]; omega
  · refine T.bind (N_plain hst (by omega)) fun a ⟨ha, _⟩ => ?_
    refine T.cond (fun _ => ?_) fun _ => hk _ ⟨ha, asc_of .nil fun x hx => (by cases hx), by simp⟩
    exact T.bind (Some_plain ha h0 h1) fun r ⟨h2, h3, h4⟩ => hk _ ⟨h4, h2, by dsimp only; omega⟩

theorem leg_node {d : Dg} (hg : GOk d.Graph) {s : Nat → Int} {b : Nat → Bool} {x : Mv} (h : Leg d s b x) : 0 ≤ x.Node ∧ x.Node < d.Graph.N := by
  obtain ⟨t, p, _, _, _, hp, _, rfl, _⟩ := h
  exact ⟨(hg.v p hp).1, (hg.v p hp).2.1⟩

end Go.Dc
