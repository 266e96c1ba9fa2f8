/- Part P23A.RJoint of a proof: lemmas. -/
import Derived.Test.YtkcaadcoagimdaaDoorP23ARWorlds
set_option linter.unusedVariables false
set_option linter.unusedSimpArgs false
set_option linter.unusedSectionVars false
/-! The reference's Joint, Given and Extension. -/
namespace Go.Dc
abbrev Wd := T_deliberationref23_world

theorem pstep_app {P Q : List (List Bool × Nat)} {f : Fr} : pstep (P ++ Q) f = pstep P f ++ pstep Q f := by unfold pstep; rw [List.flatMap_append]
theorem pstep_len {P : List (List Bool × Nat)} {f : Fr} (hf : FrR f) : (pstep P f).length ≤ (if cert f then 1 else 2) * P.length := by
  induction P with
  | nil => simp [pstep]
  | cons p P ih =>
    have e : pstep (p :: P) f = pstep [p] f ++ pstep P f := pstep_app (P := [p])
    rw [e, List.length_append, List.length_cons, Nat.mul_add]
    have h1 : (pstep [p] f).length ≤ (if cert f then 1 else 2) * 1 := by
      unfold pstep
      rw [List.flatMap_cons, List.flatMap_nil, List.append_nil]
      cases hc : cert f with
      | true =>
        rcases hf.c hc with e | e <;> subst e <;> simp
      | false =>
        simp only [List.length_append, Bool.false_eq_true, if_false]
        have a1 : ∀ (b : Prop) [Decidable b] (z : List Bool × Nat), (if b then [z] else []).length ≤ 1 := fun b _ z => by split <;> simp
        have := a1 (0 < f.Num) (p.1 ++ [true], p.2 * f.Num.toNat)
        have := a1 (f.Num < f.Den) (p.1 ++ [false], p.2 * (f.Den - f.Num).toNat)
        omega
    omega
theorem pstep_mem {P : List (List Bool × Nat)} {f : Fr} {z : List Bool × Nat} (hz : z ∈ pstep P f) : ∃ p ∈ P, ∃ b : Bool, z.1 = p.1 ++ [b] ∧ (0 < f.Num ∧ z.2 = p.2 * f.Num.toNat ∨ f.Num < f.Den ∧ z.2 = p.2 * (f.Den - f.Num).toNat) := by
  unfold pstep at hz
  obtain ⟨p, hp, hz⟩ := List.mem_flatMap.1 hz
  refine ⟨p, hp, ?_⟩
  rcases List.mem_append.1 hz with h | h
  · split at h
    · rename_i h1; rw [List.mem_singleton.1 h]; exact ⟨true, rfl, .inl ⟨h1, rfl⟩⟩
    · simp at h
  · split at h
    · rename_i h1; rw [List.mem_singleton.1 h]; exact ⟨false, rfl, .inr ⟨h1, rfl⟩⟩
    · simp at h

section
variable {N : Nat} {g : T_api_Graph} {o : T_api_Odds} (h : OOk N g o)
include h

theorem rstep {P : List (List Bool × Nat)} {ws : List Wd} {den : Int} {i : Nat} {f : Fr} (hP : RWs N g.L P ws) (hlen : P.length ≤ 1024) (hi : i < (frs o).length) (hPi : ∀ p ∈ P, p.1.length = i ∧ p.2 ≤ 100000000000) (hf : FrR f) :
    T (loopC (ref23_worlds_l2 g (ws, den, (i : Int)) f) (0, [])) fun next => RWs N g.L (pstep P f) next := by
  have hwl := hP.len
  have hlen2 := h.len2
  have hgl := h.gg.l
  have hN := h.gg.hN
  have f1 := hf.ok.d1; have f2 := hf.ok.d2; have f3 := hf.ok.n0; have f4 := hf.ok.n1
  refine T.loopK P.length (fun k s => k ≤ P.length ∧ s.1 = (k : Int) ∧ s.2.length ≤ 2 * k ∧ RWs N g.L (pstep (P.take k) f) s.2) ⟨by omega, rfl, by simp, by simp [pstep, RWs]⟩ ?_
  rintro k ⟨_, nx⟩ ⟨hk, rfl, hnl, hnx⟩
  dsimp only [ref23_worlds_l2] at *
  refine T.cond (fun g1 => ?_) fun g1 => ?_
  rotate_left
  · have g1' := of_decide_eq_false g1
    have e : k = P.length := by omega
    rw [e, List.take_length] at hnx
    exact .ret hnx
  have g1' := of_decide_eq_true g1
  have hk1 : k < P.length := by omega
  have hk2 : k < ws.length := by omega
  have hx := hP.get hk1 hk2
  obtain ⟨hpl, hpw⟩ := hPi _ (List.getElem_mem hk1)
  have htk : P.take (k + 1) = P.take k ++ [P[k]] := by rw [List.take_add_one, List.getElem?_eq_getElem hk1]; rfl
  rw [idxM_nat hk2, some_bind, h.gg.n]
  generalize ws[k] = x at *
  generalize hpk : P[k] = p at *
  obtain ⟨hb, w⟩ := p
  simp only at hpl hpw hx
  have hxll := hx.ll; have hxlg := hx.lg
  rw [hx.num]
  have hsplit : pstep (P.take (k + 1)) f = pstep (P.take k) f ++ (if 0 < f.Num then [(hb ++ [true], w * f.Num.toNat)] else []) ++ (if f.Num < f.Den then [(hb ++ [false], w * (f.Den - f.Num).toNat)] else []) := by
    rw [htk, pstep_app]
    have : pstep [(hb, w)] f = (if 0 < f.Num then [(hb ++ [true], w * f.Num.toNat)] else []) ++ (if f.Num < f.Den then [(hb ++ [false], w * (f.Den - f.Num).toNat)] else []) := by
      unfold pstep; rw [List.flatMap_cons, List.flatMap_nil, List.append_nil]
    rw [this, List.append_assoc]
  obtain ⟨fn, hfn⟩ := Int.eq_ofNat_of_zero_le f3
  obtain ⟨fd, hfd⟩ := Int.eq_ofNat_of_zero_le (show 0 ≤ f.Den by omega)
  have hw1 : w * fn ≤ 100000000000 * 12 := Nat.mul_le_mul hpw (by omega)
  have hw2 : w * (fd - fn) ≤ 100000000000 * 12 := Nat.mul_le_mul hpw (by omega)
  have m1 : imul .i64 (w : Int) f.Num = ((w * f.Num.toNat : Nat) : Int) := by rw [hfn, imul_n (by omega)]; simp
  have m2 : imul .i64 (w : Int) (isub .i64 f.Den f.Num) = ((w * (f.Den - f.Num).toNat : Nat) : Int) := by
    rw [isub64 (by omega) (by omega), show f.Den - f.Num = ((fd - fn : Nat) : Int) by omega, imul_n (by omega)]; simp
  rw [m1, m2, iadd1 (by omega)]
  refine T.joinP (fun j : List Wd => j.length ≤ 2 * k + 1 ∧ RWs N g.L (pstep (P.take k) f ++ (if 0 < f.Num then [(hb ++ [true], w * f.Num.toNat)] else [])) j) ?_ ?_
  · rintro j ⟨hjl, hj⟩
    refine T.cond (fun g2 => ?_) fun g2 => ?_
    · have g2' := of_decide_eq_true g2
      rw [if_pos g2'] at hsplit
      refine T.cond (fun g3 => ?_) fun g3 => ?_
      · have g3' := of_decide_eq_true g3
        have hn := (hx.node (w' := w * (f.Den - f.Num).toNat) (by omega)).2
        rw [hpl] at hn
        rw [appM_eq (by simp only [List.length_nil]; omega), some_bind, List.nil_append, appM_eq (by simp; omega), some_bind, appM_eq (by simp; omega), some_bind]
        refine .ret ⟨hk1, by omega, rfl, by simp; omega, ?_⟩
        simp only
        rw [hsplit]
        exact hj.append ⟨hn, trivial⟩
      · have g3' := of_decide_eq_false g3
        have hn := (hx.att (w' := w * (f.Den - f.Num).toNat) (by omega) rfl).2
        rw [appM_eq (by simp; omega), some_bind]
        refine .ret ⟨hk1, by omega, rfl, by simp; omega, ?_⟩
        simp only
        rw [hsplit]
        exact hj.append ⟨hn, trivial⟩
    · have g2' := of_decide_eq_false g2
      rw [if_neg g2', List.append_nil] at hsplit
      refine .ret ⟨hk1, by omega, rfl, by simp only; omega, ?_⟩
      simp only
      rw [hsplit]
      exact hj
  · intro kk hkk
    refine T.cond (fun g2 => ?_) fun g2 => hkk _ ⟨by omega, ?_⟩
    · have g2' : 0 < f.Num := of_decide_eq_true g2
      rw [if_pos g2'] at hkk
      refine T.cond (fun g3 => ?_) fun g3 => ?_
      · have g3' := of_decide_eq_true g3
        have hlt : i - N < g.L.length := by rw [h.len] at hi; omega
        have hn := (hx.att (w' := w * f.Num.toNat) (p0 := g.L[i - N]) (by omega) (by rw [hpl]; simp [List.getD, hlt])).1
        rw [appM_eq (by simp only [List.length_nil]; omega), some_bind, List.nil_append, isub64 (by omega) (by omega), show (i : Int) - (N : Int) = ((i - N : Nat) : Int) by omega, idxM_nat hlt, some_bind, appM_eq (by simp; omega), some_bind, appM_eq (by simp; omega), some_bind]
        exact hkk _ ⟨by simp; omega, hnx.append ⟨hn, trivial⟩⟩
      · have g3' := of_decide_eq_false g3
        have hn := (hx.node (w' := w * f.Num.toNat) (by omega)).1
        rw [appM_eq (by simp; omega), some_bind]
        exact hkk _ ⟨by simp; omega, hnx.append ⟨hn, trivial⟩⟩
    · have g2' : ¬ 0 < f.Num := of_decide_eq_false g2
      rw [if_neg g2', List.append_nil]; exact hnx

/-- the odds in lowest terms -/
def rfs (o : T_api_Odds) : List Fr := (frs o).map redF
theorem rfs_ok : ∀ f ∈ rfs o, FrR f := fun f hf => by
  obtain ⟨x, hx, rfl⟩ := List.mem_map.1 hf
  exact (redF_ok (h.fr x hx)).1
theorem rfs_un : ((rfs o).filter fun f => !cert f).length ≤ 10 := by
  have : ∀ l : List Fr, (∀ f ∈ l, FrOk f) → ((l.map redF).filter fun f => !cert f).length = (l.filter fun f => !cert f).length := by
    intro l
    induction l with
    | nil => intro _; rfl
    | cons f r ih =>
      intro hl
      have hc := (redF_ok (hl f (by simp))).2
      rw [List.map_cons, List.filter_cons, List.filter_cons, hc]
      have := ih fun x hx => hl x (by simp [hx])
      split <;> simp [this]
  unfold rfs
  rw [this _ h.fr]; exact h.un
theorem rfs_dn : dn (rfs o) ≤ 100000000000 := Nat.le_trans (dn_bound fun f hf => (rfs_ok h f hf).ok) (Nat.le_trans (Nat.pow_le_pow_right (by decide) (rfs_un h)) (by decide))
theorem rfs_pos : 0 < dn (rfs o) := dn_pos fun f hf => (rfs_ok h f hf).ok

theorem rworlds_plain : T (ref23_worlds_m g o) fun r => r.2 = ((dn (rfs o) : Nat) : Int) ∧ RWs N g.L (pfold (rfs o)) r.1 ∧ (pfold (rfs o)).length ≤ 1024 ∧ ∀ p ∈ pfold (rfs o), p.1.length = N + g.L.length := by
  have hlen : (frs o).length ≤ 10010 := h.len2
  have hl5 : o.Nodes.length + o.Attacks.length ≤ 10010 := by rw [← List.length_append]; exact hlen
  have hrl : (rfs o).length = (frs o).length := List.length_map _
  have hdn := rfs_dn h
  have hgn := h.gg.hN; have hgl := h.gg.l
  unfold ref23_worlds_m
  have hall : ref23_all_m o = some (frs o) := by
    unfold ref23_all_m
    rw [appM_eq (by simp only [List.length_nil]; omega), some_bind, appM_eq (by simp only [List.nil_append]; omega), some_bind]; rfl
  rw [hall, some_bind, h.gg.n]
  have h00 : RWs N g.L (((rfs o).take 0).foldl pstep [([], 1)]) [(T_deliberationref23_world.mk (T_api_Graph.mk (N : Int) []) [] 1)] := by
    rw [List.take_zero]
    exact ⟨⟨rfl, rfl, by simp, by simp, fun p => by simp, fun i => by simp⟩, trivial⟩
  refine T.bind (P := fun r : List Wd × Int => r.2 = ((dn (rfs o) : Nat) : Int) ∧ RWs N g.L (pfold (rfs o)) r.1 ∧ (pfold (rfs o)).length ≤ 1024 ∧ ∀ p ∈ pfold (rfs o), p.1.length = N + g.L.length) ?_ fun r hr => .ret hr
  refine T.loopK (frs o).length (fun i s => i ≤ (frs o).length ∧ s.2.2 = (i : Int) ∧ RWs N g.L (((rfs o).take i).foldl pstep [([], 1)]) s.1 ∧ (∃ d : Nat, s.2.1 = (d : Int) ∧ d * dn ((rfs o).drop i) = dn (rfs o)) ∧
    (((rfs o).take i).foldl pstep [([], 1)]).length ≤ 2 ^ (((rfs o).take i).filter fun f => !cert f).length ∧ ∀ p ∈ ((rfs o).take i).foldl pstep [([], 1)], p.1.length = i ∧ p.2 * dn ((rfs o).drop i) ≤ dn (rfs o))
    ⟨by omega, rfl, h00, ⟨1, rfl, by simp⟩, by simp, fun p hp => by simp at hp; subst hp; simp⟩ ?_
  rintro i ⟨ws, _, _⟩ ⟨hi, rfl, hws, ⟨d, rfl, hd⟩, hpl, hp⟩
  dsimp only [ref23_worlds_l1] at *
  refine T.cond (fun g1 => ?_) fun g1 => ?_
  · have g1' := of_decide_eq_true g1
    have hi1 : i < (frs o).length := by omega
    have hi2 : i < (rfs o).length := by omega
    have hri : (rfs o)[i] = redF (frs o)[i] := List.getElem_map _
    have hfo := h.fr _ (List.getElem_mem hi1)
    have hfr := rfs_ok h _ (List.getElem_mem hi2)
    have htk : (rfs o).take (i + 1) = (rfs o).take i ++ [(rfs o)[i]] := by rw [List.take_add_one, List.getElem?_eq_getElem hi2]; rfl
    have hdr : dn ((rfs o).drop i) = (if cert (rfs o)[i] then 1 else (rfs o)[i].Den.toNat) * dn ((rfs o).drop (i + 1)) := by
      rw [List.drop_eq_getElem_cons hi2, dn_cons hfr.ok]
      split <;> simp
    have hpos : 0 < dn ((rfs o).drop (i + 1)) := dn_pos fun f hf => (rfs_ok h f (List.mem_of_mem_drop hf)).ok
    have hcd : (rfs o)[i].Den.toNat = if cert (rfs o)[i] then 1 else (rfs o)[i].Den.toNat := by
      cases hc : cert (rfs o)[i] with
      | true => rcases hfr.c hc with e | e <;> rw [e] <;> rfl
      | false => rfl
    have hfd1 := hfr.ok.d1; have hfd2 := hfr.ok.d2; have hfn0 := hfr.ok.n0; have hfn1 := hfr.ok.n1
    rw [idxM_nat hi1, some_bind, some_bind]
    have hred : ref22_Reduced_m (frs o)[i].Num (frs o)[i].Den = some (rfs o)[i] := by
      rw [hri]
      have a1 := hfo.d1; have a2 := hfo.d2; have a3 := hfo.n0; have a4 := hfo.n1
      have := Reduced_plain (a := (frs o)[i].Num.toNat) (b := (frs o)[i].Den.toNat) (by omega) (by omega) (by omega)
      rw [Int.toNat_of_nonneg a3, Int.toNat_of_nonneg (by omega)] at this
      exact this
    rw [hred, some_bind]
    have hpw : ∀ p ∈ ((rfs o).take i).foldl pstep [([], 1)], p.1.length = i ∧ p.2 ≤ 100000000000 := fun p hp1 => by
      obtain ⟨h1, h2⟩ := hp p hp1
      have hpd : 0 < dn ((rfs o).drop i) := dn_pos fun f hf => (rfs_ok h f (List.mem_of_mem_drop hf)).ok
      have := Nat.le_mul_of_pos_right p.2 hpd
      exact ⟨h1, by omega⟩
    have hun : (((rfs o).take i).filter fun f => !cert f).length ≤ 10 := by
      refine Nat.le_trans ?_ (rfs_un h)
      exact ((List.take_sublist i (rfs o)).filter _).length_le
    have h1024 : (((rfs o).take i).foldl pstep [([], 1)]).length ≤ 1024 := Nat.le_trans hpl (Nat.le_trans (Nat.pow_le_pow_right (by decide) hun) (by decide))
    have hdle : d * (rfs o)[i].Den.toNat ≤ dn (rfs o) := by
      rw [← hd, hdr, ← hcd, ← Nat.mul_assoc]; exact Nat.le_mul_of_pos_right _ hpos
    have hden : imul .i64 (d : Int) (rfs o)[i].Den = ((d * (rfs o)[i].Den.toNat : Nat) : Int) := by
      have e : (rfs o)[i].Den = (((rfs o)[i].Den.toNat : Nat) : Int) := by omega
      rw [← imul_n (a := d) (b := (rfs o)[i].Den.toNat) (by omega), ← e]
    rw [hden]
    refine .letM ?_
    refine T.bind (rstep h hws h1024 hi1 hpw hfr) fun nx hnx => ?_
    rw [iadd1 (by omega)]
    have hfold : ((rfs o).take (i + 1)).foldl pstep [([], 1)] = pstep (((rfs o).take i).foldl pstep [([], 1)]) (rfs o)[i] := by rw [htk, List.foldl_append]; rfl
    refine .letM (.ret ⟨hi1, by omega, rfl, by rw [hfold]; exact hnx, ⟨_, rfl, ?_⟩, ?_, fun p hp1 => ?_⟩)
    · rw [← hd, hdr, ← hcd, Nat.mul_assoc]
    · rw [hfold]
      refine Nat.le_trans (pstep_len hfr) ?_
      rw [htk, List.filter_append]
      cases hc : cert (rfs o)[i] with
      | true => rw [List.filter_cons_of_neg (by simp [hc])]; simpa using hpl
      | false =>
        rw [List.filter_cons_of_pos (by simp [hc])]
        simp only [Bool.false_eq_true, if_false, List.filter_nil, List.length_append, List.length_singleton, Nat.pow_succ]
        omega
    · rw [hfold] at hp1
      obtain ⟨p0, hp0, b, e1, e2⟩ := pstep_mem hp1
      obtain ⟨h1, h2⟩ := hp p0 hp0
      refine ⟨by rw [e1]; simp [h1], ?_⟩
      rw [hdr, ← hcd] at h2
      have key : ∀ m : Nat, m ≤ (rfs o)[i].Den.toNat → p0.2 * m * dn ((rfs o).drop (i + 1)) ≤ dn (rfs o) := fun m hm => by
        refine Nat.le_trans ?_ h2
        rw [Nat.mul_assoc]
        exact Nat.mul_le_mul_left _ (Nat.mul_le_mul_right _ hm)
      rcases e2 with ⟨_, e2⟩ | ⟨_, e2⟩
      · rw [e2]; exact key _ (by omega)
      · rw [e2]; exact key _ (by omega)
  · have g1' := of_decide_eq_false g1
    have e : i = (rfs o).length := by omega
    subst e
    rw [List.take_length] at hws hpl hp
    rw [List.drop_length] at hd hp
    refine .ret ⟨?_, hws, Nat.le_trans hpl (Nat.le_trans (Nat.pow_le_pow_right (by decide) (rfs_un h)) (by decide)), fun p hp1 => ?_⟩
    · simp only
      rw [← hd]; simp [dn, J]
    · rw [(hp p hp1).1, hrl, h.len]

/-! ### acceptance in a world -/
theorem acc_world (hL : g.L.length ≤ 5000) {hs : List Bool} {w : Nat} {x : Wd} (hx : RW N g.L hs w x) (hl : hs.length = N + g.L.length) {a : Nat} (ha : a < N) {q : Int} (h1 : 1 ≤ q) (h4 : q ≤ 4) :
    ref23_Accepted_m x.g x.gone (a : Int) q = some (jc g (setOf [a]) q hs) := by
  have hN := h.gg.hN
  have hw := (wn_spec h.gg hl).2
  have hxl := hx.ll; have hxg := hx.lg
  have hgo : GoneOk N (wn g hs) x.gone := ⟨by omega, fun i hi => by
    rw [hx.g]
    constructor
    · rintro ⟨_, _, h3⟩
      cases hb : (wn g hs).all.testBit i
      · rfl
      · have := ((hw.all i).1 hb).2
        rw [h3] at this; cases this
    · intro hb
      refine ⟨hi, by omega, ?_⟩
      cases hc : hs.getD i false
      · rfl
      · rw [(hw.all i).2 ⟨hi, hc⟩] at hb; cases hb⟩
  rw [acc_iff hgo hx.n (by omega) (fun r r1 r2 r3 => ?_) ha h1 h4, jc_one]
  refine ⟨hw.ok, hN, r1.trans hx.n, by omega, fun p hp => ?_, fun i j => ?_⟩
  · obtain ⟨k, hk, _, rfl⟩ := (hx.l p).1 ((r3 p).1 hp).1
    have : g.L.getD k default ∈ g.L := by simp [List.getD, show k < g.L.length by omega]
    exact h.gg.v _ this
  · rw [hw.at_]
    unfold att
    constructor
    · rintro ⟨a1, a2, k, hk, a3, a4, a5⟩
      refine ⟨g.L.getD k default, (r3 _).2 ⟨(hx.l _).2 ⟨k, by omega, a3, rfl⟩, ?_, ?_⟩, a4, a5⟩
      · rw [a4, hx.g]
        rintro ⟨_, _, b3⟩
        have := ((hw.all i).1 a1).2
        rw [b3] at this; cases this
      · rw [a5, hx.g]
        rintro ⟨_, _, b3⟩
        have := ((hw.all j).1 a2).2
        rw [b3] at this; cases this
    · rintro ⟨p, hp, a4, a5⟩
      obtain ⟨b1, b2, b3⟩ := (r3 p).1 hp
      obtain ⟨k, hk, c1, c2⟩ := (hx.l p).1 b1
      have hkl : k < g.L.length := by omega
      have hmem : p ∈ g.L := by rw [← c2]; simp [List.getD, hkl]
      have hv := h.gg.v p hmem
      rw [a4, hx.g] at b2
      rw [a5, hx.g] at b3
      have hi : i < N := by omega
      have hj : j < N := by omega
      refine ⟨(hw.all i).2 ⟨hi, ?_⟩, (hw.all j).2 ⟨hj, ?_⟩, k, hkl, c1, by rw [c2]; exact a4, by rw [c2]; exact a5⟩
      · cases hc : hs.getD i false
        · exact absurd ⟨hi, by omega, hc⟩ b2
        · rfl
      · cases hc : hs.getD j false
        · exact absurd ⟨hj, by omega, hc⟩ b3
        · rfl
end

open Classical in
theorem jc_iff {g : T_api_Graph} {l : List Nat} {q : Int} {hs : List Bool} : jc g (setOf l) q hs = l.all fun a => jc g (setOf [a]) q hs := by
  rw [Bool.eq_iff_iff, List.all_eq_true]
  constructor
  · intro hx a ha
    rw [← jc_one]
    unfold jc at hx
    have := of_decide_eq_true hx
    exact decide_eq_true ⟨this.1 a (setOf_bit.2 ha), this.2 a (setOf_bit.2 ha)⟩
  · intro hx
    have hx' : ∀ a ∈ l, (wn g hs).all.testBit a = true ∧ ansP (wn g hs) q a := fun a ha => by
      have := hx a ha
      rw [← jc_one] at this
      exact of_decide_eq_true this
    unfold jc
    exact decide_eq_true ⟨fun i hi => (hx' i (setOf_bit.1 hi)).1, fun i hi => (hx' i (setOf_bit.1 hi)).2⟩

/-- a sum over the worlds -/
theorem wsum_loop {f : Int × Int → Option (Sum Int (Int × Int))} {P : List (List Bool × Nat)} {c : List Bool → Bool} {B : Nat} (hl : P.length ≤ 100000) (hB : psum P (fun _ => true) ≤ B) (hB2 : B ≤ 100000000000)
    (hf : ∀ (k s : Nat) (hk : k < P.length), s ≤ B → s + P[k].2 ≤ 4 * B → f ((s : Int), (k : Int)) = some (.inr (((s + (if c P[k].1 then P[k].2 else 0) : Nat) : Int), ((k + 1 : Nat) : Int)))) (he : ∀ s : Nat, f ((s : Int), (P.length : Int)) = some (.inl (s : Int))) :
    loopC f (0, 0) = some ((psum P c : Nat) : Int) := by
  refine T.eq (T.loopK P.length (fun k s => k ≤ P.length ∧ s = (((psum (P.take k) c : Nat) : Int), (k : Int))) ⟨by omega, rfl⟩ ?_)
  rintro k _ ⟨hk, rfl⟩
  by_cases hk1 : k < P.length
  · have h1 : psum (P.take k) c ≤ psum P fun _ => true := psum_take
    have h2 : P[k].2 ≤ psum P fun _ => true := by
      have h3 := psum_snoc (c := fun _ => true) hk1
      have h4 : psum (P.take (k + 1)) (fun _ => true) ≤ psum P fun _ => true := psum_take
      simp only [if_true] at h3
      omega
    rw [hf k _ hk1 (by omega) (by omega)]
    exact .ret ⟨hk1, by omega, by rw [psum_snoc hk1]⟩
  · have e : k = P.length := by omega
    subst e
    rw [he]
    refine .ret ?_
    rw [List.take_length]

section
variable {N : Nat} {g : T_api_Graph} {o : T_api_Odds} (h : OOk N g o) (hL : g.L.length ≤ 5000)
include h hL

theorem jl2 {hs : List Bool} {w : Nat} {x : Wd} (hx : RW N g.L hs w x) (hl : hs.length = N + g.L.length) {l : List Int} (hll : l.length ≤ 100000) (hlN : ∀ y ∈ l, 0 ≤ y ∧ y < N) {q : Int} (h1 : 1 ≤ q) (h4 : q ≤ 4) :
    loopC (ref23_Joint_l2 l q x) (true, 0) = some (jc g (setOf (nl l)) q hs) := by
  rw [jc_iff]
  refine T.eq (T.loopK l.length (fun k s => k ≤ l.length ∧ s.2 = (k : Int) ∧ s.1 = (nl (l.take k)).all fun a => jc g (setOf [a]) q hs) ⟨by omega, rfl, rfl⟩ ?_)
  rintro k ⟨ok, _⟩ ⟨hk, rfl, hok⟩
  dsimp only [ref23_Joint_l2] at *
  refine T.cond (fun g1 => ?_) fun g1 => ?_
  · have g1' := of_decide_eq_true g1
    have hk1 : k < l.length := by omega
    have htk : l.take (k + 1) = l.take k ++ [l[k]] := by rw [List.take_add_one, List.getElem?_eq_getElem hk1]; rfl
    refine T.cond (fun g2 => ?_) fun g2 => .ret ?_
    · obtain ⟨a1, a2⟩ := hlN _ (List.getElem_mem hk1)
      obtain ⟨a, ha⟩ := Int.eq_ofNat_of_zero_le a1
      rw [idxM_nat hk1, some_bind, ha, acc_world h hL hx hl (by omega) h1 h4, some_bind, iadd1 (by omega)]
      refine .letM (.ret ⟨hk1, by omega, rfl, ?_⟩)
      show _ = ((l.take (k + 1)).map Int.toNat).all _
      have hok' : ((l.take k).map Int.toNat).all (fun a => jc g (setOf [a]) q hs) = true := hok.symm.trans g2
      rw [htk, List.map_append, List.all_append, hok', ha]; simp
    · rw [g2] at hok; replace hok := hok.symm
      rw [g2]
      show false = (nl l).all _
      symm
      rw [List.all_eq_false] at hok ⊢
      obtain ⟨a, ha, hb⟩ := hok
      obtain ⟨y, hy, rfl⟩ := List.mem_map.1 ha
      exact ⟨_, List.mem_map.2 ⟨y, List.mem_of_mem_take hy, rfl⟩, hb⟩
  · have g1' := of_decide_eq_false g1
    have e : k = l.length := by omega
    rw [e, List.take_length] at hok
    exact .ret hok

theorem rJoint_plain {l : List Int} {q : Int} (ha : Asc N l) (h1 : 1 ≤ q) (h4 : q ≤ 4) (hpos : ref23_possible_m g o l q = some 0) : ref23_Joint_m g o l q = some (rd (J (rfs o) (jc g (setOf (nl l)) q)) (dn (rfs o)), 0) := by
  have hdn := rfs_dn h
  have hj : J (rfs o) (jc g (setOf (nl l)) q) ≤ dn (rfs o) := J_le
  have hal := ha.len
  have hN := h.gg.hN
  unfold ref23_Joint_m
  rw [hpos, some_bind, show ((0 : Int) != 0) = false from rfl, cond_false]
  refine T.eq (T.bind (rworlds_plain h) ?_)
  rintro ⟨ws, d⟩ ⟨rfl, hws, hpl, hpn⟩
  simp only at *
  have hwl := hws.len
  have hsum : psum (pfold (rfs o)) (fun _ => true) = dn (rfs o) := psum_fold (rfs_ok h)
  have hloop : loopC (ref23_Joint_l1 l q (ws, ((dn (rfs o) : Nat) : Int))) (0, 0) = some ((psum (pfold (rfs o)) (jc g (setOf (nl l)) q) : Nat) : Int) := by
    refine wsum_loop (B := dn (rfs o)) (by omega) (by omega) hdn (fun k s hk hs hs2 => ?_) fun s => ?_
    · unfold ref23_Joint_l1
      simp only
      rw [show decide ((k : Int) < (ws.length : Int)) = true from decide_eq_true (by omega), cond_true, idxM_nat (by omega), some_bind, jl2 h hL (hws.get hk (by omega)) (hpn _ (List.getElem_mem hk)) (by omega) ha.2 h1 h4, some_bind, iadd1 (n := k) (by omega), (hws.get hk (by omega)).num]
      cases jc g (setOf (nl l)) q (pfold (rfs o))[k].1 with
      | true => rw [cond_true, iadd_n (by omega), letM_eq]; rfl
      | false => rfl
    · unfold ref23_Joint_l1
      simp only
      rw [show decide (((pfold (rfs o)).length : Int) < (ws.length : Int)) = false from decide_eq_false (by omega)]; rfl
  rw [hloop, some_bind, psum_fold (rfs_ok h), Reduced_plain (rfs_pos h) (by omega) (by omega), some_bind]
  exact .ret rfl

omit h hL in
open Classical in
theorem jc_four {hs : List Bool} (hw : WOk N g.L hs (wn g hs)) (a : Nat) : jc g (setOf [a]) 4 hs = (grd (wn g hs)).testBit a := by
  have hG := (In_plain2 hw.ok).2
  rw [← jc_one]
  rw [Bool.eq_iff_iff, decide_eq_true_iff]
  unfold ansP
  rw [if_pos rfl]
  exact ⟨fun x => x.2, fun x => ⟨hG.sub a x, x⟩⟩

theorem el2 {hs : List Bool} {w : Nat} {x : Wd} (hx : RW N g.L hs w x) (hl : hs.length = N + g.L.length) {l : List Int} (ha : Asc N l) : loopC (ref23_Extension_l2 g l x) (true, 0) = some (ec g (setOf (nl l)) hs) := by
  have hN := h.gg.hN
  have hal := ha.len
  have hw := (wn_spec h.gg hl).2
  have hG := (In_plain2 hw.ok).2
  have hacc := jc_four hw
  obtain ⟨b, hb1, hb2⟩ : T (loopC (ref23_Extension_l2 g l x) (true, 0)) fun b : Bool => (b = true ↔ ∀ a, a < N → ((grd (wn g hs)).testBit a = true ↔ (a : Int) ∈ l)) := by
    refine T.loopK N (fun k s => k ≤ N ∧ s.2 = (k : Int) ∧ (s.1 = true ↔ ∀ a, a < k → ((grd (wn g hs)).testBit a = true ↔ (a : Int) ∈ l))) ⟨by omega, rfl, by simp⟩ ?_
    rintro k ⟨ok, _⟩ ⟨hk, rfl, hok⟩
    dsimp only [ref23_Extension_l2] at *
    rw [h.gg.n]
    refine T.cond (fun g1 => ?_) fun g1 => ?_
    · have hk1 : k < N := by have := of_decide_eq_true g1; omega
      have step : (∀ a, a < k + 1 → ((grd (wn g hs)).testBit a = true ↔ (a : Int) ∈ l)) ↔ (∀ a, a < k → ((grd (wn g hs)).testBit a = true ↔ (a : Int) ∈ l)) ∧ ((grd (wn g hs)).testBit k = true ↔ (k : Int) ∈ l) := by
        constructor
        · intro hh; exact ⟨fun a ha => hh a (by omega), hh k (by omega)⟩
        · rintro ⟨h1, h2⟩ a ha
          by_cases e : a = k
          · subst e; exact h2
          · exact h1 a (by omega)
      rw [iadd1 (by omega)]
      refine T.cond (fun g2 => ?_) fun g2 => .letM (.ret ⟨hk1, by omega, rfl, ?_⟩)
      · rw [acc_world h hL hx hl hk1 (by omega) (by omega), some_bind, nIn_plain (by omega), some_bind, hacc]
        refine .letM (.ret ⟨hk1, by omega, rfl, ?_⟩)
        simp only
        rw [step, beq_iff_eq, Bool.eq_iff_iff, decide_eq_true_eq]
        exact ⟨fun hh => ⟨hok.1 g2, hh⟩, fun hh => hh.2⟩
      · simp only
        rw [step]
        constructor
        · intro hh; cases hh
        · rintro ⟨hh, _⟩; rw [hok.2 hh] at g2; cases g2
    · have g1' := of_decide_eq_false g1
      have e : k = N := by omega
      exact .ret (show (ok = true ↔ _) from e ▸ hok)
  rw [hb1]
  congr 1
  rw [Bool.eq_iff_iff, hb2]
  unfold ec
  rw [decide_eq_true_eq]
  constructor
  · intro hh
    refine eq_of_bits fun i => ?_
    rw [Bool.eq_iff_iff, setOf_bit, nl_mem h ha]
    by_cases hi : i < N
    · exact hh i hi
    · constructor
      · intro hg; exact absurd (hw.ok.al i (hG.sub i hg)) hi
      · intro hm; have := ha.2 _ hm; omega
  · intro hh a _
    rw [hh, setOf_bit, nl_mem h ha]

theorem rExtension_plain {l : List Int} (ha : Asc N l) (hpos : ref23_possible_m g o l 4 = some 0) : ref23_Extension_m g o l = some (rd (J (rfs o) (ec g (setOf (nl l)))) (dn (rfs o)), 0) := by
  have hdn := rfs_dn h
  have hj : J (rfs o) (ec g (setOf (nl l))) ≤ dn (rfs o) := J_le
  unfold ref23_Extension_m
  rw [hpos, some_bind, show ((0 : Int) != 0) = false from rfl, cond_false]
  refine T.eq (T.bind (rworlds_plain h) ?_)
  rintro ⟨ws, d⟩ ⟨rfl, hws, hpl, hpn⟩
  simp only at *
  have hwl := hws.len
  have hsum : psum (pfold (rfs o)) (fun _ => true) = dn (rfs o) := psum_fold (rfs_ok h)
  have hloop : loopC (ref23_Extension_l1 g l (ws, ((dn (rfs o) : Nat) : Int))) (0, 0) = some ((psum (pfold (rfs o)) (ec g (setOf (nl l))) : Nat) : Int) := by
    refine wsum_loop (B := dn (rfs o)) (by omega) (by omega) hdn (fun k s hk hs hs2 => ?_) fun s => ?_
    · unfold ref23_Extension_l1
      simp only
      rw [show decide ((k : Int) < (ws.length : Int)) = true from decide_eq_true (by omega), cond_true, idxM_nat (by omega), some_bind, el2 h hL (hws.get hk (by omega)) (hpn _ (List.getElem_mem hk)) ha, some_bind, iadd1 (n := k) (by omega), (hws.get hk (by omega)).num]
      cases ec g (setOf (nl l)) (pfold (rfs o))[k].1 with
      | true => rw [cond_true, iadd_n (by omega), letM_eq]; rfl
      | false => rfl
    · unfold ref23_Extension_l1
      simp only
      rw [show decide (((pfold (rfs o)).length : Int) < (ws.length : Int)) = false from decide_eq_false (by omega)]; rfl
  rw [hloop, some_bind, psum_fold (rfs_ok h), Reduced_plain (rfs_pos h) (by omega) (by omega), some_bind]
  exact .ret rfl

theorem union_plain {a b : List Int} (ha : Asc N a) (hb : Asc N b) : T (ref23_union_m g a b) fun c => Asc N c ∧ ∀ x : Int, x ∈ c ↔ x ∈ a ∨ x ∈ b := by
  have hN := h.gg.hN
  have hla := ha.len; have hlb := hb.len
  unfold ref23_union_m
  refine T.bind (P := fun c : List Int => Asc N c ∧ ∀ x : Int, x ∈ c ↔ x ∈ a ∨ x ∈ b) ?_ fun c hc => .ret hc
  refine T.loopK N (fun k s => k ≤ N ∧ s.1 = (k : Int) ∧ Asc k s.2 ∧ ∀ x : Int, x ∈ s.2 ↔ (x ∈ a ∨ x ∈ b) ∧ x < k) ⟨by omega, rfl, by simp [Asc], fun x => ?_⟩ ?_
  · simp only [List.not_mem_nil, false_iff]
    rintro ⟨h1 | h1, h2⟩
    · have := ha.2 x h1; omega
    · have := hb.2 x h1; omega
  · rintro k ⟨_, c⟩ ⟨hk, rfl, hc, hm⟩
    dsimp only [ref23_union_l1] at *
    have hlc := hc.len
    rw [h.gg.n]
    refine T.cond (fun g1 => ?_) fun g1 => ?_
    · simp at g1
      refine T.join ?_
      have key : ∀ bb : Bool, (bb = true ↔ (k : Int) ∈ a ∨ (k : Int) ∈ b) → T ((fun j40 : Bool =>
          bif j40 then
            Option.bind (appM 8 c [(k : Int)]) fun both44 =>
            letM (iadd .i64 (k : Int) 1) fun i46 =>
            some (Sum.inr (i46, both44))
          else
            letM (iadd .i64 (k : Int) 1) fun i47 =>
            some (Sum.inr (i47, c))) bb : Option (Sum (List Int) (Int × List Int))) (onO (fun c : List Int => Asc N c ∧ ∀ x : Int, x ∈ c ↔ x ∈ a ∨ x ∈ b) fun s => k < N ∧ k + 1 ≤ N ∧ s.1 = ((k + 1 : Nat) : Int) ∧ Asc ((k + 1 : Nat) : Int) s.2 ∧ ∀ x : Int, x ∈ s.2 ↔ (x ∈ a ∨ x ∈ b) ∧ x < ((k + 1 : Nat) : Int)) := by
        intro bb hbb
        dsimp only
        rw [iadd1 (by omega)]
        refine T.cond (fun g2 => ?_) fun g2 => ?_
        · rw [appM_eq (by simp; omega), some_bind]
          have hsn := hc.snoc (n := 0) (x := 0) (by omega)
          rw [show (k : Int) + 1 = ((k + 1 : Nat) : Int) by omega] at hsn
          refine .letM (.ret ⟨g1, by omega, rfl, hsn, fun x => ?_⟩)
          rw [List.mem_append, hm, List.mem_singleton]
          constructor
          · rintro (⟨h1, h2⟩ | rfl)
            · exact ⟨h1, by omega⟩
            · exact ⟨hbb.1 g2, by omega⟩
          · rintro ⟨h1, h2⟩
            by_cases e : x = (k : Int)
            · exact .inr e
            · exact .inl ⟨h1, by omega⟩
        · refine .letM (.ret ⟨g1, by omega, rfl, hc.up (by omega), fun x => ?_⟩)
          rw [hm]
          constructor
          · rintro ⟨h1, h2⟩; exact ⟨h1, by omega⟩
          · rintro ⟨h1, h2⟩
            by_cases e : x = (k : Int)
            · subst e; rw [hbb.2 h1] at g2; cases g2
            · exact ⟨h1, by omega⟩
      rw [nIn_plain (by omega), some_bind]
      refine T.cond (fun g2 => key true ?_) fun g2 => ?_
      · simp at g2; simp [g2]
      · simp at g2
        rw [nIn_plain (by omega), some_bind]
        exact key _ (by simp [g2])
    · simp at g1
      have e : k = N := by omega
      refine .ret ⟨e ▸ hc, fun x => ?_⟩
      rw [hm]
      constructor
      · exact fun h => h.1
      · rintro (h1 | h1)
        · have := ha.2 x h1; exact ⟨.inl h1, by omega⟩
        · have := hb.2 x h1; exact ⟨.inr h1, by omega⟩

theorem gl2 {hs : List Bool} {w : Nat} {x : Wd} (hx : RW N g.L hs w x) (hl : hs.length = N + g.L.length) {a b u : List Int} (ha : Asc N a) (hb : Asc N b) (hu : Asc N u) (hm : ∀ y : Int, y ∈ u ↔ y ∈ a ∨ y ∈ b) {q : Int} (h1 : 1 ≤ q) (h4 : q ≤ 4) :
    loopC (ref23_Given_l2 b q x u) (true, true, 0) = some (jc g (setOf (nl a) ||| setOf (nl b)) q hs, jc g (setOf (nl b)) q hs) := by
  have hN := h.gg.hN
  have hlu := hu.len; have hlb := hb.len
  have hS : setOf (nl u) = setOf (nl a) ||| setOf (nl b) := eq_of_bits fun i => by
    rw [Bool.eq_iff_iff, Nat.testBit_or, Bool.or_eq_true, setOf_bit, setOf_bit, setOf_bit, nl_mem h hu, nl_mem h ha, nl_mem h hb, hm]
  rw [← hS, jc_iff, jc_iff]
  have hb' : (nl b).all (fun a => jc g (setOf [a]) q hs) = u.all fun y => jc g (setOf [y.toNat]) q hs || !decide (y ∈ b) := by
    rw [Bool.eq_iff_iff, List.all_eq_true, List.all_eq_true]
    constructor
    · intro hh y hy
      by_cases e : y ∈ b
      · rw [hh _ (List.mem_map.2 ⟨y, e, rfl⟩)]; rfl
      · simp [e]
    · intro hh c hc
      obtain ⟨y, hy, rfl⟩ := List.mem_map.1 hc
      have := hh y ((hm y).2 (.inr hy))
      simpa [hy] using this
  have hu' : (nl u).all (fun a => jc g (setOf [a]) q hs) = u.all fun y => jc g (setOf [y.toNat]) q hs := by rw [List.all_map]; rfl
  rw [hb', hu']
  refine T.eq (T.loopK u.length (fun k s => k ≤ u.length ∧ s = ((u.take k).all (fun y => jc g (setOf [y.toNat]) q hs), (u.take k).all (fun y => jc g (setOf [y.toNat]) q hs || !decide (y ∈ b)), (k : Int))) ⟨by omega, rfl⟩ ?_)
  rintro k _ ⟨hk, rfl⟩
  dsimp only [ref23_Given_l2] at *
  refine T.cond (fun g1 => ?_) fun g1 => ?_
  · have hk1 : k < u.length := by have := of_decide_eq_true g1; omega
    have htk : u.take (k + 1) = u.take k ++ [u[k]] := by rw [List.take_add_one, List.getElem?_eq_getElem hk1]; rfl
    obtain ⟨a1, a2⟩ := hu.2 _ (List.getElem_mem hk1)
    obtain ⟨c, hc⟩ := Int.eq_ofNat_of_zero_le a1
    rw [idxM_nat hk1, some_bind, hc, acc_world h hL hx hl (by omega) h1 h4, some_bind, iadd1 (by omega), nIn_plain (by omega), some_bind]
    refine T.cond (fun g2 => .ret ⟨hk1, by omega, ?_⟩) fun g2 => T.cond (fun g3 => .ret ⟨hk1, by omega, ?_⟩) fun g3 => .ret ⟨hk1, by omega, ?_⟩
    · rw [htk, List.all_append, List.all_append, hc]; simp [g2]
    · have g3' := of_decide_eq_true g3
      rw [htk, List.all_append, List.all_append, hc]; simp [g2, g3']
    · have g3' := of_decide_eq_false g3
      rw [htk, List.all_append, List.all_append, hc]; simp [g2, g3']
  · have e : k = u.length := by have := of_decide_eq_false g1; omega
    subst e
    refine .ret ?_
    rw [List.take_length]

theorem rGiven_plain {a b : List Int} {q : Int} (ha : Asc N a) (hb : Asc N b) (h1 : 1 ≤ q) (h4 : q ≤ 4) (hpa : ref23_possible_m g o a q = some 0) (hpb : ref23_possible_m g o b q = some 0) :
    ref23_Given_m g o a b q = some (if J (rfs o) (jc g (setOf (nl b)) q) = 0 then (⟨0, 0⟩, 9) else (rd (J (rfs o) (jc g (setOf (nl a) ||| setOf (nl b)) q)) (J (rfs o) (jc g (setOf (nl b)) q)), 0)) := by
  have hdn := rfs_dn h
  have hj : J (rfs o) (jc g (setOf (nl b)) q) ≤ dn (rfs o) := J_le
  have hj2 : J (rfs o) (jc g (setOf (nl a) ||| setOf (nl b)) q) ≤ dn (rfs o) := J_le
  unfold ref23_Given_m
  rw [rJoint_plain h hL ha h1 h4 hpa, some_bind]
  simp only
  rw [show ((0 : Int) != 0) = false from rfl, cond_false, rJoint_plain h hL hb h1 h4 hpb, some_bind]
  simp only
  rw [show ((0 : Int) != 0) = false from rfl, cond_false]
  obtain ⟨n1, d1, e1, _, _, _, _, z1⟩ := rd_parts (a := J (rfs o) (jc g (setOf (nl b)) q)) (rfs_pos h)
  rw [e1]
  simp only
  by_cases h0 : J (rfs o) (jc g (setOf (nl b)) q) = 0
  · rw [if_pos h0, z1.2 h0]; rfl
  · rw [if_neg h0, show ((n1 : Int) == 0) = false from by
      have : n1 ≠ 0 := fun e => h0 (z1.1 e)
      simpa using this, cond_false]
    refine T.eq (T.bind (rworlds_plain h) ?_)
    rintro ⟨ws, d⟩ ⟨rfl, hws, hpl, hpn⟩
    simp only at *
    have hwl := hws.len
    have hsum : psum (pfold (rfs o)) (fun _ => true) = dn (rfs o) := psum_fold (rfs_ok h)
    refine T.bind (P := fun r : Int × Int => r = (((J (rfs o) (jc g (setOf (nl a) ||| setOf (nl b)) q) : Nat) : Int), ((J (rfs o) (jc g (setOf (nl b)) q) : Nat) : Int))) ?_ ?_
    · rw [← psum_fold (rfs_ok h), ← psum_fold (rfs_ok h)]
      refine T.loopK (pfold (rfs o)).length (fun k s => k ≤ (pfold (rfs o)).length ∧ s = (((psum ((pfold (rfs o)).take k) (jc g (setOf (nl a) ||| setOf (nl b)) q) : Nat) : Int), ((psum ((pfold (rfs o)).take k) (jc g (setOf (nl b)) q) : Nat) : Int), (k : Int))) ⟨by omega, rfl⟩ ?_
      rintro k _ ⟨hk, rfl⟩
      dsimp only [ref23_Given_l1] at *
      refine T.cond (fun g1 => ?_) fun g1 => ?_
      · have hk1 : k < (pfold (rfs o)).length := by have := of_decide_eq_true g1; omega
        have hx := hws.get hk1 (show k < ws.length by omega)
        have s1 : psum ((pfold (rfs o)).take k) (jc g (setOf (nl a) ||| setOf (nl b)) q) ≤ psum (pfold (rfs o)) fun _ => true := psum_take
        have s2 : psum ((pfold (rfs o)).take k) (jc g (setOf (nl b)) q) ≤ psum (pfold (rfs o)) fun _ => true := psum_take
        have s3 : (pfold (rfs o))[k].2 ≤ psum (pfold (rfs o)) fun _ => true := by
          have h3 := psum_snoc (c := fun _ => true) hk1
          have h4 : psum ((pfold (rfs o)).take (k + 1)) (fun _ => true) ≤ psum (pfold (rfs o)) fun _ => true := psum_take
          simp only [if_true] at h3
          omega
        rw [idxM_nat (by omega), some_bind, hx.num, iadd1 (n := k) (by omega), iadd_n (by omega), iadd_n (by omega)]
        refine T.bind (union_plain h hL ha hb) fun u ⟨hu, hum⟩ => ?_
        rw [gl2 h hL hx (hpn _ (List.getElem_mem hk1)) ha hb hu hum h1 h4, some_bind]
        simp only
        refine T.join ?_
        have e2 := psum_snoc (c := jc g (setOf (nl a) ||| setOf (nl b)) q) hk1
        have e3 := psum_snoc (c := jc g (setOf (nl b)) q) hk1
        refine T.cond (fun g2 => .letM ?_) fun g2 => ?_
        · rw [g2, if_pos rfl] at e2
          refine T.cond (fun g3 => .letM (.ret ⟨hk1, by omega, ?_⟩)) fun g3 => .ret ⟨hk1, by omega, ?_⟩
          · rw [g3, if_pos rfl] at e3; rw [e2, e3]; first | done | simp only [Nat.add_zero]
          · rw [g3, if_neg (by simp), Nat.add_zero] at e3; rw [e2, e3]; first | done | simp only [Nat.add_zero]
        · rw [g2, if_neg (by simp), Nat.add_zero] at e2
          refine T.cond (fun g3 => .letM (.ret ⟨hk1, by omega, ?_⟩)) fun g3 => .ret ⟨hk1, by omega, ?_⟩
          · rw [g3, if_pos rfl] at e3; rw [e2, e3]; first | done | simp only [Nat.add_zero]
          · rw [g3, if_neg (by simp), Nat.add_zero] at e3; rw [e2, e3]; first | done | simp only [Nat.add_zero]
      · have e : k = (pfold (rfs o)).length := by have := of_decide_eq_false g1; omega
        subst e
        refine .ret ?_
        rw [List.take_length]
    · rintro _ rfl
      simp only
      rw [Reduced_plain (by omega) (by omega) (by omega), some_bind]
      exact .ret rfl
end
end Go.Dc
