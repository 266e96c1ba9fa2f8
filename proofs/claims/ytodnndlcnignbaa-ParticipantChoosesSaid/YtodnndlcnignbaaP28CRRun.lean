/- Part P28C.RRun of a proof: lemmas. -/
import Derived.Test.YtodnndlcnignbaaP28CRChose
set_option linter.unusedVariables false
set_option linter.unusedSimpArgs false
/-! The reference's play. -/
namespace Go.Dc

theorem rRun_plain {d0 : Dg} (h0 : Dlg d0) (hg : GVal d0.Graph) {p1 p2 : Pl} (l1 : Len p1) (l2 : Len p2) : T (ref28_Run_m d0 p1 p2) fun r =>
    if errV d0.Graph.N p1 ≠ 0 then r = (⟨⟨0, []⟩, 0, ⟨0, 0⟩, []⟩, errV d0.Graph.N p1) else if errV d0.Graph.N p2 ≠ 0 then r = (⟨⟨0, []⟩, 0, ⟨0, 0⟩, []⟩, errV d0.Graph.N p2)
    else r.2 = 0 ∧ Play p1 p2 d0 r.1 ∧ Dlg r.1 ∧ r.1.Graph = d0.Graph ∧ ∃ tb, protocol_of_m r.1 = some tb ∧ TabOk r.1 tb ∧ (outF r.1 (sf tb.status) (bf tb.leading)).Reason ≠ 0 := by
  unfold ref28_Run_m
  rw [rvalid_plain l1, some_bind]
  refine T.cond (fun h => ?_) fun h => ?_
  · have v1 : errV d0.Graph.N p1 ≠ 0 := by simpa using h
    exact .ret (show (if errV d0.Graph.N p1 ≠ 0 then _ else _) from by rw [if_pos v1])
  have v1 : errV d0.Graph.N p1 = 0 := by simpa using h
  rw [rvalid_plain l2, some_bind]
  refine T.cond (fun h => ?_) fun h => ?_
  · have v2 : errV d0.Graph.N p2 ≠ 0 := by simpa using h
    exact .ret (show (if errV d0.Graph.N p1 ≠ 0 then _ else _) from by rw [if_neg (fun hh => hh v1), if_pos v2])
  have v2 : errV d0.Graph.N p2 = 0 := by simpa using h
  refine T.mono (P := fun r => r.2 = 0 ∧ Play p1 p2 d0 r.1 ∧ Dlg r.1 ∧ r.1.Graph = d0.Graph ∧ ∃ tb, protocol_of_m r.1 = some tb ∧ TabOk r.1 tb ∧ (outF r.1 (sf tb.status) (bf tb.leading)).Reason ≠ 0) ?_
    fun r h => by rw [if_neg (fun hh => hh v1), if_neg (fun hh => hh v2)]; exact h
  refine T.bind (P := fun r => Play p1 p2 d0 r ∧ Dlg r ∧ r.Graph = d0.Graph ∧ ∃ tb, protocol_of_m r = some tb ∧ TabOk r tb ∧ (outF r (sf tb.status) (bf tb.leading)).Reason ≠ 0) ?_ fun r h => .ret ⟨rfl, h⟩
  refine T.loopM (fun d => Play p1 p2 d0 d ∧ Dlg d ∧ d.Graph = d0.Graph) (fun d => 201 - d.Moves.length) ⟨.start, h0, rfl⟩ ?_
  rintro d ⟨hp, hd, hgr⟩
  dsimp only [ref28_Run_l1]
  obtain ⟨tb, e, ht⟩ := T_of hd
  have hl2 := lead_12 (sf tb.status)
  have hgd : GVal d.Graph := by rw [hgr]; exact hg
  rw [rTurn_plain hd ht hgd, some_bind]
  by_cases hr : (outF d (sf tb.status) (bf tb.leading)).Reason = 0
  · rw [if_pos hr]
    refine T.cond (fun _ => ?_) fun h => by simp at h; omega
    refine T.joinP (fun p => p = plF p1 p2 (3 - lead (sf tb.status))) (fun p hpp => ?_) fun k hk => ?_
    · subst hpp
      have hlen : Len (plF p1 p2 (3 - lead (sf tb.status))) := by unfold plF; split; exact l1; exact l2
      have hval : errV d.Graph.N (plF p1 p2 (3 - lead (sf tb.status))) = 0 := by rw [hgr]; unfold plF; split; exact v1; exact v2
      obtain ⟨L, hL, hRL, hLl⟩ := legal_same hd ht hgd e
      refine T.bind (rChoose_plain hd hgd ht hlen hRL hLl) fun r hrr => ?_
      rw [if_neg (fun hh => hh hr), if_neg (fun hh => hh hval)] at hrr
      subst hrr
      have hacc := chosen_acc hd e ht hr hL (p := plF p1 p2 (3 - lead (sf tb.status)))
      refine T.bind (rApply2 hd ht hgd) fun a ha => ?_
      rcases ha with ⟨h2, _, x, hx, h3⟩ | ⟨_, h2 | h2⟩
      · have hxe : x = chosen d tb L (plF p1 p2 (3 - lead (sf tb.status))) := hx.eq.trans hacc.eq.symm
        have hnlt := (out_run hr).1
        rw [hxe] at h3
        refine .ret ⟨⟨?_, ?_, ?_⟩, ?_⟩
        · rw [h3]; exact .step hp hd e ht hr hL
        · rw [h3]; exact hd.push hnlt (hacc.ok hd hgd.ok ht)
        · rw [h3]; exact hgr
        · rw [h3]; simp [push]; omega
      · exact absurd hr h2
      · exact absurd hacc (h2 _)
    · rw [some_bind]
      rcases hl2 with h | h
      · rw [h]; exact hk _ (by rw [h]; rfl)
      · rw [h]; exact hk _ (by rw [h]; rfl)
  · rw [if_neg hr]
    exact T.cond (fun h => by simp at h) fun _ => .ret ⟨hp, hd, hgr, tb, e, ht, hr⟩

theorem play_ext {p1 p2 : Pl} {d0 a : Dg} (h : Play p1 p2 d0 a) : a.Graph = d0.Graph ∧ a.Root = d0.Root ∧ a.Limits = d0.Limits ∧ d0.Moves.length ≤ a.Moves.length ∧ cut a d0.Moves.length = d0 := by
  induction h with
  | start => exact ⟨rfl, rfl, rfl, Nat.le_refl _, by unfold cut; simp⟩
  | step h hd e ht hr hL ih =>
    obtain ⟨h1, h2, h3, h4, h5⟩ := ih
    refine ⟨h1, h2, h3, by simp [push]; omega, ?_⟩
    rw [← h5]
    unfold cut push
    simp [List.take_append_of_le_length h4, Nat.min_eq_left h4]

/-- a play is determined -/
theorem play_unique {p1 p2 : Pl} {d0 a b : Dg} (ha : Play p1 p2 d0 a) (hb : Play p1 p2 d0 b) {ta tb : T_protocol_table} (ea : protocol_of_m a = some ta) (eb : protocol_of_m b = some tb)
    (ra : (outF a (sf ta.status) (bf ta.leading)).Reason ≠ 0) (rb : (outF b (sf tb.status) (bf tb.leading)).Reason ≠ 0) : a = b := by
  obtain ⟨a1, a2, a3, a4, a5⟩ := play_ext ha
  obtain ⟨b1, b2, b3, b4, b5⟩ := play_ext hb
  have same : ∀ k, d0.Moves.length + k ≤ a.Moves.length → d0.Moves.length + k ≤ b.Moves.length → cut a (d0.Moves.length + k) = cut b (d0.Moves.length + k) := by
    intro k
    induction k with
    | zero => intro _ _; rw [Nat.add_zero, a5, b5]
    | succ k ih =>
      intro h1 h2
      have ih := ih (by omega) (by omega)
      obtain ⟨t1, L1, _, e1, _, _, hL1, m1⟩ := play_at ha (d0.Moves.length + k) (by omega) (by omega)
      obtain ⟨t2, L2, _, e2, _, _, hL2, m2⟩ := play_at hb (d0.Moves.length + k) (by omega) (by omega)
      rw [ih] at e1 hL1 m1
      rw [e1] at e2; cases e2
      rw [hL1] at hL2; cases hL2
      have hm : a.Moves[d0.Moves.length + k]'(by omega) = b.Moves[d0.Moves.length + k]'(by omega) := by
        have := m1.trans m2.symm
        simpa [mv, List.getD, show d0.Moves.length + k < a.Moves.length by omega, show d0.Moves.length + k < b.Moves.length by omega] using this
      have ht : a.Moves.take (d0.Moves.length + k) = b.Moves.take (d0.Moves.length + k) := congrArg T_api_Dialogue.Moves ih
      unfold cut
      rw [a1, a2, a3, b1, b2, b3, ← Nat.add_assoc, List.take_succ_eq_append_getElem (by omega), List.take_succ_eq_append_getElem (by omega), ht, hm]
  have full : ∀ d : Dg, cut d d.Moves.length = d := fun d => by unfold cut; simp
  rcases Nat.lt_trichotomy a.Moves.length b.Moves.length with h | h | h
  · exfalso
    obtain ⟨t, L, _, e, _, r, _, _⟩ := play_at hb a.Moves.length a4 h
    have hs := same (a.Moves.length - d0.Moves.length) (by omega) (by omega)
    rw [show d0.Moves.length + (a.Moves.length - d0.Moves.length) = a.Moves.length by omega, full] at hs
    rw [← hs] at e r
    rw [ea] at e; cases e
    exact ra r
  · have hs := same (a.Moves.length - d0.Moves.length) (by omega) (by omega)
    rw [show d0.Moves.length + (a.Moves.length - d0.Moves.length) = a.Moves.length by omega, full] at hs
    rw [hs, h, full]
  · exfalso
    obtain ⟨t, L, _, e, _, r, _, _⟩ := play_at ha b.Moves.length b4 h
    have hs := same (b.Moves.length - d0.Moves.length) (by omega) (by omega)
    rw [show d0.Moves.length + (b.Moves.length - d0.Moves.length) = b.Moves.length by omega, full] at hs
    rw [hs] at e r
    rw [eb] at e; cases e
    exact rb r
end Go.Dc
