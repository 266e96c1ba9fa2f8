/- Part P28C.Started of a proof: lemmas. -/
import Derived.Test.YtodnndlcnignbaaP28CRRun
set_option linter.unusedVariables false
set_option linter.unusedSimpArgs false
/-! A dialogue that has started. -/
namespace Go.Dc

theorem started_plain {s : T_deliberationkeep_Src} (hs : SrcOk s) : T (law28_started_m s 5) fun r => Dlg r.1 ∧ GVal r.1.Graph ∧ 1 ≤ r.1.Graph.N ∧ r.1.Graph.L.length ≤ 1640 ∧ SrcOk r.2 := by
  unfold law28_started_m
  refine T.bind (Graph_plain hs (by omega) (by omega)) fun t ⟨hg, hN, hN5, hL, ht⟩ => ?_
  refine T.bind (N_plain ht (by omega)) fun root ⟨hr, hb⟩ => ?_
  have hb := hb (by omega)
  refine T.bind (Pick_plain hr (by simp) (by simp)) fun a ⟨ha, ham⟩ => T.bind (Pick_plain ha (by simp) (by simp)) fun b ⟨hbs, hbm⟩ => ?_
  have ha1 : 1 ≤ a.1 ∧ a.1 ≤ 200 := by simp at ham; omega
  have hb1 : 0 ≤ b.1 ∧ b.1 ≤ 200 := by simp at hbm; omega
  rw [rNew_plain hg (by omega) hb.1 hb.2 ⟨ha1.1, ha1.2, hb1.1, hb1.2⟩, some_bind]
  refine T.bind (N_plain hbs (by omega)) fun i ⟨hi, hib⟩ => ?_
  have hib := hib (by omega)
  refine T.bind (P := fun r => Dlg r.2 ∧ r.2.Graph = t.1 ∧ SrcOk r.1) ?_ fun r ⟨h1, h2, h3⟩ => .ret ⟨h1, by dsimp only; rw [h2]; exact hg, by dsimp only; rw [h2]; exact hN, by dsimp only; rw [h2]; exact hL, h3⟩
  refine T.loopK 6 (fun k s => s.1 = i.1 - k ∧ (k : Int) ≤ i.1 ∧ SrcOk s.2.1 ∧ Dlg s.2.2 ∧ s.2.2.Graph = t.1) ⟨by simp, by omega, hi, begin_dlg hg (by omega) hb.1 hb.2 ⟨ha1.1, ha1.2, hb1.1, hb1.2⟩, rfl⟩ ?_
  rintro k ⟨_, s, d⟩ ⟨rfl, hk, hs, hd, hgr⟩
  dsimp only [law28_started_l1] at *
  refine T.cond (fun g1 => ?_) fun g1 => .ret ⟨hd, hgr, hs⟩
  simp at g1
  obtain ⟨tb, e, htb⟩ := T_of hd
  have hgd : GVal d.Graph := by rw [hgr]; exact hg
  refine T.bind (rLegal_plain hd htb hgd) fun l ⟨hl1, hl2, hl3⟩ => ?_
  refine T.cond (fun _ => .ret ⟨hd, hgr, hs⟩) fun h0 => ?_
  have h0' : l ≠ [] := by simpa using h0
  have hpos := List.length_pos_iff.2 h0'
  have hr : (outF d (sf tb.status) (bf tb.leading)).Reason = 0 := Classical.byContradiction fun h => h0' (hl2 h)
  refine T.bind (N_plain hs (by omega)) fun q ⟨hq, hqb⟩ => ?_
  have hqb := hqb (by omega)
  rw [idxM_eq (by omega) (by omega), some_bind]
  have hleg := (hl1 hr _).1 (List.getElem_mem (show q.1.toNat < l.length by omega))
  rw [rApply_plain hd htb hgd hr hleg, some_bind, isub64 (by omega) (by omega)]
  refine .letM (.ret ⟨by omega, by dsimp only; omega, by omega, hq, ?_, hgr⟩)
  exact hd.push (out_run hr).1 ((leg_acc hleg).ok hd hgd.ok htb)
end Go.Dc
