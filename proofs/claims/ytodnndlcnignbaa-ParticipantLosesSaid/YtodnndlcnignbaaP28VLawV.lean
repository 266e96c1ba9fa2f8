/- Part P28V.LawV of a proof that a law of the program returns true: general lemmas, no condition. -/
import Derived.Test.YtodnndlcnignbaaP28VPlayers
import Derived.Test.YtodnndlcnignbaaP28VAwake
set_option linter.unusedVariables false
set_option linter.unusedSimpArgs false
/-! Full players and the verdict. -/
namespace Go.Dc

theorem begin_lim {g : T_api_Graph} {root : Int} {lim : T_arr2_3} (h : 1 ≤ lim.i0 ∧ lim.i0 ≤ 200 ∧ 0 ≤ lim.i1 ∧ lim.i1 ≤ 200) : InLim (begin g root lim) := by
  unfold InLim begin cnt
  simp
  omega

/-- how such a play ends -/
theorem ends {g : T_api_Graph} (hg : GVal g) {root : Int} {lim : T_arr2_3} (hlim : 1 ≤ lim.i0 ∧ lim.i0 ≤ 200 ∧ 0 ≤ lim.i1 ∧ lim.i1 ≤ 200) (hsum : lim.i0 + lim.i1 < 200) {p1 p2 : Pl} (s1 : p1.Script = []) (s2 : p2.Script = []) {k : Int}
    (hk : FullP g.N (plF p1 p2 k)) {d : Dg} (h0 : AD g root lim (begin g root lim)) (hp : Play p1 p2 (begin g root lim) d) (hd : Dlg d) {tb : T_protocol_table} (ht : TabOk d tb) (hr : (outF d (sf tb.status) (bf tb.leading)).Reason ≠ 0) :
    (outF d (sf tb.status) (bf tb.leading)).Reason = 2 ∨ (∃ w, outF d (sf tb.status) (bf tb.leading) = ⟨w, 3⟩ ∧ w = 3 - (mv d.Moves (d.Moves.length - 1)).By ∧ (mv d.Moves (d.Moves.length - 1)).By ≠ k ∧ (mv d.Moves (d.Moves.length - 1)).Kind = 4) ∨
      outF d (sf tb.status) (bf tb.leading) = ⟨lead (sf tb.status), 1⟩ ∧ (lead (sf tb.status) = 1 ↔ Gr (att g) root) := by
  obtain ⟨hin, hl, _⟩ := play_lim hp (begin_lim hlim)
  have hl' : d.Limits = lim := hl
  have hlen : d.Moves.length < 200 := by
    have h1 := cnt_sum (M := d.Moves) fun i hi => hd.by' hi
    obtain ⟨h2, h3⟩ := hin
    rw [hl'] at h2 h3; omega
  rcases play_full hg s1 s2 hk h0 hp with had | ⟨h4, h5⟩
  · by_cases h4 : (mv d.Moves (d.Moves.length - 1)).Kind = 4
    · exfalso
      by_cases h0 : d.Moves.length - 1 = 0
      · rw [h0, hd.hd] at h4; exact absurd h4 (by decide : ¬ (1 : Int) = 4)
      · have := had.a.k (d.Moves.length - 1) (by omega) (by have := hd.n1; omega); omega
    · by_cases h6 : limOf d (sf tb.status) ≤ (cnt d.Moves (3 - lead (sf tb.status)) : Int)
      · left
        unfold outF
        rw [if_neg h4, if_neg (by omega), if_pos h6]
      · right; right
        by_cases hx : ∃ x, Leg d (sf tb.status) (bf tb.leading) x
        · exfalso
          apply hr
          unfold outF
          rw [if_neg h4, if_neg (by omega), if_neg h6, if_pos hx]
        · have hv := verdict hd had.a ht.st.2 ht.b hx (by rw [had.g]; exact hg)
          rw [had.g, had.r] at hv
          refine ⟨?_, hv⟩
          unfold outF
          rw [if_neg h4, if_neg (by omega), if_neg h6, if_neg hx]
  · refine .inr (.inl ⟨_, ?_, rfl, h5, h4⟩)
    unfold outF
    rw [if_pos h4]

theorem full_lab {g : T_api_Graph} {gl : List Int} (h1 : gl.length = g.N.toNat) {root : Int} (hb : 0 ≤ root ∧ root < g.N) : idxM gl root = some (sf gl root.toNat) := by
  rw [idxM_getD' 0 hb.1 (by omega)]; rfl

theorem law28_ParticipantVerdict_plain (l : List Int) (_ : l.length ≤ maxLen ∧ ∀ x ∈ l, (Lit.int .i64 x).wf = true) : law28_ParticipantVerdict_m l = some true := by
  refine T.eq ?_
  unfold law28_ParticipantVerdict_m
  refine T.bind New_plain fun s hs => T.bind (Graph_plain hs (by omega) (by omega)) fun t ⟨hg, hN, hN5, hL, ht⟩ => ?_
  refine T.bind (N_plain ht (by omega)) fun root ⟨hr, hb⟩ => ?_
  have hb := hb (by omega)
  rw [rNew_plain hg (by omega) hb.1 hb.2 (by simp), some_bind]
  refine T.bind (Range_plain hr (by omega) (by omega) (by omega)) fun a ⟨ha, ha1, ha2⟩ => ?_
  rw [Full_plain hg (by omega), some_bind]
  refine T.bind (Range_plain ha (by omega) (by omega) (by omega)) fun c ⟨hc, hc1, hc2⟩ => ?_
  rw [Full_plain hg (by omega), some_bind]
  have hn : ((t.1.N.toNat : Nat) : Int) = t.1.N := by omega
  have f1 := full_ok (n := t.1.N.toNat) (st := a.1) (by omega) ⟨ha1, ha2⟩
  have f2 := full_ok (n := t.1.N.toNat) (st := c.1) (by omega) ⟨hc1, hc2⟩
  have g1 := full_full (n := t.1.N.toNat) (st := a.1)
  have g2 := full_full (n := t.1.N.toNat) (st := c.1)
  rw [hn] at f1 f2 g1 g2
  have h0 : AD t.1 root.1 ⟨60, 60⟩ (begin t.1 root.1 ⟨60, 60⟩) := AD.begin hg (by omega) hb.1 hb.2 (by simp)
  refine T.bind (Run_plain h0.dl hg.ok f1.len f2.len) fun r hr => ?_
  rw [if_neg (fun h => h f1.err), if_neg (fun h => h f2.err)] at hr
  obtain ⟨hr0, hp, hd, hgr, tb, e, htb, hre⟩ := hr
  have hgr' : r.1.Graph = t.1 := hgr
  refine T.cond (fun h => by simp [hr0] at h) fun _ => ?_
  have h1n := hd.n1
  refine T.cond (fun h => by simp at h; rw [h] at h1n; simp at h1n) fun _ => ?_
  rw [rEnd_plain hd htb (by rw [hgr']; exact hg), some_bind, awake_plain]
  have he1 := ends hg (lim := ⟨60, 60⟩) (by simp) (by simp) g1.1 g2.1 (k := 1) g1 h0 hp hd htb hre
  have he2 := ends hg (lim := ⟨60, 60⟩) (by simp) (by simp) g1.1 g2.1 (k := 2) g2 h0 hp hd htb hre
  have hby := hd.by' (i := r.1.Moves.length - 1) (by omega)
  have hcase : (outF r.1 (sf tb.status) (bf tb.leading)).Reason = 2 ∨ outF r.1 (sf tb.status) (bf tb.leading) = ⟨lead (sf tb.status), 1⟩ ∧ (lead (sf tb.status) = 1 ↔ Gr (att t.1) root.1) := by
    rcases he1 with h | ⟨w, h1, h2, h3, h4⟩ | h
    · exact .inl h
    · rcases he2 with h | ⟨w', _, _, h6, _⟩ | h
      · exact .inl h
      · omega
      · exact .inr h
    · exact .inr h
  rcases hcase with h | ⟨h, hv⟩
  · rw [h]
    exact T.cond (fun _ => T.cond (fun _ => .ret rfl) fun h => by simp at h) fun h => by simp at h
  · rw [h]
    refine T.cond (fun h => by simp at h) fun _ => ?_
    refine T.bind (Grounded_plain hg (by omega)) fun gl ⟨hgl, hgr2⟩ => ?_
    rw [full_lab hgl hb, some_bind]
    have hnat : ((root.1.toNat : Nat) : Int) = root.1 := by omega
    have hiff := (hgr2 root.1.toNat (by omega)).2
    rw [hnat] at hiff
    refine T.cond (fun _ => .ret rfl) fun h5 => ?_
    exfalso
    have h6 : (lead (sf tb.status) = 1 ↔ sf gl.1 root.1.toNat = 1) := hv.trans hiff.symm
    by_cases h7 : lead (sf tb.status) = 1
    · simp [h7, h6.1 h7] at h5
    · have h8 : ¬ sf gl.1 root.1.toNat = 1 := fun hh => h7 (h6.2 hh)
      rw [show (lead (sf tb.status) == 1) = false from by simp [h7], show (sf gl.1 root.1.toNat == 1) = false from by simp [h8]] at h5
      cases h5

theorem law28_ParticipantLoses_plain (l : List Int) (_ : l.length ≤ maxLen ∧ ∀ x ∈ l, (Lit.int .i64 x).wf = true) : law28_ParticipantLoses_m l = some true := by
  refine T.eq ?_
  unfold law28_ParticipantLoses_m
  refine T.bind New_plain fun s hs => T.bind (Graph_plain hs (by omega) (by omega)) fun t ⟨hg, hN, hN5, hL, ht⟩ => ?_
  refine T.bind (N_plain ht (by omega)) fun root ⟨hr, hb⟩ => ?_
  have hb := hb (by omega)
  refine T.bind (Grounded_plain hg (by omega)) fun gl ⟨hgl, hgr2⟩ => ?_
  rw [rNew_plain hg (by omega) hb.1 hb.2 (by simp), some_bind]
  refine T.bind (player_plain hr hg (by omega) hN) fun o ⟨ho, hos⟩ => ?_
  refine T.bind (Range_plain hos (by omega) (by omega) (by omega)) fun a ⟨ha, ha1, ha2⟩ => ?_
  rw [Full_plain hg (by omega), some_bind]
  have hn : ((t.1.N.toNat : Nat) : Int) = t.1.N := by omega
  have f1 := full_ok (n := t.1.N.toNat) (st := a.1) (by omega) ⟨ha1, ha2⟩
  have g1 := full_full (n := t.1.N.toNat) (st := a.1)
  rw [hn] at f1 g1
  have f2 : PlOk t.1.N ⟨o.1.Pool, o.1.Withheld, [], o.1.Style⟩ := ⟨ho.po, ho.wi, ho.st, ⟨ho.len.po, ho.len.wi, by simp⟩⟩
  have h0 : AD t.1 root.1 ⟨80, 80⟩ (begin t.1 root.1 ⟨80, 80⟩) := AD.begin hg (by omega) hb.1 hb.2 (by simp)
  have hnat : ((root.1.toNat : Nat) : Int) = root.1 := by omega
  have hiff := (hgr2 root.1.toNat (by omega)).2
  rw [hnat] at hiff
  refine T.joinP (fun j => PlOk t.1.N j.1 ∧ PlOk t.1.N j.2.1 ∧ j.1.Script = [] ∧ j.2.1.Script = [] ∧ (j.2.2 = 1 ∨ j.2.2 = 2) ∧ FullP t.1.N (plF j.1 j.2.1 j.2.2) ∧ (j.2.2 = 1 ↔ Gr (att t.1) root.1)) (fun j ⟨j1, j2, j3, j4, j5, j6, j7⟩ => ?_) fun k hk => ?_
  · refine T.bind (Run_plain h0.dl hg.ok j1.len j2.len) fun r hr => ?_
    rw [if_neg (fun h => h j1.err), if_neg (fun h => h j2.err)] at hr
    obtain ⟨hr0, hp, hd, hgr, tb, e, htb, hre⟩ := hr
    have hgr' : r.1.Graph = t.1 := hgr
    refine T.cond (fun h => by simp [hr0] at h) fun _ => ?_
    have h1n := hd.n1
    refine T.cond (fun h => by simp at h; rw [h] at h1n; simp at h1n) fun _ => ?_
    rw [rEnd_plain hd htb (by rw [hgr']; exact hg), some_bind, awake_plain]
    have he := ends hg (lim := ⟨80, 80⟩) (by simp) (by simp) j3 j4 j6 h0 hp hd htb hre
    have hby := hd.by' (i := r.1.Moves.length - 1) (by omega)
    have hl2 := lead_12 (sf tb.status)
    refine T.cond (fun _ => .ret rfl) fun h5 => T.cond (fun _ => .ret rfl) fun h6 => ?_
    exfalso
    simp at h5 h6
    rcases he with h | ⟨w, h1, h2, h3, h4⟩ | ⟨h, hv⟩
    · exact h6 h
    · rw [h1] at h5
      dsimp only at h5
      omega
    · rw [h] at h5
      dsimp only at h5
      have h8 : lead (sf tb.status) = 1 ↔ j.2.2 = 1 := hv.trans j7.symm
      omega
  · rw [full_lab hgl hb, some_bind]
    refine T.cond (fun h => hk _ ?_) fun h => hk _ ?_
    · simp at h
      exact ⟨f1, f2, rfl, rfl, .inl rfl, g1, ⟨fun _ => hiff.1 h, fun _ => rfl⟩⟩
    · simp at h
      exact ⟨f2, f1, rfl, rfl, .inr rfl, g1, ⟨fun h => by simp at h, fun h2 => absurd (hiff.2 h2) h⟩⟩
end Go.Dc
