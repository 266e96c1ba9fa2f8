/- Part P28C.Run of a proof: lemmas. -/
import Derived.Test.YtodnndlcnignbaaP28CChose
set_option linter.unusedVariables false
set_option linter.unusedSimpArgs false
/-! Two players play. -/
namespace Go.Dc

def plF (p1 p2 : Pl) (k : Int) : Pl := if k = 1 then p1 else p2

noncomputable def chosen (d : Dg) (tb : T_protocol_table) (L : List Mv) (p : Pl) : Mv := choF d (sf tb.status) (bf tb.leading) p (L.filter (keepF p))

inductive Play (p1 p2 : Pl) (d0 : Dg) : Dg → Prop
  | start : Play p1 p2 d0 d0
  | step {d : Dg} {tb : T_protocol_table} {L : List Mv} (h : Play p1 p2 d0 d) (hd : Dlg d) (e : protocol_of_m d = some tb) (ht : TabOk d tb) (hr : (outF d (sf tb.status) (bf tb.leading)).Reason = 0) (hL : protocol_Legal_m d = some L) :
      Play p1 p2 d0 (push d (chosen d tb L (plF p1 p2 (3 - lead (sf tb.status)))))

theorem Acc.idem {d : Dg} {s : Nat → Int} {b : Nat → Bool} {m x : Mv} (h : Acc d s b m x) : Acc d s b x x := by
  obtain ⟨h0, h⟩ := h
  rcases h with ⟨h1, rfl⟩ | ⟨h1, h2, rfl⟩ | ⟨h1, h2, h3, h4, h5, h6, rfl⟩
  · exact ⟨h0, .inl ⟨rfl, rfl⟩⟩
  · exact ⟨h0, .inr (.inl ⟨h1, h2, rfl⟩)⟩
  · exact ⟨h0, .inr (.inr ⟨rfl, h2, h3, h4, h5, h6, rfl⟩)⟩

section
variable {d : Dg} (hd : Dlg d) {tb : T_protocol_table} (e : protocol_of_m d = some tb) (ht : TabOk d tb) (hr : (outF d (sf tb.status) (bf tb.leading)).Reason = 0) {L : List Mv} (hL : protocol_Legal_m d = some L)
include hd e ht hr hL

theorem legal_iff {x : Mv} : x ∈ L ↔ Leg d (sf tb.status) (bf tb.leading) x := by
  obtain ⟨L', hL', h1, _⟩ := Legal_plain hd e ht
  rw [hL] at hL'; cases hL'
  exact h1 hr x

/-- what is chosen can be moved -/
theorem chosen_acc {p : Pl} : Acc d (sf tb.status) (bf tb.leading) (chosen d tb L p) (chosen d tb L p) := by
  have hl : ∀ x, x ∈ L.filter (keepF p) → Acc d (sf tb.status) (bf tb.leading) x x := fun x hx => leg_acc ((legal_iff hd e ht hr hL).1 (List.mem_filter.1 hx).1)
  unfold chosen choF
  by_cases h : scrB d (sf tb.status) (bf tb.leading) p (L.filter (keepF p)) = true
  · rw [if_pos h]
    unfold scrB at h
    by_cases h1 : madeK d.Moves (3 - lead (sf tb.status)) < p.Script.length
    · rw [if_pos h1] at h
      by_cases h2 : (scrM d (sf tb.status) p).Kind = 2
      · rw [if_pos h2] at h
        have := hl _ (of_decide_eq_true h)
        rw [← this.eq]; exact this
      · rw [if_neg h2] at h
        obtain ⟨x, hx⟩ := @of_decide_eq_true _ (Classical.propDecidable _) h
        rw [← hx.eq]; exact hx.idem
    · rw [if_neg h1] at h; cases h
  · rw [if_neg h]
    generalize hq : L.filter (keepF p) = q at *
    match q, hq with
    | [], _ => exact ⟨rfl, .inl ⟨rfl, rfl⟩⟩
    | y :: r, _ => exact hl _ pick_mem

end

theorem Run_plain {d0 : Dg} (h0 : Dlg d0) (hg : GOk d0.Graph) {p1 p2 : Pl} (l1 : Len p1) (l2 : Len p2) : T (participant_Run_m d0 p1 p2) fun r =>
    if errV d0.Graph.N p1 ≠ 0 then r = (⟨⟨0, []⟩, 0, ⟨0, 0⟩, []⟩, errV d0.Graph.N p1) else if errV d0.Graph.N p2 ≠ 0 then r = (⟨⟨0, []⟩, 0, ⟨0, 0⟩, []⟩, errV d0.Graph.N p2)
    else r.2 = 0 ∧ Play p1 p2 d0 r.1 ∧ Dlg r.1 ∧ r.1.Graph = d0.Graph ∧ ∃ tb, protocol_of_m r.1 = some tb ∧ TabOk r.1 tb ∧ (outF r.1 (sf tb.status) (bf tb.leading)).Reason ≠ 0 := by
  have hLn := h0.Ln; have hn2 := h0.n2
  unfold participant_Run_m
  refine T.bind (P := fun o => match o with
    | .inl r => if errV d0.Graph.N p1 ≠ 0 then r = (⟨⟨0, []⟩, 0, ⟨0, 0⟩, []⟩, errV d0.Graph.N p1) else errV d0.Graph.N p2 ≠ 0 ∧ r = (⟨⟨0, []⟩, 0, ⟨0, 0⟩, []⟩, errV d0.Graph.N p2)
    | .inr _ => errV d0.Graph.N p1 = 0 ∧ errV d0.Graph.N p2 = 0) ?_ fun o ho => ?_
  · refine T.loopK 2 (fun i s => s = (i : Int) ∧ i ≤ 2 ∧ (0 < i → errV d0.Graph.N p1 = 0) ∧ (1 < i → errV d0.Graph.N p2 = 0)) ⟨rfl, by omega, fun h => by omega, fun h => by omega⟩ ?_
    rintro i _ ⟨rfl, hi, h1, h2⟩
    dsimp only [participant_Run_l1]
    match i, hi, h1, h2 with
    | 0, _, _, _ =>
      refine T.cond (fun _ => ?_) fun h => by simp at h
      rw [show idxM [p1, p2] ((0 : Nat) : Int) = some p1 from rfl, some_bind, valid_plain l1, some_bind]
      refine T.cond (fun h => ?_) fun h => ?_
      · have h' : errV d0.Graph.N p1 ≠ 0 := by simpa using h
        exact .ret (show (if errV d0.Graph.N p1 ≠ 0 then _ else _) from by rw [if_pos h'])
      · have h' : errV d0.Graph.N p1 = 0 := by simpa using h
        exact .ret ⟨by omega, rfl, by omega, fun _ => h', fun h => by omega⟩
    | 1, _, h1, _ =>
      refine T.cond (fun _ => ?_) fun h => by simp at h
      have h1 := h1 (by omega)
      rw [show idxM [p1, p2] ((1 : Nat) : Int) = some p2 from rfl, some_bind, valid_plain l2, some_bind]
      refine T.cond (fun h => ?_) fun h => ?_
      · have h' : errV d0.Graph.N p2 ≠ 0 := by simpa using h
        exact .ret (show (if errV d0.Graph.N p1 ≠ 0 then _ else _) from by rw [if_neg (fun hh => hh h1)]; exact ⟨h', rfl⟩)
      · have h' : errV d0.Graph.N p2 = 0 := by simpa using h
        exact .ret ⟨by omega, rfl, by omega, fun _ => h1, fun _ => h'⟩
    | 2, _, h1, h2 =>
      refine T.cond (fun h => by simp at h) fun _ => ?_
      exact .ret ⟨h1 (by omega), h2 (by omega)⟩
  · match o, ho with
    | .inl r, h =>
      refine .ret ?_
      by_cases h1 : errV d0.Graph.N p1 = 0
      · have h' : errV d0.Graph.N p2 ≠ 0 ∧ r = (⟨⟨0, []⟩, 0, ⟨0, 0⟩, []⟩, errV d0.Graph.N p2) := by
          have h2 : (if errV d0.Graph.N p1 ≠ 0 then r = (⟨⟨0, []⟩, 0, ⟨0, 0⟩, []⟩, errV d0.Graph.N p1) else errV d0.Graph.N p2 ≠ 0 ∧ r = (⟨⟨0, []⟩, 0, ⟨0, 0⟩, []⟩, errV d0.Graph.N p2)) := h
          rwa [if_neg (fun hh => hh h1)] at h2
        rw [if_neg (fun hh => hh h1), if_pos h'.1]; exact h'.2
      · have h2 : (if errV d0.Graph.N p1 ≠ 0 then r = (⟨⟨0, []⟩, 0, ⟨0, 0⟩, []⟩, errV d0.Graph.N p1) else errV d0.Graph.N p2 ≠ 0 ∧ r = (⟨⟨0, []⟩, 0, ⟨0, 0⟩, []⟩, errV d0.Graph.N p2)) := h
        rw [if_pos h1] at h2 ⊢; exact h2
    | .inr _, h =>
      obtain ⟨v1, v2⟩ := h
      simp only [sumK]
      refine T.mono (P := fun r => r.2 = 0 ∧ Play p1 p2 d0 r.1 ∧ Dlg r.1 ∧ r.1.Graph = d0.Graph ∧ ∃ tb, protocol_of_m r.1 = some tb ∧ TabOk r.1 tb ∧ (outF r.1 (sf tb.status) (bf tb.leading)).Reason ≠ 0) ?_
        fun r h => by rw [if_neg (fun hh => hh v1), if_neg (fun hh => hh v2)]; exact h
      unfold slices_Clone_api_Pair_api_Pair_m slices_Clone_api_Move_api_Move_m
      rw [clone_eq (by omega), some_bind, clone_eq (by omega), some_bind]
      refine T.bind (P := fun r => r.2 = 0 ∧ Play p1 p2 d0 r.1 ∧ Dlg r.1 ∧ r.1.Graph = d0.Graph ∧ ∃ tb, protocol_of_m r.1 = some tb ∧ TabOk r.1 tb ∧ (outF r.1 (sf tb.status) (bf tb.leading)).Reason ≠ 0) ?_ fun r h => .ret h
      refine T.loopM (fun d => Play p1 p2 d0 d ∧ Dlg d ∧ d.Graph = d0.Graph) (fun d => 201 - d.Moves.length) ⟨.start, h0, rfl⟩ ?_
      rintro d ⟨hp, hd, hgr⟩
      dsimp only [participant_Run_l2]
      obtain ⟨tb, e, ht⟩ := T_of hd
      have hl2 := lead_12 (sf tb.status)
      have hgd : GOk d.Graph := by rw [hgr]; exact hg
      rw [Turn_plain hd e ht, some_bind]
      by_cases hr : (outF d (sf tb.status) (bf tb.leading)).Reason = 0
      · rw [if_pos hr]
        refine T.cond (fun h => by simp at h; omega) fun _ => ?_
        have hpl : idxM [p1, p2] (isub .i64 (3 - lead (sf tb.status)) 1) = some (plF p1 p2 (3 - lead (sf tb.status))) := by
          rcases hl2 with h | h <;> rw [h] <;> rfl
        rw [hpl, some_bind]
        have hlen : Len (plF p1 p2 (3 - lead (sf tb.status))) := by unfold plF; split; exact l1; exact l2
        have hval : errV d.Graph.N (plF p1 p2 (3 - lead (sf tb.status))) = 0 := by rw [hgr]; unfold plF; split; exact v1; exact v2
        refine T.bind (Choose_plain hd hgd e ht hlen) fun r ⟨L, hL, hrr⟩ => ?_
        rw [if_neg (fun hh => hh hr), if_neg (fun hh => hh hval)] at hrr
        subst hrr
        refine T.cond (fun h => by simp at h) fun _ => ?_
        have hacc := chosen_acc hd e ht hr hL (p := plF p1 p2 (3 - lead (sf tb.status)))
        refine T.bind (Apply_plain hd hgd e ht) fun a ha => ?_
        rcases ha with ⟨h2, _, x, hx, h3⟩ | ⟨_, h2 | h2⟩
        · refine T.cond (fun hh => by simp [h2] at hh) fun _ => ?_
          have hxe : x = chosen d tb L (plF p1 p2 (3 - lead (sf tb.status))) := hx.eq.trans hacc.eq.symm
          have hnlt := (out_run hr).1
          rw [hxe] at h3
          refine .ret ⟨⟨?_, ?_, ?_⟩, ?_⟩
          · rw [h3]; exact .step hp hd e ht hr hL
          · rw [h3]; exact hd.push hnlt (hacc.ok hd hgd ht)
          · rw [h3]; exact hgr
          · rw [h3]; simp [push]; omega
        · exact absurd hr h2
        · exact absurd hacc (h2 _)
      · rw [if_neg hr]
        exact T.cond (fun _ => .ret ⟨rfl, hp, hd, hgr, tb, e, ht, hr⟩) fun h => by simp at h
end Go.Dc
