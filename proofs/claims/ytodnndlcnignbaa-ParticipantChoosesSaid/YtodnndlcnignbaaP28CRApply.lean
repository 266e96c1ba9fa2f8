/- Part P28C.RApply of a proof: lemmas. -/
import Derived.Test.YtodnndlcnignbaaP28CPlayers
set_option linter.unusedVariables false
set_option linter.unusedSimpArgs false
/-! The reference's moves, of all kinds. -/
namespace Go.Dc
theorem rmem {l : List Mv} (hl : l.length ≤ 1000000) {m : Mv} : loopC (ref27_Apply_l1 m l) (false, 0) = some (decide (m ∈ l)) := by
  refine T.eq (T.loopK l.length (fun j s => s.2 = (j : Int) ∧ j ≤ l.length ∧ s.1 = decide (m ∈ l.take j)) ⟨rfl, by omega, by simp⟩ ?_)
  rintro j ⟨_, _⟩ ⟨rfl, hj, rfl⟩
  dsimp only [ref27_Apply_l1]
  refine T.cond (fun gj => ?_) fun gj => ?_
  · simp at gj
    rw [idxM_nat gj, some_bind, iadd1 (by omega)]
    have tk : l.take (j + 1) = l.take j ++ [l[j]] := List.take_succ_eq_append_getElem gj
    refine T.cond (fun h => .ret ⟨gj, rfl, by omega, ?_⟩) fun h => .letM (.ret ⟨gj, rfl, by omega, ?_⟩)
    · rw [tk]; simp only [decide_eq_true_eq] at h; exact (decide_eq_true (List.mem_append_left _ h)).symm
    · rw [tk]; simp only [decide_eq_false_iff_not] at h
      simp only [List.mem_append, h, List.mem_singleton, false_or]
      by_cases hh : l[j] = m
      · simp [hh]
      · rw [decide_eq_false hh, decide_eq_false (fun h3 => hh h3.symm)]
  · simp at gj
    refine .ret (show decide _ = decide _ from ?_)
    rw [List.take_of_length_le (by omega)]

section
variable {d : Dg} (hd : Dlg d) {tb : T_protocol_table} (ht : TabOk d tb) (hg : GVal d.Graph)
include hd ht hg

theorem rApply2 {m : Mv} : T (ref27_Apply_m d m) fun r => (r.2 = 0 ∧ (outF d (sf tb.status) (bf tb.leading)).Reason = 0 ∧ ∃ x, Acc d (sf tb.status) (bf tb.leading) m x ∧ r.1 = push d x) ∨
      (r.2 ≠ 0 ∧ ((outF d (sf tb.status) (bf tb.leading)).Reason ≠ 0 ∨ ∀ x, ¬ Acc d (sf tb.status) (bf tb.leading) m x)) := by
  have hl2 := lead_12 (sf tb.status)
  have hn := hd.n2; have h40 := hg.n1; have h1n := hd.n1
  unfold ref27_Apply_m
  rw [rTurn_plain hd ht hg, some_bind]
  by_cases hr : (outF d (sf tb.status) (bf tb.leading)).Reason = 0
  rotate_left
  · rw [if_neg hr]
    exact T.cond (fun h => .ret (.inr ⟨by simp, .inl hr⟩)) fun h => by simp at h
  rw [if_pos hr]
  have no : ∀ {e : Int}, e ≠ 0 → (∀ x, ¬ Acc d (sf tb.status) (bf tb.leading) m x) → T (some ((T_api_Dialogue.mk (T_api_Graph.mk 0 []) 0 (T_arr2_3.mk 0 0) []), e)) fun r => (r.2 = 0 ∧ (outF d (sf tb.status) (bf tb.leading)).Reason = 0 ∧ ∃ x, Acc d (sf tb.status) (bf tb.leading) m x ∧ r.1 = push d x) ∨
      (r.2 ≠ 0 ∧ ((outF d (sf tb.status) (bf tb.leading)).Reason ≠ 0 ∨ ∀ x, ¬ Acc d (sf tb.status) (bf tb.leading) m x)) := fun h1 h2 => .ret (.inr ⟨h1, .inr h2⟩)
  refine T.cond (fun h => by simp at h; omega) fun _ => ?_
  refine T.joinP (fun _ => m.Kind = 2 ∨ m.Kind = 3 ∨ m.Kind = 4) (fun _ hk => ?_) fun kk hkk => ?_
  rotate_left
  · refine T.cond (fun a => T.cond (fun b => T.cond (fun c => no (by omega) fun x hx => ?_) fun c => hkk _ ?_) fun b => hkk _ ?_) fun a => hkk _ ?_
    · simp at a b c
      rcases hx.2 with ⟨h, _⟩ | ⟨h, _⟩ | ⟨h, _⟩ <;> omega
    · simp at c; exact .inr (.inr c)
    · simp at b; exact .inr (.inl b)
    · simp at a; exact .inl a
  rw [some_bind]
  refine T.cond (fun h => no (by omega) fun x hx => by simp at h; exact h hx.1) fun hby => ?_
  have hby : m.By = 3 - lead (sf tb.status) := by simpa using hby
  refine T.joinP (fun j => j = true ↔ 0 ≤ m.Target ∧ m.Target < d.Moves.length) (fun j hj => ?_) fun kk hkk => ?_
  rotate_left
  · refine T.cond (fun a => .letM (hkk _ ?_)) fun a => hkk _ ?_
    · simp at a; simp [a]
    · simp at a; simp; omega
  refine T.joinP (fun j => Acc d (sf tb.status) (bf tb.leading) m j) (fun q hq => ?_) fun kk hkk => ?_
  · rw [clone_eq (by omega), some_bind, appM_eq (by simp; omega), some_bind]
    exact .ret (.inl ⟨rfl, hr, q, hq, rfl⟩)
  refine T.cond (fun h2 => ?_) fun h2 => ?_
  · have h2 : m.Kind = 2 := by simpa using h2
    have noleg : ¬ Leg d (sf tb.status) (bf tb.leading) m → ∀ x, ¬ Acc d (sf tb.status) (bf tb.leading) m x := fun hn x hx => by
      rcases hx.2 with ⟨h, _⟩ | ⟨_, h, _⟩ | ⟨h, _⟩
      · omega
      · exact hn h
      · omega
    refine T.cond (fun h => no (by omega) (noleg fun hleg => ?_)) fun hthere => ?_
    · obtain ⟨t, p, a1, _, _, _, _, rfl, _⟩ := hleg
      have := hj.2 ⟨by dsimp only; omega, by dsimp only; omega⟩
      simp [this] at h
    refine T.cond (fun h => no (by omega) (noleg fun hleg => ?_)) fun _ => T.cond (fun h => no (by omega) (noleg fun hleg => ?_)) fun _ => ?_
    · have := leg_node hg.ok hleg; simp at h; omega
    · have := leg_node hg.ok hleg; simp at h; omega
    refine T.bind (attacks_plain hd ht hg) fun l ⟨h3, h4⟩ => ?_
    have hlen : d.Moves.length * d.Graph.N.toNat ≤ 200 * 40 := Nat.mul_le_mul (by omega) (by omega)
    rw [rmem (by omega), some_bind]
    refine T.cond (fun h => no (by omega) (noleg fun hleg => ?_)) fun h => hkk _ ?_
    · have := (h4 m).2 hleg
      simp [this] at h
    · have hm : m ∈ l := by simpa using h
      exact ⟨hby, .inr (.inl ⟨h2, (h4 m).1 hm, rfl⟩)⟩
  · have h2 : m.Kind ≠ 2 := by simpa using h2
    refine T.cond (fun h3 => ?_) fun h3 => ?_
    · have h3 : m.Kind = 3 := by simpa using h3
      have acc : ∀ x, Acc d (sf tb.status) (bf tb.leading) m x → 0 ≤ m.Target ∧ m.Target < d.Moves.length ∧ (mv d.Moves m.Target.toNat).By = m.By ∧ (mv d.Moves m.Target.toNat).Kind = 2 ∧ sf tb.status m.Target.toNat ≠ 0 := fun x hx => by
        rcases hx.2 with ⟨h, _⟩ | ⟨h, _⟩ | ⟨_, a1, a2, a3, a4, a5, _⟩
        · omega
        · omega
        · exact ⟨a1, a2, a3, a4, a5⟩
      refine T.cond (fun h => no (by omega) fun x hx => ?_) fun hthere => ?_
      · have := hj.2 ⟨(acc x hx).1, (acc x hx).2.1⟩
        simp [this] at h
      have hth := hj.1 (by simpa using hthere)
      rw [idx_mv' hth.1 (by omega), some_bind]
      refine T.cond (fun h => no (by omega) fun x hx => by simp at h; exact h (acc x hx).2.2.2.1) fun b1 => ?_
      refine T.cond (fun h => no (by omega) fun x hx => by simp at h; exact h (acc x hx).2.2.1) fun b2 => ?_
      rw [rstatus_eq hd ht, some_bind, idx_sf' hth.1 (by rw [ht.st.1]; exact hth.2), some_bind]
      refine T.cond (fun h => no (by omega) fun x hx => by simp at h; exact (acc x hx).2.2.2.2 h) fun b3 => hkk _ ?_
      simp at b1 b2 b3
      exact ⟨hby, .inr (.inr ⟨h3, hth.1, hth.2, b2, b1, b3, by rw [h3]⟩)⟩
    · have h3 : m.Kind ≠ 3 := by simpa using h3
      have h4 : m.Kind = 4 := by rcases hk with h | h | h; exact absurd h h2; exact absurd h h3; exact h
      exact hkk _ ⟨hby, .inl ⟨h4, by rw [h4]⟩⟩
end
end Go.Dc
