/- Part P28C.RefEnd of a proof: lemmas. -/
import Derived.Test.YtodnndlcnignbaaP28CRef
set_option linter.unusedVariables false
set_option linter.unusedSimpArgs false
/-! The reference's outcome, turn and moves. -/
namespace Go.Dc

theorem outF_zero {d : Dg} {s : Nat → Int} {b : Nat → Bool} (hl : lead s = 1 ∨ lead s = 2) : outF d s b = ⟨0, 0⟩ ↔ (outF d s b).Reason = 0 := by
  constructor
  · intro h; rw [h]
  · intro h
    unfold outF at h ⊢
    split at h
    · cases h
    · split at h
      · cases h
      · split at h
        · cases h
        · split at h
          · rename_i h1 h2 h3 h4; rw [if_neg h1, if_neg h2, if_neg h3, if_pos h4]
          · cases h

section
variable {d : Dg} (hd : Dlg d) {tb : T_protocol_table} (ht : TabOk d tb) (hg : GVal d.Graph)
include hd ht hg

theorem rEnd_plain : ref27_End_m d = some (outF d (sf tb.status) (bf tb.leading)) := by
  have hn := hd.n2; have h1n := hd.n1
  have hl2 := lead_12 (sf tb.status)
  unfold ref27_End_m
  rw [isub1 (by omega), idx_mv' (by omega) (by omega), some_bind]
  have e : ((d.Moves.length : Int) - 1).toNat = d.Moves.length - 1 := by omega
  rw [e]
  have hby := hd.by' (i := d.Moves.length - 1) (by omega)
  refine T.eq ?_
  unfold outF
  refine T.cond (fun h => ?_) fun h => ?_
  · have h' : (mv d.Moves (d.Moves.length - 1)).Kind = 4 := by simpa using h
    rw [if_pos h', isub64 (by omega) (by omega)]
    exact .ret rfl
  · have h' : ¬ (mv d.Moves (d.Moves.length - 1)).Kind = 4 := by simpa using h
    rw [if_neg h', rstatus_eq hd ht, some_bind, rleader_eq hd ht, some_bind]
    have made : loopC (ref27_End_l1 d (lead (sf tb.status))) (0, 0) = some (cnt d.Moves (3 - lead (sf tb.status)) : Int) := by
      refine T.eq (T.loopK d.Moves.length (fun i s => s.2 = (i : Int) ∧ i ≤ d.Moves.length ∧ s.1 = (cnt (d.Moves.take i) (3 - lead (sf tb.status)) : Int)) ⟨rfl, by omega, by simp [cnt]⟩ ?_)
      rintro i ⟨_, _⟩ ⟨rfl, hi, rfl⟩
      dsimp only [ref27_End_l1]
      refine T.cond (fun g => ?_) fun g => ?_
      · simp at g
        have h1 := cnt_take (p := 3 - lead (sf tb.status)) g
        have h2 := cnt_le (d.Moves.take i) (3 - lead (sf tb.status))
        have h3 := hd.by' g
        rw [idx_mv g, some_bind, iadd1 (n := i) (by omega)]
        refine T.cond (fun h => .letM (.letM (.ret ⟨g, rfl, by omega, ?_⟩))) fun h => .letM (.ret ⟨g, rfl, by omega, ?_⟩)
        · simp at h
          rw [if_pos (by omega)] at h1
          rw [h1, iadd1 (by simp at h2; omega)]
        · simp at h
          rw [if_neg (by omega)] at h1
          rw [h1]; rfl
      · simp at g
        exact .ret (show (cnt (d.Moves.take i) _ : Int) = _ by rw [List.take_of_length_le (by omega)])
    rw [made, some_bind]
    refine .letM (T.cond (fun h2 => ?_) fun h2 => ?_)
    · simp at h2
      rw [if_pos (by omega)]
      exact .ret rfl
    · simp at h2
      rw [if_neg (by omega)]
      have hidx : idxM [d.Limits.i0, d.Limits.i1] (isub .i64 2 (lead (sf tb.status))) = some (limOf d (sf tb.status)) := by
        unfold limOf
        rcases hl2 with h | h <;> rw [h, isub64 (by omega) (by omega)] <;> simp [idxM]
      rw [hidx, some_bind]
      refine .letM (T.cond (fun h3 => ?_) fun h3 => ?_)
      · simp at h3
        rw [if_pos h3]
        exact .ret rfl
      · simp at h3
        rw [if_neg (by omega)]
        refine T.bind (attacks_plain hd ht hg) fun l ⟨hl1, hl2⟩ => .letM (T.cond (fun h4 => ?_) fun h4 => ?_)
        · have h4' : l = [] := by simpa using h4
          rw [if_neg (by rintro ⟨x, hx⟩; rw [← hl2, h4'] at hx; cases hx)]
          exact .ret rfl
        · have h4' : l ≠ [] := by simpa using h4
          obtain ⟨x, hx⟩ := List.exists_mem_of_ne_nil l h4'
          rw [if_pos ⟨x, (hl2 x).1 hx⟩]
          exact .ret rfl

theorem rTurn_plain : ref27_Turn_m d = some (if (outF d (sf tb.status) (bf tb.leading)).Reason = 0 then 3 - lead (sf tb.status) else 0) := by
  have hl2 := lead_12 (sf tb.status)
  unfold ref27_Turn_m
  rw [rEnd_plain hd ht hg, some_bind, rstatus_eq hd ht, some_bind, rleader_eq hd ht, some_bind, isub64 (by omega) (by omega)]
  have hz := outF_zero (d := d) (b := bf tb.leading) hl2
  by_cases h : (outF d (sf tb.status) (bf tb.leading)).Reason = 0
  · rw [if_pos h, decide_eq_true (hz.2 h)]; rfl
  · rw [if_neg h, decide_eq_false (fun hh => h (hz.1 hh))]; rfl

theorem rLegal_plain : T (ref27_Legal_m d) fun l => ((outF d (sf tb.status) (bf tb.leading)).Reason = 0 → ∀ x, x ∈ l ↔ Leg d (sf tb.status) (bf tb.leading) x) ∧ ((outF d (sf tb.status) (bf tb.leading)).Reason ≠ 0 → l = []) ∧ l.length ≤ 8000 := by
  have hl2 := lead_12 (sf tb.status)
  have hn := hd.n2; have h40 := hg.n1
  unfold ref27_Legal_m
  rw [rTurn_plain hd ht hg, some_bind]
  refine T.cond (fun h => .ret ?_) fun h => ?_
  · refine ⟨fun h0 => ?_, fun _ => rfl, by simp⟩
    rw [if_pos h0] at h
    simp at h; omega
  · refine T.bind (attacks_plain hd ht hg) fun l ⟨h1, h2⟩ => .ret ⟨fun _ => h2, fun h0 => ?_, ?_⟩
    · rw [if_neg h0] at h
      simp at h
    · have : d.Moves.length * d.Graph.N.toNat ≤ 200 * 40 := Nat.mul_le_mul (by omega) (by omega)
      omega

theorem rApply_plain {m : Mv} (hr : (outF d (sf tb.status) (bf tb.leading)).Reason = 0) (hm : Leg d (sf tb.status) (bf tb.leading) m) : ref27_Apply_m d m = some (push d m, 0) := by
  have hl2 := lead_12 (sf tb.status)
  have hn := hd.n2; have h40 := hg.n1
  have hm' := hm
  obtain ⟨t, p, a1, a2, a3, a4, a5, rfl, _⟩ := hm'
  have hv := hg.v p a4
  refine T.eq ?_
  unfold ref27_Apply_m
  rw [rTurn_plain hd ht hg, some_bind, if_pos hr]
  refine T.cond (fun h => by simp at h; omega) fun _ => ?_
  refine T.joinP (fun _ => True) (fun _ _ => ?_) fun kk hkk => T.cond (fun h => by simp at h) fun _ => hkk _ trivial
  rw [some_bind]
  refine T.cond (fun h => by simp at h) fun _ => ?_
  refine T.joinP (fun j => j = true) (fun j hj => ?_) fun kk hkk => T.cond (fun h => .letM (hkk _ (decide_eq_true (by dsimp only; omega)))) fun h => by simp at h
  subst hj
  refine T.joinP (fun j => j = (⟨3 - lead (sf tb.status), 2, p.From, (t : Int)⟩ : Mv)) (fun j hj => ?_) fun kk hkk => ?_
  · subst hj
    rw [clone_eq (by omega), some_bind, appM_eq (by simp; omega), some_bind]
    exact .ret rfl
  · refine T.cond (fun _ => ?_) fun h => by simp at h
    refine T.cond (fun h => by cases h) fun _ => T.cond (fun h => by simp at h; omega) fun _ => T.cond (fun h => by simp at h; omega) fun _ => ?_
    refine T.bind (attacks_plain hd ht hg) fun l ⟨h1, h2⟩ => ?_
    have hlen : d.Moves.length * d.Graph.N.toNat ≤ 200 * 40 := Nat.mul_le_mul (by omega) (by omega)
    refine T.bind (P := fun q => q = true) ?_ fun q hq => by subst hq; exact T.cond (fun h => by cases h) fun _ => hkk _ rfl
    have hin := (h2 _).2 hm
    refine T.loopK l.length (fun j s => s.2 = (j : Int) ∧ j ≤ l.length ∧ s.1 = decide ((⟨3 - lead (sf tb.status), 2, p.From, (t : Int)⟩ : Mv) ∈ l.take j)) ⟨rfl, by omega, by simp⟩ ?_
    rintro j ⟨_, _⟩ ⟨rfl, hj, rfl⟩
    dsimp only [ref27_Apply_l1]
    refine T.cond (fun gj => ?_) fun gj => ?_
    · simp at gj
      rw [idxM_nat gj, some_bind, iadd1 (by omega)]
      have tk : l.take (j + 1) = l.take j ++ [l[j]] := List.take_succ_eq_append_getElem gj
      refine T.cond (fun h => .ret ⟨gj, rfl, by omega, ?_⟩) fun h => .letM (.ret ⟨gj, rfl, by omega, ?_⟩)
      · rw [tk]; simp only [decide_eq_true_eq] at h; exact (decide_eq_true (List.mem_append_left _ h)).symm
      · rw [tk]; simp only [decide_eq_false_iff_not] at h
        simp only [List.mem_append, h, List.mem_singleton, false_or]
        by_cases hh : l[j] = (⟨3 - lead (sf tb.status), 2, p.From, (t : Int)⟩ : Mv) <;> simp [hh]
        exact fun h3 => hh h3.symm
    · simp at gj
      refine .ret (show decide _ = true from ?_)
      rw [List.take_of_length_le (by omega)]
      exact decide_eq_true hin
end

/-! ### every dialogue ends -/

end Go.Dc
