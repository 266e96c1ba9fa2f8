/- Part P27.RefEnd of a proof that a law of the program returns true: general lemmas, no condition. -/
import Derived.Test.YtlhfddobimfcbaaP27Ref
set_option linter.unusedVariables false
set_option linter.unusedSimpArgs false
/-! The reference's outcome, turn and moves. -/
namespace Go.Dc

theorem outF_zero {d : Dg} {s : Nat → Int} {b : Nat → Bool} (hl : lead s = 1 ∨ lead s = 2) : outF d s b = ⟨0, 0⟩ ↔ (outF d s b).Reason = 0 := by
  constructor
  · intro h; rw [h]
  · intro h
    unfold outF at h ⊢
    split at h
    · cases h
    · split at h
      · cases h
      · split at h
        · cases h
        · split at h
          · rename_i h1 h2 h3 h4; rw [if_neg h1, if_neg h2, if_neg h3, if_pos h4]
          · cases h

section
variable {d : Dg} (hd : Dlg d) {tb : T_protocol_table} (ht : TabOk d tb) (hg : GVal d.Graph)
include hd ht hg

theorem rEnd_plain : ref27_End_m d = some (outF d (sf tb.status) (bf tb.leading)) := by
  have hn := hd.n2; have h1n := hd.n1
  have hl2 := lead_12 (sf tb.status)
  unfold ref27_End_m
  rw [isub1 (by omega), idx_mv' (by omega) (by omega), some_bind]
  have e : ((d.Moves.length : Int) - 1).toNat = d.Moves.length - 1 := by omega
  rw [e]
  have hby := hd.by' (i := d.Moves.length - 1) (by omega)
  refine T.eq ?_
  unfold outF
  refine T.cond (fun h => ?_) fun h => ?_
  · have h' : (mv d.Moves (d.Moves.length - 1)).Kind = 4 := by simpa using h
    rw [if_pos h', isub64 (by omega) (by omega)]
    exact .ret rfl
  · have h' : ¬ (mv d.Moves (d.Moves.length - 1)).Kind = 4 := by simpa using h
    rw [if_neg h', rstatus_eq hd ht, some_bind, rleader_eq hd ht, some_bind]
    have made : loopC (ref27_End_l1 d (lead (sf tb.status))) (0, 0) = some (cnt d.Moves (3 - lead (sf tb.status)) : Int) := by
      refine T.eq (T.loopK d.Moves.length (fun i s => s.2 = (i : Int) ∧ i ≤ d.Moves.length ∧ s.1 = (cnt (d.Moves.take i) (3 - lead (sf tb.status)) : Int)) ⟨rfl, by omega, by simp [cnt]⟩ ?_)
      rintro i ⟨_, _⟩ ⟨rfl, hi, rfl⟩
      dsimp only [ref27_End_l1]
      refine T.cond (fun g => ?_) fun g => ?_
      · simp at g
        have h1 := cnt_take (p := 3 - lead (sf tb.status)) g
        have h2 := cnt_le (d.Moves.take i) (3 - lead (sf tb.status))
        have h3 := hd.by' g
        rw [idx_mv g, some_bind, iadd1 (n := i) (by omega)]
        refine T.cond (fun h => .letM (.letM (.ret ⟨g, rfl, by omega, ?_⟩))) fun h => .letM (.ret ⟨g, rfl, by omega, ?_⟩)
        · simp at h
          rw [if_pos (by omega)] at h1
          rw [h1, iadd1 (by simp at h2; omega)]
        · simp at h
          rw [if_neg (by omega)] at h1
          rw [h1]; rfl
      · simp at g
        exact .ret (show (cnt (d.Moves.take i) _ : Int) = _ by rw [List.take_of_length_le (by omega)])
    rw [made, some_bind]
    refine .letM (T.cond (fun h2 => ?_) fun h2 => ?_)
    · simp at h2
      rw [if_pos (by omega)]
      exact .ret rfl
    · simp at h2
      rw [if_neg (by omega)]
      have hidx : idxM [d.Limits.i0, d.Limits.i1] (isub .i64 2 (lead (sf tb.status))) = some (limOf d (sf tb.status)) := by
        unfold limOf
        rcases hl2 with h | h <;> rw [h, isub64 (by omega) (by omega)] <;> simp [idxM]
      rw [hidx, some_bind]
      refine .letM (T.cond (fun h3 => ?_) fun h3 => ?_)
      · simp at h3
        rw [if_pos h3]
        exact .ret rfl
      · simp at h3
        rw [if_neg (by omega)]
        refine T.bind (attacks_plain hd ht hg) fun l ⟨hl1, hl2⟩ => .letM (T.cond (fun h4 => ?_) fun h4 => ?_)
        · have h4' : l = [] := by simpa using h4
          rw [if_neg (by rintro ⟨x, hx⟩; rw [← hl2, h4'] at hx; cases hx)]
          exact .ret rfl
        · have h4' : l ≠ [] := by simpa using h4
          obtain ⟨x, hx⟩ := List.exists_mem_of_ne_nil l h4'
          rw [if_pos ⟨x, (hl2 x).1 hx⟩]
          exact .ret rfl

theorem rTurn_plain : ref27_Turn_m d = some (if (outF d (sf tb.status) (bf tb.leading)).Reason = 0 then 3 - lead (sf tb.status) else 0) := by
  have hl2 := lead_12 (sf tb.status)
  unfold ref27_Turn_m
  rw [rEnd_plain hd ht hg, some_bind, rstatus_eq hd ht, some_bind, rleader_eq hd ht, some_bind, isub64 (by omega) (by omega)]
  have hz := outF_zero (d := d) (b := bf tb.leading) hl2
  by_cases h : (outF d (sf tb.status) (bf tb.leading)).Reason = 0
  · rw [if_pos h, decide_eq_true (hz.2 h)]; rfl
  · rw [if_neg h, decide_eq_false (fun hh => h (hz.1 hh))]; rfl

theorem rLegal_plain : T (ref27_Legal_m d) fun l => ((outF d (sf tb.status) (bf tb.leading)).Reason = 0 → ∀ x, x ∈ l ↔ Leg d (sf tb.status) (bf tb.leading) x) ∧ ((outF d (sf tb.status) (bf tb.leading)).Reason ≠ 0 → l = []) ∧ l.length ≤ 8000 := by
  have hl2 := lead_12 (sf tb.status)
  have hn := hd.n2; have h40 := hg.n1
  unfold ref27_Legal_m
  rw [rTurn_plain hd ht hg, some_bind]
  refine T.cond (fun h => .ret ?_) fun h => ?_
  · refine ⟨fun h0 => ?_, fun _ => rfl, by simp⟩
    rw [if_pos h0] at h
    simp at h; omega
  · refine T.bind (attacks_plain hd ht hg) fun l ⟨h1, h2⟩ => .ret ⟨fun _ => h2, fun h0 => ?_, ?_⟩
    · rw [if_neg h0] at h
      simp at h
    · have : d.Moves.length * d.Graph.N.toNat ≤ 200 * 40 := Nat.mul_le_mul (by omega) (by omega)
      omega

theorem rApply_plain {m : Mv} (hr : (outF d (sf tb.status) (bf tb.leading)).Reason = 0) (hm : Leg d (sf tb.status) (bf tb.leading) m) : ref27_Apply_m d m = some (push d m, 0) := by
  have hl2 := lead_12 (sf tb.status)
  have hn := hd.n2; have h40 := hg.n1
  have hm' := hm
  obtain ⟨t, p, a1, a2, a3, a4, a5, rfl, _⟩ := hm'
  have hv := hg.v p a4
  refine T.eq ?_
  unfold ref27_Apply_m
  rw [rTurn_plain hd ht hg, some_bind, if_pos hr]
  refine T.cond (fun h => by simp at h; omega) fun _ => ?_
  refine T.joinP (fun _ => True) (fun _ _ => ?_) fun kk hkk => T.cond (fun h => by simp at h) fun _ => hkk _ trivial
  rw [some_bind]
  refine T.cond (fun h => by simp at h) fun _ => ?_
  refine T.joinP (fun j => j = true) (fun j hj => ?_) fun kk hkk => T.cond (fun h => .letM (hkk _ (decide_eq_true (by dsimp only; omega)))) fun h => by simp at h
  subst hj
  refine T.joinP (fun j => j = (⟨3 - lead (sf tb.status), 2, p.From, (t : Int)⟩ : Mv)) (fun j hj => ?_) fun kk hkk => ?_
  · subst hj
    rw [clone_eq (by omega), some_bind, appM_eq (by simp; omega), some_bind]
    exact .ret rfl
  · refine T.cond (fun _ => ?_) fun h => by simp at h
    refine T.cond (fun h => by cases h) fun _ => T.cond (fun h => by simp at h; omega) fun _ => T.cond (fun h => by simp at h; omega) fun _ => ?_
    refine T.bind (attacks_plain hd ht hg) fun l ⟨h1, h2⟩ => ?_
    have hlen : d.Moves.length * d.Graph.N.toNat ≤ 200 * 40 := Nat.mul_le_mul (by omega) (by omega)
    refine T.bind (P := fun q => q = true) ?_ fun q hq => by subst hq; exact T.cond (fun h => by cases h) fun _ => hkk _ rfl
    have hin := (h2 _).2 hm
    refine T.loopK l.length (fun j s => s.2 = (j : Int) ∧ j ≤ l.length ∧ s.1 = decide ((⟨3 - lead (sf tb.status), 2, p.From, (t : Int)⟩ : Mv) ∈ l.take j)) ⟨rfl, by omega, by simp⟩ ?_
    rintro j ⟨_, _⟩ ⟨rfl, hj, rfl⟩
    dsimp only [ref27_Apply_l1]
    refine T.cond (fun gj => ?_) fun gj => ?_
    · simp at gj
      rw [idxM_nat gj, some_bind, iadd1 (by omega)]
      have tk : l.take (j + 1) = l.take j ++ [l[j]] := List.take_succ_eq_append_getElem gj
      refine T.cond (fun h => .ret ⟨gj, rfl, by omega, ?_⟩) fun h => .letM (.ret ⟨gj, rfl, by omega, ?_⟩)
      · rw [tk]; simp only [decide_eq_true_eq] at h; exact (decide_eq_true (List.mem_append_left _ h)).symm
      · rw [tk]; simp only [decide_eq_false_iff_not] at h
        simp only [List.mem_append, h, List.mem_singleton, false_or]
        by_cases hh : l[j] = (⟨3 - lead (sf tb.status), 2, p.From, (t : Int)⟩ : Mv) <;> simp [hh]
        exact fun h3 => hh h3.symm
    · simp at gj
      refine .ret (show decide _ = true from ?_)
      rw [List.take_of_length_le (by omega)]
      exact decide_eq_true hin
end

/-! ### every dialogue ends -/
theorem move_plain {s : T_deliberationkeep_Src} (hs : SrcOk s) {d : Dg} (hd : Dlg d) (hg : GVal d.Graph) : T (law27_move_m s d) fun r => SrcOk r.2 := by
  obtain ⟨tb, e, ht⟩ := T_of hd
  have hn := hd.n2; have h1n := hd.n1
  unfold law27_move_m
  refine T.bind (rLegal_plain hd ht hg) fun l ⟨_, _, hl⟩ => ?_
  refine T.bind (Range_plain hs (by omega) (by omega) (by omega)) fun a ⟨ha, _⟩ => T.bind (Pick_plain ha (by simp) (by simp)) fun b ⟨hb, _⟩ => T.bind (N_plain hb (by omega)) fun c ⟨hc, _⟩ => ?_
  refine T.bind (Range_plain hc (by omega) (by omega) (by omega)) fun q ⟨hq, _⟩ => T.bind (N_plain hq (by omega)) fun k ⟨hk, _⟩ => ?_
  refine T.cond (fun _ => .ret hk) fun _ => T.cond (fun _ => ?_) fun _ => ?_
  · rw [rTurn_plain hd ht hg, some_bind]
    exact .ret hk
  · refine .letM (T.cond (fun h => ?_) fun _ => .ret hk)
    simp at h
    refine T.bind (N_plain hk (by omega)) fun z ⟨hz, hzb⟩ => ?_
    have hzb := hzb (by omega)
    rw [idxM_eq (by omega) (by omega), some_bind]
    exact .ret hz

theorem cnt_app {M : List Mv} {x : Mv} {p : Int} : cnt (M ++ [x]) p = cnt M p + if x.By = p then 1 else 0 := by
  unfold cnt
  rw [List.filter_append, List.length_append]
  by_cases h : x.By = p <;> simp [h]

theorem cnt_sum {M : List Mv} (h : ∀ i, i < M.length → (mv M i).By = 1 ∨ (mv M i).By = 2) : cnt M 1 + cnt M 2 = M.length := by
  have h' : ∀ m ∈ M, m.By = 1 ∨ m.By = 2 := fun m hm => by
    obtain ⟨i, hi, rfl⟩ := List.getElem_of_mem hm
    have := h i hi
    simpa [mv, List.getD, hi] using this
  clear h
  unfold cnt
  induction M with
  | nil => rfl
  | cons m M ih =>
    have := ih fun x hx => h' x (List.mem_cons_of_mem _ hx)
    rcases h' m (by simp) with h | h <;> simp [h] <;> omega

/-- no player makes more moves than its limit -/
def InLim (d : Dg) : Prop := (cnt d.Moves 1 : Int) ≤ d.Limits.i0 ∧ (cnt d.Moves 2 : Int) ≤ d.Limits.i1

theorem acc_by {d : Dg} {s : Nat → Int} {b : Nat → Bool} {m x : Mv} (h : Acc d s b m x) : x.By = 3 - lead s := by
  rcases h.2 with ⟨_, rfl⟩ | ⟨_, _, rfl⟩ | ⟨_, _, _, _, _, _, rfl⟩ <;> exact h.1

theorem InLim.push {d : Dg} {tb : T_protocol_table} (h : InLim d) (hr : (outF d (sf tb.status) (bf tb.leading)).Reason = 0) {m x : Mv} (hx : Acc d (sf tb.status) (bf tb.leading) m x) : InLim (push d x) := by
  have h1 := (out_run hr).2.2.1
  have h2 := acc_by hx
  obtain ⟨h3, h4⟩ := h
  have hl := lead_12 (sf tb.status)
  unfold InLim
  show (cnt (d.Moves ++ [x]) 1 : Int) ≤ d.Limits.i0 ∧ (cnt (d.Moves ++ [x]) 2 : Int) ≤ d.Limits.i1
  rw [cnt_app, cnt_app, h2]
  unfold limOf at h1
  rcases hl with hl | hl
  · rw [hl] at h1 ⊢
    simp at h1 ⊢
    omega
  · rw [hl] at h1 ⊢
    simp at h1 ⊢
    omega

theorem law27_ProtocolEnds_plain (l : List Int) (a b : Int) (_ : l.length ≤ maxLen ∧ ∀ x ∈ l, (Lit.int .i64 x).wf = true) (_ : (Lit.int .i64 a).wf = true) (_ : (Lit.int .i64 b).wf = true) : law27_ProtocolEnds_m l a b = some true := by
  refine T.eq ?_
  unfold law27_ProtocolEnds_m
  refine T.bind New_plain fun s hs => T.bind (Graph_plain hs (by omega) (by omega)) fun t ⟨hg, hN, hN5, hL, ht⟩ => ?_
  refine T.bind (N_plain ht (by omega)) fun root ⟨hr, hb⟩ => ?_
  have hb := hb (by omega)
  refine T.bind (Mod_plain (by omega)) fun x hx => T.bind (Mod_plain (by omega)) fun y hy => ?_
  have hx := hx (by omega); have hy := hy (by omega)
  rw [iadd64 (by omega) (by omega)]
  have hlim : 1 ≤ (T_arr2_3.mk (1 + x) y).i0 ∧ (T_arr2_3.mk (1 + x) y).i0 ≤ 200 ∧ 0 ≤ (T_arr2_3.mk (1 + x) y).i1 ∧ (T_arr2_3.mk (1 + x) y).i1 ≤ 200 := by dsimp only; omega
  rw [New_plain' hg (by omega) hb.1 hb.2 hlim, some_bind]
  refine T.cond (fun h => by simp at h) fun _ => ?_
  -- the loop ends with nobody to move
  refine T.bind (P := fun o => ∃ d, o = .inr d ∧ Dlg d ∧ GVal d.Graph ∧ InLim d ∧ d.Limits = ⟨1 + x, y⟩ ∧ protocol_Turn_m d = some 0) ?_ fun o ho => ?_
  · refine T.loopK 40 (fun k s => s.1 = (k : Int) ∧ k ≤ 40 ∧ SrcOk s.2.1 ∧ Dlg s.2.2 ∧ GVal s.2.2.Graph ∧ InLim s.2.2 ∧ s.2.2.Limits = ⟨1 + x, y⟩ ∧ s.2.2.Moves.length = k + 1) ⟨rfl, by omega, hr, begin_dlg hg (by omega) hb.1 hb.2 hlim, hg, ?_, rfl, rfl⟩ ?_
    · constructor
      · show (cnt [⟨1, 1, root.1, 0⟩] 1 : Int) ≤ 1 + x
        simp [cnt]; omega
      · show (cnt [⟨1, 1, root.1, 0⟩] 2 : Int) ≤ y
        simp [cnt]; omega
    rintro k ⟨_, s, d⟩ ⟨rfl, hk, hs, hd, hg, hin, hlm, hlen⟩
    dsimp only [law27_ProtocolEnds_l1] at *
    obtain ⟨tb, e, htb⟩ := T_of hd
    have hsum := cnt_sum fun i hi => hd.by' hi
    have hin' := hin
    unfold InLim at hin'
    rw [hlm] at hin'
    dsimp only at hin'
    have hmul : d.Moves.length * d.Graph.L.length ≤ 200 * 10000 := Nat.mul_le_mul hd.n2 hd.Ln
    have hl12 := lead_12 (sf tb.status)
    refine T.cond (fun _ => ?_) fun h => by simp at h; omega
    rw [Turn_plain hd e htb, some_bind]
    by_cases hrun : (outF d (sf tb.status) (bf tb.leading)).Reason = 0
    rotate_left
    · rw [if_neg hrun]
      refine T.cond (fun h => by simp at h) fun _ => .ret ⟨d, rfl, hd, hg, hin, hlm, ?_⟩
      rw [Turn_plain hd e htb, if_neg hrun]
    · rw [if_pos hrun]
      refine T.cond (fun _ => ?_) fun h => by simp at h; omega
      have go : ∀ m' x', Acc d (sf tb.status) (bf tb.leading) m' x' → Dlg (push d x') ∧ GVal (push d x').Graph ∧ InLim (push d x') ∧ (push d x').Limits = ⟨1 + x, y⟩ ∧ (push d x').Moves.length = k + 1 + 1 := fun m' x' h =>
        ⟨hd.push (out_run hrun).1 (h.ok hd hg.ok htb), hg, hin.push hrun h, hlm, by simp [push]; omega⟩
      refine T.bind (move_plain hs hd hg) fun mq hmq => ?_
      refine T.bind (Apply_plain hd hg.ok e htb) fun r hrr => ?_
      rw [iadd1 (by omega)]
      rcases hrr with ⟨h1, _, x', hx', h2⟩ | ⟨h1, _⟩
      · refine T.cond (fun _ => .letM (.ret ⟨by omega, rfl, by omega, hmq, ?_⟩)) fun h => by simp [h1] at h
        dsimp only
        rw [h2]; exact go _ _ hx'
      · refine T.cond (fun h => by simp [h1] at h) fun _ => ?_
        refine T.bind (Legal_plain hd e htb) fun lg ⟨hl1, _, hl3⟩ => ?_
        obtain ⟨_, _, _, w, hw⟩ := out_run hrun
        have hne : lg ≠ [] := fun h => by rw [← hl1 hrun w, h] at hw; cases hw
        have hpos := List.length_pos_iff.2 hne
        refine T.cond (fun h => by simp at h; exact absurd h hne) fun _ => ?_
        rw [idxM_eq (by omega) (by simpa using hpos), some_bind]
        have hleg := (hl1 hrun _).1 (List.getElem_mem (show (0 : Int).toNat < lg.length by simpa using hpos))
        refine T.bind (Apply_plain hd hg.ok e htb) fun r' hrr' => ?_
        rcases hrr' with ⟨h3, _, x', hx', h4⟩ | ⟨_, h4 | h4⟩
        · refine T.cond (fun h => by simp [h3] at h) fun _ => .letM (.ret ⟨by omega, rfl, by omega, hmq, ?_⟩)
          dsimp only
          rw [h4]; exact go _ _ hx'
        · exact absurd hrun h4
        · exact absurd (leg_acc hleg) (h4 _)
  · obtain ⟨d, rfl, hd, hg, hin, hlm, hturn⟩ := ho
    simp only [sumK_inr]
    have hn := hd.n2; have h1n := hd.n1
    refine T.bind (P := fun o => o = .inr (0, (cnt d.Moves 1 : Int), (cnt d.Moves 2 : Int))) ?_ fun o ho => ?_
    · refine T.loopK d.Moves.length (fun i s => s.1 = (i : Int) ∧ i ≤ d.Moves.length ∧ s.2 = (0, (cnt (d.Moves.take i) 1 : Int), (cnt (d.Moves.take i) 2 : Int))) ⟨rfl, by omega, by simp [cnt]⟩ ?_
      rintro i ⟨_, _⟩ ⟨rfl, hi, rfl⟩
      dsimp only [law27_ProtocolEnds_l2]
      refine T.cond (fun g => ?_) fun g => ?_
      · simp at g
        have hby := hd.by' g
        have h1 := cnt_take (p := 1) g
        have h2 := cnt_take (p := 2) g
        have h3 := cnt_le (d.Moves.take i) 1
        have h4 := cnt_le (d.Moves.take i) 2
        rw [List.length_take, Nat.min_eq_left (by omega)] at h3 h4
        rw [idx_mv g, some_bind, iadd1 (by omega)]
        refine T.cond (fun h => by simp at h; omega) fun _ => T.cond (fun h => by simp at h; omega) fun _ => ?_
        rcases hby with hby | hby
        · rw [hby] at h1 h2 ⊢
          rw [show idxM [(0 : Int), (cnt (d.Moves.take i) 1 : Int), (cnt (d.Moves.take i) 2 : Int)] 1 = some (cnt (d.Moves.take i) 1 : Int) from rfl, some_bind, some_bind, iadd1 (by omega)]
          refine .ret ⟨g, rfl, by omega, ?_⟩
          rw [h1, h2]
          simp [aset]
        · rw [hby] at h1 h2 ⊢
          rw [show idxM [(0 : Int), (cnt (d.Moves.take i) 1 : Int), (cnt (d.Moves.take i) 2 : Int)] 2 = some (cnt (d.Moves.take i) 2 : Int) from rfl, some_bind, some_bind, iadd1 (by omega)]
          refine .ret ⟨g, rfl, by omega, ?_⟩
          rw [h1, h2]
          simp [aset]
      · simp at g
        refine .ret (show Sum.inr _ = Sum.inr _ from ?_)
        rw [List.take_of_length_le (by omega)]
    · subst ho
      simp only [sumK_inr]
      rw [hturn, some_bind]
      obtain ⟨tb, e, htb⟩ := T_of hd
      have hl12 := lead_12 (sf tb.status)
      refine T.cond (fun _ => ?_) fun h => by simp at h
      rw [End_plain hd e htb, some_bind]
      have hre : (outF d (sf tb.status) (bf tb.leading)).Reason ≠ 0 := fun h => by
        rw [Turn_plain hd e htb, if_pos h] at hturn
        have := Option.some.inj hturn; omega
      refine T.cond (fun _ => ?_) fun h => by simp at h; exact absurd h hre
      obtain ⟨h5, h6⟩ := hin
      refine T.cond (fun _ => T.cond (fun _ => ?_) fun h => by simp at h; omega) fun h => by simp at h; omega
      rw [awake_plain]
      exact .ret rfl
end Go.Dc
