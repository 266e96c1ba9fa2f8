/- Part P28C.Apply of a proof: lemmas. -/
import Derived.Test.YtodnndlcnignbaaP28CProt
set_option linter.unusedVariables false
set_option linter.unusedSimpArgs false
/-! The program's dialogues: outcome, turn, moves. -/
namespace Go.Dc

def cnt (M : List Mv) (p : Int) : Nat := (M.filter (fun m => m.By == p)).length
def limOf (d : Dg) (s : Nat → Int) : Int := if lead s = 1 then d.Limits.i1 else d.Limits.i0

open Classical in
noncomputable def outF (d : Dg) (s : Nat → Int) (b : Nat → Bool) : T_api_Outcome :=
  if (mv d.Moves (d.Moves.length - 1)).Kind = 4 then ⟨3 - (mv d.Moves (d.Moves.length - 1)).By, 3⟩
  else if 200 ≤ d.Moves.length then ⟨lead s, 4⟩
  else if limOf d s ≤ (cnt d.Moves (3 - lead s) : Int) then ⟨lead s, 2⟩
  else if ∃ x, Leg d s b x then ⟨0, 0⟩ else ⟨lead s, 1⟩

theorem cnt_take {M : List Mv} {p : Int} {i : Nat} (hi : i < M.length) : cnt (M.take (i + 1)) p = cnt (M.take i) p + if (mv M i).By = p then 1 else 0 := by
  unfold cnt
  rw [List.take_succ_eq_append_getElem hi, List.filter_append, List.length_append]
  have : mv M i = M[i] := by simp [mv, List.getD, hi]
  rw [this]
  by_cases h : M[i].By = p <;> simp [h]

theorem cnt_le (M : List Mv) (p : Int) : cnt M p ≤ M.length := List.length_filter_le _ _

theorem made_plain {d : Dg} (hd : Dlg d) {tb : T_protocol_table} (ht : TabOk d tb) : loopC (protocol_table_end_l1 tb) (0, 0) = some (cnt d.Moves (3 - lead (sf tb.status)) : Int) := by
  have hn := hd.n2
  refine T.eq (T.loopK d.Moves.length (fun i s => s.2 = (i : Int) ∧ i ≤ d.Moves.length ∧ s.1 = (cnt (d.Moves.take i) (3 - lead (sf tb.status)) : Int)) ⟨rfl, by omega, by simp [cnt]⟩ ?_)
  rintro i ⟨_, _⟩ ⟨rfl, hi, rfl⟩
  dsimp only [protocol_table_end_l1]
  rw [ht.td]
  refine T.cond (fun g => ?_) fun g => ?_
  · simp at g
    have h1 := cnt_take (p := 3 - lead (sf tb.status)) g
    have h2 := cnt_le (d.Moves.take i) (3 - lead (sf tb.status))
    rw [idx_mv g, some_bind, ht.ld, other_plain (lead_12 _), some_bind, iadd1 (n := i) (by omega)]
    refine T.cond (fun h => .letM (.ret ⟨g, rfl, by omega, ?_⟩)) fun h => .ret ⟨g, rfl, by omega, ?_⟩
    · simp at h
      rw [if_pos h] at h1
      rw [h1, iadd1 (by simp at h2; omega)]
    · simp at h
      rw [if_neg h] at h1
      rw [h1]; rfl
  · simp at g
    exact .ret (show (cnt (d.Moves.take i) _ : Int) = _ by rw [List.take_of_length_le (by omega)])

theorem tend_plain {d : Dg} (hd : Dlg d) {tb : T_protocol_table} (ht : TabOk d tb) : protocol_table_end_m tb = some (outF d (sf tb.status) (bf tb.leading)) := by
  have hn := hd.n2; have h1n := hd.n1
  have hl2 := lead_12 (sf tb.status)
  unfold protocol_table_end_m
  rw [made_plain hd ht, some_bind, ht.td, isub1 (by omega), idx_mv' (by omega) (by omega), some_bind]
  have e : ((d.Moves.length : Int) - 1).toNat = d.Moves.length - 1 := by omega
  rw [e]
  have hby := hd.by' (i := d.Moves.length - 1) (by omega)
  refine T.eq ?_
  unfold outF
  refine T.cond (fun h => ?_) fun h => ?_
  · have h' : (mv d.Moves (d.Moves.length - 1)).Kind = 4 := by simpa using h
    rw [if_pos h', other_plain hby, some_bind]
    exact .ret rfl
  · have h' : ¬ (mv d.Moves (d.Moves.length - 1)).Kind = 4 := by simpa using h
    rw [if_neg h']
    refine .letM (T.cond (fun h2 => ?_) fun h2 => ?_)
    · simp at h2
      rw [if_pos (by omega)]
      exact .ret (by rw [ht.ld])
    · simp at h2
      rw [if_neg (by omega), ht.ld, other_plain hl2, some_bind]
      have hidx : idxM [d.Limits.i0, d.Limits.i1] (isub .i64 (3 - lead (sf tb.status)) 1) = some (limOf d (sf tb.status)) := by
        unfold limOf
        rcases hl2 with h | h <;> rw [h, isub64 (by omega) (by omega)] <;> simp [idxM]
      rw [hidx, some_bind]
      refine .letM (T.cond (fun h3 => ?_) fun h3 => ?_)
      · simp at h3
        rw [if_pos h3]
        exact .ret rfl
      · simp at h3
        rw [if_neg (by omega)]
        refine T.bind (legal_plain hd ht) fun l ⟨hl1, hl2⟩ => .letM (T.cond (fun h4 => ?_) fun h4 => ?_)
        · have h4' : l = [] := by simpa using h4
          rw [if_neg (by rintro ⟨x, hx⟩; rw [← hl2, h4'] at hx; cases hx)]
          exact .ret rfl
        · have h4' : l ≠ [] := by simpa using h4
          obtain ⟨x, hx⟩ := List.exists_mem_of_ne_nil l h4'
          rw [if_pos ⟨x, (hl2 x).1 hx⟩]
          exact .ret rfl

theorem out_run {d : Dg} {tb : T_protocol_table} : (outF d (sf tb.status) (bf tb.leading)).Reason = 0 → d.Moves.length < 200 ∧ (mv d.Moves (d.Moves.length - 1)).Kind ≠ 4 ∧ (cnt d.Moves (3 - lead (sf tb.status)) : Int) < limOf d (sf tb.status) ∧ ∃ x, Leg d (sf tb.status) (bf tb.leading) x := by
  unfold outF
  intro h
  split at h
  · cases h
  · rename_i h1
    split at h
    · cases h
    · split at h
      · cases h
      · split at h
        · rename_i h4; exact ⟨by omega, h1, by omega, h4⟩
        · cases h

section
variable {d : Dg} (hd : Dlg d) {tb : T_protocol_table} (e : protocol_of_m d = some tb) (ht : TabOk d tb)
include hd e ht
theorem End_plain : protocol_End_m d = some (outF d (sf tb.status) (bf tb.leading)) := by
  have h1n := hd.n1
  unfold protocol_End_m
  rw [show ((d.Moves.length : Int) == 0) = false from by simp; intro h; rw [h] at h1n; simp at h1n, e]
  simp only [cond_false, some_bind, tend_plain hd ht]

theorem Turn_plain : protocol_Turn_m d = some (if (outF d (sf tb.status) (bf tb.leading)).Reason = 0 then 3 - lead (sf tb.status) else 0) := by
  have h1n := hd.n1
  unfold protocol_Turn_m
  rw [show ((d.Moves.length : Int) == 0) = false from by simp; intro h; rw [h] at h1n; simp at h1n, End_plain hd e ht, e]
  simp only [cond_false, some_bind, ht.ld, other_plain (lead_12 _)]
  by_cases h : (outF d (sf tb.status) (bf tb.leading)).Reason = 0
  · simp [h]
  · rw [show ((outF d (sf tb.status) (bf tb.leading)).Reason != 0) = true from by simp [h], if_neg h]; rfl

theorem Legal_plain : T (protocol_Legal_m d) fun l => ((outF d (sf tb.status) (bf tb.leading)).Reason = 0 → ∀ x, x ∈ l ↔ Leg d (sf tb.status) (bf tb.leading) x) ∧ ((outF d (sf tb.status) (bf tb.leading)).Reason ≠ 0 → l = []) ∧ l.length ≤ d.Moves.length * d.Graph.L.length := by
  unfold protocol_Legal_m
  rw [Turn_plain hd e ht, some_bind]
  have hl2 := lead_12 (sf tb.status)
  refine T.cond (fun h => .ret ?_) fun h => ?_
  · refine ⟨fun h0 => ?_, fun _ => rfl, by simp⟩
    rw [if_pos h0] at h
    simp at h; omega
  · rw [e, some_bind]
    refine T.bind (legal_plain hd ht) fun l ⟨h1, h2⟩ => .ret ⟨fun _ => h2, fun h0 => ?_, h1⟩
    rw [if_neg h0] at h
    simp at h
end

/-! ### one more move -/
theorem mv_app {M : List Mv} {x : Mv} {i : Nat} (h : i < M.length) : mv (M ++ [x]) i = mv M i := by
  simp [mv, List.getD, List.getElem?_append_left h]
theorem mv_new {M : List Mv} {x : Mv} : mv (M ++ [x]) M.length = x := by simp [mv, List.getD]
theorem tg_app {M : List Mv} {x : Mv} {i : Nat} (h : i < M.length) : tg (M ++ [x]) i = tg M i := by simp [tg, mv_app h]
theorem tg_new {M : List Mv} {x : Mv} : tg (M ++ [x]) M.length = x.Target.toNat := by simp [tg, mv_new]

def push (d : Dg) (x : Mv) : Dg := ⟨d.Graph, d.Root, d.Limits, d.Moves ++ [x]⟩

theorem Dlg.push {d : Dg} (hd : Dlg d) {x : Mv} (hn : d.Moves.length < 200) (hx : MvOk d.Graph.N (d.Moves ++ [x]) d.Moves.length) : Dlg (push d x) where
  n1 := by simp [Go.Dc.push]
  n2 := by simp [Go.Dc.push]; omega
  N1 := hd.N1
  Ln := hd.Ln
  root0 := hd.root0
  root1 := hd.root1
  lim := hd.lim
  hd := by have := hd.n1; rw [show (Go.Dc.push d x).Moves = d.Moves ++ [x] from rfl, mv_app (by omega)]; exact hd.hd
  mo := fun i h1 h2 => by
    show MvOk d.Graph.N (d.Moves ++ [x]) i
    have h2' : i < d.Moves.length + 1 := by simpa [Go.Dc.push] using h2
    by_cases e : i = d.Moves.length
    · rw [e]; exact hx
    · have hi : i < d.Moves.length := by omega
      have h := hd.mo i h1 hi
      unfold MvOk at h ⊢
      rw [mv_app hi, tg_app hi]
      by_cases ht : tg d.Moves i < d.Moves.length
      · rw [mv_app ht]; exact h
      · refine ⟨h.1, ?_⟩
        rcases h.2 with ⟨a, b, c, _⟩ | ⟨a, b, c, _⟩ | a
        · unfold tg at ht; omega
        · unfold tg at ht; omega
        · exact .inr (.inr a)

/-- the moves that are taken, and how they are stored -/
def Acc (d : Dg) (s : Nat → Int) (b : Nat → Bool) (m x : Mv) : Prop :=
  m.By = 3 - lead s ∧
  (m.Kind = 4 ∧ x = ⟨m.By, 4, 0, 0⟩ ∨ m.Kind = 2 ∧ Leg d s b m ∧ x = m ∨
   m.Kind = 3 ∧ 0 ≤ m.Target ∧ m.Target < d.Moves.length ∧ (mv d.Moves m.Target.toNat).By = m.By ∧ (mv d.Moves m.Target.toNat).Kind = 2 ∧ s m.Target.toNat ≠ 0 ∧ x = ⟨m.By, 3, 0, m.Target⟩)

structure GOk (g : T_api_Graph) : Prop where
  v : ∀ p ∈ g.L, 0 ≤ p.From ∧ p.From < g.N ∧ 0 ≤ p.To ∧ p.To < g.N

theorem judged_plain {d : Dg} (hd : Dlg d) (hg : GOk d.Graph) {tb : T_protocol_table} (ht : TabOk d tb) {m : Mv} :
    T (protocol_table_judged_m tb m) fun r => r.2 = 0 ∧ Acc d (sf tb.status) (bf tb.leading) m r.1 ∨ r.2 ≠ 0 ∧ ∀ x, ¬ Acc d (sf tb.status) (bf tb.leading) m x := by
  have hn := hd.n2; have h1n := hd.n1; have hLn := hd.Ln
  have hl2 := lead_12 (sf tb.status)
  unfold protocol_table_judged_m
  rw [ht.ld, other_plain hl2, ht.td]
  have err : ∀ {m' : Mv} {k : Int}, k ≠ 0 → (∀ x, ¬ Acc d (sf tb.status) (bf tb.leading) m x) → T (some (m', k)) fun r => r.2 = 0 ∧ Acc d (sf tb.status) (bf tb.leading) m r.1 ∨ r.2 ≠ 0 ∧ ∀ x, ¬ Acc d (sf tb.status) (bf tb.leading) m x :=
    fun hk h => .ret (.inr ⟨hk, h⟩)
  have bad : ¬ (m.Kind = 2 ∨ m.Kind = 3 ∨ m.Kind = 4) → ∀ x, ¬ Acc d (sf tb.status) (bf tb.leading) m x := fun ho x h => by
    rcases h.2 with ⟨h, _⟩ | ⟨h, _⟩ | ⟨h, _⟩
    · exact ho (.inr (.inr h))
    · exact ho (.inl h)
    · exact ho (.inr (.inl h))
  have z : ∀ {n : Int}, (m.Kind == n) = true → m.Kind = n := fun h => by simpa using h
  have z' : ∀ {n : Int}, (m.Kind == n) = false → ¬ m.Kind = n := fun h => by simpa using h
  refine T.joinP (fun _ => m.Kind = 2 ∨ m.Kind = 3 ∨ m.Kind = 4) (fun _ hk => ?_) fun k11' k11 => ?_
  · rw [some_bind]
    refine T.cond (fun h1 => ?_) fun h1 => ?_
    · exact err (by decide) fun x h => by simp [h.1] at h1
    · have h1' : m.By = 3 - lead (sf tb.status) := by simpa using h1
      refine T.cond (fun h2 => ?_) fun h2 => ?_
      · have h2' : m.Kind = 4 := by simpa using h2
        exact .ret (.inl ⟨rfl, h1', .inl ⟨h2', by rw [h2']⟩⟩)
      · have h2' : ¬ m.Kind = 4 := by simpa using h2
        refine T.join ?_
        have oor : ¬ (0 ≤ m.Target ∧ m.Target < d.Moves.length) → ∀ x, ¬ Acc d (sf tb.status) (bf tb.leading) m x := fun ho x h => by
          rcases h.2 with ⟨h3, _⟩ | ⟨h3, ⟨t, p, a1, _, _, _, _, h4, _⟩, _⟩ | ⟨h3, h4, h5, _⟩
          · exact h2' h3
          · exact ho (by rw [h4]; simp only; omega)
          · exact ho ⟨h4, h5⟩
        refine T.cond (fun h3 => ?_) fun h3 => ?_
        · simp at h3; exact err (by decide) (oor (by omega))
        · simp at h3
          refine T.cond (fun h4 => ?_) fun h4 => ?_
          · simp at h4; exact err (by decide) (oor (by omega))
          · simp at h4
            refine T.cond (fun h5 => ?_) fun h5 => ?_
            · have h5' : m.Kind = 2 := by simpa using h5
              have onode : ¬ (0 ≤ m.Node ∧ m.Node < d.Graph.N) → ∀ x, ¬ Acc d (sf tb.status) (bf tb.leading) m x := fun ho x h => by
                rcases h.2 with ⟨h3, _⟩ | ⟨h3, ⟨t, p, _, _, _, a1, _, h4, _⟩, _⟩ | ⟨h3, h4, h5, _⟩
                · exact h2' h3
                · exact ho (by have := hg.v p a1; rw [h4]; exact ⟨this.1, this.2.1⟩)
                · omega
              refine T.cond (fun h6 => ?_) fun h6 => ?_
              · simp at h6; exact err (by decide) (onode (by omega))
              · simp at h6
                refine T.cond (fun h7 => ?_) fun h7 => ?_
                · simp at h7; exact err (by decide) (onode (by omega))
                · rw [show (m.Kind == 2) = true from h5]
                  simp only [cond_true]
                  refine T.bind (legal_plain hd ht) fun l ⟨hl, hm⟩ => ?_
                  have hb : d.Moves.length * d.Graph.L.length ≤ 200 * 10000 := Nat.mul_le_mul hn hLn
                  rw [contains_plain' (by omega), some_bind]
                  refine T.cond (fun h8 => ?_) fun h8 => ?_
                  · have h8' : ¬ m ∈ l := by simpa using h8
                    refine err (by decide) fun x h => ?_
                    rcases h.2 with ⟨h9, _⟩ | ⟨h9, h10, _⟩ | ⟨h9, _⟩
                    · exact h2' h9
                    · exact h8' ((hm m).2 h10)
                    · omega
                  · have h8' : m ∈ l := by simpa using h8
                    exact .ret (.inl ⟨rfl, h1', .inr (.inl ⟨h5', (hm m).1 h8', rfl⟩)⟩)
            · have h5' : m.Kind = 3 := by
                have : ¬ m.Kind = 2 := by simpa using h5
                omega
              rw [show (m.Kind == 2) = false from h5]
              simp only [cond_false]
              rw [idx_mv' h3 (by omega), some_bind, idx_sf' h3 (by rw [ht.st.1]; omega), some_bind]
              have no : ¬ ((mv d.Moves m.Target.toNat).By = m.By ∧ (mv d.Moves m.Target.toNat).Kind = 2 ∧ sf tb.status m.Target.toNat ≠ 0) → ∀ x, ¬ Acc d (sf tb.status) (bf tb.leading) m x := fun ho x h => by
                rcases h.2 with ⟨h9, _⟩ | ⟨h9, _⟩ | ⟨h9, _, _, a, b, c, _⟩
                · exact h2' h9
                · omega
                · exact ho ⟨a, b, c⟩
              refine T.cond (fun h6 => err (by decide) (no fun h => by simp [h.1] at h6)) fun h6 => ?_
              refine T.cond (fun h7 => err (by decide) (no fun h => by simp [h.2.1] at h7)) fun h7 => ?_
              refine T.cond (fun h8 => err (by decide) (no fun h => by simp [h.2.2] at h8)) fun h8 => ?_
              exact .ret (.inl ⟨rfl, h1', .inr (.inr ⟨h5', h3, by omega, by simpa using h6, by simpa using h7, by simpa using h8, by rw [h5']⟩)⟩)
  · refine T.cond (fun h => T.cond (fun _ => k11 () (.inl (z h))) fun h2 => absurd (z h) (z' h2)) fun h => ?_
    refine T.cond (fun h1 => T.cond (fun _ => k11 () (.inr (.inl (z h1)))) fun h2 => absurd (z h1) (z' h2)) fun h1 => ?_
    refine T.cond (fun h2 => k11 () (.inr (.inr (z h2)))) fun h2 => err (by decide) (bad ?_)
    have := z' h; have := z' h1; have := z' h2
    omega

theorem clone_eq {α : Type} {b : Nat} {l : List α} (h : l.length * b ≤ 140737488355328) : appM b [] l = some l := by
  rw [appM_eq (by simpa using h)]; rfl

/-- a stored move keeps the dialogue in form -/
theorem Acc.ok {d : Dg} (hd : Dlg d) (hg : GOk d.Graph) {tb : T_protocol_table} (ht : TabOk d tb) {m x : Mv} (h : Acc d (sf tb.status) (bf tb.leading) m x) : MvOk d.Graph.N (d.Moves ++ [x]) d.Moves.length := by
  have hl2 := lead_12 (sf tb.status)
  unfold MvOk
  rw [mv_new, tg_new]
  have hby : m.By = 1 ∨ m.By = 2 := by have := h.1; omega
  rcases h.2 with ⟨_, rfl⟩ | ⟨_, ⟨t, p, a1, a2, a3, a4, a5, a6, _⟩, rfl⟩ | ⟨_, a1, a2, a3, a4, _, rfl⟩
  · exact ⟨hby, .inr (.inr ⟨rfl, rfl⟩)⟩
  · refine ⟨hby, .inl ?_⟩
    have hv := hg.v p a4
    have hkd : (mv d.Moves t).Kind = 1 ∨ (mv d.Moves t).Kind = 2 := by
      have := ht.b.alive hd ht.st.2 a1 a2
      by_cases h0 : t = 0
      · subst h0; rw [hd.hd]; exact .inl rfl
      · exact .inr (ht.st.2.kid hd a1 (by omega) this).1
    rw [a6]
    simp only [Int.toNat_natCast]
    rw [mv_app a1]
    exact ⟨trivial, by omega, by omega, hv.1, hv.2.1, by rw [a3], hkd⟩
  · refine ⟨hby, .inr (.inl ?_)⟩
    simp only
    rw [mv_app (by omega)]
    exact ⟨trivial, a1, a2, a4⟩

theorem Apply_plain {d : Dg} (hd : Dlg d) (hg : GOk d.Graph) {tb : T_protocol_table} (e : protocol_of_m d = some tb) (ht : TabOk d tb) {m : Mv} :
    T (protocol_Apply_m d m) fun r => (r.2 = 0 ∧ (outF d (sf tb.status) (bf tb.leading)).Reason = 0 ∧ ∃ x, Acc d (sf tb.status) (bf tb.leading) m x ∧ r.1 = push d x) ∨
      (r.2 ≠ 0 ∧ ((outF d (sf tb.status) (bf tb.leading)).Reason ≠ 0 ∨ ∀ x, ¬ Acc d (sf tb.status) (bf tb.leading) m x)) := by
  have hn := hd.n2; have h1n := hd.n1; have hLn := hd.Ln
  have hl2 := lead_12 (sf tb.status)
  unfold protocol_Apply_m
  rw [Turn_plain hd e ht, some_bind]
  by_cases hr : (outF d (sf tb.status) (bf tb.leading)).Reason = 0
  · rw [if_pos hr]
    refine T.cond (fun h => by simp at h; omega) fun _ => ?_
    rw [e, some_bind]
    refine T.bind (judged_plain hd hg ht) fun r hrr => ?_
    refine T.cond (fun h => ?_) fun h => ?_
    · have h' : r.2 ≠ 0 := by simpa using h
      rcases hrr with ⟨h1, _⟩ | ⟨h1, h2⟩
      · exact absurd h1 h'
      · exact .ret (.inr ⟨h', .inr h2⟩)
    · have h' : r.2 = 0 := by simpa using h
      rcases hrr with ⟨h1, h2⟩ | ⟨h1, _⟩
      · unfold slices_Clone_api_Pair_api_Pair_m slices_Clone_api_Move_api_Move_m
        rw [clone_eq (by omega), some_bind, clone_eq (by omega), some_bind, appM_eq (by simp; omega), some_bind]
        exact .ret (.inl ⟨rfl, hr, r.1, h2, rfl⟩)
      · exact absurd h' h1
  · rw [if_neg hr]
    exact T.cond (fun h => .ret (.inr ⟨by simp, .inl hr⟩)) fun h => by simp at h
end Go.Dc
