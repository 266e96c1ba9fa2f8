/- Part P28C.Chose of a proof: lemmas. -/
import Derived.Test.YtodnndlcnignbaaP28CPlay
set_option linter.unusedVariables false
set_option linter.unusedSimpArgs false
/-! The move that a player chooses. -/
namespace Go.Dc

def stored (m : Mv) : Mv := if m.Kind = 4 then ⟨m.By, 4, 0, 0⟩ else if m.Kind = 2 then m else ⟨m.By, 3, 0, m.Target⟩
theorem Acc.eq {d : Dg} {s : Nat → Int} {b : Nat → Bool} {m x : Mv} (h : Acc d s b m x) : x = stored m := by
  unfold stored
  rcases h.2 with ⟨h1, h2⟩ | ⟨h1, _, h2⟩ | ⟨h1, _, _, _, _, _, h2⟩
  · rw [if_pos h1]; exact h2
  · rw [if_neg (by omega), if_pos h1]; exact h2
  · rw [if_neg (by omega), if_neg (by omega)]; exact h2

/-- how many moves a player has made, beside the claim -/
def madeK (M : List Mv) (p : Int) : Nat := (M.filter fun m => m.By == p && m.Kind != 1).length
theorem madeK_take {M : List Mv} {p : Int} {i : Nat} (hi : i < M.length) : madeK (M.take (i + 1)) p = madeK (M.take i) p + if (M[i].By == p && M[i].Kind != 1) = true then 1 else 0 := by
  unfold madeK
  rw [List.take_succ_eq_append_getElem hi, List.filter_append, List.length_append]
  cases h : (M[i].By == p && M[i].Kind != 1) <;> simp [h]
theorem madeK_le (M : List Mv) (p : Int) : madeK M p ≤ M.length := List.length_filter_le _ _

/-- the script's move for now -/
def scrM (d : Dg) (s : Nat → Int) (p : Pl) : Mv := { p.Script.getD (madeK d.Moves (3 - lead s)) ⟨0, 0, 0, 0⟩ with By := 3 - lead s }

open Classical in
noncomputable def scrB (d : Dg) (s : Nat → Int) (b : Nat → Bool) (p : Pl) (l : List Mv) : Bool :=
  if madeK d.Moves (3 - lead s) < p.Script.length then
    (if (scrM d s p).Kind = 2 then decide (scrM d s p ∈ l) else decide (∃ x, Acc d s b (scrM d s p) x))
  else false

noncomputable def choF (d : Dg) (s : Nat → Int) (b : Nat → Bool) (p : Pl) (l : List Mv) : Mv :=
  if scrB d s b p l = true then stored (scrM d s p) else match l with
    | [] => ⟨3 - lead s, 4, 0, 0⟩
    | y :: r => pickF (betterF d.Graph p.Style) y r

section
variable {d : Dg} (hd : Dlg d) (hg : GOk d.Graph) {tb : T_protocol_table} (e : protocol_of_m d = some tb) (ht : TabOk d tb) {p : Pl} (hp : Len p)
include hd hg e ht hp

theorem scripted_plain (hr : (outF d (sf tb.status) (bf tb.leading)).Reason = 0) {l : List Mv} (hl : l.length ≤ 100000000) :
    T (participant_scripted_m d p l) fun r => r.2 = scrB d (sf tb.status) (bf tb.leading) p l ∧ (r.2 = true → r.1 = stored (scrM d (sf tb.status) p)) := by
  have hn := hd.n2; have h1n := hd.n1; have hLn := hd.Ln
  have hsc := hp.sc
  unfold participant_scripted_m
  rw [Turn_plain hd e ht, some_bind, if_pos hr]
  refine T.bind (P := fun k => k = (madeK d.Moves (3 - lead (sf tb.status)) : Int)) ?_ ?_
  · refine T.loopK d.Moves.length (fun i s => s.2 = (i : Int) ∧ i ≤ d.Moves.length ∧ s.1 = (madeK (d.Moves.take i) (3 - lead (sf tb.status)) : Int)) ⟨rfl, by omega, by simp [madeK]⟩ ?_
    rintro i ⟨_, _⟩ ⟨rfl, hi, rfl⟩
    dsimp only [participant_scripted_l1]
    refine T.cond (fun g => ?_) fun g => ?_
    · simp only [decide_eq_true_eq] at g
      have g' : i < d.Moves.length := by omega
      have h1 := madeK_take (p := 3 - lead (sf tb.status)) g'
      have h2 := madeK_le (d.Moves.take i) (3 - lead (sf tb.status))
      simp at h2
      rw [idxM_nat g', some_bind, iadd1 (n := i) (by omega), iadd1 (by omega)]
      refine T.cond (fun h => T.cond (fun h3 => .letM (.ret ⟨g', rfl, g', ?_⟩)) fun h3 => .ret ⟨g', rfl, g', ?_⟩) fun h => .ret ⟨g', rfl, g', ?_⟩
      · rw [if_pos (by rw [h, h3]; rfl)] at h1
        dsimp only; rw [h1]
      · rw [if_neg (by rw [h, h3]; simp)] at h1
        dsimp only; rw [h1]; rfl
      · rw [if_neg (by rw [h]; simp)] at h1
        dsimp only; rw [h1]; rfl
    · simp only [decide_eq_false_iff_not] at g
      refine .ret (show _ = (madeK d.Moves _ : Int) from ?_)
      rw [List.take_of_length_le (by omega)]
  · rintro _ rfl
    unfold scrB
    refine T.cond (fun g => ?_) fun g => ?_
    · simp only [ge_iff_le, decide_eq_true_eq] at g
      rw [if_neg (by omega)]
      exact .ret ⟨rfl, fun h => by cases h⟩
    · simp only [ge_iff_le, decide_eq_false_iff_not] at g
      rw [if_pos (by omega), idxM_getD (z := ⟨0, 0, 0, 0⟩) (by omega), some_bind]
      have em : (T_api_Move.mk (3 - lead (sf tb.status)) (p.Script.getD (madeK d.Moves (3 - lead (sf tb.status))) ⟨0, 0, 0, 0⟩).Kind (p.Script.getD (madeK d.Moves (3 - lead (sf tb.status))) ⟨0, 0, 0, 0⟩).Node
          (p.Script.getD (madeK d.Moves (3 - lead (sf tb.status))) ⟨0, 0, 0, 0⟩).Target) = scrM d (sf tb.status) p := rfl
      rw [em]
      have ek : (p.Script.getD (madeK d.Moves (3 - lead (sf tb.status))) ⟨0, 0, 0, 0⟩).Kind = (scrM d (sf tb.status) p).Kind := rfl
      rw [ek]
      refine T.cond (fun h => ?_) fun h => ?_
      · have h' : (scrM d (sf tb.status) p).Kind = 2 := by simpa using h
        rw [if_pos h', contains_plain' hl, some_bind]
        refine .ret ⟨rfl, fun _ => ?_⟩
        unfold stored
        rw [if_neg (by omega), if_pos h']
      · have h' : ¬ (scrM d (sf tb.status) p).Kind = 2 := by simpa using h
        rw [if_neg h']
        refine T.bind (Apply_plain hd hg e ht (m := scrM d (sf tb.status) p)) fun r hrr => ?_
        rcases hrr with ⟨h2, _, x, hx, h3⟩ | ⟨h2, h3⟩
        · refine T.cond (fun hh => by simp [h2] at hh) fun _ => ?_
          rw [h3]
          have el : ((push d x).Moves.length : Int) = ((d.Moves.length + 1 : Nat) : Int) := by simp [push]
          rw [el, isub1 (by omega), show (((d.Moves.length + 1 : Nat) : Int) - 1) = (d.Moves.length : Int) from by omega, idxM_nat (by simp [push]), some_bind]
          refine .ret ⟨(@decide_eq_true _ (Classical.propDecidable _) ⟨x, hx⟩).symm, fun _ => ?_⟩
          simp only [push]
          rw [List.getElem_append_right (Nat.le_refl _)]
          simp [hx.eq]
        · refine T.cond (fun _ => .ret ⟨?_, fun h => by cases h⟩) fun hh => by simp at hh; exact absurd hh h2
          rcases h3 with h3 | h3
          · exact absurd hr h3
          · exact (@decide_eq_false _ (Classical.propDecidable _) fun ⟨x, hx⟩ => h3 x hx).symm

theorem Choose_plain : T (participant_Choose_m d p) fun r => ∃ L, protocol_Legal_m d = some L ∧
    r = if (outF d (sf tb.status) (bf tb.leading)).Reason ≠ 0 then (⟨0, 0, 0, 0⟩, 7) else if errV d.Graph.N p ≠ 0 then (⟨0, 0, 0, 0⟩, errV d.Graph.N p)
      else (choF d (sf tb.status) (bf tb.leading) p (L.filter (keepF p)), 0) := by
  have hn := hd.n2; have h1n := hd.n1; have hLn := hd.Ln
  have hl2 := lead_12 (sf tb.status)
  obtain ⟨L, hL, hL1, hL2, hL3⟩ := Legal_plain hd e ht
  have hmul : d.Moves.length * d.Graph.L.length ≤ 200 * 10000 := Nat.mul_le_mul hn hLn
  refine T.mono (P := fun r => r = if (outF d (sf tb.status) (bf tb.leading)).Reason ≠ 0 then (⟨0, 0, 0, 0⟩, 7) else if errV d.Graph.N p ≠ 0 then (⟨0, 0, 0, 0⟩, errV d.Graph.N p)
      else (choF d (sf tb.status) (bf tb.leading) p (L.filter (keepF p)), 0)) ?_ fun r h => ⟨L, hL, h⟩
  unfold participant_Choose_m
  rw [Turn_plain hd e ht, some_bind, hL]
  by_cases hr : (outF d (sf tb.status) (bf tb.leading)).Reason = 0
  · rw [if_pos hr, if_neg (fun h => h hr), valid_plain hp, some_bind]
    refine T.cond (fun h => by simp at h; omega) fun _ => ?_
    refine T.cond (fun h => ?_) fun h => ?_
    · have h' : errV d.Graph.N p ≠ 0 := by simpa using h
      rw [if_pos h']; exact .ret rfl
    · have h' : errV d.Graph.N p = 0 := by simpa using h
      rw [if_neg (fun hh => hh h'), some_bind, Delete_plain hp (by omega), some_bind]
      have hfl := List.length_filter_le (keepF p) L
      refine T.bind (scripted_plain hd hg e ht hp hr (l := L.filter (keepF p)) (by omega)) fun r ⟨h1, h2⟩ => ?_
      unfold choF
      refine T.cond (fun h3 => ?_) fun h3 => ?_
      · rw [h3] at h1
        rw [if_pos h1.symm, ← h2 h3]; exact .ret rfl
      · rw [h3] at h1
        rw [if_neg (fun hh => by rw [hh] at h1; cases h1)]
        generalize hq : L.filter (keepF p) = q at *
        match q, hq with
        | [], hq => exact T.cond (fun _ => .ret rfl) fun h4 => by simp at h4
        | y :: t, hq =>
          refine T.cond (fun h4 => by simp at h4; omega) fun _ => ?_
          unfold participant_style_m
          by_cases k2 : p.Style = 2
          · rw [show (p.Style == 2) = true from by simp [k2]]
            simp only [cond_true, some_bind]
            rw [Min0 (g := d.Graph) (by omega) rfl, k2]
            exact .ret rfl
          · rw [show (p.Style == 2) = false from by simp [k2]]
            by_cases k3 : p.Style = 3
            · rw [show (p.Style == 3) = true from by simp [k3]]
              simp only [cond_true, cond_false, some_bind]
              rw [Min1 (by omega) (by omega) rfl, k3]
              exact .ret rfl
            · rw [show (p.Style == 3) = false from by simp [k3]]
              simp only [cond_false, some_bind]
              rw [Min2 (g := d.Graph) k2 k3 (by omega) rfl]
              exact .ret rfl
  · rw [if_neg hr, if_pos hr]
    exact T.cond (fun _ => .ret rfl) fun h => by simp at h
end
end Go.Dc
