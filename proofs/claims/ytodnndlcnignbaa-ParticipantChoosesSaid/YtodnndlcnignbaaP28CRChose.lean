/- Part P28C.RChose of a proof: lemmas. -/
import Derived.Test.YtodnndlcnignbaaP28COrder
import Derived.Test.YtodnndlcnignbaaP28CLawS
set_option linter.unusedVariables false
set_option linter.unusedSimpArgs false
/-! The reference's choice. -/
namespace Go.Dc

theorem Set_plain {g : T_api_Graph} {l : List Int} (hl : l.length ≤ 100000000) : T (net_Set_m g l) fun r => r = true ↔ Asc l g.N := by
  unfold net_Set_m
  refine T.bind (P := fun o => match o with | .inl b => b = false ∧ ¬ Asc l g.N | .inr _ => Asc l g.N) ?_ fun o ho => ?_
  · refine T.loopK l.length (fun i s => s = (i : Int) ∧ i ≤ l.length ∧ ∀ j, j < i → AscAt l g.N j) ⟨rfl, by omega, fun j hj => by omega⟩ ?_
    rintro i _ ⟨rfl, hi, hpre⟩
    dsimp only [net_Set_l1]
    refine T.cond (fun g1 => ?_) fun g1 => ?_
    · simp only [decide_eq_true_eq] at g1
      have g' : i < l.length := by omega
      rw [idxM_getD (z := 0) g', some_bind, some_bind, some_bind]
      have bad : ¬ AscAt l g.N i → ¬ Asc l g.N := fun h h2 => h (h2 i g')
      refine T.cond (fun h => ?_) fun h => ?_
      · simp at h; exact .ret ⟨rfl, bad fun hh => by have := hh.1; simp at this; omega⟩
      · simp at h
        refine T.cond (fun h2 => ?_) fun h2 => ?_
        · simp at h2; exact .ret ⟨rfl, bad fun hh => by have := hh.2.1; simp at this; omega⟩
        · simp at h2
          have next : (0 < i → l.getD (i - 1) 0 < l.getD i 0) → ∀ j, j < i + 1 → AscAt l g.N j := fun h3 j hj => by
            rcases Nat.lt_or_ge j i with h4 | h4
            · exact hpre j h4
            · have e : j = i := by omega
              subst e
              exact ⟨by simpa using h, by simpa using h2, h3⟩
          refine T.cond (fun h3 => ?_) fun h3 => ?_
          · simp at h3
            rw [isub1 (by omega), show ((i : Int) - 1) = ((i - 1 : Nat) : Int) from by omega, idxM_getD (z := 0) (by omega), some_bind]
            refine T.cond (fun h4 => ?_) fun h4 => ?_
            · simp at h4; exact .ret ⟨rfl, bad fun hh => by have := hh.2.2 (by omega); simp at this; omega⟩
            · simp at h4
              rw [iadd1 (by omega)]
              exact .letM (.ret ⟨g', rfl, g', next fun _ => by simpa using h4⟩)
          · simp at h3
            rw [iadd1 (by omega)]
            exact .letM (.ret ⟨g', rfl, g', next fun h4 => by omega⟩)
    · simp only [decide_eq_false_iff_not] at g1
      exact .ret (fun j hj => hpre j (by omega))
  · match o, ho with
    | .inl b, ⟨h1, h2⟩ => subst h1; exact .ret (by simp [h2])
    | .inr _, h => exact .ret (by simpa using h)

theorem rvalid_plain {g : T_api_Graph} {p : Pl} (hp : Len p) : ref28_valid_m g p = some (errV g.N p) := by
  refine T.eq ?_
  unfold ref28_valid_m errV
  refine T.bind (Set_plain hp.po) fun r hr => ?_
  refine T.cond (fun h => ?_) fun h => ?_
  · simp at h
    rw [if_pos (fun hh => by rw [hr.2 hh.1] at h; cases h)]; exact .ret rfl
  · simp at h
    refine T.bind (Set_plain hp.wi) fun r2 hr2 => ?_
    refine T.cond (fun h2 => ?_) fun h2 => ?_
    · simp at h2
      rw [if_pos (fun hh => by rw [hr2.2 hh.2] at h2; cases h2)]; exact .ret rfl
    · simp at h2
      rw [if_neg (fun hh => hh ⟨hr.1 h, hr2.1 h2⟩)]
      refine T.cond (fun h1 => ?_) fun h1 => ?_
      · simp at h1; rw [if_pos (.inl h1)]; exact .ret rfl
      · simp at h1
        refine T.cond (fun h2 => ?_) fun h2 => ?_
        · simp at h2; rw [if_pos (.inr h2)]; exact .ret rfl
        · simp at h2; rw [if_neg (by omega)]; exact .ret rfl

theorem rattackers_plain {g : T_api_Graph} (hl : g.L.length ≤ 100000000) {a : Int} : ref28_attackers_m g a = some (attN g a) := by
  unfold ref28_attackers_m
  refine T.eq (T.bind (P := fun r => r = attN g a) ?_ fun r hr => .ret hr)
  refine T.loopK g.L.length (fun i s => s.2 = (i : Int) ∧ i ≤ g.L.length ∧ s.1 = (((g.L.take i).filter fun p => p.To == a).length : Int)) ⟨rfl, by omega, by simp⟩ ?_
  rintro i ⟨_, _⟩ ⟨rfl, hi, rfl⟩
  dsimp only [ref28_attackers_l1]
  refine T.cond (fun g1 => ?_) fun g1 => ?_
  · simp only [decide_eq_true_eq] at g1
    have g' : i < g.L.length := by omega
    have h1 := att_take (a := a) g'
    have h2 := List.length_filter_le (fun p : T_api_Pair => p.To == a) (g.L.take i)
    simp at h2
    rw [idxM_nat g', some_bind, iadd1 (n := i) (by omega)]
    refine T.cond (fun h => .letM (.letM (.ret ⟨g', rfl, g', ?_⟩))) fun h => .letM (.ret ⟨g', rfl, g', ?_⟩)
    · rw [if_pos h] at h1
      dsimp only
      rw [h1, iadd1 (by omega)]
    · rw [if_neg (by rw [h]; simp)] at h1
      dsimp only
      rw [h1]; rfl
  · simp only [decide_eq_false_iff_not] at g1
    refine .ret (show _ = attN g a from ?_)
    rw [List.take_of_length_le (by omega)]; rfl

section
variable {d : Dg} (hd : Dlg d) (hg : GVal d.Graph) {tb : T_protocol_table} (ht : TabOk d tb) {p : Pl} (hp : Len p)
include hd hg ht hp

theorem rscripted_plain (hr : (outF d (sf tb.status) (bf tb.leading)).Reason = 0) {l : List Mv} (hl : l.length ≤ 100000000) :
    T (ref28_scripted_m d p l) fun r => r.2 = scrB d (sf tb.status) (bf tb.leading) p l ∧ (r.2 = true → r.1 = stored (scrM d (sf tb.status) p)) := by
  have hn := hd.n2; have h1n := hd.n1; have hLn := hd.Ln
  have hsc := hp.sc
  unfold ref28_scripted_m
  rw [rTurn_plain hd ht hg, some_bind, if_pos hr]
  refine T.bind (P := fun k => k = (madeK d.Moves (3 - lead (sf tb.status)) : Int)) ?_ ?_
  · refine T.loopK d.Moves.length (fun i s => s.2 = ((i + 1 : Nat) : Int) ∧ i + 1 ≤ d.Moves.length ∧ s.1 = (madeK (d.Moves.take (i + 1)) (3 - lead (sf tb.status)) : Int)) ⟨rfl, by omega, ?_⟩ ?_
    · have h0 := hd.hd
      match hm : d.Moves, h1n with
      | x :: rest, _ =>
        rw [hm] at h0
        simp [mv, List.getD] at h0
        simp [madeK, h0]
    rintro i ⟨_, _⟩ ⟨rfl, hi, rfl⟩
    dsimp only [ref28_scripted_l1]
    refine T.cond (fun g => ?_) fun g => ?_
    · simp only [decide_eq_true_eq] at g
      have g' : i + 1 < d.Moves.length := by omega
      have h1 := madeK_take (p := 3 - lead (sf tb.status)) g'
      have h2 := madeK_le (d.Moves.take (i + 1)) (3 - lead (sf tb.status))
      simp at h2
      have hkind : (d.Moves[i + 1].Kind != 1) = true := by
        have := hd.kind g'
        have em : mv d.Moves (i + 1) = d.Moves[i + 1] := by simp [mv, List.getD, g']
        rw [em] at this
        simp; omega
      rw [hkind, Bool.and_true] at h1
      rw [idxM_nat g', some_bind, iadd1 (n := i + 1) (by omega), iadd1 (by omega)]
      refine T.cond (fun h => .letM (.letM (.ret ⟨by omega, rfl, g', ?_⟩))) fun h => .letM (.ret ⟨by omega, rfl, g', ?_⟩)
      · rw [if_pos h] at h1
        dsimp only; rw [h1]
      · rw [if_neg (by rw [h]; simp)] at h1
        dsimp only; rw [h1]; rfl
    · simp only [decide_eq_false_iff_not] at g
      refine .ret (show _ = (madeK d.Moves _ : Int) from ?_)
      rw [List.take_of_length_le (by omega)]
  · rintro _ rfl
    unfold scrB
    refine T.cond (fun g => ?_) fun g => ?_
    · simp only [ge_iff_le, decide_eq_true_eq] at g
      rw [if_neg (by omega)]
      exact .ret ⟨rfl, fun h => by cases h⟩
    · simp only [ge_iff_le, decide_eq_false_iff_not] at g
      rw [if_pos (by omega), idxM_getD (z := ⟨0, 0, 0, 0⟩) (by omega), some_bind]
      have em : (T_api_Move.mk (3 - lead (sf tb.status)) (p.Script.getD (madeK d.Moves (3 - lead (sf tb.status))) ⟨0, 0, 0, 0⟩).Kind (p.Script.getD (madeK d.Moves (3 - lead (sf tb.status))) ⟨0, 0, 0, 0⟩).Node
          (p.Script.getD (madeK d.Moves (3 - lead (sf tb.status))) ⟨0, 0, 0, 0⟩).Target) = scrM d (sf tb.status) p := rfl
      have ek : (p.Script.getD (madeK d.Moves (3 - lead (sf tb.status))) ⟨0, 0, 0, 0⟩).Kind = (scrM d (sf tb.status) p).Kind := rfl
      rw [em]
      refine T.cond (fun h => ?_) fun h => ?_
      · have h' : (scrM d (sf tb.status) p).Kind = 2 := by rw [← ek]; simpa using h
        rw [if_pos h']
        have es : stored (scrM d (sf tb.status) p) = scrM d (sf tb.status) p := by unfold stored; rw [if_neg (by omega), if_pos h']
        rw [any_loop (l := l) (p := fun x => decide (x = scrM d (sf tb.status) p)) (scrM d (sf tb.status) p, true) (fun i hi => ?_) ?_, some_bind]
        · by_cases hx : scrM d (sf tb.status) p ∈ l
          · have : (l.any fun x => decide (x = scrM d (sf tb.status) p)) = true := by simpa using hx
            rw [this]
            exact .ret ⟨(decide_eq_true hx).symm, fun _ => es.symm⟩
          · have : (l.any fun x => decide (x = scrM d (sf tb.status) p)) = false := by
              rw [List.any_eq_false]; intro y hy hh; simp at hh; subst hh; exact hx hy
            rw [this]
            exact .ret ⟨(decide_eq_false hx).symm, fun h => by cases h⟩
        · simp only [ref28_scripted_l2]
          rw [show decide ((l.length : Int) < l.length) = false from decide_eq_false (by omega)]; rfl
        · simp only [ref28_scripted_l2]
          rw [show decide ((i : Int) < l.length) = true from decide_eq_true (by omega), idxM_nat hi, some_bind, iadd1 (by omega), em]
          cases decide (l[i] = scrM d (sf tb.status) p) <;> rfl
      · have h' : ¬ (scrM d (sf tb.status) p).Kind = 2 := by rw [← ek]; simpa using h
        rw [if_neg h']
        refine T.bind (rApply2 hd ht hg (m := scrM d (sf tb.status) p)) fun r hrr => ?_
        rcases hrr with ⟨h2, _, x, hx, h3⟩ | ⟨h2, h3⟩
        · refine T.cond (fun hh => by simp [h2] at hh) fun _ => ?_
          rw [h3]
          have el : ((push d x).Moves.length : Int) = ((d.Moves.length + 1 : Nat) : Int) := by simp [push]
          rw [el, isub1 (by omega), show (((d.Moves.length + 1 : Nat) : Int) - 1) = (d.Moves.length : Int) from by omega, idxM_nat (by simp [push]), some_bind]
          refine .ret ⟨(@decide_eq_true _ (Classical.propDecidable _) ⟨x, hx⟩).symm, fun _ => ?_⟩
          simp only [push]
          rw [List.getElem_append_right (Nat.le_refl _)]
          simp [hx.eq]
        · refine T.cond (fun _ => .ret ⟨?_, fun h => by cases h⟩) fun hh => by simp at hh; exact absurd hh h2
          rcases h3 with h3 | h3
          · exact absurd hr h3
          · exact (@decide_eq_false _ (Classical.propDecidable _) fun ⟨x, hx⟩ => h3 x hx).symm

theorem rChoose_plain {L : List Mv} (hL : ref27_Legal_m d = some L) (hl : L.length ≤ 8000) : T (ref28_Choose_m d p) fun r =>
    r = if (outF d (sf tb.status) (bf tb.leading)).Reason ≠ 0 then (⟨0, 0, 0, 0⟩, 7) else if errV d.Graph.N p ≠ 0 then (⟨0, 0, 0, 0⟩, errV d.Graph.N p)
      else (choF d (sf tb.status) (bf tb.leading) p (L.filter (keepF p)), 0) := by
  have hn := hd.n2; have h1n := hd.n1; have hLn := hd.Ln
  have hl2 := lead_12 (sf tb.status)
  unfold ref28_Choose_m
  rw [rTurn_plain hd ht hg, some_bind]
  by_cases hr : (outF d (sf tb.status) (bf tb.leading)).Reason = 0
  · rw [if_pos hr, if_neg (fun h => h hr), rvalid_plain hp, some_bind]
    refine T.cond (fun h => by simp at h; omega) fun _ => ?_
    refine T.cond (fun h => ?_) fun h => ?_
    · have h' : errV d.Graph.N p ≠ 0 := by simpa using h
      rw [if_pos h']; exact .ret rfl
    · have h' : errV d.Graph.N p = 0 := by simpa using h
      rw [if_neg (fun hh => hh h'), rAttacks_plain hp hL (by omega), some_bind]
      have hfl := List.length_filter_le (keepF p) L
      refine T.bind (rscripted_plain hd hg ht hp hr (l := L.filter (keepF p)) (by omega)) fun r ⟨h1, h2⟩ => ?_
      unfold choF
      refine T.cond (fun h3 => ?_) fun h3 => ?_
      · rw [h3] at h1
        rw [if_pos h1.symm, ← h2 h3]; exact .ret rfl
      · rw [h3] at h1
        rw [if_neg (fun hh => by rw [hh] at h1; cases h1)]
        generalize hq : L.filter (keepF p) = q at *
        match q, hq with
        | [], hq => exact T.cond (fun _ => by rw [some_bind]; exact .ret rfl) fun h4 => by simp at h4
        | y :: t, hq =>
          refine T.cond (fun h4 => by simp at h4; omega) fun _ => ?_
          rw [show idxM (y :: t) 0 = some y from rfl, some_bind]
          have hlen : (y :: t).length ≤ 8000 := by omega
          have hml := min_loop (x := y :: t) (better := betterF d.Graph p.Style) (f := ref28_Choose_l1 d p (y :: t)) 0 (by omega) (fun i hi m => ?_) (fun m => ?_) y
          · rw [show (0 : Int) = ((0 : Nat) : Int) from rfl, hml, some_bind]
            refine .ret ?_
            have : pickF (betterF d.Graph p.Style) y ((y :: t).drop 0) = pickF (betterF d.Graph p.Style) y t := by
              show pickF _ (bif _ then y else y) t = _
              cases betterF d.Graph p.Style y y <;> rfl
            rw [this]
          · simp only [ref28_Choose_l1]
            rw [show decide ((i : Int) < (y :: t).length) = true from decide_eq_true (by omega), idxM_nat hi, some_bind, iadd1 (by omega)]
            simp only [cond_true, betterF, rattackers_plain (show d.Graph.L.length ≤ 100000000 by omega), some_bind]
            by_cases k2 : p.Style = 2
            · rw [show (p.Style == 2) = true from by simp [k2], show (p.Style == 3) = false from by simp [k2]]
              simp only [cond_true, cond_false, gt_iff_lt]
              cases decide (m.Target < (y :: t)[i].Target) <;> rfl
            · rw [show (p.Style == 2) = false from by simp [k2]]
              by_cases k3 : p.Style = 3
              · rw [show (p.Style == 3) = true from by simp [k3]]
                simp only [cond_true, cond_false]
                cases decide (attN d.Graph (y :: t)[i].Node < attN d.Graph m.Node) <;> rfl
              · rw [show (p.Style == 3) = false from by simp [k3]]
                rfl
          · simp only [ref28_Choose_l1]
            rw [show decide (((y :: t).length : Int) < (y :: t).length) = false from decide_eq_false (by omega)]; rfl
  · rw [if_neg hr, if_pos hr]
    exact T.cond (fun _ => .ret rfl) fun h => by simp at h
end
end Go.Dc
