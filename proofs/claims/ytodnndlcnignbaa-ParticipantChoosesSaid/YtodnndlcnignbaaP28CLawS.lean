/- Part P28C.LawS of a proof: lemmas. -/
import Derived.Test.YtodnndlcnignbaaP28CRApply
import Derived.Test.YtodnndlcnignbaaP28CAwake
set_option linter.unusedVariables false
set_option linter.unusedSimpArgs false
/-! What a player says. -/
namespace Go.Dc

def cut (e : Dg) (i : Nat) : Dg := ⟨e.Graph, e.Root, e.Limits, e.Moves.take i⟩

/-- every move of a play has been chosen by its player -/
theorem play_at {p1 p2 : Pl} {d0 : Dg} {e : Dg} (h : Play p1 p2 d0 e) : ∀ i, d0.Moves.length ≤ i → i < e.Moves.length → ∃ tb L, Dlg (cut e i) ∧ protocol_of_m (cut e i) = some tb ∧ TabOk (cut e i) tb ∧ (outF (cut e i) (sf tb.status) (bf tb.leading)).Reason = 0 ∧
    protocol_Legal_m (cut e i) = some L ∧ mv e.Moves i = chosen (cut e i) tb L (plF p1 p2 (3 - lead (sf tb.status))) := by
  induction h with
  | start => intro i h1 h2; omega
  | @step d tb L h hd e ht hr hL ih =>
    intro i h1 h2
    have hl : (push d (chosen d tb L (plF p1 p2 (3 - lead (sf tb.status))))).Moves.length = d.Moves.length + 1 := by simp [push]
    rw [hl] at h2
    have hc : ∀ j, j ≤ d.Moves.length → cut (push d (chosen d tb L (plF p1 p2 (3 - lead (sf tb.status))))) j = cut d j := fun j hj => by
      unfold cut push
      simp [List.take_append_of_le_length hj]
    rw [hc i (by omega)]
    by_cases hi : i = d.Moves.length
    · subst hi
      have he : cut d d.Moves.length = d := by unfold cut; simp
      rw [he]
      exact ⟨tb, L, hd, e, ht, hr, hL, mv_new⟩
    · have := ih i h1 (by omega)
      rwa [show mv (push d (chosen d tb L (plF p1 p2 (3 - lead (sf tb.status))))).Moves i = mv d.Moves i from mv_app (by omega)]

theorem netIn_plain {l : List Int} (hl : l.length ≤ 100000000) {x : Int} : net_In_m l x = some (decide (x ∈ l)) := by
  unfold net_In_m
  rw [any_bind (l := l) (p := fun y => y == x) (fun i hi => ?_) ?_]
  · congr 1
    by_cases h : x ∈ l
    · simp [h]
    · simp only [decide_eq_false h]
      rw [List.any_eq_false]
      intro y hy hh
      simp at hh; subst hh; exact h hy
  · simp only [net_In_l1]
    rw [show decide ((l.length : Int) < l.length) = false from decide_eq_false (by omega)]
    rfl
  · simp only [net_In_l1]
    rw [show decide ((i : Int) < l.length) = true from decide_eq_true (by omega), idxM_nat hi, some_bind, iadd1 (by omega)]
    cases l[i] == x <;> rfl

/-- the reference's attacks of a player -/
theorem rAttacks_plain {d : Dg} {p : Pl} (hp : Len p) {L : List Mv} (hL : ref27_Legal_m d = some L) (hl : L.length ≤ 1000000) : ref28_Attacks_m d p = some (L.filter (keepF p)) := by
  have h1 := hp.po; have h2 := hp.wi
  refine T.eq ?_
  unfold ref28_Attacks_m
  rw [hL, some_bind]
  refine T.bind (P := fun q => q = L.filter (keepF p)) ?_ fun q hq => .ret hq
  refine T.loopK L.length (fun i s => s.1 = (i : Int) ∧ i ≤ L.length ∧ s.2 = (L.take i).filter (keepF p)) ⟨rfl, by omega, by simp⟩ ?_
  rintro i ⟨_, _⟩ ⟨rfl, hi, rfl⟩
  dsimp only [ref28_Attacks_l1]
  refine T.cond (fun g => ?_) fun g => ?_
  · simp at g
    have htk : L.take (i + 1) = L.take i ++ [L[i]] := List.take_succ_eq_append_getElem g
    have hfl := List.length_filter_le (keepF p) (L.take i)
    simp at hfl
    rw [idxM_nat g, some_bind]
    refine T.joinP (fun j => j = keepF p L[i]) (fun j hj => ?_) fun k hk => ?_
    · subst hj
      rw [iadd1 (by omega)]
      refine T.cond (fun h => ?_) fun h => .ret ⟨g, rfl, by omega, ?_⟩
      · rw [appM_eq (by simp; omega), some_bind]
        refine .ret ⟨g, rfl, by omega, ?_⟩
        dsimp only; rw [htk, List.filter_append]; simp [h]
      · dsimp only; rw [htk, List.filter_append]; simp [h]
    · rw [netIn_plain h1, some_bind]
      unfold keepF at hk
      refine T.cond (fun h => ?_) fun h => hk _ (by rw [h]; rfl)
      rw [netIn_plain h2, some_bind]
      exact hk _ (by rw [h]; rfl)
  · simp at g
    refine .ret (show _ = _ from ?_)
    rw [List.take_of_length_le (by omega)]

theorem pairs_refl {l : List T_api_Pair} (hl : l.length ≤ 1000000) : net_Pairs_m l l = some true := by
  unfold net_Pairs_m
  refine T.eq ?_
  refine T.cond (fun h => by simp at h) fun _ => ?_
  refine T.bind (P := fun o => match o with | .inl _ => False | .inr _ => True) ?_ fun o ho => ?_
  · refine T.loopK l.length (fun i s => s = (i : Int) ∧ i ≤ l.length) ⟨rfl, by omega⟩ ?_
    rintro i _ ⟨rfl, hi⟩
    dsimp only [net_Pairs_l1]
    refine T.cond (fun g => ?_) fun g => ?_
    · simp at g
      rw [idxM_nat g, some_bind, some_bind]
      refine T.cond (fun h => by simp at h) fun _ => ?_
      rw [iadd1 (by omega)]
      exact .ret ⟨g, rfl, by omega⟩
    · exact .ret trivial
  · match o, ho with
    | .inr _, _ => exact .ret rfl

theorem same_refl {d : Dg} (hd : Dlg d) : ref27_Same_m d d = some true := by
  have hn := hd.n2; have hLn := hd.Ln
  refine T.eq ?_
  unfold ref27_Same_m net_Same_m
  rw [show (d.Graph.N == d.Graph.N) = true from by simp, cond_true, pairs_refl (by omega)]
  simp only [some_bind, cond_true]
  refine T.cond (fun _ => T.cond (fun _ => ?_) fun h => by simp at h) fun h => by simp at h
  unfold ref27_SameMoves_m
  refine T.bind (P := fun b => b = true) ?_ fun b hb => .ret hb
  refine T.cond (fun h => by simp at h) fun _ => ?_
  refine T.bind (P := fun o => match o with | .inl _ => False | .inr _ => True) ?_ fun o ho => ?_
  · refine T.loopK d.Moves.length (fun i s => s = (i : Int) ∧ i ≤ d.Moves.length) ⟨rfl, by omega⟩ ?_
    rintro i _ ⟨rfl, hi⟩
    dsimp only [ref27_SameMoves_l1]
    refine T.cond (fun g => ?_) fun g => ?_
    · simp at g
      rw [idxM_nat g, some_bind, some_bind]
      refine T.cond (fun h => by simp at h) fun _ => ?_
      rw [iadd1 (by omega)]
      exact .ret ⟨g, rfl, by omega⟩
    · exact .ret trivial
  · match o, ho with
    | .inr _, _ => exact .ret rfl

end Go.Dc
