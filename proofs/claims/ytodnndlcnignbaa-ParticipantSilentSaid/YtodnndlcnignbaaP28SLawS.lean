/- Part P28S.LawS of a proof that a law of the program returns true: general lemmas, no condition. -/
import Derived.Test.YtodnndlcnignbaaP28SRApply
import Derived.Test.YtodnndlcnignbaaP28SAwake
set_option linter.unusedVariables false
set_option linter.unusedSimpArgs false
/-! What a player says. -/
namespace Go.Dc

def cut (e : Dg) (i : Nat) : Dg := ⟨e.Graph, e.Root, e.Limits, e.Moves.take i⟩

/-- every move of a play has been chosen by its player -/
theorem play_at {p1 p2 : Pl} {d0 : Dg} {e : Dg} (h : Play p1 p2 d0 e) : ∀ i, d0.Moves.length ≤ i → i < e.Moves.length → ∃ tb L, Dlg (cut e i) ∧ protocol_of_m (cut e i) = some tb ∧ TabOk (cut e i) tb ∧ (outF (cut e i) (sf tb.status) (bf tb.leading)).Reason = 0 ∧
    protocol_Legal_m (cut e i) = some L ∧ mv e.Moves i = chosen (cut e i) tb L (plF p1 p2 (3 - lead (sf tb.status))) := by
  induction h with
  | start => intro i h1 h2; omega
  | @step d tb L h hd e ht hr hL ih =>
    intro i h1 h2
    have hl : (push d (chosen d tb L (plF p1 p2 (3 - lead (sf tb.status))))).Moves.length = d.Moves.length + 1 := by simp [push]
    rw [hl] at h2
    have hc : ∀ j, j ≤ d.Moves.length → cut (push d (chosen d tb L (plF p1 p2 (3 - lead (sf tb.status))))) j = cut d j := fun j hj => by
      unfold cut push
      simp [List.take_append_of_le_length hj]
    rw [hc i (by omega)]
    by_cases hi : i = d.Moves.length
    · subst hi
      have he : cut d d.Moves.length = d := by unfold cut; simp
      rw [he]
      exact ⟨tb, L, hd, e, ht, hr, hL, mv_new⟩
    · have := ih i h1 (by omega)
      rwa [show mv (push d (chosen d tb L (plF p1 p2 (3 - lead (sf tb.status))))).Moves i = mv d.Moves i from mv_app (by omega)]

theorem netIn_plain {l : List Int} (hl : l.length ≤ 100000000) {x : Int} : net_In_m l x = some (decide (x ∈ l)) := by
  unfold net_In_m
  rw [any_bind (l := l) (p := fun y => y == x) (fun i hi => ?_) ?_]
  · congr 1
    by_cases h : x ∈ l
    · simp [h]
    · simp only [decide_eq_false h]
      rw [List.any_eq_false]
      intro y hy hh
      simp at hh; subst hh; exact h hy
  · simp only [net_In_l1]
    rw [show decide ((l.length : Int) < l.length) = false from decide_eq_false (by omega)]
    rfl
  · simp only [net_In_l1]
    rw [show decide ((i : Int) < l.length) = true from decide_eq_true (by omega), idxM_nat hi, some_bind, iadd1 (by omega)]
    cases l[i] == x <;> rfl

theorem keepIn_plain {l : List Int} (hl : l.length ≤ 100000000) {x : Int} : keep_In_m l x = some (decide (x ∈ l)) := by
  unfold keep_In_m
  rw [any_bind (l := l) (p := fun y => y == x) (fun i hi => ?_) ?_]
  · congr 1
    by_cases h : x ∈ l
    · simp [h]
    · simp only [decide_eq_false h]
      rw [List.any_eq_false]
      intro y hy hh
      simp at hh; subst hh; exact h hy
  · simp only [keep_In_l1]
    rw [show decide ((l.length : Int) < l.length) = false from decide_eq_false (by omega)]
    rfl
  · simp only [keep_In_l1]
    rw [show decide ((i : Int) < l.length) = true from decide_eq_true (by omega), idxM_nat hi, some_bind, iadd1 (by omega)]
    cases l[i] == x <;> rfl

/-- the reference's attacks of a player -/
theorem rAttacks_plain {d : Dg} {p : Pl} (hp : Len p) {L : List Mv} (hL : ref27_Legal_m d = some L) (hl : L.length ≤ 1000000) : ref28_Attacks_m d p = some (L.filter (keepF p)) := by
  have h1 := hp.po; have h2 := hp.wi
  refine T.eq ?_
  unfold ref28_Attacks_m
  rw [hL, some_bind]
  refine T.bind (P := fun q => q = L.filter (keepF p)) ?_ fun q hq => .ret hq
  refine T.loopK L.length (fun i s => s.1 = (i : Int) ∧ i ≤ L.length ∧ s.2 = (L.take i).filter (keepF p)) ⟨rfl, by omega, by simp⟩ ?_
  rintro i ⟨_, _⟩ ⟨rfl, hi, rfl⟩
  dsimp only [ref28_Attacks_l1]
  refine T.cond (fun g => ?_) fun g => ?_
  · simp at g
    have htk : L.take (i + 1) = L.take i ++ [L[i]] := List.take_succ_eq_append_getElem g
    have hfl := List.length_filter_le (keepF p) (L.take i)
    simp at hfl
    rw [idxM_nat g, some_bind]
    refine T.joinP (fun j => j = keepF p L[i]) (fun j hj => ?_) fun k hk => ?_
    · subst hj
      rw [iadd1 (by omega)]
      refine T.cond (fun h => ?_) fun h => .ret ⟨g, rfl, by omega, ?_⟩
      · rw [appM_eq (by simp; omega), some_bind]
        refine .ret ⟨g, rfl, by omega, ?_⟩
        dsimp only; rw [htk, List.filter_append]; simp [h]
      · dsimp only; rw [htk, List.filter_append]; simp [h]
    · rw [netIn_plain h1, some_bind]
      unfold keepF at hk
      refine T.cond (fun h => ?_) fun h => hk _ (by rw [h]; rfl)
      rw [netIn_plain h2, some_bind]
      exact hk _ (by rw [h]; rfl)
  · simp at g
    refine .ret (show _ = _ from ?_)
    rw [List.take_of_length_le (by omega)]

theorem pairs_refl {l : List T_api_Pair} (hl : l.length ≤ 1000000) : net_Pairs_m l l = some true := by
  unfold net_Pairs_m
  refine T.eq ?_
  refine T.cond (fun h => by simp at h) fun _ => ?_
  refine T.bind (P := fun o => match o with | .inl _ => False | .inr _ => True) ?_ fun o ho => ?_
  · refine T.loopK l.length (fun i s => s = (i : Int) ∧ i ≤ l.length) ⟨rfl, by omega⟩ ?_
    rintro i _ ⟨rfl, hi⟩
    dsimp only [net_Pairs_l1]
    refine T.cond (fun g => ?_) fun g => ?_
    · simp at g
      rw [idxM_nat g, some_bind, some_bind]
      refine T.cond (fun h => by simp at h) fun _ => ?_
      rw [iadd1 (by omega)]
      exact .ret ⟨g, rfl, by omega⟩
    · exact .ret trivial
  · match o, ho with
    | .inr _, _ => exact .ret rfl

theorem same_refl {d : Dg} (hd : Dlg d) : ref27_Same_m d d = some true := by
  have hn := hd.n2; have hLn := hd.Ln
  refine T.eq ?_
  unfold ref27_Same_m net_Same_m
  rw [show (d.Graph.N == d.Graph.N) = true from by simp, cond_true, pairs_refl (by omega)]
  simp only [some_bind, cond_true]
  refine T.cond (fun _ => T.cond (fun _ => ?_) fun h => by simp at h) fun h => by simp at h
  unfold ref27_SameMoves_m
  refine T.bind (P := fun b => b = true) ?_ fun b hb => .ret hb
  refine T.cond (fun h => by simp at h) fun _ => ?_
  refine T.bind (P := fun o => match o with | .inl _ => False | .inr _ => True) ?_ fun o ho => ?_
  · refine T.loopK d.Moves.length (fun i s => s = (i : Int) ∧ i ≤ d.Moves.length) ⟨rfl, by omega⟩ ?_
    rintro i _ ⟨rfl, hi⟩
    dsimp only [ref27_SameMoves_l1]
    refine T.cond (fun g => ?_) fun g => ?_
    · simp at g
      rw [idxM_nat g, some_bind, some_bind]
      refine T.cond (fun h => by simp at h) fun _ => ?_
      rw [iadd1 (by omega)]
      exact .ret ⟨g, rfl, by omega⟩
    · exact .ret trivial
  · match o, ho with
    | .inr _, _ => exact .ret rfl

theorem law28_ParticipantSilent_plain (l : List Int) (_ : l.length ≤ maxLen ∧ ∀ x ∈ l, (Lit.int .i64 x).wf = true) : law28_ParticipantSilent_m l = some true := by
  refine T.eq ?_
  unfold law28_ParticipantSilent_m
  refine T.bind New_plain fun s hs => T.bind (Graph_plain hs (by omega) (by omega)) fun t ⟨hg, hN, hN5, hL, ht⟩ => ?_
  refine T.bind (N_plain ht (by omega)) fun root ⟨hr, hb⟩ => ?_
  have hb := hb (by omega)
  rw [rNew_plain hg (by omega) hb.1 hb.2 (by simp), some_bind]
  refine T.bind (player_plain hr hg (by omega) hN) fun o1 ⟨ho1, hos⟩ => ?_
  refine T.bind (player_plain hos hg (by omega) hN) fun o2 ⟨ho2, hos2⟩ => ?_
  have h0 : Dlg (begin t.1 root.1 ⟨30, 30⟩) := begin_dlg hg (by omega) hb.1 hb.2 (by simp)
  refine T.bind (Run_plain h0 hg.ok ho1.len ho2.len) fun r hr => ?_
  rw [if_neg (fun h => h ho1.err), if_neg (fun h => h ho2.err)] at hr
  obtain ⟨hr0, hp, hd, hgr, tb, e, htb, hre⟩ := hr
  have hgr' : r.1.Graph = t.1 := hgr
  refine T.cond (fun h => by simp [hr0] at h) fun _ => ?_
  have h1n := hd.n1; have h2n := hd.n2
  refine T.cond (fun h => by simp at h; rw [h] at h1n; simp at h1n) fun _ => ?_
  rw [rEnd_plain hd htb (by rw [hgr']; exact hg), some_bind, awake_plain]
  refine T.cond (fun h => by simp at h; rw [h] at hre; exact absurd rfl hre) fun _ => ?_
  have hpl : (begin t.1 root.1 ⟨30, 30⟩).Moves.length = 1 := rfl
  have hrl := play_lim hp (begin_lim (by simp))
  refine T.bind (P := fun o => match o with | .inl _ => False | .inr d => d = r.1) ?_ fun o ho => ?_
  · refine T.loopK r.1.Moves.length (fun i s => s.1 = ((i + 1 : Nat) : Int) ∧ i + 1 ≤ r.1.Moves.length ∧ s.2 = cut r.1 (i + 1)) ⟨rfl, by omega, ?_⟩ ?_
    · dsimp only
      unfold cut
      have hm1 : r.1.Moves.take 1 = [⟨1, 1, root.1, 0⟩] := by
        have h := hd.hd
        rw [hrl.2.2] at h
        match hm : r.1.Moves, h1n with
        | x :: rest, _ =>
          rw [hm] at h
          simp [mv, List.getD] at h
          simp [h, begin]
      rw [hm1, hgr', hrl.2.1, hrl.2.2]; rfl
    rintro i ⟨_, _⟩ ⟨rfl, hi, rfl⟩
    dsimp only [law28_ParticipantSilent_l1]
    refine T.cond (fun g => ?_) fun g => ?_
    · have g : i + 1 < r.1.Moves.length := by simp only [decide_eq_true_eq] at g; omega
      obtain ⟨tb', L, hd', e', ht', hr', hL', hm⟩ := play_at hp (i + 1) (by rw [hpl]; omega) g
      rw [idx_mv g, some_bind]
      have hacc := chosen_acc hd' e' ht' hr' hL' (p := plF o1.1 o2.1 (3 - lead (sf tb'.status)))
      rw [← hm] at hacc
      have hby := hacc.1
      have hl2 := lead_12 (sf tb'.status)
      refine T.cond (fun h => by simp at h; omega) fun _ => T.cond (fun h => by simp at h; omega) fun _ => ?_
      have hidx : idxM [o1.1, o2.1] (isub .i64 (mv r.1.Moves (i + 1)).By 1) = some (plF o1.1 o2.1 (3 - lead (sf tb'.status))) := by
        rw [hby]; rcases hl2 with h | h <;> rw [h] <;> rfl
      rw [hidx, some_bind]
      have hok : PlOk t.1.N (plF o1.1 o2.1 (3 - lead (sf tb'.status))) := by unfold plF; split; exact ho1; exact ho2
      have hg' : GVal (cut r.1 (i + 1)).Graph := by show GVal r.1.Graph; rw [hgr']; exact hg
      refine T.joinP (fun _ => True) (fun _ _ => ?_) fun k hk => ?_
      · refine T.joinP (fun _ => True) (fun _ _ => ?_) fun k hk => ?_
        · refine T.bind (rApply2 hd' ht' hg' (m := mv r.1.Moves (i + 1))) fun a ha => ?_
          rcases ha with ⟨h2, _, x, hx, h3⟩ | ⟨_, h2 | h2⟩
          · refine T.cond (fun h => by simp [h2] at h) fun _ => ?_
            rw [iadd1 (by omega)]
            refine .letM (.ret ⟨by omega, rfl, by omega, ?_⟩)
            dsimp only
            rw [h3, hx.eq, ← hacc.eq]
            unfold push cut
            rw [List.take_succ_eq_append_getElem g]
            simp [mv, List.getD, g]
          · exact absurd hr' h2
          · exact absurd hacc (h2 _)
        · refine T.cond (fun hk4 => T.cond (fun hs0 => ?_) fun _ => hk _ trivial) fun _ => hk _ trivial
          have hk4 : (mv r.1.Moves (i + 1)).Kind = 4 := by simpa using hk4
          have hs0 : (plF o1.1 o2.1 (3 - lead (sf tb'.status))).Script = [] := by simpa using hs0
          obtain ⟨RL, hRL, hr1, _, hr3⟩ := rLegal_plain hd' ht' hg'
          rw [rAttacks_plain hok.len hRL (by omega), some_bind]
          refine T.cond (fun h => ?_) fun _ => hk _ trivial
          exfalso
          rcases chosen_plain hd' e' ht' hr' hL' hs0 with ⟨h5, _⟩ | ⟨_, h5⟩
          · rw [← hm] at h5; omega
          · have : RL.filter (keepF (plF o1.1 o2.1 (3 - lead (sf tb'.status)))) = [] := List.filter_eq_nil_iff.2 fun x hx hh => by
              rw [h5 x ((hr1 hr' x).1 hx)] at hh; cases hh
            rw [this] at h; simp at h
      · refine T.cond (fun hk2 => ?_) fun _ => hk _ trivial
        have hk2 : (mv r.1.Moves (i + 1)).Kind = 2 := by simpa using hk2
        have hkeep := chosen_keep (d := cut r.1 (i + 1)) (tb := tb') (L := L) (p := plF o1.1 o2.1 (3 - lead (sf tb'.status))) (by rw [← hm]; exact hk2)
        rw [← hm] at hkeep
        unfold keepF at hkeep
        rw [Bool.and_eq_true] at hkeep
        rw [keepIn_plain hok.len.po, some_bind]
        refine T.cond (fun h => by rw [hkeep.1] at h; cases h) fun _ => ?_
        rw [keepIn_plain hok.len.wi, some_bind]
        exact T.cond (fun h => by have := hkeep.2; rw [h] at this; cases this) fun _ => hk _ trivial
    · have g : ¬ i + 1 < r.1.Moves.length := by simp only [decide_eq_false_iff_not] at g; omega
      refine .ret (show cut r.1 (i + 1) = r.1 from ?_)
      unfold cut
      rw [List.take_of_length_le (by omega)]
  · match o, ho with
    | .inr d, h =>
      simp only [sumK]
      have h : d = r.1 := h
      rw [h, same_refl hd, some_bind]
      exact .ret rfl
end Go.Dc
