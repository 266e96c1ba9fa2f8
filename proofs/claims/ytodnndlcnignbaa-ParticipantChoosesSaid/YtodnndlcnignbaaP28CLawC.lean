/- Part P28C.LawC of a proof: lemmas. -/
import Derived.Test.YtodnndlcnignbaaP28CValid
set_option linter.unusedVariables false
set_option linter.unusedSimpArgs false
/-! The program chooses and plays as the reference does. -/
namespace Go.Dc

theorem ints_refl {l : List Int} (hl : l.length ≤ 1000000) : keep_Ints_m l l = some true := by
  unfold keep_Ints_m
  refine T.eq ?_
  refine T.cond (fun h => by simp at h) fun _ => ?_
  refine T.bind (P := fun o => match o with | .inl _ => False | .inr _ => True) ?_ fun o ho => ?_
  · refine T.loopK l.length (fun i s => s = (i : Int) ∧ i ≤ l.length) ⟨rfl, by omega⟩ ?_
    rintro i _ ⟨rfl, hi⟩
    dsimp only [keep_Ints_l1]
    refine T.cond (fun g => ?_) fun g => ?_
    · simp at g
      rw [idxM_nat g, some_bind, some_bind]
      refine T.cond (fun h => by simp at h) fun _ => ?_
      rw [iadd1 (by omega)]
      exact .ret ⟨g, rfl, by omega⟩
    · exact .ret trivial
  · match o, ho with
    | .inr _, _ => exact .ret rfl

theorem choose_both {d : Dg} (hd : Dlg d) (hg : GVal d.Graph) {p : Pl} (hp : Len p) : ∃ r, participant_Choose_m d p = some r ∧ ref28_Choose_m d p = some r := by
  obtain ⟨tb, e, ht⟩ := T_of hd
  obtain ⟨L, hL, hRL, hl⟩ := legal_same hd ht hg e
  obtain ⟨r, h1, L', hL', h2⟩ := Choose_plain hd hg.ok e ht hp
  rw [hL] at hL'; cases hL'
  obtain ⟨r', h3, h4⟩ := rChoose_plain hd hg ht hp hRL hl
  exact ⟨r, h1, by rw [h3, h4, h2]⟩

theorem run_both {d : Dg} (hd : Dlg d) (hg : GVal d.Graph) {p1 p2 : Pl} (l1 : Len p1) (l2 : Len p2) : ∃ r, participant_Run_m d p1 p2 = some r ∧ ref28_Run_m d p1 p2 = some r ∧ (Dlg r.1 ∨ r.1 = ⟨⟨0, []⟩, 0, ⟨0, 0⟩, []⟩) := by
  obtain ⟨r, h1, h2⟩ := Run_plain hd hg.ok l1 l2
  obtain ⟨q, h3, h4⟩ := rRun_plain hd hg l1 l2
  by_cases v1 : errV d.Graph.N p1 = 0
  · by_cases v2 : errV d.Graph.N p2 = 0
    · rw [if_neg (fun hh => hh v1), if_neg (fun hh => hh v2)] at h2 h4
      obtain ⟨a1, a2, a3, _, ta, a4, _, a5⟩ := h2
      obtain ⟨b1, b2, _, _, tb, b4, _, b5⟩ := h4
      have e := play_unique a2 b2 a4 b4 a5 b5
      have : q = r := Prod.ext e.symm (b1.trans a1.symm)
      exact ⟨r, h1, by rw [h3, this], .inl a3⟩
    · rw [if_neg (fun hh => hh v1), if_pos v2] at h2 h4
      exact ⟨r, h1, by rw [h3, h4, h2], .inr (by rw [h2])⟩
  · rw [if_pos v1] at h2 h4
    exact ⟨r, h1, by rw [h3, h4, h2], .inr (by rw [h2])⟩

theorem same_zero : ref27_Same_m ⟨⟨0, []⟩, 0, ⟨0, 0⟩, []⟩ ⟨⟨0, []⟩, 0, ⟨0, 0⟩, []⟩ = some true := by
  refine T.eq ?_
  unfold ref27_Same_m net_Same_m
  rw [show ((0 : Int) == 0) = true from rfl, cond_true, pairs_refl (by simp)]
  simp only [some_bind, cond_true]
  refine T.cond (fun _ => ?_) fun h => by simp at h
  unfold ref27_SameMoves_m
  refine T.bind (P := fun b => b = true) ?_ fun b hb => .ret hb
  refine T.cond (fun h => by simp at h) fun _ => ?_
  rw [loopC_eq]
  exact .ret rfl

theorem law28_ParticipantChooses_plain (l : List Int) (raw : Pl) (g : T_api_Graph) (style : Int) {A B C D : Prop} (_ : A) (_ : B) (_ : C) (_ : D) : law28_ParticipantChooses_m l raw g style = some true := by
  refine T.eq ?_
  unfold law28_ParticipantChooses_m
  rw [awake_plain]
  refine T.cond (fun _ => .ret rfl) fun c1 => T.cond (fun _ => .ret rfl) fun c2 => T.cond (fun _ => .ret rfl) fun c3 => ?_
  simp only [decide_eq_false_iff_not] at c1 c2 c3
  have lraw : Len raw := ⟨by omega, by omega, by omega⟩
  unfold net_Light_m
  refine T.bind (P := fun b => b = decide ((g.L.length : Int) ≤ 300)) (.letM (.ret rfl)) fun b hb => ?_
  subst hb
  refine T.cond (fun _ => .ret rfl) fun c4 => ?_
  have c4 : g.L.length ≤ 300 := by simp at c4; omega
  refine T.bind New_plain fun s hs => T.bind (started_plain hs) fun t ⟨hd, hg, hN, hL, ht⟩ => ?_
  refine T.bind (player_plain ht hg (by omega) hN) fun a ⟨ha, has⟩ => T.bind (player_plain has hg (by omega) hN) fun b ⟨hb, _⟩ => ?_
  refine T.bind (P := fun o => match o with | .inl _ => False | .inr _ => True) ?_ fun o ho => ?_
  · refine T.loopK 3 (fun i s => s = (i : Int) ∧ i ≤ 3) ⟨rfl, by omega⟩ ?_
    rintro i _ ⟨rfl, hi⟩
    dsimp only [law28_ParticipantChooses_l1]
    refine T.cond (fun g1 => ?_) fun _ => .ret trivial
    have g1 : i < 3 := by simp at g1; omega
    obtain ⟨p, hp, hlen⟩ : ∃ p, idxM [a.1, b.1, raw] (i : Int) = some p ∧ Len p := by
      match i, g1 with
      | 0, _ => exact ⟨a.1, rfl, ha.len⟩
      | 1, _ => exact ⟨b.1, rfl, hb.len⟩
      | 2, _ => exact ⟨raw, rfl, lraw⟩
    rw [hp, some_bind]
    obtain ⟨r, h1, h2⟩ := choose_both hd hg hlen
    rw [h1, some_bind, h2, some_bind]
    refine T.cond (fun h => by simp at h) fun _ => T.cond (fun h => by simp at h) fun _ => ?_
    rw [iadd1 (by omega)]
    exact .ret ⟨g1, rfl, by omega⟩
  match o, ho with
  | .inr _, _ => ?_
  simp only [sumK]
  refine T.bind (P := fun o => match o with | .inl _ => False | .inr _ => True) ?_ fun o ho => ?_
  · refine T.loopK 3 (fun i s => s = (i : Int) ∧ i ≤ 3) ⟨rfl, by omega⟩ ?_
    rintro i _ ⟨rfl, hi⟩
    dsimp only [law28_ParticipantChooses_l2]
    refine T.cond (fun g1 => ?_) fun _ => .ret trivial
    have g1 : i < 3 := by simp at g1; omega
    obtain ⟨p, hp, hl1, hl2⟩ : ∃ p, idxM [T_arr2_25.mk a.1 b.1, T_arr2_25.mk raw b.1, T_arr2_25.mk a.1 raw] (i : Int) = some p ∧ Len p.i0 ∧ Len p.i1 := by
      match i, g1 with
      | 0, _ => exact ⟨_, rfl, ha.len, hb.len⟩
      | 1, _ => exact ⟨_, rfl, lraw, hb.len⟩
      | 2, _ => exact ⟨_, rfl, ha.len, lraw⟩
    rw [hp, some_bind]
    obtain ⟨r, h1, h2, h3⟩ := run_both hd hg hl1 hl2
    rw [h1, some_bind, h2, some_bind]
    refine T.cond (fun h => by simp at h) fun _ => ?_
    have hsame : ref27_Same_m r.1 r.1 = some true := by
      rcases h3 with h | h
      · exact same_refl h
      · rw [h]; exact same_zero
    rw [hsame, some_bind]
    refine T.cond (fun h => by simp at h) fun _ => ?_
    rw [iadd1 (by omega)]
    exact .ret ⟨g1, rfl, by omega⟩
  match o, ho with
  | .inr _, _ => ?_
  simp only [sumK]
  refine T.bind (P := fun o => match o with | .inl _ => False | .inr _ => True) ?_ fun o ho => ?_
  · refine T.loopK 2 (fun i s => s = (i : Int) ∧ i ≤ 2) ⟨rfl, by omega⟩ ?_
    rintro i _ ⟨rfl, hi⟩
    dsimp only [law28_ParticipantChooses_l3]
    refine T.cond (fun g1 => ?_) fun _ => .ret trivial
    have g1 : i < 2 := by simp at g1; omega
    obtain ⟨p, hp, hl1⟩ : ∃ p, idxM [g, t.1.Graph] (i : Int) = some p ∧ p.L.length ≤ 1000000 := by
      match i, g1 with
      | 0, _ => exact ⟨_, rfl, by omega⟩
      | 1, _ => exact ⟨_, rfl, by omega⟩
    rw [hp, some_bind]
    obtain ⟨q, h1, h2, h3, h4, h5⟩ := Full_both hl1 (st := style)
    rw [h1, some_bind, h2, some_bind, ints_refl (by omega), some_bind]
    refine T.cond (fun h => by simp at h) fun _ => ?_
    rw [h3, h4]
    refine T.cond (fun h => by simp [iadd, IntKind.wrap, IntKind.signed, IntKind.bits] at h) fun _ => T.cond (fun h => by simp at h) fun _ => ?_
    rw [iadd1 (by omega)]
    exact .ret ⟨g1, rfl, by omega⟩
  match o, ho with
  | .inr _, _ => ?_
  simp only [sumK]
  exact .ret rfl
end Go.Dc
