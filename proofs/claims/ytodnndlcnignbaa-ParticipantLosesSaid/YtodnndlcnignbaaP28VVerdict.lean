/- Part P28V.Verdict of a proof that a law of the program returns true: general lemmas, no condition. -/
import Derived.Test.YtodnndlcnignbaaP28VGnd
import Derived.Test.YtodnndlcnignbaaP28VAwake
set_option linter.unusedVariables false
set_option linter.unusedSimpArgs false
/-! The verdict of a dialogue of attacks. -/
namespace Go.Dc

/-- all moves behind the claim are attacks along the graph -/
structure AllAtt (d : Dg) : Prop where
  k : ∀ i, 1 ≤ i → i < d.Moves.length → (mv d.Moves i).Kind = 2
  e : ∀ i, 1 ≤ i → i < d.Moves.length → att d.Graph (mv d.Moves i).Node (mv d.Moves (tg d.Moves i)).Node

theorem AllAtt.alive {d : Dg} (hd : Dlg d) (h : AllAtt d) {s : Nat → Int} (hs : StF d.Moves s) : ∀ i, i < d.Moves.length → s i ≠ 0 := by
  intro i
  induction i using Nat.strongRecOn with
  | _ i ih =>
    intro hi
    rw [hs.al i hi]
    by_cases h0 : i = 0
    · exact .inl h0
    · have hk := h.k i (by omega) hi
      have ha := hd.att hi hk
      refine .inr ⟨hk, ?_, ih _ ha.2.2.2.1 (by omega)⟩
      rintro ⟨q, hq, h3, _⟩
      by_cases hq0 : q = 0
      · subst hq0; rw [hd.hd] at h3; cases h3
      · have := h.k q (by omega) hq; omega

section
variable {d : Dg} (hd : Dlg d) (hA : AllAtt d) {s : Nat → Int} {b : Nat → Bool} (hs : StF d.Moves s) (hb : LedF d.Moves s b) (hno : ¬ ∃ x, Leg d s b x) (hg : GVal d.Graph)
include hd hA hs hb hno hg

theorem win_in (hl : lead s = 1) : ∀ t, t < d.Moves.length → b t = true → (mv d.Moves t).By = 1 → s t = 1 → Gr (att d.Graph) (mv d.Moves t).Node := by
  have hatt : ∀ x y, att d.Graph x y → 0 ≤ x ∧ x < ((d.Graph.N.toNat : Nat) : Int) := by
    rintro x y ⟨p, hp, rfl, rfl⟩
    have := hg.v p hp; omega
  suffices hh : ∀ m t, d.Moves.length - t ≤ m → t < d.Moves.length → b t = true → (mv d.Moves t).By = 1 → s t = 1 → Gr (att d.Graph) (mv d.Moves t).Node from fun t => hh _ t (Nat.le_refl _)
  intro m
  induction m with
  | zero => intro t h1 h2; omega
  | succ m ih =>
    intro t h1 ht hbt hby hst
    refine Gr.mk hatt fun a ha => ?_
    obtain ⟨p, hp, hpf, hpt⟩ := ha
    -- the attack on t has been made
    have hx : (⟨2, 2, p.From, (t : Int)⟩ : Mv) ∈ d.Moves := Classical.byContradiction fun hx => hno ⟨⟨2, 2, p.From, (t : Int)⟩, t, p, ht, hbt, by rw [hl]; exact hby, hp, hpt, by rw [hl]; rfl, hx, fun h => by rw [hl] at h; omega⟩
    obtain ⟨k, hk, hkx⟩ := List.getElem_of_mem hx
    have hm : mv d.Moves k = ⟨2, 2, p.From, (t : Int)⟩ := by rw [← hkx]; simp [mv, List.getD, hk]
    have hkt : tg d.Moves k = t := by unfold tg; rw [hm]; rfl
    have hk2 := hd.att hk (by rw [hm])
    have hsk := hA.alive hd hs k hk
    have hbk : b k = true := (hb.s k hk2.1 hk).2 ⟨hsk, by rw [hkt]; exact hbt, .inl (by rw [hkt, hl]; exact hby)⟩
    -- and it is out
    have hnk : ∀ q, Kid d.Moves s t q → False := fun q hq => by
      rcases hs.st t ht with h | ⟨h, _⟩ | ⟨_, h⟩
      · omega
      · omega
      · exact h ⟨q, hq⟩
    rcases hs.st k hk with h | ⟨_, z, h2, h3, h4, h5⟩ | ⟨h, _⟩
    · exact absurd h hsk
    · have hz0 : 1 ≤ z := by omega
      have hzk := hd.att h3 (hA.k z hz0 h3)
      have hbz : b z = true := (hb.s z hz0 h3).2 ⟨by omega, by rw [h4]; exact hbk, .inr h5⟩
      have hzb : (mv d.Moves z).By = 1 := by have := hzk.2.2.2.2.2.2.1; rw [h4, hm] at this; exact this
      refine ⟨(mv d.Moves z).Node, ?_, ih z (by omega) h3 hbz hzb h5⟩
      have := hA.e z hz0 h3
      rw [h4, hm] at this
      rw [← hpf]; exact this
    · exact absurd ⟨by omega, hk, hkt, h⟩ (fun h => hnk k h)

end
section
variable {d : Dg} (hd : Dlg d) (hA : AllAtt d) {s : Nat → Int} {b : Nat → Bool} (hs : StF d.Moves s) (hb : LedF d.Moves s b) (hno : ¬ ∃ x, Leg d s b x)
include hd hA hs hb hno

theorem win_out (hl : lead s = 2) : ∀ r t, t < d.Moves.length → b t = true → (mv d.Moves t).By = 1 → s t = 2 → GrN (att d.Graph) (r + 1) (mv d.Moves t).Node →
    (∀ a, GrN (att d.Graph) r a → ¬ RepN d.Moves a t) → False := by
  intro r
  induction r using Nat.strongRecOn with
  | _ r ih =>
    intro t ht hbt hby hst hgr hrep
    -- an attack on t that is in
    have hkid : ∃ y, Kid d.Moves s t y := by
      rcases hs.st t ht with h | ⟨_, h⟩ | ⟨h, _⟩
      · omega
      · exact h
      · omega
    obtain ⟨y, hy1, hy2, hy3, hy4⟩ := hkid
    have hyk := hd.att hy2 (hA.k y (by omega) hy2)
    have hby2 : (mv d.Moves y).By = 2 := by have := hyk.2.2.2.2.2.2.1; rw [hy3, hby] at this; exact this
    have hbY : b y = true := (hb.s y (by omega) hy2).2 ⟨by omega, by rw [hy3]; exact hbt, .inr hy4⟩
    have hye := hA.e y (by omega) hy2
    rw [hy3] at hye
    obtain ⟨a, ⟨p, hp, hpf, hpt⟩, hga⟩ := hgr _ hye
    have hny : ∀ a', GrN (att d.Graph) r a' → ¬ RepN d.Moves a' y := fun a' h1 h2 => by
      rcases RepN.cases'.1 h2 with ⟨h3, _⟩ | ⟨_, h3⟩
      · omega
      · rw [hy3] at h3; exact hrep a' h1 h3
    -- the reply has been made
    have hx : (⟨1, 2, p.From, (y : Int)⟩ : Mv) ∈ d.Moves := Classical.byContradiction fun hx => hno ⟨⟨1, 2, p.From, (y : Int)⟩, y, p, hy2, hbY, by rw [hl]; exact hby2, hp, hpt, by rw [hl]; rfl, hx, fun _ => by rw [hpf]; exact hny a hga⟩
    obtain ⟨k, hk, hkx⟩ := List.getElem_of_mem hx
    have hm : mv d.Moves k = ⟨1, 2, p.From, (y : Int)⟩ := by rw [← hkx]; simp [mv, List.getD, hk]
    have hkt : tg d.Moves k = y := by unfold tg; rw [hm]; rfl
    have hk2 := hd.att hk (by rw [hm])
    have hsk := hA.alive hd hs k hk
    have hbk : b k = true := (hb.s k hk2.1 hk).2 ⟨hsk, by rw [hkt]; exact hbY, .inl (by rw [hkt, hl]; exact hby2)⟩
    have hs2 : s k = 2 := by
      rcases hs.st k hk with h | ⟨h, _⟩ | ⟨h, _⟩
      · exact absurd h hsk
      · exact h
      · exfalso
        rcases hs.st y hy2 with h' | ⟨h', _⟩ | ⟨_, h'⟩
        · omega
        · omega
        · exact h' ⟨k, by omega, hk, hkt, h⟩
    -- its least rank
    obtain ⟨q, hq1, hq2⟩ := exists_least (p := fun q => GrN (att d.Graph) q a) ⟨r, hga⟩
    cases q with
    | zero => exact hq1.elim
    | succ q =>
      have hqr := hq2 r hga
      refine ih q (by omega) k hk hbk (by rw [hm]) hs2 (by rw [hm]; dsimp only; rw [hpf]; exact hq1) fun a' h1 h2 => ?_
      rcases RepN.cases'.1 h2 with ⟨_, h3⟩ | ⟨_, h3⟩
      · rw [hm] at h3
        dsimp only at h3
        rw [hpf] at h3
        subst h3
        have := hq2 q h1; omega
      · rw [hkt] at h3
        exact hny a' (h1.mono (by omega)) h3

end
section
variable {d : Dg} (hd : Dlg d) (hA : AllAtt d) {s : Nat → Int} {b : Nat → Bool} (hs : StF d.Moves s) (hb : LedF d.Moves s b) (hno : ¬ ∃ x, Leg d s b x) (hg : GVal d.Graph)
include hd hA hs hb hno hg

theorem verdict : lead s = 1 ↔ Gr (att d.Graph) d.Root := by
  have h1n := hd.n1
  have h0 : (mv d.Moves 0).Node = d.Root ∧ (mv d.Moves 0).By = 1 := by rw [hd.hd]; exact ⟨rfl, rfl⟩
  constructor
  · intro hl
    have hs0 : s 0 = 1 := by unfold lead at hl; split at hl; assumption; omega
    rw [← h0.1]
    exact win_in hd hA hs hb hno hg hl 0 (by omega) hb.z h0.2 hs0
  · intro hgr
    refine Classical.byContradiction fun hl => ?_
    have hl2 : lead s = 2 := by rcases lead_12 s with h | h; exact absurd h hl; exact h
    have hs0 : s 0 = 2 := by
      rcases hs.root h1n with h | h
      · exact absurd (by unfold lead; rw [if_pos h]) hl
      · exact h
    obtain ⟨q, hq1, hq2⟩ := exists_least hgr
    cases q with
    | zero => exact hq1.elim
    | succ q =>
      refine win_out hd hA hs hb hno hl2 q 0 (by omega) hb.z h0.2 hs0 (by rw [h0.1]; exact hq1) fun a h1 h2 => ?_
      rcases RepN.cases'.1 h2 with ⟨_, h3⟩ | ⟨h3, _⟩
      · rw [h0.1] at h3; subst h3
        have := hq2 q h1; omega
      · exact h3 rfl
end

/-- a legal attack keeps it so -/
theorem AllAtt.push {d : Dg} (hd : Dlg d) (h : AllAtt d) {s : Nat → Int} {b : Nat → Bool} {x : Mv} (hx : Leg d s b x) : AllAtt (push d x) := by
  obtain ⟨t, p, a1, a2, a3, a4, a5, rfl, _⟩ := hx
  have hlen : ∀ x, (Go.Dc.push d x).Moves.length = d.Moves.length + 1 := fun x => by simp [Go.Dc.push]
  constructor
  · intro i h1 h2
    rw [hlen] at h2
    show (mv (d.Moves ++ [_]) i).Kind = 2
    by_cases e : i = d.Moves.length
    · rw [e, mv_new]
    · rw [mv_app (by omega)]; exact h.k i h1 (by omega)
  · intro i h1 h2
    rw [hlen] at h2
    show att d.Graph (mv (d.Moves ++ [_]) i).Node (mv (d.Moves ++ [_]) (tg (d.Moves ++ [_]) i)).Node
    by_cases e : i = d.Moves.length
    · rw [e, mv_new, tg_new]
      simp only [Int.toNat_natCast]
      rw [mv_app a1]
      exact ⟨p, a4, rfl, a5⟩
    · have hi : i < d.Moves.length := by omega
      rw [mv_app hi, tg_app hi]
      have he := h.e i h1 hi
      rw [mv_app (by have := (hd.att hi (h.k i h1 hi)).2.2.2.1; omega)]; exact he

/-- dialogues of attacks on a graph that was drawn -/
structure AD (g : T_api_Graph) (root : Int) (lim : T_arr2_3) (d : Dg) : Prop where
  dl : Dlg d
  g : d.Graph = g
  r : d.Root = root
  l : d.Limits = lim
  a : AllAtt d

theorem AD.begin {g : T_api_Graph} (h : GVal g) (hl : g.L.length ≤ 10000) {root : Int} (h0 : 0 ≤ root) (h1 : root < g.N) {lim : T_arr2_3} (hlim : 1 ≤ lim.i0 ∧ lim.i0 ≤ 200 ∧ 0 ≤ lim.i1 ∧ lim.i1 ≤ 200) : AD g root lim (begin g root lim) :=
  ⟨begin_dlg h hl h0 h1 hlim, rfl, rfl, rfl, ⟨fun i h1 h2 => by simp [Go.Dc.begin] at h2; omega, fun i h1 h2 => by simp [Go.Dc.begin] at h2; omega⟩⟩

theorem AD.push {g : T_api_Graph} {root : Int} {lim : T_arr2_3} {d : Dg} (h : AD g root lim d) (hg : GVal g) {tb : T_protocol_table} (ht : TabOk d tb) {x : Mv} (hx : Leg d (sf tb.status) (bf tb.leading) x) (hn : d.Moves.length < 200) : AD g root lim (push d x) := by
  have hacc : Acc d (sf tb.status) (bf tb.leading) x x := by
    have hx' := hx
    obtain ⟨t, p, _, _, _, _, _, e, _⟩ := hx'
    exact ⟨by rw [e], .inr (.inl ⟨by rw [e], hx, rfl⟩)⟩
  exact ⟨h.dl.push hn (hacc.ok h.dl (by rw [h.g]; exact hg.ok) ht), h.g, h.r, h.l, h.a.push h.dl hx⟩
end Go.Dc
