/- Part P27.Verdict of a proof that a law of the program returns true: general lemmas, no condition. -/
import Derived.Test.YtlhfddobimfcbaaP27Gnd
import Derived.Test.YtlhfddobimfcbaaP27Awake
set_option linter.unusedVariables false
set_option linter.unusedSimpArgs false
/-! The verdict of a dialogue of attacks. -/
namespace Go.Dc

/-- all moves behind the claim are attacks along the graph -/
structure AllAtt (d : Dg) : Prop where
  k : ∀ i, 1 ≤ i → i < d.Moves.length → (mv d.Moves i).Kind = 2
  e : ∀ i, 1 ≤ i → i < d.Moves.length → att d.Graph (mv d.Moves i).Node (mv d.Moves (tg d.Moves i)).Node

theorem AllAtt.alive {d : Dg} (hd : Dlg d) (h : AllAtt d) {s : Nat → Int} (hs : StF d.Moves s) : ∀ i, i < d.Moves.length → s i ≠ 0 := by
  intro i
  induction i using Nat.strongRecOn with
  | _ i ih =>
    intro hi
    rw [hs.al i hi]
    by_cases h0 : i = 0
    · exact .inl h0
    · have hk := h.k i (by omega) hi
      have ha := hd.att hi hk
      refine .inr ⟨hk, ?_, ih _ ha.2.2.2.1 (by omega)⟩
      rintro ⟨q, hq, h3, _⟩
      by_cases hq0 : q = 0
      · subst hq0; rw [hd.hd] at h3; cases h3
      · have := h.k q (by omega) hq; omega

section
variable {d : Dg} (hd : Dlg d) (hA : AllAtt d) {s : Nat → Int} {b : Nat → Bool} (hs : StF d.Moves s) (hb : LedF d.Moves s b) (hno : ¬ ∃ x, Leg d s b x) (hg : GVal d.Graph)
include hd hA hs hb hno hg

theorem win_in (hl : lead s = 1) : ∀ t, t < d.Moves.length → b t = true → (mv d.Moves t).By = 1 → s t = 1 → Gr (att d.Graph) (mv d.Moves t).Node := by
  have hatt : ∀ x y, att d.Graph x y → 0 ≤ x ∧ x < ((d.Graph.N.toNat : Nat) : Int) := by
    rintro x y ⟨p, hp, rfl, rfl⟩
    have := hg.v p hp; omega
  suffices hh : ∀ m t, d.Moves.length - t ≤ m → t < d.Moves.length → b t = true → (mv d.Moves t).By = 1 → s t = 1 → Gr (att d.Graph) (mv d.Moves t).Node from fun t => hh _ t (Nat.le_refl _)
  intro m
  induction m with
  | zero => intro t h1 h2; omega
  | succ m ih =>
    intro t h1 ht hbt hby hst
    refine Gr.mk hatt fun a ha => ?_
    obtain ⟨p, hp, hpf, hpt⟩ := ha
    -- the attack on t has been made
    have hx : (⟨2, 2, p.From, (t : Int)⟩ : Mv) ∈ d.Moves := Classical.byContradiction fun hx => hno ⟨⟨2, 2, p.From, (t : Int)⟩, t, p, ht, hbt, by rw [hl]; exact hby, hp, hpt, by rw [hl]; rfl, hx, fun h => by rw [hl] at h; omega⟩
    obtain ⟨k, hk, hkx⟩ := List.getElem_of_mem hx
    have hm : mv d.Moves k = ⟨2, 2, p.From, (t : Int)⟩ := by rw [← hkx]; simp [mv, List.getD, hk]
    have hkt : tg d.Moves k = t := by unfold tg; rw [hm]; rfl
    have hk2 := hd.att hk (by rw [hm])
    have hsk := hA.alive hd hs k hk
    have hbk : b k = true := (hb.s k hk2.1 hk).2 ⟨hsk, by rw [hkt]; exact hbt, .inl (by rw [hkt, hl]; exact hby)⟩
    -- and it is out
    have hnk : ∀ q, Kid d.Moves s t q → False := fun q hq => by
      rcases hs.st t ht with h | ⟨h, _⟩ | ⟨_, h⟩
      · omega
      · omega
      · exact h ⟨q, hq⟩
    rcases hs.st k hk with h | ⟨_, z, h2, h3, h4, h5⟩ | ⟨h, _⟩
    · exact absurd h hsk
    · have hz0 : 1 ≤ z := by omega
      have hzk := hd.att h3 (hA.k z hz0 h3)
      have hbz : b z = true := (hb.s z hz0 h3).2 ⟨by omega, by rw [h4]; exact hbk, .inr h5⟩
      have hzb : (mv d.Moves z).By = 1 := by have := hzk.2.2.2.2.2.2.1; rw [h4, hm] at this; exact this
      refine ⟨(mv d.Moves z).Node, ?_, ih z (by omega) h3 hbz hzb h5⟩
      have := hA.e z hz0 h3
      rw [h4, hm] at this
      rw [← hpf]; exact this
    · exact absurd ⟨by omega, hk, hkt, h⟩ (fun h => hnk k h)

end
section
variable {d : Dg} (hd : Dlg d) (hA : AllAtt d) {s : Nat → Int} {b : Nat → Bool} (hs : StF d.Moves s) (hb : LedF d.Moves s b) (hno : ¬ ∃ x, Leg d s b x)
include hd hA hs hb hno

theorem win_out (hl : lead s = 2) : ∀ r t, t < d.Moves.length → b t = true → (mv d.Moves t).By = 1 → s t = 2 → GrN (att d.Graph) (r + 1) (mv d.Moves t).Node →
    (∀ a, GrN (att d.Graph) r a → ¬ RepN d.Moves a t) → False := by
  intro r
  induction r using Nat.strongRecOn with
  | _ r ih =>
    intro t ht hbt hby hst hgr hrep
    -- an attack on t that is in
    have hkid : ∃ y, Kid d.Moves s t y := by
      rcases hs.st t ht with h | ⟨_, h⟩ | ⟨h, _⟩
      · omega
      · exact h
      · omega
    obtain ⟨y, hy1, hy2, hy3, hy4⟩ := hkid
    have hyk := hd.att hy2 (hA.k y (by omega) hy2)
    have hby2 : (mv d.Moves y).By = 2 := by have := hyk.2.2.2.2.2.2.1; rw [hy3, hby] at this; exact this
    have hbY : b y = true := (hb.s y (by omega) hy2).2 ⟨by omega, by rw [hy3]; exact hbt, .inr hy4⟩
    have hye := hA.e y (by omega) hy2
    rw [hy3] at hye
    obtain ⟨a, ⟨p, hp, hpf, hpt⟩, hga⟩ := hgr _ hye
    have hny : ∀ a', GrN (att d.Graph) r a' → ¬ RepN d.Moves a' y := fun a' h1 h2 => by
      rcases RepN.cases'.1 h2 with ⟨h3, _⟩ | ⟨_, h3⟩
      · omega
      · rw [hy3] at h3; exact hrep a' h1 h3
    -- the reply has been made
    have hx : (⟨1, 2, p.From, (y : Int)⟩ : Mv) ∈ d.Moves := Classical.byContradiction fun hx => hno ⟨⟨1, 2, p.From, (y : Int)⟩, y, p, hy2, hbY, by rw [hl]; exact hby2, hp, hpt, by rw [hl]; rfl, hx, fun _ => by rw [hpf]; exact hny a hga⟩
    obtain ⟨k, hk, hkx⟩ := List.getElem_of_mem hx
    have hm : mv d.Moves k = ⟨1, 2, p.From, (y : Int)⟩ := by rw [← hkx]; simp [mv, List.getD, hk]
    have hkt : tg d.Moves k = y := by unfold tg; rw [hm]; rfl
    have hk2 := hd.att hk (by rw [hm])
    have hsk := hA.alive hd hs k hk
    have hbk : b k = true := (hb.s k hk2.1 hk).2 ⟨hsk, by rw [hkt]; exact hbY, .inl (by rw [hkt, hl]; exact hby2)⟩
    have hs2 : s k = 2 := by
      rcases hs.st k hk with h | ⟨h, _⟩ | ⟨h, _⟩
      · exact absurd h hsk
      · exact h
      · exfalso
        rcases hs.st y hy2 with h' | ⟨h', _⟩ | ⟨_, h'⟩
        · omega
        · omega
        · exact h' ⟨k, by omega, hk, hkt, h⟩
    -- its least rank
    obtain ⟨q, hq1, hq2⟩ := exists_least (p := fun q => GrN (att d.Graph) q a) ⟨r, hga⟩
    cases q with
    | zero => exact hq1.elim
    | succ q =>
      have hqr := hq2 r hga
      refine ih q (by omega) k hk hbk (by rw [hm]) hs2 (by rw [hm]; dsimp only; rw [hpf]; exact hq1) fun a' h1 h2 => ?_
      rcases RepN.cases'.1 h2 with ⟨_, h3⟩ | ⟨_, h3⟩
      · rw [hm] at h3
        dsimp only at h3
        rw [hpf] at h3
        subst h3
        have := hq2 q h1; omega
      · rw [hkt] at h3
        exact hny a' (h1.mono (by omega)) h3

end
section
variable {d : Dg} (hd : Dlg d) (hA : AllAtt d) {s : Nat → Int} {b : Nat → Bool} (hs : StF d.Moves s) (hb : LedF d.Moves s b) (hno : ¬ ∃ x, Leg d s b x) (hg : GVal d.Graph)
include hd hA hs hb hno hg

theorem verdict : lead s = 1 ↔ Gr (att d.Graph) d.Root := by
  have h1n := hd.n1
  have h0 : (mv d.Moves 0).Node = d.Root ∧ (mv d.Moves 0).By = 1 := by rw [hd.hd]; exact ⟨rfl, rfl⟩
  constructor
  · intro hl
    have hs0 : s 0 = 1 := by unfold lead at hl; split at hl; assumption; omega
    rw [← h0.1]
    exact win_in hd hA hs hb hno hg hl 0 (by omega) hb.z h0.2 hs0
  · intro hgr
    refine Classical.byContradiction fun hl => ?_
    have hl2 : lead s = 2 := by rcases lead_12 s with h | h; exact absurd h hl; exact h
    have hs0 : s 0 = 2 := by
      rcases hs.root h1n with h | h
      · exact absurd (by unfold lead; rw [if_pos h]) hl
      · exact h
    obtain ⟨q, hq1, hq2⟩ := exists_least hgr
    cases q with
    | zero => exact hq1.elim
    | succ q =>
      refine win_out hd hA hs hb hno hl2 q 0 (by omega) hb.z h0.2 hs0 (by rw [h0.1]; exact hq1) fun a h1 h2 => ?_
      rcases RepN.cases'.1 h2 with ⟨_, h3⟩ | ⟨h3, _⟩
      · rw [h0.1] at h3; subst h3
        have := hq2 q h1; omega
      · exact h3 rfl
end

/-- a legal attack keeps it so -/
theorem AllAtt.push {d : Dg} (hd : Dlg d) (h : AllAtt d) {s : Nat → Int} {b : Nat → Bool} {x : Mv} (hx : Leg d s b x) : AllAtt (push d x) := by
  obtain ⟨t, p, a1, a2, a3, a4, a5, rfl, _⟩ := hx
  have hlen : ∀ x, (Go.Dc.push d x).Moves.length = d.Moves.length + 1 := fun x => by simp [Go.Dc.push]
  constructor
  · intro i h1 h2
    rw [hlen] at h2
    show (mv (d.Moves ++ [_]) i).Kind = 2
    by_cases e : i = d.Moves.length
    · rw [e, mv_new]
    · rw [mv_app (by omega)]; exact h.k i h1 (by omega)
  · intro i h1 h2
    rw [hlen] at h2
    show att d.Graph (mv (d.Moves ++ [_]) i).Node (mv (d.Moves ++ [_]) (tg (d.Moves ++ [_]) i)).Node
    by_cases e : i = d.Moves.length
    · rw [e, mv_new, tg_new]
      simp only [Int.toNat_natCast]
      rw [mv_app a1]
      exact ⟨p, a4, rfl, a5⟩
    · have hi : i < d.Moves.length := by omega
      rw [mv_app hi, tg_app hi]
      have he := h.e i h1 hi
      rw [mv_app (by have := (hd.att hi (h.k i h1 hi)).2.2.2.1; omega)]; exact he

/-- dialogues of attacks on a graph that was drawn -/
structure AD (g : T_api_Graph) (root : Int) (lim : T_arr2_3) (d : Dg) : Prop where
  dl : Dlg d
  g : d.Graph = g
  r : d.Root = root
  l : d.Limits = lim
  a : AllAtt d

theorem AD.begin {g : T_api_Graph} (h : GVal g) (hl : g.L.length ≤ 10000) {root : Int} (h0 : 0 ≤ root) (h1 : root < g.N) {lim : T_arr2_3} (hlim : 1 ≤ lim.i0 ∧ lim.i0 ≤ 200 ∧ 0 ≤ lim.i1 ∧ lim.i1 ≤ 200) : AD g root lim (begin g root lim) :=
  ⟨begin_dlg h hl h0 h1 hlim, rfl, rfl, rfl, ⟨fun i h1 h2 => by simp [Go.Dc.begin] at h2; omega, fun i h1 h2 => by simp [Go.Dc.begin] at h2; omega⟩⟩

theorem AD.push {g : T_api_Graph} {root : Int} {lim : T_arr2_3} {d : Dg} (h : AD g root lim d) (hg : GVal g) {tb : T_protocol_table} (ht : TabOk d tb) {x : Mv} (hx : Leg d (sf tb.status) (bf tb.leading) x) (hn : d.Moves.length < 200) : AD g root lim (push d x) := by
  have hacc : Acc d (sf tb.status) (bf tb.leading) x x := by
    have hx' := hx
    obtain ⟨t, p, _, _, _, _, _, e, _⟩ := hx'
    exact ⟨by rw [e], .inr (.inl ⟨by rw [e], hx, rfl⟩)⟩
  exact ⟨h.dl.push hn (hacc.ok h.dl (by rw [h.g]; exact hg.ok) ht), h.g, h.r, h.l, h.a.push h.dl hx⟩

theorem T_of {d : Dg} (hd : Dlg d) : ∃ tb, protocol_of_m d = some tb ∧ TabOk d tb := of_plain hd

theorem leg_acc {d : Dg} {s : Nat → Int} {b : Nat → Bool} {x : Mv} (hx : Leg d s b x) : Acc d s b x x := by
  have hx' := hx
  obtain ⟨t, p, _, _, _, _, _, e, _⟩ := hx'
  exact ⟨by rw [e], .inr (.inl ⟨by rw [e], hx, rfl⟩)⟩

theorem acc_kind2 {d : Dg} {s : Nat → Int} {b : Nat → Bool} {m x : Mv} (hk : m.Kind = 2) (h : Acc d s b m x) : x = m := by
  rcases h.2 with ⟨h1, _⟩ | ⟨_, _, h1⟩ | ⟨h1, _⟩
  · omega
  · exact h1
  · omega

theorem finished_plain {g : T_api_Graph} {root : Int} {lim : T_arr2_3} (hg : GVal g) {s : T_deliberationkeep_Src} (hs : SrcOk s) {d : Dg} (hd : AD g root lim d) (h1 : d.Moves.length = 1) :
    T (law27_finished_m s d) fun r => r.2.1 = true ∧ AD g root lim r.1 ∧ r.1.Moves.length ≤ 71 ∧ (r.1.Moves.length = 71 ∨ ∃ tb, protocol_of_m r.1 = some tb ∧ TabOk r.1 tb ∧ (outF r.1 (sf tb.status) (bf tb.leading)).Reason ≠ 0) := by
  unfold law27_finished_m
  refine T.bind (P := fun o => match o with
    | .inl r => r.2.1 = true ∧ AD g root lim r.1 ∧ r.1.Moves.length ≤ 71 ∧ (r.1.Moves.length = 71 ∨ ∃ tb, protocol_of_m r.1 = some tb ∧ TabOk r.1 tb ∧ (outF r.1 (sf tb.status) (bf tb.leading)).Reason ≠ 0)
    | .inr q => AD g root lim q.2 ∧ q.2.Moves.length = 71) ?_ fun o ho => ?_
  · refine T.loopK 70 (fun k s => s.1 = (k : Int) ∧ k ≤ 70 ∧ SrcOk s.2.1 ∧ AD g root lim s.2.2 ∧ s.2.2.Moves.length = k + 1) ⟨rfl, by omega, hs, hd, h1⟩ ?_
    rintro k ⟨_, s, d⟩ ⟨rfl, hk, hs, hd, hlen⟩
    dsimp only [law27_finished_l1] at *
    refine T.cond (fun hc => ?_) fun hc => ?_
    rotate_left
    · simp at hc
      exact .ret ⟨hd, by dsimp only; omega⟩
    simp at hc
    have hc' : k < 70 := by omega
    obtain ⟨tb, e, ht⟩ := T_of hd.dl
    have hgok : GOk d.Graph := by rw [hd.g]; exact hg.ok
    have hmul : d.Moves.length * d.Graph.L.length ≤ 200 * 10000 := Nat.mul_le_mul hd.dl.n2 hd.dl.Ln
    refine T.bind (Legal_plain hd.dl e ht) fun l ⟨hl1, hl2, hl3⟩ => ?_
    refine T.cond (fun h0 => ?_) fun h0 => ?_
    · have h0' : l = [] := by simpa using h0
      refine .ret ⟨rfl, hd, by dsimp only; omega, .inr ⟨tb, e, ht, fun hr => ?_⟩⟩
      obtain ⟨_, _, _, x, hx⟩ := out_run hr
      rw [← hl1 hr x, h0'] at hx; cases hx
    · have h0' : l ≠ [] := by simpa using h0
      have hpos := List.length_pos_iff.2 h0'
      have hr : (outF d (sf tb.status) (bf tb.leading)).Reason = 0 := Classical.byContradiction fun h => h0' (hl2 h)
      refine T.bind (N_plain hs (by omega)) fun q ⟨hq, hqb⟩ => ?_
      have hqb := hqb (by omega)
      rw [idxM_eq (by omega) (by omega), some_bind]
      have hleg := (hl1 hr _).1 (List.getElem_mem (show q.1.toNat < l.length by omega))
      have hk2 : (l[q.1.toNat]'(by omega)).Kind = 2 := by obtain ⟨t, p, _, _, _, _, _, ee, _⟩ := hleg; rw [ee]
      refine T.bind (Apply_plain hd.dl hgok e ht) fun r hrr => ?_
      rcases hrr with ⟨h2, _, x, hx, h3⟩ | ⟨_, h2 | h2⟩
      · refine T.cond (fun hh => by simp [h2] at hh) fun _ => ?_
        have hxe := acc_kind2 hk2 hx
        have hnlt := (out_run hr).1
        rw [iadd1 (by omega)]
        refine .letM (.ret ⟨hc', rfl, by omega, hq, ?_, ?_⟩)
        · dsimp only; rw [h3, hxe]; exact hd.push hg ht hleg hnlt
        · dsimp only; rw [h3]; simp [Go.Dc.push]; omega
      · exact absurd hr h2
      · exact absurd (leg_acc hleg) (h2 _)
  · match o, ho with
    | .inl r, h => exact .ret h
    | .inr q, h => exact .ret ⟨rfl, h.1, by dsimp only; omega, .inl h.2⟩

theorem law27_ProtocolVerdict_plain (l : List Int) (_ : l.length ≤ maxLen ∧ ∀ x ∈ l, (Lit.int .i64 x).wf = true) : law27_ProtocolVerdict_m l = some true := by
  refine T.eq ?_
  unfold law27_ProtocolVerdict_m
  refine T.bind New_plain fun s hs => T.bind (Graph_plain hs (by omega) (by omega)) fun t ⟨hg, hN, hN5, hL, ht⟩ => ?_
  refine T.bind (N_plain ht (by omega)) fun root ⟨hr, hb⟩ => ?_
  have hb := hb (by omega)
  rw [New_plain' hg (by omega) hb.1 hb.2 (by simp), some_bind, awake_plain]
  refine T.cond (fun h => by simp at h) fun _ => ?_
  refine T.bind (finished_plain hg hr (AD.begin hg (by omega) hb.1 hb.2 (by simp)) rfl) fun r ⟨h1, hd, hlen, hend⟩ => ?_
  refine T.cond (fun h => by simp [h1] at h) fun _ => ?_
  obtain ⟨tb, e, htb⟩ := T_of hd.dl
  rw [End_plain hd.dl e htb, some_bind]
  have hkind : (mv r.1.Moves (r.1.Moves.length - 1)).Kind ≠ 4 := by
    by_cases h0 : r.1.Moves.length - 1 = 0
    · rw [h0, hd.dl.hd]; exact (by decide : ¬ (1 : Int) = 4)
    · have := hd.a.k (r.1.Moves.length - 1) (by omega) (by have := hd.dl.n1; omega); omega
  have hlim : limOf r.1 (sf tb.status) = 200 := by unfold limOf; rw [hd.l]; split <;> rfl
  have hcnt := cnt_le r.1.Moves (3 - lead (sf tb.status))
  have hout : outF r.1 (sf tb.status) (bf tb.leading) = ⟨0, 0⟩ ∨ outF r.1 (sf tb.status) (bf tb.leading) = ⟨lead (sf tb.status), 1⟩ ∧ ¬ ∃ x, Leg r.1 (sf tb.status) (bf tb.leading) x := by
    unfold outF
    rw [if_neg hkind, if_neg (by omega), if_neg (by omega)]
    split
    · exact .inl rfl
    · rename_i h; exact .inr ⟨rfl, h⟩
  refine T.cond (fun h => ?_) fun h => ?_
  · refine T.cond (fun _ => .ret rfl) fun h2 => ?_
    simp at h2
    rcases hend with h3 | ⟨tb', e', _, h3⟩
    · omega
    · have : tb' = tb := by rw [e] at e'; exact (Option.some.inj e').symm
      subst this
      rcases hout with h4 | ⟨h4, _⟩
      · rw [h4] at h3; exact absurd rfl h3
      · rw [h4] at h; simp at h
  · rcases hout with h4 | ⟨h4, hno⟩
    · rw [h4] at h; simp at h
    · have hv := verdict hd.dl hd.a htb.st.2 htb.b hno (by rw [hd.g]; exact hg)
      rw [hd.g, hd.r] at hv
      refine T.bind (Grounded_plain hg (by omega)) fun gl ⟨hgl, hgr⟩ => ?_
      rw [idx_sf' hb.1 (by omega), some_bind, h4]
      have hnat : ((root.1.toNat : Nat) : Int) = root.1 := by omega
      have hiff := (hgr root.1.toNat (by omega)).2
      rw [hnat] at hiff
      refine T.cond (fun _ => .ret rfl) fun h5 => ?_
      exfalso
      have : (lead (sf tb.status) = 1 ↔ sf gl.1 root.1.toNat = 1) := hv.trans hiff.symm
      by_cases h6 : lead (sf tb.status) = 1
      · simp [h6, this.1 h6] at h5
      · have h7 : ¬ sf gl.1 root.1.toNat = 1 := fun hh => h6 (this.2 hh)
        rw [show (lead (sf tb.status) == 1) = false from by simp [h6], show (sf gl.1 root.1.toNat == 1) = false from by simp [h7]] at h5
        cases h5
end Go.Dc
