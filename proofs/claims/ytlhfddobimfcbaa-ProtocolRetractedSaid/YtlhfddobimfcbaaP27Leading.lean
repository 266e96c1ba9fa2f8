/- Part P27.Leading of a proof that a law of the program returns true: general lemmas, no condition. -/
import Derived.Test.YtlhfddobimfcbaaP27Net
import Derived.Test.YtlhfddobimfcbaaP27Awake
set_option linter.unusedVariables false
set_option linter.unusedSimpArgs false
/-! The leading part, and what a legal attack does. -/
namespace Go.Dc

theorem In_plain {l : List Int} (hl : l.length ≤ 1000000) {x : Int} : keep_In_m l x = some (l.any (· == x)) := by
  unfold keep_In_m
  refine any_bind (fun i hi => ?_) ?_
  · simp only [keep_In_l1]
    rw [decide_eq_true (by omega : (i : Int) < l.length), idxM_nat hi]
    simp only [cond_true, some_bind]
    rw [iadd1 (by omega)]
    cases (l[i] == x) <;> rfl
  · simp only [keep_In_l1]
    rw [decide_eq_false (by omega)]; rfl

def part (n : Nat) (b : Nat → Bool) : List Int := ((List.range n).filter b).map fun i : Nat => (i : Int)

theorem mem_part {n : Nat} {b : Nat → Bool} {x : Int} : x ∈ part n b ↔ ∃ i : Nat, i < n ∧ b i = true ∧ x = i := by
  simp only [part, List.mem_map, List.mem_filter, List.mem_range]
  constructor
  · rintro ⟨i, ⟨h1, h2⟩, h3⟩; exact ⟨i, h1, h2, h3.symm⟩
  · rintro ⟨i, h1, h2, h3⟩; exact ⟨i, ⟨h1, h2⟩, h3.symm⟩

theorem part_len {n : Nat} {b : Nat → Bool} : (part n b).length ≤ n := by
  have := List.length_filter_le b (List.range n)
  simpa [part] using this

theorem part_succ {n : Nat} {b : Nat → Bool} : part (n + 1) b = part n b ++ (bif b n then [(n : Int)] else []) := by
  unfold part
  rw [List.range_succ, List.filter_append, List.map_append]
  cases h : b n <;> simp [h]

theorem part_hd {n : Nat} {b : Nat → Bool} (hn : 1 ≤ n) (h0 : b 0 = true) : ∃ r, part n b = 0 :: r := by
  induction n with
  | zero => omega
  | succ n ih =>
    rw [part_succ]
    by_cases e : n = 0
    · subst e; exact ⟨[], by simp [part, h0]⟩
    · obtain ⟨r, hr⟩ := ih (by omega)
      rw [hr]; exact ⟨_, rfl⟩

theorem Leading_plain {d : Dg} (hd : Dlg d) {tb : T_protocol_table} (e : protocol_of_m d = some tb) (ht : TabOk d tb) : protocol_Leading_m d = some (part d.Moves.length (bf tb.leading)) := by
  have h1n := hd.n1; have hn := hd.n2
  unfold protocol_Leading_m
  rw [show ((d.Moves.length : Int) == 0) = false from by simp; intro h; rw [h] at h1n; simp at h1n, e]
  simp only [cond_false, some_bind]
  have : loopC (protocol_Leading_l1 tb) (0, []) = some (part d.Moves.length (bf tb.leading)) := by
    refine T.eq (T.loopK d.Moves.length (fun i s => s.1 = (i : Int) ∧ i ≤ d.Moves.length ∧ s.2 = part i (bf tb.leading)) ⟨rfl, by omega, rfl⟩ ?_)
    rintro i ⟨_, _⟩ ⟨rfl, hi, rfl⟩
    dsimp only [protocol_Leading_l1]
    rw [ht.bl]
    refine T.cond (fun g => ?_) fun g => ?_
    · simp at g
      have hl := part_len (n := i) (b := bf tb.leading)
      rw [idx_bf (by rw [ht.bl]; exact g), some_bind, iadd1 (by omega)]
      refine T.cond (fun h => ?_) fun h => ?_
      · rw [appM_eq (by simp; omega), some_bind]
        exact .ret ⟨g, rfl, by omega, by rw [part_succ, h]; rfl⟩
      · exact .ret ⟨g, rfl, by omega, by rw [part_succ, h]; simp⟩
    · simp at g
      have e : i = d.Moves.length := by omega
      exact .ret (by rw [e])
  rw [this]; rfl

/-- in the leading part the leader's moves are in -/
theorem led_side {d : Dg} (hd : Dlg d) {s : Nat → Int} {b : Nat → Bool} (hs : StF d.Moves s) (hb : LedF d.Moves s b) : ∀ k, k < d.Moves.length → b k = true → ((mv d.Moves k).By = lead s ↔ s k = 1) := by
  have h1n := hd.n1
  intro k
  induction k using Nat.strongRecOn with
  | _ k ih =>
    intro hk hbk
    by_cases h0 : k = 0
    · subst h0
      rw [hd.hd]
      unfold lead
      rcases hs.root h1n with h | h <;> rw [h] <;> simp
    · obtain ⟨h1, h2, h3⟩ := (hb.s k (by omega) hk).1 hbk
      have hkd := hs.kid hd hk (by omega) h1
      obtain ⟨_, _, _, a4, _, _, a5, _⟩ := hd.att hk hkd.1
      have hl := lead_12 s
      have hp := hd.by' (i := tg d.Moves k) (by omega)
      have hih := ih _ a4 (by omega) h2
      by_cases h4 : (mv d.Moves (tg d.Moves k)).By = lead s
      · have h5 := hih.1 h4
        have h6 : s k ≠ 1 := fun h6 => by
          rcases hs.st (tg d.Moves k) (by omega) with h | ⟨h, _⟩ | ⟨_, h⟩
          · omega
          · omega
          · exact h ⟨k, a4, hk, rfl, h6⟩
        constructor
        · intro h; omega
        · intro h; exact absurd h h6
      · have h5 : s k = 1 := h3.resolve_left h4
        constructor
        · exact fun _ => h5
        · intro _; omega

/-- an attack that is added -/
theorem push_st {d : Dg} (hd : Dlg d) {s s' : Nat → Int} {x : Mv} (hs : StF d.Moves s) (hs' : StF (d.Moves ++ [x]) s') (hx : x.Kind = 2) {t : Nat} (ht : t < d.Moves.length) (hxt : x.Target = (t : Int)) (hst : s t ≠ 0) :
    s' t = 2 ∧ s' d.Moves.length = 1 := by
  have hlen : (d.Moves ++ [x]).length = d.Moves.length + 1 := by simp
  have hret : ∀ i, ret (d.Moves ++ [x]) i ↔ ret d.Moves i := fun i => by
    constructor
    · rintro ⟨k, h1, h2, h3⟩
      rw [hlen] at h1
      by_cases e : k = d.Moves.length
      · rw [e, mv_new] at h2; omega
      · rw [mv_app (by omega)] at h2 h3
        exact ⟨k, by omega, h2, h3⟩
    · rintro ⟨k, h1, h2, h3⟩
      exact ⟨k, by omega, by rw [mv_app h1]; exact h2, by rw [mv_app h1]; exact h3⟩
  have hal : ∀ i, i < d.Moves.length → (s' i ≠ 0 ↔ s i ≠ 0) := by
    intro i
    induction i using Nat.strongRecOn with
    | _ i ih =>
      intro hi
      rw [hs.al i hi, hs'.al i (by omega), mv_app hi, tg_app hi, hret]
      by_cases h0 : i = 0
      · simp [h0]
      · by_cases hk : (mv d.Moves i).Kind = 2
        · have := (hd.att hi hk).2.2.2.1
          rw [ih _ this (by omega)]
        · simp [hk]
  have htn : tg (d.Moves ++ [x]) d.Moves.length = t := by rw [tg_new, hxt]; rfl
  have hnew : s' d.Moves.length ≠ 0 := by
    rw [hs'.al _ (by omega)]
    refine .inr ⟨by rw [mv_new]; exact hx, ?_, by rw [htn]; exact (hal t ht).2 hst⟩
    rw [hret]
    rintro ⟨k, h1, h2, h3⟩
    have := hd.rtr h1 h2
    omega
  have h1 : s' d.Moves.length = 1 := by
    rcases hs'.st d.Moves.length (by omega) with h | ⟨_, k, h2, h3, _⟩ | ⟨h, _⟩
    · exact absurd h hnew
    · omega
    · exact h
  refine ⟨?_, h1⟩
  rcases hs'.st t (by omega) with h | ⟨h, _⟩ | ⟨_, h⟩
  · exact absurd h ((hal t ht).2 hst)
  · exact h
  · exact absurd ⟨d.Moves.length, ht, by omega, htn, h1⟩ h

theorem T_of {d : Dg} (hd : Dlg d) : ∃ tb, protocol_of_m d = some tb ∧ TabOk d tb := of_plain hd

theorem leg_acc {d : Dg} {s : Nat → Int} {b : Nat → Bool} {x : Mv} (hx : Leg d s b x) : Acc d s b x x := by
  have hx' := hx
  obtain ⟨t, p, _, _, _, _, _, e, _⟩ := hx'
  exact ⟨by rw [e], .inr (.inl ⟨by rw [e], hx, rfl⟩)⟩

theorem acc_kind2 {d : Dg} {s : Nat → Int} {b : Nat → Bool} {m x : Mv} (hk : m.Kind = 2) (h : Acc d s b m x) : x = m ∧ Leg d s b m := by
  rcases h.2 with ⟨h1, _⟩ | ⟨_, h2, h1⟩ | ⟨h1, _⟩
  · omega
  · exact ⟨h1, h2⟩
  · omega

theorem leg_kind {d : Dg} {s : Nat → Int} {b : Nat → Bool} {x : Mv} (hx : Leg d s b x) : x.Kind = 2 := by
  obtain ⟨t, p, _, _, _, _, _, e, _⟩ := hx
  rw [e]

theorem law27_ProtocolLeading_plain (l : List Int) (_ : l.length ≤ maxLen ∧ ∀ x ∈ l, (Lit.int .i64 x).wf = true) : law27_ProtocolLeading_m l = some true := by
  refine T.eq ?_
  unfold law27_ProtocolLeading_m
  refine T.bind New_plain fun s hs => T.bind (begun_plain hs (by omega) (by omega)) fun t ⟨hd, hg, hlen, ht⟩ => ?_
  rw [awake_plain]
  refine T.bind (P := fun o => o = .inr ()) ?_ fun o ho => by rw [ho]; exact .ret rfl
  refine T.loopK 12 (fun k s => s.1 = (k : Int) ∧ k ≤ 12 ∧ SrcOk s.2.1 ∧ Dlg s.2.2 ∧ GVal s.2.2.Graph ∧ s.2.2.Moves.length = k + 1) ⟨rfl, by omega, ht, hd, hg, hlen⟩ ?_
  clear hd hg hlen ht
  rintro k ⟨_, s, d⟩ ⟨rfl, hk, hs, hd, hg, hlen⟩
  dsimp only [law27_ProtocolLeading_l1] at *
  refine T.cond (fun hc => ?_) fun hc => .ret rfl
  simp at hc
  have hmul : d.Moves.length * d.Graph.L.length ≤ 200 * 10000 := Nat.mul_le_mul hd.n2 hd.Ln
  have hn1 := hd.n1; have hn2 := hd.n2; have h40 := hg.n1
  obtain ⟨tb, e, htb⟩ := T_of hd
  obtain ⟨q, hq, hqs⟩ := status_plain hd
  have hqe : q = tb.status := hqs.unique htb.st fun i h1 h2 h3 => (hd.att h2 h3).2.2.2.1
  subst hqe
  obtain ⟨r, hr⟩ := part_hd (b := bf tb.leading) hn1 htb.b.z
  have hpl := part_len (n := d.Moves.length) (b := bf tb.leading)
  rw [hq, some_bind, Leading_plain hd e htb, some_bind, htb.st.1]
  refine T.cond (fun h => by simp at h) fun _ => ?_
  refine T.cond (fun h => by rw [hr] at h; simp at h; omega) fun _ => ?_
  rw [show idxM (part d.Moves.length (bf tb.leading)) 0 = some 0 from by rw [hr]; rfl, some_bind]
  refine T.cond (fun h => by simp at h) fun _ => ?_
  have hst0 : idxM tb.status 0 = some (sf tb.status 0) := idx_sf' (by omega) (by rw [htb.st.1]; omega)
  rw [hst0]
  refine T.joinP (fun j => j = lead (sf tb.status)) (fun j hj => ?_) fun kk hkk => ?_
  rotate_left
  · rw [some_bind]
    refine T.cond (fun h => hkk _ ?_) fun h => hkk _ ?_
    · unfold lead; rw [if_pos (by simpa using h)]
    · unfold lead; rw [if_neg (by simpa using h)]
  subst hj
  -- the sides of the leading part
  refine T.bind (P := fun o => o = .inr ()) ?_ fun o ho => ?_
  · refine T.loopK (part d.Moves.length (bf tb.leading)).length (fun i s => s = (i : Int) ∧ i ≤ (part d.Moves.length (bf tb.leading)).length) ⟨rfl, by omega⟩ ?_
    rintro i _ ⟨rfl, hi⟩
    dsimp only [law27_ProtocolLeading_l2]
    refine T.cond (fun g => ?_) fun g => .ret rfl
    simp at g
    obtain ⟨m, h1, h2, h3⟩ := mem_part.1 (List.getElem_mem g)
    rw [idxM_nat g, some_bind, h3, htb.st.1]
    refine T.cond (fun h => by simp at h; omega) fun _ => T.cond (fun h => by simp at h; omega) fun _ => ?_
    rw [idx_mv h1, some_bind, idx_sf (by rw [htb.st.1]; exact h1), some_bind, iadd1 (by omega)]
    have hside := led_side hd htb.st.2 htb.b m h1 h2
    refine T.cond (fun h => ?_) fun _ => .ret ⟨g, rfl, by omega⟩
    exfalso
    by_cases h4 : sf tb.status m = 1
    · rw [show ((mv d.Moves m).By == lead (sf tb.status)) = true from by simp [hside.2 h4], show (sf tb.status m == 1) = true from by simp [h4]] at h; cases h
    · rw [show ((mv d.Moves m).By == lead (sf tb.status)) = false from by simp [mt hside.1 h4], show (sf tb.status m == 1) = false from by simp [h4]] at h; cases h
  subst ho
  simp only [sumK_inr]
  refine T.bind (Legal_plain hd e htb) fun lg ⟨hl1, hl2, hl3⟩ => ?_
  rw [Turn_plain hd e htb, some_bind]
  have hl12 := lead_12 (sf tb.status)
  have hgok := hg.ok
  generalize hturn : (if (outF d (sf tb.status) (bf tb.leading)).Reason = 0 then 3 - lead (sf tb.status) else 0) = turn
  -- every attack
  refine T.bind (P := fun o => o = .inr ()) ?_ fun o ho => ?_
  · refine T.loopK d.Moves.length (fun i s => s = (i : Int) ∧ i ≤ d.Moves.length) ⟨rfl, by omega⟩ ?_
    rintro i _ ⟨rfl, hi⟩
    dsimp only [law27_ProtocolLeading_l3]
    refine T.cond (fun g => ?_) fun g => .ret rfl
    simp at g
    refine T.bind (P := fun o => o = .inr ()) ?_ fun o ho => by subst ho; simp only [sumK_inr]; rw [iadd1 (by omega)]; exact .letM (.ret ⟨g, rfl, by omega⟩)
    refine T.loopK d.Graph.N.toNat (fun a s => s = (a : Int) ∧ a ≤ d.Graph.N.toNat) ⟨rfl, by omega⟩ ?_
    rintro a _ ⟨rfl, ha⟩
    dsimp only [law27_ProtocolLeading_l4]
    refine T.cond (fun ga => ?_) fun ga => .ret rfl
    simp at ga
    -- is it among the legal ones?
    refine T.bind (P := fun o => o = decide ((⟨turn, 2, (a : Int), (i : Int)⟩ : Mv) ∈ lg)) ?_ fun o ho => ?_
    · refine T.loopK lg.length (fun j s => s.2 = (j : Int) ∧ j ≤ lg.length ∧ s.1 = decide ((⟨turn, 2, (a : Int), (i : Int)⟩ : Mv) ∈ lg.take j)) ⟨rfl, by omega, by simp⟩ ?_
      rintro j ⟨_, _⟩ ⟨rfl, hj, rfl⟩
      dsimp only [law27_ProtocolLeading_l5]
      refine T.cond (fun gj => ?_) fun gj => ?_
      · simp at gj
        rw [idxM_nat gj, some_bind, iadd1 (by omega)]
        have tk : lg.take (j + 1) = lg.take j ++ [lg[j]] := List.take_succ_eq_append_getElem gj
        refine T.cond (fun h => .ret ⟨gj, rfl, by omega, ?_⟩) fun h => .letM (.ret ⟨gj, rfl, by omega, ?_⟩)
        · rw [tk]; simp only [decide_eq_true_eq] at h; exact (decide_eq_true (List.mem_append_left _ h)).symm
        · rw [tk]; simp only [decide_eq_false_iff_not] at h
          simp only [List.mem_append, h, List.mem_singleton, false_or]
          by_cases hh : lg[j] = (⟨turn, 2, (a : Int), (i : Int)⟩ : Mv) <;> simp [hh]
          exact fun h3 => hh h3.symm
      · simp at gj
        exact .ret (show decide _ = decide _ by rw [List.take_of_length_le (by omega)])
    subst ho
    refine T.bind (Apply_plain hd hgok e htb) fun r hrr => ?_
    by_cases hin : (⟨turn, 2, (a : Int), (i : Int)⟩ : Mv) ∈ lg
    · rw [decide_eq_true hin]
      have hrun : (outF d (sf tb.status) (bf tb.leading)).Reason = 0 := Classical.byContradiction fun h => by rw [hl2 h] at hin; cases hin
      have hleg := (hl1 hrun _).1 hin
      rcases hrr with ⟨h1, _, x, hx, h2⟩ | ⟨_, h2 | h2⟩
      · obtain ⟨hx1, _⟩ := acc_kind2 rfl hx
        have hnlt := (out_run hrun).1
        have hmlen : r.1.Moves.length = d.Moves.length + 1 := by rw [h2]; simp [push]
        have hdp : Dlg r.1 := by rw [h2]; exact hd.push hnlt (hx.ok hd hgok htb)
        obtain ⟨t', p, b1, b2, b3, b4, b5, b6, b7⟩ := hleg
        have ht' : t' = i := by have := congrArg T_api_Move.Target b6; simp only at this; omega
        subst ht'
        refine T.joinP (fun _ => True) (fun j _ => ?_) fun k2 hk2 => ?_
        · refine T.cond (fun h => by cases h) fun _ => ?_
          refine T.bind (status_plain hdp) fun af haf => ?_
          rw [haf.1]
          refine T.cond (fun h => by simp at h) fun _ => ?_
          have hps := push_st hd (x := x) htb.st.2 (by have := haf.2; rw [h2] at this; exact this) (by rw [hx1]) b1 (by rw [hx1]) (htb.b.alive hd htb.st.2 b1 b2)
          rw [idx_sf (by rw [haf.1]; omega), some_bind, hps.1]
          refine T.cond (fun h => by simp at h) fun _ => ?_
          rw [isub1 (by omega), idx_sf' (by omega) (by rw [haf.1]; omega), some_bind, show ((r.1.Moves.length : Int) - 1).toNat = d.Moves.length from by omega, hps.2, iadd1 (by omega)]
          refine T.cond (fun h => by simp at h) fun _ => .letM (.ret ⟨by omega, rfl, by omega⟩)
        · refine T.cond (fun h => by simp [h1] at h) fun _ => ?_
          refine T.cond (fun _ => ?_) fun h => by cases h
          rw [In_plain (by omega), some_bind]
          refine T.cond (fun h => ?_) fun _ => ?_
          · exfalso
            have : ((part d.Moves.length (bf tb.leading)).any (· == (t' : Int))) = true := List.any_eq_true.2 ⟨(t' : Int), mem_part.2 ⟨t', b1, b2, rfl⟩, by simp⟩
            rw [this] at h; cases h
          · refine T.cond (fun h => ?_) fun _ => hk2 _ trivial
            rw [hmlen, iadd1 (by omega)] at h; simp at h
      · exact absurd hrun h2
      · exact absurd (leg_acc hleg) (h2 _)
    · rw [decide_eq_false hin]
      have hne : ¬ r.2 = 0 := by
        rcases hrr with ⟨_, h2, x, hx, _⟩ | ⟨h1, _⟩
        · intro _
          exact hin ((hl1 h2 _).2 (acc_kind2 rfl hx).2)
        · exact h1
      refine T.joinP (fun _ => True) (fun j _ => ?_) fun k2 hk2 => ?_
      · refine T.cond (fun _ => ?_) fun h => by cases h
        rw [iadd1 (by omega)]
        exact .letM (.ret ⟨by omega, rfl, by omega⟩)
      · refine T.cond (fun h => by simp [hne] at h) fun _ => T.cond (fun h => by cases h) fun _ => hk2 _ trivial
  subst ho
  simp only [sumK_inr]
  refine T.cond (fun _ => .ret rfl) fun h0 => ?_
  have h0' : lg ≠ [] := by simpa using h0
  have hpos := List.length_pos_iff.2 h0'
  have hrun : (outF d (sf tb.status) (bf tb.leading)).Reason = 0 := Classical.byContradiction fun h => h0' (hl2 h)
  refine T.bind (N_plain hs (by omega)) fun q ⟨hq, hqb⟩ => ?_
  have hqb := hqb (by omega)
  rw [idxM_eq (by omega) (by omega), some_bind]
  have hleg := (hl1 hrun _).1 (List.getElem_mem (show q.1.toNat < lg.length by omega))
  refine T.bind (Apply_plain hd hgok e htb) fun r hrr => ?_
  rcases hrr with ⟨h1, _, x, hx, h2⟩ | ⟨_, h2 | h2⟩
  · refine T.cond (fun h => by simp [h1] at h) fun _ => ?_
    rw [iadd1 (by omega)]
    refine .letM (.ret ⟨by omega, rfl, by omega, hq, ?_, ?_, ?_⟩)
    · dsimp only; rw [h2]; exact hd.push (out_run hrun).1 (hx.ok hd hgok htb)
    · dsimp only; rw [h2]; exact hg
    · dsimp only; rw [h2]; simp [push]; omega
  · exact absurd hrun h2
  · exact absurd (leg_acc hleg) (h2 _)
end Go.Dc
