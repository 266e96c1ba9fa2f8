/- Part P27.Retracted of a proof that a law of the program returns true: general lemmas, no condition. -/
import Derived.Test.YtlhfddobimfcbaaP27RefEnd
set_option linter.unusedVariables false
set_option linter.unusedSimpArgs false
/-! A retraction. -/
namespace Go.Dc

theorem Ints_plain {a b : List Int} (hl : a.length ≤ 1000000) : T (keep_Ints_m a b) fun r => (r = true ↔ a = b) := by
  unfold keep_Ints_m
  refine T.cond (fun h => .ret ?_) fun h => ?_
  · simp only [Bool.false_eq_true, false_iff]
    rintro rfl
    simp at h
  · have hlen : a.length = b.length := by simp at h; omega
    refine T.bind (P := fun o => o = .inl false ∧ a ≠ b ∨ o = .inr () ∧ a = b) ?_ fun o ho => ?_
    · refine T.loopK a.length (fun i s => s = (i : Int) ∧ i ≤ a.length ∧ a.take i = b.take i) ⟨rfl, by omega, by simp⟩ ?_
      rintro i _ ⟨rfl, hi, htk⟩
      dsimp only [keep_Ints_l1]
      refine T.cond (fun g => ?_) fun g => ?_
      · simp at g
        rw [idxM_nat g, some_bind, idxM_nat (by omega), some_bind, iadd1 (by omega)]
        refine T.cond (fun h2 => .ret (.inl ⟨rfl, ?_⟩)) fun h2 => .ret ⟨g, rfl, by omega, ?_⟩
        · rintro rfl; simp at h2
        · rw [List.take_succ_eq_append_getElem g, List.take_succ_eq_append_getElem (by omega : i < b.length), htk]
          simp at h2
          rw [h2]
      · simp at g
        refine .ret (.inr ⟨rfl, ?_⟩)
        rwa [List.take_of_length_le (by omega), List.take_of_length_le (by omega)] at htk
    · rcases ho with ⟨rfl, h2⟩ | ⟨rfl, h2⟩
      · exact .ret (by simp [h2])
      · exact .ret (by simp [h2])

/-- the moves on the way from a move to the root -/
inductive On (M : List Mv) (t : Nat) : Nat → Prop
  | here {i : Nat} : i = t → i ≠ 0 → On M t i
  | up {i : Nat} : i ≠ 0 → On M t (tg M i) → On M t i

theorem On.cases' {M : List Mv} {t i : Nat} : On M t i ↔ i ≠ 0 ∧ (i = t ∨ On M t (tg M i)) := by
  constructor
  · intro h
    cases h with
    | here h1 h2 => exact ⟨h2, .inl h1⟩
    | up h1 h2 => exact ⟨h1, .inr h2⟩
  · rintro ⟨h1, h2 | h2⟩
    · exact .here h2 h1
    · exact .up h1 h2

theorem away_plain {d : Dg} (hd : Dlg d) (hA : ∀ i, 1 ≤ i → i < d.Moves.length → (mv d.Moves i).Kind = 2) {t i : Nat} (hi : i < d.Moves.length) :
    T (loopC (law27_ProtocolRetracted_l4 d (t : Int)) (false, (i : Int))) fun r => (r = true ↔ On d.Moves t i) := by
  refine T.loopM (fun s : Bool × Int => ∃ u : Nat, s.2 = (u : Int) ∧ u < d.Moves.length ∧ (s.1 = true ∨ On d.Moves t u ↔ On d.Moves t i)) (fun s => s.2.toNat) ⟨i, rfl, hi, by simp⟩ ?_
  rintro ⟨aw, _⟩ ⟨u, rfl, hu, hiff⟩
  dsimp only [law27_ProtocolRetracted_l4]
  refine T.cond (fun g => ?_) fun g => ?_
  · simp at g
    have ha := hd.att hu (hA u (by omega) hu)
    refine T.joinP (fun j => (j = true ↔ aw = true ∨ u = t)) (fun j hj => ?_) fun kk hkk => T.cond (fun h => hkk _ (by simp [h])) fun h => hkk _ ?_
    · rw [idx_mv hu, some_bind]
      refine .ret ⟨⟨tg d.Moves u, by unfold tg; dsimp only; omega, by omega, ?_⟩, by dsimp only; omega⟩
      dsimp only
      rw [← hiff, On.cases' (i := u), hj]
      constructor
      · rintro ((h | h) | h)
        · exact .inl h
        · exact .inr ⟨by omega, .inl h⟩
        · exact .inr ⟨by omega, .inr h⟩
      · rintro (h | ⟨_, h | h⟩)
        · exact .inl (.inl h)
        · exact .inl (.inr h)
        · exact .inr h
    · simp [h]; omega
  · simp at g
    subst g
    refine .ret (show (aw = true ↔ _) from ?_)
    rw [← hiff]
    constructor
    · exact .inl
    · rintro (h | h)
      · exact h
      · exact absurd rfl (On.cases'.1 h).1

/-- what the law reckons by hand -/
theorem want_plain {d : Dg} (hd : Dlg d) (hA : ∀ i, 1 ≤ i → i < d.Moves.length → (mv d.Moves i).Kind = 2) {t : Nat} (ht : t < d.Moves.length) (ht0 : t ≠ 0) {by_ : Int} :
    T (loopC (law27_ProtocolRetracted_l3 d (t : Int)) ((d.Moves.length : Int) - 1, List.replicate (d.Moves.length + 1) 0)) fun w => IsSt (d.Moves ++ [⟨by_, 3, 0, (t : Int)⟩]) w := by
  have hn := hd.n2; have h1n := hd.n1
  have hM : ∀ i, i < d.Moves.length → mv (d.Moves ++ [⟨by_, 3, 0, (t : Int)⟩]) i = mv d.Moves i ∧ tg (d.Moves ++ [⟨by_, 3, 0, (t : Int)⟩]) i = tg d.Moves i := fun i hi => ⟨mv_app hi, tg_app hi⟩
  have hML : (d.Moves ++ [(⟨by_, 3, 0, (t : Int)⟩ : Mv)]).length = d.Moves.length + 1 := by simp
  -- all moves from i on are judged
  let J : Nat → List Int → Prop := fun i l => l.length = d.Moves.length + 1 ∧ (∀ j, j < i → sf l j = 0) ∧ sf l d.Moves.length = 0 ∧
    ∀ j, i ≤ j → j < d.Moves.length → (sf l j ≠ 0 ↔ ¬ On d.Moves t j) ∧ (sf l j = 0 ∨ sf l j = 2 ∧ (∃ k, Kid d.Moves (sf l) j k) ∨ sf l j = 1 ∧ ¬ ∃ k, Kid d.Moves (sf l) j k)
  refine T.loopK d.Moves.length (fun k s => k ≤ d.Moves.length ∧ s.1 = (d.Moves.length : Int) - 1 - k ∧ J (d.Moves.length - k) s.2) ⟨by omega, by simp, by simp, fun j _ => by exact getD_rep, by exact getD_rep, fun j h1 h2 => by omega⟩ ?_
  rintro k ⟨_, l⟩ ⟨hk, rfl, hl, hz, hlast, hj⟩
  dsimp only [law27_ProtocolRetracted_l3] at *
  refine T.cond (fun g => ?_) fun g => ?_
  rotate_left
  · simp at g
    have e : d.Moves.length - k = 0 := by omega
    rw [e] at hj
    refine .ret (show IsSt (d.Moves ++ [⟨by_, 3, 0, (t : Int)⟩]) l from ⟨by rw [hl, hML], fun j hjl => ?_, fun j hjl => ?_⟩)
    · rw [hML] at hjl
      by_cases e2 : j = d.Moves.length
      · subst e2
        rw [hlast, mv_new]
        refine ⟨fun h => absurd rfl h, fun h => ?_⟩
        rcases h with h | ⟨h, _⟩
        · omega
        · cases h
      · have hjl' : j < d.Moves.length := by omega
        rw [(hj j (Nat.zero_le _) hjl').1, (hM j hjl').1, (hM j hjl').2, On.cases']
        by_cases h0 : j = 0
        · simp [h0]
        · have hkd := hA j (by omega) hjl'
          have htg := (hd.att hjl' hkd).2.2.2.1
          have hret : ret (d.Moves ++ [⟨by_, 3, 0, (t : Int)⟩]) j ↔ j = t := by
            constructor
            · rintro ⟨q, h1, h2, h3⟩
              rw [hML] at h1
              by_cases e3 : q = d.Moves.length
              · subst e3; rw [mv_new] at h3; simp only at h3; omega
              · rw [(hM q (by omega)).1] at h2
                by_cases hq0 : q = 0
                · subst hq0; rw [hd.hd] at h2; cases h2
                · have := hA q (by omega) (by omega); omega
            · rintro rfl
              exact ⟨d.Moves.length, by omega, by rw [mv_new], by rw [mv_new]⟩
          rw [(hj (tg d.Moves j) (Nat.zero_le _) (by omega)).1, hret]
          simp [h0, hkd]
    · rw [hML] at hjl
      have hkid : ∀ q, Kid (d.Moves ++ [⟨by_, 3, 0, (t : Int)⟩]) (sf l) j q ↔ Kid d.Moves (sf l) j q := fun q => by
        unfold Kid
        rw [hML]
        constructor
        · rintro ⟨h1, h2, h3, h4⟩
          have : q ≠ d.Moves.length := fun e => by subst e; omega
          exact ⟨h1, by omega, by rw [← (hM q (by omega)).2]; exact h3, h4⟩
        · rintro ⟨h1, h2, h3, h4⟩
          exact ⟨h1, by omega, by rw [(hM q h2).2]; exact h3, h4⟩
      simp only [hkid]
      by_cases e2 : j = d.Moves.length
      · exact .inl (e2 ▸ hlast)
      · exact (hj j (Nat.zero_le _) (by omega)).2
  simp at g
  obtain ⟨i, hi⟩ : ∃ i : Nat, i = d.Moves.length - 1 - k := ⟨_, rfl⟩
  have ei : (d.Moves.length : Int) - 1 - k = (i : Int) := by omega
  have e1 : d.Moves.length - k = i + 1 := by omega
  have e2 : d.Moves.length - (k + 1) = i := by omega
  have hil : i < d.Moves.length := by omega
  rw [e1] at hz hj
  rw [ei, e2, isub1 (by omega)]
  have e3 : (i : Int) - 1 = (d.Moves.length : Int) - 1 - ((k + 1 : Nat) : Int) := by omega
  refine T.bind (away_plain hd hA hil) fun aw haw => ?_
  refine T.cond (fun h => ?_) fun h => ?_
  · refine .letM (.ret ⟨by omega, by omega, e3, hl, fun j hji => hz j (by omega), hlast, fun j h1 h2 => ?_⟩)
    by_cases e : j = i
    · subst e
      rw [hz j (by omega)]
      exact ⟨by simp [haw.1 h], .inl rfl⟩
    · exact hj j (by omega) h2
  · have hnot : ¬ On d.Moves t i := fun hh => by rw [haw.2 hh] at h; cases h
    rw [idx_sf (by omega), some_bind, iadd1 (by omega), Int.toNat_natCast]
    refine .letM (T.bind (P := fun r => J i r) ?_ fun r hr => .letM (.ret ⟨by omega, by omega, e3, hr⟩))
    have hkid : ∀ (v : Int) j k, i < k → (Kid d.Moves (sf (l.set i v)) j k ↔ Kid d.Moves (sf l) j k) := fun v j k hk => by unfold Kid; rw [sf_set (by omega), if_neg (by omega)]
    refine T.loopK d.Moves.length (fun q s => s.1 = ((i + 1 + q : Nat) : Int) ∧ i + 1 + q ≤ d.Moves.length ∧ ∃ v : Int, s.2 = l.set i v ∧ (v = 1 ∧ (¬ ∃ k, k < i + 1 + q ∧ Kid d.Moves (sf l) i k) ∨ v = 2 ∧ ∃ k, k < i + 1 + q ∧ Kid d.Moves (sf l) i k)) ⟨rfl, by omega, 1, rfl, .inl ⟨rfl, fun ⟨k, h1, h2, _⟩ => by omega⟩⟩ ?_
    rintro q ⟨_, _⟩ ⟨rfl, hq, v, rfl, hv⟩
    dsimp only [law27_ProtocolRetracted_l5] at *
    refine T.cond (fun g2 => ?_) fun g2 => ?_
    · simp at g2
      have hkl : i + 1 + q < d.Moves.length := by omega
      rw [iadd1 (by omega), idx_mv hkl, some_bind]
      have skip : ¬ Kid d.Moves (sf l) i (i + 1 + q) → T (letM ((((i + 1 + q) + 1 : Nat) : Int)) fun k90 => some (Sum.inr (k90, l.set i v)) : Option (Sum (List Int) (Int × List Int))) (onO (fun r => J i r) fun s => q < d.Moves.length ∧ s.1 = ((i + 1 + (q + 1) : Nat) : Int) ∧ i + 1 + (q + 1) ≤ d.Moves.length ∧ ∃ v : Int, s.2 = l.set i v ∧ (v = 1 ∧ (¬ ∃ k, k < i + 1 + (q + 1) ∧ Kid d.Moves (sf l) i k) ∨ v = 2 ∧ ∃ k, k < i + 1 + (q + 1) ∧ Kid d.Moves (sf l) i k)) := fun hno => .letM (.ret ⟨by omega, by dsimp only; omega, by omega, v, rfl, by
        rcases hv with ⟨h1, h2⟩ | ⟨h1, k, h2, h3⟩
        · refine .inl ⟨h1, ?_⟩
          rintro ⟨k, h3, h4⟩
          by_cases e : k = i + 1 + q
          · subst e; exact hno h4
          · exact h2 ⟨k, by omega, h4⟩
        · exact .inr ⟨h1, k, by omega, h3⟩⟩)
      have hval : sf (l.set i v) (i + 1 + q) = sf l (i + 1 + q) := by rw [sf_set (by omega), if_neg (by omega)]
      refine T.cond (fun h2 => ?_) fun h2 => skip ?_
      · have h2' : (mv d.Moves (i + 1 + q)).Target = (i : Int) := by simpa using h2
        rw [idx_sf (by simp; omega), some_bind, hval]
        refine T.cond (fun h3 => ?_) fun h3 => skip ?_
        · rw [idx_sf (by simp; omega), some_bind, Int.toNat_natCast]
          have hkk : Kid d.Moves (sf l) i (i + 1 + q) := ⟨by omega, hkl, by unfold tg; omega, by simpa using h3⟩
          exact .letM (.ret ⟨by omega, by dsimp only; omega, by omega, 2, by simp, .inr ⟨rfl, i + 1 + q, by omega, hkk⟩⟩)
        · intro h; simp at h3; exact h3 h.2.2.2
      · intro h
        simp at h2
        have h5 := hd.att hkl (hA _ (by omega) hkl)
        have h6 := h.2.2.1
        unfold tg at h6
        omega
    · simp at g2
      have hv' : v = 1 ∧ (¬ ∃ k, Kid d.Moves (sf l) i k) ∨ v = 2 ∧ ∃ k, Kid d.Moves (sf l) i k := by
        rcases hv with ⟨h1, h2⟩ | ⟨h1, k, _, h3⟩
        · refine .inl ⟨h1, ?_⟩
          rintro ⟨k, h3⟩
          exact h2 ⟨k, by have := h3.2.1; omega, h3⟩
        · exact .inr ⟨h1, k, h3⟩
      refine .ret ⟨by simpa using hl, fun j hji => by rw [sf_set (by omega), if_neg (by omega)]; exact hz j (by omega), by rw [sf_set (by omega), if_neg (by omega)]; exact hlast, fun j h1 h2 => ?_⟩
      have hk2 : (∃ k, Kid d.Moves (sf (l.set i v)) j k) ↔ ∃ k, Kid d.Moves (sf l) j k := by
        constructor
        · rintro ⟨k, h3⟩; exact ⟨k, (hkid v j k (by have := h3.1; omega)).1 h3⟩
        · rintro ⟨k, h3⟩; exact ⟨k, (hkid v j k (by have := h3.1; omega)).2 h3⟩
      rw [hk2, sf_set (by omega)]
      by_cases e : i = j
      · subst e
        rw [if_pos rfl]
        rcases hv' with ⟨h3, h4⟩ | ⟨h3, h4⟩
        · rw [h3]; exact ⟨by simp [hnot], .inr (.inr ⟨rfl, h4⟩)⟩
        · rw [h3]; exact ⟨by simp [hnot], .inr (.inl ⟨rfl, h4⟩)⟩
      · rw [if_neg e]; exact hj j (by omega) h2

theorem law27_ProtocolRetracted_plain (l : List Int) (_ : l.length ≤ maxLen ∧ ∀ x ∈ l, (Lit.int .i64 x).wf = true) : law27_ProtocolRetracted_m l = some true := by
  refine T.eq ?_
  unfold law27_ProtocolRetracted_m
  refine T.bind New_plain fun s hs => T.bind (begun_plain hs (by omega) (by omega)) fun t ⟨hd, hg, hlen, ht⟩ => ?_
  rw [awake_plain]
  refine T.bind (P := fun d => Dlg d ∧ GVal d.Graph ∧ d.Moves.length ≤ 9 ∧ ∀ i, 1 ≤ i → i < d.Moves.length → (mv d.Moves i).Kind = 2) ?_ fun d ⟨hd, hg, hlen, hA⟩ => ?_
  · refine T.loopK 8 (fun k s => s.1 = (k : Int) ∧ k ≤ 8 ∧ SrcOk s.2.1 ∧ Dlg s.2.2 ∧ GVal s.2.2.Graph ∧ s.2.2.Moves.length = k + 1 ∧ ∀ i, 1 ≤ i → i < s.2.2.Moves.length → (mv s.2.2.Moves i).Kind = 2) ⟨rfl, by omega, ht, hd, hg, hlen, fun i h1 h2 => by dsimp only at h2; omega⟩ ?_
    clear hd hg hlen ht
    rintro k ⟨_, s, d⟩ ⟨rfl, hk, hs, hd, hg, hlen, hA⟩
    dsimp only [law27_ProtocolRetracted_l1] at *
    obtain ⟨tb, e, htb⟩ := T_of hd
    refine T.cond (fun g => ?_) fun g => .ret ⟨hd, hg, by omega, hA⟩
    simp at g
    refine T.bind (rLegal_plain hd htb hg) fun lg ⟨hl1, hl2, hl3⟩ => ?_
    refine T.cond (fun h => .ret ⟨hd, hg, by omega, hA⟩) fun h => ?_
    have hne : lg ≠ [] := by simpa using h
    have hpos := List.length_pos_iff.2 hne
    have hrun : (outF d (sf tb.status) (bf tb.leading)).Reason = 0 := Classical.byContradiction fun h => hne (hl2 h)
    refine T.bind (N_plain hs (by omega)) fun q ⟨hq, hqb⟩ => ?_
    have hqb := hqb (by omega)
    rw [idxM_eq (by omega) (by omega), some_bind]
    have hleg := (hl1 hrun _).1 (List.getElem_mem (show q.1.toNat < lg.length by omega))
    rw [rApply_plain hd htb hg hrun hleg, some_bind, iadd1 (by omega)]
    refine .letM (.ret ⟨by omega, rfl, by omega, hq, hd.push (out_run hrun).1 ((leg_acc hleg).ok hd hg.ok htb), hg, by simp [push]; omega, fun i h1 h2 => ?_⟩)
    have h2' : i < d.Moves.length + 1 := by simpa [push] using h2
    show (mv (d.Moves ++ [_]) i).Kind = 2
    by_cases e : i = d.Moves.length
    · rw [e, mv_new]; exact leg_kind hleg
    · rw [mv_app (by omega)]; exact hA i h1 (by omega)
  · obtain ⟨tb, e, htb⟩ := T_of hd
    have hn := hd.n2; have h1n := hd.n1
    have hl12 := lead_12 (sf tb.status)
    rw [rTurn_plain hd htb hg, some_bind]
    generalize hturn : (if (outF d (sf tb.status) (bf tb.leading)).Reason = 0 then 3 - lead (sf tb.status) else 0) = turn
    refine T.bind (P := fun o => o = .inr ()) ?_ fun o ho => by subst ho; exact .ret rfl
    -- all are alive
    have hal : ∀ i, i < d.Moves.length → sf tb.status i ≠ 0 := by
      intro i
      induction i using Nat.strongRecOn with
      | _ i ih =>
        intro hi
        rw [htb.st.2.al i hi]
        by_cases h0 : i = 0
        · exact .inl h0
        · have hk := hA i (by omega) hi
          have ha := hd.att hi hk
          refine .inr ⟨hk, ?_, ih _ ha.2.2.2.1 (by omega)⟩
          rintro ⟨q, hq, h3, _⟩
          by_cases hq0 : q = 0
          · subst hq0; rw [hd.hd] at h3; cases h3
          · have := hA q (by omega) hq; omega
    refine T.loopK d.Moves.length (fun i s => s = (i : Int) ∧ i ≤ d.Moves.length) ⟨rfl, by omega⟩ ?_
    rintro t _ ⟨rfl, hi⟩
    dsimp only [law27_ProtocolRetracted_l2]
    refine T.cond (fun g => ?_) fun g => .ret rfl
    simp at g
    refine T.bind (Apply_plain hd hg.ok e htb) fun r hrr => ?_
    refine T.joinP (fun j => (j = true ↔ turn = 0 ∨ (mv d.Moves t).By ≠ turn ∨ t = 0)) (fun j hj => ?_) fun kk hkk => ?_
    rotate_left
    · refine T.cond (fun h => hkk _ (by simp at h; simp [h])) fun h => ?_
      rw [idx_mv g, some_bind]
      refine T.cond (fun h2 => hkk _ (by simp at h2; simp [h2])) fun h2 => hkk _ ?_
      simp at h h2
      simp [h, h2]
    have hacc : ∀ x, Acc d (sf tb.status) (bf tb.leading) ⟨turn, 3, 0, (t : Int)⟩ x → (mv d.Moves t).By = turn ∧ t ≠ 0 ∧ x = ⟨turn, 3, 0, (t : Int)⟩ := fun x h => by
      rcases h.2 with ⟨h1, _⟩ | ⟨h1, _⟩ | ⟨_, _, _, h2, h3, _, h4⟩
      · cases h1
      · cases h1
      · refine ⟨h2, fun h0 => ?_, h4⟩
        simp only [Int.toNat_natCast] at h3
        rw [h0, hd.hd] at h3; cases h3
    rw [iadd1 (by omega)]
    refine T.cond (fun h => ?_) fun h => ?_
    · have h' := hj.1 h
      refine T.cond (fun h2 => ?_) fun _ => .letM (.ret ⟨g, rfl, by omega⟩)
      exfalso
      have h2' : r.2 = 0 := by simpa using h2
      rcases hrr with ⟨_, hrun, x, hx, _⟩ | ⟨h3, _⟩
      · have := hacc x hx
        rw [if_pos hrun] at hturn
        rcases h' with h' | h' | h'
        · omega
        · exact h' this.1
        · exact this.2.1 h'
      · exact h3 h2'
    · have h' : ¬ (turn = 0 ∨ (mv d.Moves t).By ≠ turn ∨ t = 0) := fun hh => by rw [hj.2 hh] at h; cases h
      have hrun : (outF d (sf tb.status) (bf tb.leading)).Reason = 0 := Classical.byContradiction fun hh => h' (.inl (by rw [← hturn, if_neg hh]))
      rw [if_pos hrun] at hturn
      have hby : (mv d.Moves t).By = turn := Classical.byContradiction fun hh => h' (.inr (.inl hh))
      have ht0 : t ≠ 0 := fun hh => h' (.inr (.inr hh))
      have hx : Acc d (sf tb.status) (bf tb.leading) ⟨turn, 3, 0, (t : Int)⟩ ⟨turn, 3, 0, (t : Int)⟩ :=
        ⟨hturn.symm, .inr (.inr ⟨rfl, by dsimp only; omega, by dsimp only; omega, hby, hA t (by omega) g, hal t g, rfl⟩)⟩
      rcases hrr with ⟨h3, _, x, hxx, h4⟩ | ⟨_, h4 | h4⟩
      · refine T.cond (fun h => by simp [h3] at h) fun _ => ?_
        have hxe := (hacc x hxx).2.2
        have hr1 : r.1 = push d ⟨turn, 3, 0, (t : Int)⟩ := by rw [h4, hxe]
        have hdp : Dlg r.1 := by rw [hr1]; exact hd.push (out_run hrun).1 (hx.ok hd hg.ok htb)
        have hml : r.1.Moves.length = d.Moves.length + 1 := by rw [hr1]; simp [push]
        rw [hml, iadd1 (by omega)]
        refine T.cond (fun h => by simp at h) fun _ => ?_
        refine T.bind (status_plain hdp) fun st hst => ?_
        rw [mkM_T (by omega), some_bind, isub1 (by omega)]
        refine .letM (T.bind (want_plain (by_ := turn) hd hA g ht0) fun w hw => ?_)
        have hst' : IsSt (d.Moves ++ [⟨turn, 3, 0, (t : Int)⟩]) st := by rw [hr1] at hst; exact hst
        have heq : st = w := by
          refine hst'.unique hw fun i h1 h2 h3 => ?_
          have hdp' : Dlg (push d ⟨turn, 3, 0, (t : Int)⟩) := hr1 ▸ hdp
          exact (hdp'.att (i := i) h2 h3).2.2.2.1
        refine T.bind (Ints_plain (by rw [hst.1]; omega)) fun q hq => ?_
        rw [hq.2 heq]
        exact T.cond (fun h => by cases h) fun _ => .letM (.ret ⟨g, rfl, by omega⟩)
      · exact absurd hrun h4
      · exact absurd hx (h4 _)
end Go.Dc
