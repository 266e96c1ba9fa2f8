/- Part P28C.Ref of a proof: lemmas. -/
import Derived.Test.YtodnndlcnignbaaP28CGnd
import Derived.Test.YtodnndlcnignbaaP28CLeading
set_option linter.unusedVariables false
set_option linter.unusedSimpArgs false
/-! The reference's dialogues. -/
namespace Go.Dc

theorem ret_iff {d : Dg} (hd : Dlg d) {i : Nat} : ret d.Moves i ↔ ∃ k, i < k ∧ k < d.Moves.length ∧ (mv d.Moves k).Kind = 3 ∧ (mv d.Moves k).Target = (i : Int) := by
  constructor
  · rintro ⟨k, h1, h2, h3⟩
    have := hd.rtr h1 h2
    exact ⟨k, by omega, h1, h2, h3⟩
  · rintro ⟨k, _, h1, h2, h3⟩; exact ⟨k, h1, h2, h3⟩

theorem gone_l2 {d : Dg} (hd : Dlg d) {i : Nat} {sx : Int × List Bool} (hsx : sx.1 = (i : Int)) (hi : i < d.Moves.length) {l : List Bool} (hl : l.length = d.Moves.length) :
    T (loopC (ref27_gone_l2 d sx) (((i + 1 : Nat) : Int), l)) fun r => r.length = d.Moves.length ∧ (∀ j, j ≠ i → bf r j = bf l j) ∧ (bf r i = true ↔ bf l i = true ∨ ret d.Moves i) := by
  have hn := hd.n2
  refine T.loopK d.Moves.length (fun q s => s.1 = ((i + 1 + q : Nat) : Int) ∧ i + 1 + q ≤ d.Moves.length ∧ s.2.length = d.Moves.length ∧ (∀ j, j ≠ i → bf s.2 j = bf l j) ∧ (bf s.2 i = true ↔ bf l i = true ∨ ∃ k, i < k ∧ k < i + 1 + q ∧ (mv d.Moves k).Kind = 3 ∧ (mv d.Moves k).Target = (i : Int))) ⟨rfl, by omega, hl, fun _ _ => rfl, ?_⟩ ?_
  · constructor
    · exact .inl
    · rintro (h | ⟨k, h1, h2, _⟩)
      · exact h
      · omega
  · rintro q ⟨_, r⟩ ⟨rfl, hq, hr, hj, hi2⟩
    dsimp only [ref27_gone_l2] at *
    rw [hsx]
    refine T.cond (fun g => ?_) fun g => ?_
    · simp at g
      have hk : i + 1 + q < d.Moves.length := by omega
      rw [iadd1 (by omega), idx_bf (by omega), some_bind, idx_mv hk, some_bind]
      simp only [letM_eq, Int.toNat_natCast]
      have stp : ∀ v : Bool, (v = true ↔ bf r i = true ∨ ((mv d.Moves (i + 1 + q)).Kind = 3 ∧ (mv d.Moves (i + 1 + q)).Target = (i : Int))) → T (some (Sum.inr (((i + 1 + q + 1 : Nat) : Int), r.set i v)) : Option (Sum (List Bool) (Int × List Bool))) (onO (fun r => r.length = d.Moves.length ∧ (∀ j, j ≠ i → bf r j = bf l j) ∧ (bf r i = true ↔ bf l i = true ∨ ret d.Moves i))
          fun s => q < d.Moves.length ∧ s.1 = ((i + 1 + (q + 1) : Nat) : Int) ∧ i + 1 + (q + 1) ≤ d.Moves.length ∧ s.2.length = d.Moves.length ∧ (∀ j, j ≠ i → bf s.2 j = bf l j) ∧ (bf s.2 i = true ↔ bf l i = true ∨ ∃ k, i < k ∧ k < i + 1 + (q + 1) ∧ (mv d.Moves k).Kind = 3 ∧ (mv d.Moves k).Target = (i : Int))) := fun v hv => .ret ⟨by omega, by dsimp only; omega, by omega, by simpa using hr, fun j hji => by dsimp only; rw [bf_set (by omega), if_neg (Ne.symm hji)]; exact hj j hji, by
        dsimp only
        rw [bf_set (by omega), if_pos rfl, hv, hi2]
        constructor
        · rintro ((h | ⟨k, h1, h2, h3⟩) | h)
          · exact .inl h
          · exact .inr ⟨k, h1, by omega, h3⟩
          · exact .inr ⟨i + 1 + q, by omega, by omega, h⟩
        · rintro (h | ⟨k, h1, h2, h3⟩)
          · exact .inl (.inl h)
          · by_cases e : k = i + 1 + q
            · subst e; exact .inr h3
            · exact .inl (.inr ⟨k, h1, by omega, h3⟩)⟩
      refine T.cond (fun h => stp true (by simp [h])) fun h => T.cond (fun h2 => stp _ ?_) fun h2 => stp false ?_
      · simp at h2; simp [h, h2]
      · simp at h2; simp [h, h2]
    · simp at g
      refine .ret ⟨hr, hj, ?_⟩
      rw [hi2, ret_iff hd]
      constructor
      · rintro (h | ⟨k, h1, h2, h3⟩)
        · exact .inl h
        · exact .inr ⟨k, h1, by omega, h3⟩
      · rintro (h | ⟨k, h1, h2, h3⟩)
        · exact .inl h
        · exact .inr ⟨k, h1, by omega, h3⟩

theorem gone_plain {d : Dg} (hd : Dlg d) : T (ref27_gone_m d) fun a => a.length = d.Moves.length ∧ ∀ i, i < d.Moves.length → (bf a i = false ↔ i = 0 ∨ ((mv d.Moves i).Kind = 2 ∧ ¬ ret d.Moves i ∧ bf a (tg d.Moves i) = false)) := by
  have hn := hd.n2
  unfold ref27_gone_m
  rw [mkM_T (by omega), some_bind]
  refine T.bind (P := fun a => a.length = d.Moves.length ∧ ∀ i, i < d.Moves.length → (bf a i = false ↔ i = 0 ∨ ((mv d.Moves i).Kind = 2 ∧ ¬ ret d.Moves i ∧ bf a (tg d.Moves i) = false))) ?_ fun a ha => .ret ha
  refine T.loopK d.Moves.length (fun i s => s.1 = (i : Int) ∧ i ≤ d.Moves.length ∧ s.2.length = d.Moves.length ∧ ∀ j, j < i → (bf s.2 j = false ↔ j = 0 ∨ ((mv d.Moves j).Kind = 2 ∧ ¬ ret d.Moves j ∧ bf s.2 (tg d.Moves j) = false))) ⟨rfl, by omega, by simp, fun j hj => by omega⟩ ?_
  rintro i ⟨_, l⟩ ⟨rfl, hi, hl, hj⟩
  dsimp only [ref27_gone_l1] at *
  refine T.cond (fun g => ?_) fun g => ?_
  rotate_left
  · simp at g
    have e : i = d.Moves.length := by omega
    exact .ret ⟨hl, e ▸ hj⟩
  simp at g
  rw [idx_mv g, some_bind, idx_bf (by omega), iadd1 (by omega)]
  -- the last step: what is put at i
  have put : ∀ l' : List Bool, l'.length = d.Moves.length → (∀ j, j ≠ i → bf l' j = bf l j) → (bf l' i = false ↔ i = 0 ∨ ((mv d.Moves i).Kind = 2 ∧ ¬ ret d.Moves i ∧ bf l (tg d.Moves i) = false)) →
      T (some (Sum.inr (((i + 1 : Nat) : Int), l')) : Option (Sum (List Bool) (Int × List Bool))) (onO (fun a => a.length = d.Moves.length ∧ ∀ i, i < d.Moves.length → (bf a i = false ↔ i = 0 ∨ ((mv d.Moves i).Kind = 2 ∧ ¬ ret d.Moves i ∧ bf a (tg d.Moves i) = false)))
        fun s => i < d.Moves.length ∧ s.1 = ((i + 1 : Nat) : Int) ∧ i + 1 ≤ d.Moves.length ∧ s.2.length = d.Moves.length ∧ ∀ j, j < i + 1 → (bf s.2 j = false ↔ j = 0 ∨ ((mv d.Moves j).Kind = 2 ∧ ¬ ret d.Moves j ∧ bf s.2 (tg d.Moves j) = false))) := fun l' h1 h2 h3 => .ret ⟨g, rfl, by omega, h1, fun j hji => by
    dsimp only
    have tgj : (mv d.Moves j).Kind = 2 → bf l' (tg d.Moves j) = bf l (tg d.Moves j) := fun hk => by
      have := (hd.att (by omega) hk).2.2.2.1
      exact h2 _ (by omega)
    by_cases e : j = i
    · subst e
      rw [h3]
      by_cases hk : (mv d.Moves j).Kind = 2
      · rw [tgj hk]
      · simp [hk]
    · rw [h2 j e, hj j (by omega)]
      by_cases hk : (mv d.Moves j).Kind = 2
      · rw [tgj hk]
      · simp [hk]⟩
  refine T.joinP (fun j => ∃ v : Bool, j = l.set i v ∧ (v = true ↔ (mv d.Moves i).Kind = 3 ∨ (mv d.Moves i).Kind = 4)) (fun j ⟨v, hv, hv2⟩ => ?_) fun kk hkk => ?_
  rotate_left
  · refine T.cond (fun h => ?_) fun h => ?_
    · rw [some_bind, Int.toNat_natCast]
      exact hkk _ ⟨true, rfl, by simp at h; simp [h]⟩
    · rw [some_bind, Int.toNat_natCast]
      exact hkk _ ⟨_, rfl, by simp at h; simp [h]⟩
  refine .letM (T.bind (gone_l2 hd rfl g (by rw [hv]; simpa using hl)) fun r ⟨hr1, hr2, hr3⟩ => ?_)
  have hbi : bf j i = v := by rw [hv, bf_set (by omega), if_pos rfl]
  have hbj : ∀ q, q ≠ i → bf j q = bf l q := fun q hq => by rw [hv, bf_set (by omega), if_neg (Ne.symm hq)]
  have hrj : ∀ q, q ≠ i → bf r q = bf l q := fun q hq => by rw [hr2 q hq, hbj q hq]
  have hri : bf r i = true ↔ ((mv d.Moves i).Kind = 3 ∨ (mv d.Moves i).Kind = 4) ∨ ret d.Moves i := by rw [hr3, hbi, hv2]
  have kd := hd.kind g
  refine T.cond (fun h => ?_) fun h => ?_
  · have hk : (mv d.Moves i).Kind = 2 := by simpa using h
    obtain ⟨a1, a2, a3, a4, _⟩ := hd.att g hk
    rw [idx_bf (by omega), some_bind, idx_bf' a2 (by omega), some_bind, some_bind]
    simp only [letM_eq, Int.toNat_natCast]
    have et : (mv d.Moves i).Target.toNat = tg d.Moves i := rfl
    rw [et, hrj (tg d.Moves i) (by omega)]
    have hri' : bf r i = true ↔ ret d.Moves i := by rw [hri]; simp [hk]
    refine T.cond (fun h2 => put _ (by simpa using hr1) (fun q hq => by rw [bf_set (by omega), if_neg (Ne.symm hq)]; exact hrj q hq) ?_) fun h2 => put _ (by simpa using hr1) (fun q hq => by rw [bf_set (by omega), if_neg (Ne.symm hq)]; exact hrj q hq) ?_
    · rw [bf_set (by omega), if_pos rfl]
      have := hri'.1 h2
      simp only [Bool.true_eq_false, false_iff]
      rintro (h3 | ⟨_, h3, _⟩)
      · omega
      · exact h3 this
    · rw [bf_set (by omega), if_pos rfl]
      have : ¬ ret d.Moves i := fun hh => by rw [hri'.2 hh] at h2; cases h2
      constructor
      · intro h3; exact .inr ⟨hk, this, h3⟩
      · rintro (h3 | ⟨_, _, h3⟩)
        · omega
        · exact h3
  · have hk : ¬ (mv d.Moves i).Kind = 2 := by simpa using h
    refine .letM (put r hr1 hrj ?_)
    have hf : bf r i = false ↔ ¬ (((mv d.Moves i).Kind = 3 ∨ (mv d.Moves i).Kind = 4) ∨ ret d.Moves i) := by rw [← hri]; simp
    rw [hf]
    constructor
    · intro h3
      rcases kd with ⟨_, h0⟩ | h4 | h4 | h4
      · exact .inl h0
      · exact absurd h4 hk
      · exact absurd (.inl (.inl h4)) h3
      · exact absurd (.inl (.inr h4)) h3
    · rintro (h0 | ⟨h4, _⟩)
      · subst h0
        rintro (h5 | h5)
        · rw [hd.hd] at h5; rcases h5 with h5 | h5 <;> cases h5
        · exact hd.ret0 h5
      · exact absurd h4 hk

/-- statuses from the last move to the first -/
theorem rstatus_plain {d : Dg} (hd : Dlg d) : T (ref27_Status_m d) (IsSt d.Moves) := by
  have hn := hd.n2; have h1n := hd.n1
  unfold ref27_Status_m
  refine T.bind (gone_plain hd) fun a ⟨ha, hal⟩ => ?_
  rw [mkM_T (by omega), some_bind, isub1 (by omega)]
  refine .letM (T.bind (P := IsSt d.Moves) ?_ fun l hl => .ret hl)
  -- all moves from i on are judged
  let J : Nat → List Int → Prop := fun i l => l.length = d.Moves.length ∧ (∀ j, j < i → sf l j = 0) ∧
    ∀ j, i ≤ j → j < d.Moves.length → (sf l j ≠ 0 ↔ bf a j = false) ∧ (sf l j = 0 ∨ sf l j = 2 ∧ (∃ k, Kid d.Moves (sf l) j k) ∨ sf l j = 1 ∧ ¬ ∃ k, Kid d.Moves (sf l) j k)
  refine T.loopK d.Moves.length (fun k s => k ≤ d.Moves.length ∧ s.1 = (d.Moves.length : Int) - 1 - k ∧ J (d.Moves.length - k) s.2) ⟨by omega, by simp, by simp, fun j _ => by exact getD_rep, fun j h1 h2 => by omega⟩ ?_
  rintro k ⟨_, l⟩ ⟨hk, rfl, hl, hz, hj⟩
  dsimp only [ref27_Status_l1] at *
  refine T.cond (fun g => ?_) fun g => ?_
  rotate_left
  · simp at g
    have e : d.Moves.length - k = 0 := by omega
    rw [e] at hj
    refine .ret ⟨hl, fun j hjl => ?_, fun j hjl => (hj j (Nat.zero_le _) hjl).2⟩
    rw [(hj j (Nat.zero_le _) hjl).1, hal j hjl]
    by_cases h0 : j = 0
    · simp [h0]
    · by_cases hkd : (mv d.Moves j).Kind = 2
      · have := (hd.att hjl hkd).2.2.2.1
        rw [(hj _ (Nat.zero_le _) (by omega)).1]
      · simp [hkd]
  simp at g
  obtain ⟨i, hi⟩ : ∃ i : Nat, i = d.Moves.length - 1 - k := ⟨_, rfl⟩
  have ei : (d.Moves.length : Int) - 1 - k = (i : Int) := by omega
  have e1 : d.Moves.length - k = i + 1 := by omega
  have e2 : d.Moves.length - (k + 1) = i := by omega
  have hil : i < d.Moves.length := by omega
  rw [e1] at hz hj
  rw [ei, e2, idx_bf (by omega), some_bind, isub1 (by omega)]
  have e3 : (i : Int) - 1 = (d.Moves.length : Int) - 1 - ((k + 1 : Nat) : Int) := by omega
  refine T.cond (fun h => ?_) fun h => ?_
  · refine .letM (.ret ⟨by omega, by omega, e3, hl, fun j hji => hz j (by omega), fun j h1 h2 => ?_⟩)
    by_cases e : j = i
    · subst e
      rw [hz j (by omega), h]
      exact ⟨by simp, .inl rfl⟩
    · exact hj j (by omega) h2
  · rw [idx_sf (by omega), some_bind, iadd1 (by omega), Int.toNat_natCast]
    refine .letM (T.bind (P := fun r => J i r) ?_ fun r hr => .letM (.ret ⟨by omega, by omega, e3, hr⟩))
    have hkid : ∀ (v : Int) j k, i < k → (Kid d.Moves (sf (l.set i v)) j k ↔ Kid d.Moves (sf l) j k) := fun v j k hk => by unfold Kid; rw [sf_set (by omega), if_neg (by omega)]
    refine T.loopK d.Moves.length (fun q s => s.1 = ((i + 1 + q : Nat) : Int) ∧ i + 1 + q ≤ d.Moves.length ∧ ∃ v : Int, s.2 = l.set i v ∧ (v = 1 ∧ (¬ ∃ k, k < i + 1 + q ∧ Kid d.Moves (sf l) i k) ∨ v = 2 ∧ ∃ k, k < i + 1 + q ∧ Kid d.Moves (sf l) i k)) ⟨rfl, by omega, 1, rfl, .inl ⟨rfl, fun ⟨k, h1, h2, _⟩ => by omega⟩⟩ ?_
    rintro q ⟨_, _⟩ ⟨rfl, hq, v, rfl, hv⟩
    dsimp only [ref27_Status_l2] at *
    refine T.cond (fun g2 => ?_) fun g2 => ?_
    · simp at g2
      have hkl : i + 1 + q < d.Moves.length := by omega
      rw [iadd1 (by omega), idx_mv hkl, some_bind]
      have skip : ¬ Kid d.Moves (sf l) i (i + 1 + q) → T (letM ((((i + 1 + q) + 1 : Nat) : Int)) fun k90 => some (Sum.inr (k90, l.set i v)) : Option (Sum (List Int) (Int × List Int))) (onO (fun r => J i r) fun s => q < d.Moves.length ∧ s.1 = ((i + 1 + (q + 1) : Nat) : Int) ∧ i + 1 + (q + 1) ≤ d.Moves.length ∧ ∃ v : Int, s.2 = l.set i v ∧ (v = 1 ∧ (¬ ∃ k, k < i + 1 + (q + 1) ∧ Kid d.Moves (sf l) i k) ∨ v = 2 ∧ ∃ k, k < i + 1 + (q + 1) ∧ Kid d.Moves (sf l) i k)) := fun hno => .letM (.ret ⟨by omega, by dsimp only; omega, by omega, v, rfl, by
        rcases hv with ⟨h1, h2⟩ | ⟨h1, k, h2, h3⟩
        · refine .inl ⟨h1, ?_⟩
          rintro ⟨k, h3, h4⟩
          by_cases e : k = i + 1 + q
          · subst e; exact hno h4
          · exact h2 ⟨k, by omega, h4⟩
        · exact .inr ⟨h1, k, by omega, h3⟩⟩)
      have hval : sf (l.set i v) (i + 1 + q) = sf l (i + 1 + q) := by rw [sf_set (by omega), if_neg (by omega)]
      refine T.cond (fun h1 => ?_) fun h1 => skip ?_
      · have h1' : (mv d.Moves (i + 1 + q)).Kind = 2 := by simpa using h1
        rw [some_bind]
        refine T.cond (fun h2 => ?_) fun h2 => skip ?_
        · have h2' : (mv d.Moves (i + 1 + q)).Target = (i : Int) := by simpa using h2
          rw [idx_sf (by simp; omega), some_bind, hval]
          refine T.cond (fun h3 => ?_) fun h3 => skip ?_
          · rw [idx_sf (by simp; omega), some_bind, Int.toNat_natCast]
            have hkk : Kid d.Moves (sf l) i (i + 1 + q) := ⟨by omega, hkl, by unfold tg; omega, by simpa using h3⟩
            exact .letM (.ret ⟨by omega, by dsimp only; omega, by omega, 2, by simp, .inr ⟨rfl, i + 1 + q, by omega, hkk⟩⟩)
          · intro h; simp at h3; exact h3 h.2.2.2
        · intro h
          simp at h2
          have h5 := hd.att hkl h1'
          have h6 := h.2.2.1
          unfold tg at h6
          omega
      · intro h
        simp at h1
        have h5 := (hj (i + 1 + q) (by omega) hkl).1.1 (by rw [h.2.2.2]; omega)
        rcases (hal _ hkl).1 h5 with h6 | h6
        · omega
        · exact h1 h6.1
    · simp at g2
      have hv' : v = 1 ∧ (¬ ∃ k, Kid d.Moves (sf l) i k) ∨ v = 2 ∧ ∃ k, Kid d.Moves (sf l) i k := by
        rcases hv with ⟨h1, h2⟩ | ⟨h1, k, _, h3⟩
        · refine .inl ⟨h1, ?_⟩
          rintro ⟨k, h3⟩
          exact h2 ⟨k, by have := h3.2.1; omega, h3⟩
        · exact .inr ⟨h1, k, h3⟩
      refine .ret ⟨by simpa using hl, fun j hji => by rw [sf_set (by omega), if_neg (by omega)]; exact hz j (by omega), fun j h1 h2 => ?_⟩
      have hk2 : (∃ k, Kid d.Moves (sf (l.set i v)) j k) ↔ ∃ k, Kid d.Moves (sf l) j k := by
        constructor
        · rintro ⟨k, h3⟩; exact ⟨k, (hkid v j k (by have := h3.1; omega)).1 h3⟩
        · rintro ⟨k, h3⟩; exact ⟨k, (hkid v j k (by have := h3.1; omega)).2 h3⟩
      rw [hk2, sf_set (by omega)]
      by_cases e : i = j
      · subst e
        rw [if_pos rfl, h]
        rcases hv' with ⟨h3, h4⟩ | ⟨h3, h4⟩
        · rw [h3]; exact ⟨by simp, .inr (.inr ⟨rfl, h4⟩)⟩
        · rw [h3]; exact ⟨by simp, .inr (.inl ⟨rfl, h4⟩)⟩
      · rw [if_neg e]; exact hj j (by omega) h2

section
variable {d : Dg} (hd : Dlg d) {tb : T_protocol_table} (ht : TabOk d tb)
include hd ht
theorem rstatus_eq : ref27_Status_m d = some tb.status := by
  obtain ⟨l, h1, h2⟩ := rstatus_plain hd
  rw [h1, h2.unique ht.st fun i h1 h2 h3 => (hd.att h2 h3).2.2.2.1]

theorem rleader_eq : ref27_leader_m tb.status = some (lead (sf tb.status)) := by
  have h1n := hd.n1
  unfold ref27_leader_m
  rw [idx_sf' (by omega) (by rw [ht.st.1]; omega), some_bind, Int.toNat_zero]
  unfold lead
  by_cases h : sf tb.status 0 = 1
  · rw [if_pos h, h]; rfl
  · rw [if_neg h, show (sf tb.status 0 == 1) = false from by simp [h]]; rfl

theorem rLeading_eq : ref27_Leading_m d = some (part d.Moves.length (bf tb.leading)) := by
  have h1n := hd.n1; have hn := hd.n2
  unfold ref27_Leading_m
  rw [rstatus_eq hd ht, some_bind]
  refine T.eq (T.bind (P := fun q => q = part d.Moves.length (bf tb.leading)) ?_ fun q hq => .ret hq)
  refine T.loopK d.Moves.length (fun k s => s.1 = ((k + 1 : Nat) : Int) ∧ k + 1 ≤ d.Moves.length ∧ s.2 = part (k + 1) (bf tb.leading)) ⟨rfl, by omega, by simp [part, List.range_succ, ht.b.z]⟩ ?_
  rintro k ⟨_, _⟩ ⟨rfl, hk, rfl⟩
  obtain ⟨i, hi⟩ : ∃ i, i = k + 1 := ⟨_, rfl⟩
  rw [← hi] at hk ⊢
  dsimp only [ref27_Leading_l1]
  refine T.cond (fun g => ?_) fun g => ?_
  rotate_left
  · simp at g
    have e : i = d.Moves.length := by omega
    exact .ret (by rw [e])
  simp at g
  have hpl := part_len (n := i) (b := bf tb.leading)
  rw [idx_mv g, some_bind, idx_sf (by rw [ht.st.1]; exact g), some_bind, iadd1 (by omega)]
  have hb := ht.b.s i (by omega) g
  have yes : bf tb.leading i = true → T (some (Sum.inr (((i + 1 : Nat) : Int), part i (bf tb.leading) ++ [(i : Int)])) : Option (Sum (List Int) (Int × List Int))) (onO (fun q => q = part d.Moves.length (bf tb.leading)) fun s => k < d.Moves.length ∧ s.1 = ((i + 1 : Nat) : Int) ∧ i + 1 ≤ d.Moves.length ∧ s.2 = part (i + 1) (bf tb.leading)) :=
    fun h => .ret ⟨by omega, rfl, by omega, by rw [part_succ, h]; rfl⟩
  have no : ¬ bf tb.leading i = true → T (some (Sum.inr (((i + 1 : Nat) : Int), part i (bf tb.leading))) : Option (Sum (List Int) (Int × List Int))) (onO (fun q => q = part d.Moves.length (bf tb.leading)) fun s => k < d.Moves.length ∧ s.1 = ((i + 1 : Nat) : Int) ∧ i + 1 ≤ d.Moves.length ∧ s.2 = part (i + 1) (bf tb.leading)) :=
    fun h => .ret ⟨by omega, rfl, by omega, by rw [part_succ, show bf tb.leading i = false from by simpa using h]; simp⟩
  refine T.cond (fun h => .letM (no ?_)) fun h => ?_
  · rw [hb]; simp at h; simp [h]
  have h' : sf tb.status i ≠ 0 := by simpa using h
  obtain ⟨hkd, _, hap⟩ := ht.st.2.kid hd g (by omega) h'
  obtain ⟨_, a2, a3, a4, _⟩ := hd.att g hkd
  have et : (mv d.Moves i).Target.toNat = tg d.Moves i := rfl
  have hin : net_In_m (part i (bf tb.leading)) (mv d.Moves i).Target = some (bf tb.leading (tg d.Moves i)) := by
    have : net_In_m (part i (bf tb.leading)) (mv d.Moves i).Target = some ((part i (bf tb.leading)).any (· == (mv d.Moves i).Target)) := by
      unfold net_In_m
      refine any_bind (fun j hj => ?_) ?_
      · simp only [net_In_l1]
        rw [decide_eq_true (by omega : (j : Int) < (part i (bf tb.leading)).length), idxM_nat hj]
        simp only [cond_true, some_bind]
        rw [iadd1 (by omega)]
        cases ((part i (bf tb.leading))[j] == (mv d.Moves i).Target) <;> rfl
      · simp only [net_In_l1]
        rw [decide_eq_false (by omega)]; rfl
    rw [this, Option.some.injEq, Bool.eq_iff_iff, List.any_eq_true]
    constructor
    · rintro ⟨x, h1, h2⟩
      obtain ⟨m, _, h3, h4⟩ := mem_part.1 h1
      have : m = tg d.Moves i := by simp at h2; omega
      rw [← this]; exact h3
    · intro h1
      exact ⟨((tg d.Moves i : Nat) : Int), mem_part.2 ⟨_, a4, h1, rfl⟩, by simp; omega⟩
  rw [hin, some_bind]
  refine T.cond (fun h1 => .letM (no ?_)) fun h1 => ?_
  · rw [hb]; simp at h1; simp [h1]
  have h1' : bf tb.leading (tg d.Moves i) = true := by simpa using h1
  refine T.joinP (fun j => (j = true ↔ bf tb.leading i = true)) (fun j hj => ?_) fun kk hkk => ?_
  · refine T.cond (fun h2 => ?_) fun h2 => .letM (no (by rw [← hj, h2]; simp))
    rw [appM_eq (by simp; omega), some_bind]
    exact .letM (yes (hj.1 h2))
  · rw [idx_mv' a2 (by omega), some_bind, rleader_eq hd ht, some_bind, et]
    refine T.cond (fun h2 => hkk _ ?_) fun h2 => ?_
    · have h2' : (mv d.Moves (tg d.Moves i)).By = lead (sf tb.status) := by simpa using h2
      simp [hb, h', h1', h2']
    · have h2' : ¬ (mv d.Moves (tg d.Moves i)).By = lead (sf tb.status) := by simpa using h2
      rw [some_bind]
      refine hkk _ ?_
      rw [hb]; simp [h', h1', h2']

theorem repeated_plain {t : Nat} (h1 : t < d.Moves.length) (h2 : sf tb.status t ≠ 0) {a : Int} : T (ref27_repeated_m d (t : Int) a) fun r => (r = true ↔ RepN d.Moves a t) := by
  have h1n := hd.n1; have hn := hd.n2
  unfold ref27_repeated_m
  refine T.bind (P := fun o => o = .inl true ∧ RepN d.Moves a t ∨ o = .inr () ∧ (RepN d.Moves a 0 ↔ RepN d.Moves a t)) ?_ fun o ho => ?_
  · refine T.loopM (fun s : Int => ∃ u : Nat, s = (u : Int) ∧ u < d.Moves.length ∧ sf tb.status u ≠ 0 ∧ (RepN d.Moves a u ↔ RepN d.Moves a t)) (fun s => s.toNat) ⟨t, rfl, h1, h2, Iff.rfl⟩ ?_
    rintro _ ⟨u, rfl, hu, hs, hiff⟩
    dsimp only [ref27_repeated_l1]
    refine T.cond (fun g => ?_) fun g => ?_
    rotate_left
    · simp at g
      subst g
      exact .ret (.inr ⟨rfl, hiff⟩)
    simp at g
    obtain ⟨hkd, _, hup⟩ := ht.st.2.kid hd hu (by omega) hs
    obtain ⟨_, a2, a3, a4, _⟩ := hd.att hu hkd
    rw [idx_mv hu]
    refine T.joinP (fun _ => ¬ ((mv d.Moves u).By = 1 ∧ (mv d.Moves u).Node = a)) (fun _ hno => ?_) fun kk hkk => ?_
    · rw [some_bind]
      refine .ret ⟨⟨tg d.Moves u, by unfold tg; omega, by omega, hup, ?_⟩, by omega⟩
      rw [← hiff, RepN.cases' (t := u)]
      constructor
      · intro h; exact .inr ⟨by omega, h⟩
      · rintro (h | h)
        · exact absurd h hno
        · exact h.2
    · rw [some_bind]
      refine T.cond (fun h3 => ?_) fun h3 => hkk _ fun h => by simp [h.1] at h3
      rw [some_bind]
      refine T.cond (fun h4 => ?_) fun h4 => hkk _ fun h => by simp [h.2] at h4
      exact .ret (.inl ⟨rfl, hiff.1 (.here (by simpa using h3) (by simpa using h4))⟩)
  · rcases ho with ⟨rfl, h⟩ | ⟨rfl, h⟩
    · exact .ret (by simp [h])
    · simp only [sumK_inr]
      rw [idx_mv' (by omega) (by omega), some_bind, Int.toNat_zero]
      refine .letM (.ret ?_)
      rw [← h, RepN.cases', hd.hd]
      simp

theorem attacks_plain (hg : GVal d.Graph) : T (ref27_attacks_m d) fun l => l.length ≤ d.Moves.length * d.Graph.N.toNat ∧ ∀ x, x ∈ l ↔ Leg d (sf tb.status) (bf tb.leading) x := by
  have hn := hd.n2; have h40 := hg.n1; have hLn := hd.Ln
  have hl12 := lead_12 (sf tb.status)
  have esub : isub .i64 3 (lead (sf tb.status)) = 3 - lead (sf tb.status) := isub64 (by omega) (by omega)
  unfold ref27_attacks_m
  rw [rstatus_eq hd ht, some_bind, rleader_eq hd ht, some_bind, rLeading_eq hd ht, some_bind]
  have hpl := part_len (n := d.Moves.length) (b := bf tb.leading)
  refine T.bind (P := fun l => l.length ≤ d.Moves.length * d.Graph.N.toNat ∧ ∀ x, x ∈ l ↔ Leg d (sf tb.status) (bf tb.leading) x) ?_ fun l hl => .ret hl
  refine T.loopK (part d.Moves.length (bf tb.leading)).length (fun i s => s.1 = (i : Int) ∧ i ≤ (part d.Moves.length (bf tb.leading)).length ∧ s.2.length ≤ i * d.Graph.N.toNat ∧ ∀ x, x ∈ s.2 ↔ Leg d (sf tb.status) (bf tb.leading) x ∧ x.Target ∈ (part d.Moves.length (bf tb.leading)).take i) ⟨rfl, by omega, by simp, by simp⟩ ?_
  rintro i ⟨_, l⟩ ⟨rfl, hi, hl, hm⟩
  dsimp only [ref27_attacks_l1] at *
  refine T.cond (fun g => ?_) fun g => ?_
  rotate_left
  · simp at g
    have e : i = (part d.Moves.length (bf tb.leading)).length := by omega
    refine .ret ⟨Nat.le_trans hl (Nat.mul_le_mul_right _ (by omega)), fun x => ?_⟩
    rw [hm x, e, List.take_length]
    constructor
    · exact fun h => h.1
    · intro h
      refine ⟨h, ?_⟩
      obtain ⟨t, p, a1, a2, _, _, _, rfl, _⟩ := h
      exact mem_part.2 ⟨t, a1, a2, rfl⟩
  simp at g
  obtain ⟨t, h1, h2, h3⟩ := mem_part.1 (List.getElem_mem g)
  have tk : (part d.Moves.length (bf tb.leading)).take (i + 1) = (part d.Moves.length (bf tb.leading)).take i ++ [(t : Int)] := by rw [List.take_succ_eq_append_getElem g, h3]
  have mul : (i + 1) * d.Graph.N.toNat = i * d.Graph.N.toNat + d.Graph.N.toNat := Nat.succ_mul _ _
  have himul : i * d.Graph.N.toNat ≤ 200 * 40 := Nat.mul_le_mul (by omega) (by omega)
  rw [idxM_nat g, some_bind, h3, idx_mv h1, some_bind, iadd1 (by omega), isub64 (by omega) (by omega)]
  have hbyt := hd.by' h1
  refine T.cond (fun hb => ?_) fun hb => ?_
  · have hb' : (mv d.Moves t).By = 3 - lead (sf tb.status) := by simpa using hb
    refine .ret ⟨g, rfl, by omega, by dsimp only; omega, fun x => ?_⟩
    dsimp only
    rw [hm x, tk]
    simp only [List.mem_append, List.mem_singleton]
    constructor
    · rintro ⟨h4, h5⟩; exact ⟨h4, .inl h5⟩
    · rintro ⟨h4, h5 | h5⟩
      · exact ⟨h4, h5⟩
      · exfalso
        obtain ⟨t', p, a1, a2, a3, _, _, rfl, _⟩ := h4
        have : t' = t := by simp only at h5; omega
        subst this; omega
  have hb' : (mv d.Moves t).By = lead (sf tb.status) := by
    have : ¬ (mv d.Moves t).By = 3 - lead (sf tb.status) := by simpa using hb
    omega
  have hal := ht.b.alive hd ht.st.2 h1 h2
  -- what is asked of a node
  let W : Int → Prop := fun a => att d.Graph a (mv d.Moves t).Node ∧ (⟨3 - lead (sf tb.status), 2, a, (t : Int)⟩ : Mv) ∉ d.Moves ∧ (3 - lead (sf tb.status) = 1 → ¬ RepN d.Moves a t)
  have hleg : ∀ x, (Leg d (sf tb.status) (bf tb.leading) x ∧ x.Target = (t : Int)) ↔ ∃ a : Nat, (a : Int) < d.Graph.N ∧ W a ∧ x = ⟨3 - lead (sf tb.status), 2, (a : Int), (t : Int)⟩ := fun x => by
    constructor
    · rintro ⟨⟨t', p, a1, a2, a3, a4, a5, rfl, a6, a7⟩, h4⟩
      have : t' = t := by simp only at h4; omega
      subst this
      have hv := hg.v p a4
      refine ⟨p.From.toNat, by omega, ?_, by rw [show ((p.From.toNat : Nat) : Int) = p.From from by omega]⟩
      show W _
      rw [show ((p.From.toNat : Nat) : Int) = p.From from by omega]
      exact ⟨⟨p, a4, rfl, a5⟩, a6, a7⟩
    · rintro ⟨a, h4, ⟨⟨p, h5, h6, h7⟩, h8, h9⟩, rfl⟩
      exact ⟨⟨t, p, h1, h2, hb', h5, h7, by rw [h6], h8, by rw [h6]; exact h9⟩, rfl⟩
  refine T.bind (P := fun l' => l'.length ≤ (i + 1) * d.Graph.N.toNat ∧ ∀ x, x ∈ l' ↔ Leg d (sf tb.status) (bf tb.leading) x ∧ x.Target ∈ (part d.Moves.length (bf tb.leading)).take (i + 1)) ?_ fun l' hl' => .ret ⟨g, rfl, by omega, hl'⟩
  refine T.loopK d.Graph.N.toNat (fun a s => s.1 = (a : Int) ∧ a ≤ d.Graph.N.toNat ∧ s.2.length ≤ i * d.Graph.N.toNat + a ∧ ∀ x, x ∈ s.2 ↔ x ∈ l ∨ ∃ b : Nat, b < a ∧ W b ∧ x = ⟨3 - lead (sf tb.status), 2, (b : Int), (t : Int)⟩) ⟨rfl, by omega, by simpa using hl, by simp⟩ ?_
  rintro a ⟨_, l'⟩ ⟨rfl, ha, hlen, hmem⟩
  dsimp only [ref27_attacks_l2] at *
  refine T.cond (fun ga => ?_) fun ga => ?_
  rotate_left
  · simp at ga
    refine .ret ⟨by omega, fun x => ?_⟩
    rw [hmem x, tk]
    simp only [List.mem_append, List.mem_singleton]
    have hx := hleg x
    have hbN : ∀ b : Nat, b < a → (b : Int) < d.Graph.N := fun b hb => by have := hg.n0; clear hx hm hmem; omega
    constructor
    · rintro (h4 | ⟨b, h4, h5, h6⟩)
      · have := (hm x).1 h4; exact ⟨this.1, .inl this.2⟩
      · have := hx.2 ⟨b, hbN b h4, h5, h6⟩; exact ⟨this.1, .inr this.2⟩
    · rintro ⟨h4, h5 | h5⟩
      · exact .inl ((hm x).2 ⟨h4, h5⟩)
      · obtain ⟨b, h6, h7, h8⟩ := hx.1 ⟨h4, h5⟩
        exact .inr ⟨b, by clear hx hm hmem; omega, h7, h8⟩
  simp at ga
  rw [idx_mv h1, some_bind, Has_plain (by omega), some_bind, iadd1 (by omega), esub]
  have no : ¬ W a → T (letM (((a + 1 : Nat) : Int)) fun a_328 => some (Sum.inr (a_328, l')) : Option (Sum (List Mv) (Int × List Mv))) (onO (fun l' => l'.length ≤ (i + 1) * d.Graph.N.toNat ∧ ∀ x, x ∈ l' ↔ Leg d (sf tb.status) (bf tb.leading) x ∧ x.Target ∈ (part d.Moves.length (bf tb.leading)).take (i + 1))
      fun s => a < d.Graph.N.toNat ∧ s.1 = ((a + 1 : Nat) : Int) ∧ a + 1 ≤ d.Graph.N.toNat ∧ s.2.length ≤ i * d.Graph.N.toNat + (a + 1) ∧ ∀ x, x ∈ s.2 ↔ x ∈ l ∨ ∃ b : Nat, b < a + 1 ∧ W b ∧ x = ⟨3 - lead (sf tb.status), 2, (b : Int), (t : Int)⟩) := fun hno =>
    .letM (.ret ⟨by omega, rfl, by omega, by dsimp only; omega, fun x => by
      dsimp only
      rw [hmem x]
      constructor
      · rintro (h4 | ⟨b, h4, h5⟩)
        · exact .inl h4
        · exact .inr ⟨b, by omega, h5⟩
      · rintro (h4 | ⟨b, h4, h5, h6⟩)
        · exact .inl h4
        · by_cases e : b = a
          · subst e; exact absurd h5 hno
          · exact .inr ⟨b, by omega, h5, h6⟩⟩)
  have yes : W a → T (Option.bind (appM 32 l' [(T_api_Move.mk (3 - lead (sf tb.status)) 2 (a : Int) (t : Int))]) fun out325 => letM (((a + 1 : Nat) : Int)) fun a_327 => some (Sum.inr (a_327, out325)) : Option (Sum (List Mv) (Int × List Mv))) (onO (fun l' => l'.length ≤ (i + 1) * d.Graph.N.toNat ∧ ∀ x, x ∈ l' ↔ Leg d (sf tb.status) (bf tb.leading) x ∧ x.Target ∈ (part d.Moves.length (bf tb.leading)).take (i + 1))
      fun s => a < d.Graph.N.toNat ∧ s.1 = ((a + 1 : Nat) : Int) ∧ a + 1 ≤ d.Graph.N.toNat ∧ s.2.length ≤ i * d.Graph.N.toNat + (a + 1) ∧ ∀ x, x ∈ s.2 ↔ x ∈ l ∨ ∃ b : Nat, b < a + 1 ∧ W b ∧ x = ⟨3 - lead (sf tb.status), 2, (b : Int), (t : Int)⟩) := fun hyes => by
    rw [appM_eq (by simp; omega), some_bind]
    exact .letM (.ret ⟨by omega, rfl, by omega, by simp; omega, fun x => by
      dsimp only
      rw [List.mem_append, hmem x, List.mem_singleton]
      constructor
      · rintro ((h4 | ⟨b, h4, h5⟩) | h4)
        · exact .inl h4
        · exact .inr ⟨b, by omega, h5⟩
        · exact .inr ⟨a, by omega, hyes, h4⟩
      · rintro (h4 | ⟨b, h4, h5, h6⟩)
        · exact .inl (.inl h4)
        · by_cases e : b = a
          · subst e; exact .inr h6
          · exact .inl (.inr ⟨b, by omega, h5, h6⟩)⟩)
  -- has it been moved?
  refine T.bind (P := fun q => (q = true ↔ att d.Graph a (mv d.Moves t).Node ∧ (⟨3 - lead (sf tb.status), 2, (a : Int), (t : Int)⟩ : Mv) ∉ d.Moves)) ?_ fun q hq => ?_
  · have hin : (⟨3 - lead (sf tb.status), 2, (a : Int), (t : Int)⟩ : Mv) ∈ d.Moves ↔ ∃ k, k < d.Moves.length ∧ (mv d.Moves k).Kind = 2 ∧ (mv d.Moves k).Target = (t : Int) ∧ (mv d.Moves k).Node = (a : Int) := by
      constructor
      · intro h
        obtain ⟨k, hk, hkx⟩ := List.getElem_of_mem h
        have : mv d.Moves k = ⟨3 - lead (sf tb.status), 2, (a : Int), (t : Int)⟩ := by rw [← hkx]; simp [mv, List.getD, hk]
        exact ⟨k, hk, by rw [this], by rw [this], by rw [this]⟩
      · rintro ⟨k, hk, h4, h5, h6⟩
        have h7 := (hd.att hk h4).2.2.2.2.2.2.1
        have h8 : tg d.Moves k = t := by unfold tg; omega
        rw [h8, hb'] at h7
        have : mv d.Moves k = ⟨3 - lead (sf tb.status), 2, (a : Int), (t : Int)⟩ := by
          cases hmk : mv d.Moves k; rw [hmk] at h4 h5 h6 h7; simp_all
        rw [← this]
        simp [mv, List.getD, hk]
    refine T.loopK d.Moves.length (fun k s => s.2 = (k : Int) ∧ k ≤ d.Moves.length ∧ (s.1 = true ↔ att d.Graph a (mv d.Moves t).Node ∧ ¬ ∃ q, q < k ∧ (mv d.Moves q).Kind = 2 ∧ (mv d.Moves q).Target = (t : Int) ∧ (mv d.Moves q).Node = (a : Int))) ⟨rfl, by omega, by rw [has_iff]; simp⟩ ?_
    rintro k ⟨ok, _⟩ ⟨rfl, hk, hok⟩
    dsimp only [ref27_attacks_l3] at *
    refine T.cond (fun gk => ?_) fun gk => ?_
    rotate_left
    · simp at gk
      have e : k = d.Moves.length := by omega
      subst e
      refine .ret (show (ok = true ↔ _) from ?_)
      rw [hok, hin]
    simp at gk
    rw [iadd1 (by omega), idx_mv gk, some_bind]
    have stp : ∀ v : Bool, (v = true ↔ ok = true ∧ ¬ ((mv d.Moves k).Kind = 2 ∧ (mv d.Moves k).Target = (t : Int) ∧ (mv d.Moves k).Node = (a : Int))) → T (some (Sum.inr (v, ((k + 1 : Nat) : Int))) : Option (Sum Bool (Bool × Int))) (onO (fun q => (q = true ↔ att d.Graph a (mv d.Moves t).Node ∧ (⟨3 - lead (sf tb.status), 2, (a : Int), (t : Int)⟩ : Mv) ∉ d.Moves))
        fun s => k < d.Moves.length ∧ s.2 = ((k + 1 : Nat) : Int) ∧ k + 1 ≤ d.Moves.length ∧ (s.1 = true ↔ att d.Graph a (mv d.Moves t).Node ∧ ¬ ∃ q, q < k + 1 ∧ (mv d.Moves q).Kind = 2 ∧ (mv d.Moves q).Target = (t : Int) ∧ (mv d.Moves q).Node = (a : Int))) := fun v hv => .ret ⟨gk, rfl, by omega, by
      dsimp only
      rw [hv, hok]
      constructor
      · rintro ⟨⟨h4, h5⟩, h6⟩
        refine ⟨h4, ?_⟩
        rintro ⟨q, h7, h8⟩
        by_cases e : q = k
        · subst e; exact h6 h8
        · exact h5 ⟨q, by omega, h8⟩
      · rintro ⟨h4, h5⟩
        exact ⟨⟨h4, fun ⟨q, h7, h8⟩ => h5 ⟨q, by omega, h8⟩⟩, fun h6 => h5 ⟨k, by omega, h6⟩⟩⟩
    refine T.cond (fun h4 => ?_) fun h4 => .letM (stp false (by simp [h4]))
    refine T.cond (fun h5 => ?_) fun h5 => .letM (stp true ?_)
    · rw [some_bind]
      refine T.cond (fun h6 => ?_) fun h6 => .letM (stp true ?_)
      · rw [some_bind]
        refine .letM (.letM (stp _ ?_))
        simp at h5 h6; simp [h4, h5, h6]
      · simp at h6; simp [h4, h6]
    · simp at h5; simp [h4, h5]
  · refine T.joinP (fun j => (j = true ↔ W a)) (fun j hj => ?_) fun kk hkk => ?_
    · exact T.cond (fun h4 => yes (hj.1 h4)) fun h4 => no fun h5 => by rw [hj.2 h5] at h4; cases h4
    · refine T.cond (fun h4 => ?_) fun h4 => hkk _ ?_
      · obtain ⟨h5, h6⟩ := hq.1 h4
        refine T.cond (fun h7 => hkk _ ?_) fun h7 => ?_
        · simp at h7
          exact ⟨fun _ => ⟨h5, h6, fun h8 => by omega⟩, fun _ => rfl⟩
        · simp at h7
          refine T.bind (repeated_plain hd ht h1 hal) fun r hr => hkk _ ?_
          constructor
          · intro h8
            have : ¬ RepN d.Moves a t := fun h9 => by rw [hr.2 h9] at h8; cases h8
            exact ⟨h5, h6, fun _ => this⟩
          · rintro ⟨_, _, h8⟩
            have := h8 (by omega)
            cases r
            · rfl
            · exact absurd (hr.1 rfl) this
      · constructor
        · intro h5; cases h5
        · rintro ⟨h5, h6, _⟩; rw [hq.2 ⟨h5, h6⟩] at h4; cases h4
end
end Go.Dc
