/- Part P28S.Leading of a proof that a law of the program returns true: general lemmas, no condition. -/
import Derived.Test.YtodnndlcnignbaaP28SNet
import Derived.Test.YtodnndlcnignbaaP28SAwake
set_option linter.unusedVariables false
set_option linter.unusedSimpArgs false
/-! The leading part, and what a legal attack does. -/
namespace Go.Dc

theorem In_plain {l : List Int} (hl : l.length ≤ 1000000) {x : Int} : keep_In_m l x = some (l.any (· == x)) := by
  unfold keep_In_m
  refine any_bind (fun i hi => ?_) ?_
  · simp only [keep_In_l1]
    rw [decide_eq_true (by omega : (i : Int) < l.length), idxM_nat hi]
    simp only [cond_true, some_bind]
    rw [iadd1 (by omega)]
    cases (l[i] == x) <;> rfl
  · simp only [keep_In_l1]
    rw [decide_eq_false (by omega)]; rfl

def part (n : Nat) (b : Nat → Bool) : List Int := ((List.range n).filter b).map fun i : Nat => (i : Int)

theorem mem_part {n : Nat} {b : Nat → Bool} {x : Int} : x ∈ part n b ↔ ∃ i : Nat, i < n ∧ b i = true ∧ x = i := by
  simp only [part, List.mem_map, List.mem_filter, List.mem_range]
  constructor
  · rintro ⟨i, ⟨h1, h2⟩, h3⟩; exact ⟨i, h1, h2, h3.symm⟩
  · rintro ⟨i, h1, h2, h3⟩; exact ⟨i, ⟨h1, h2⟩, h3.symm⟩

theorem part_len {n : Nat} {b : Nat → Bool} : (part n b).length ≤ n := by
  have := List.length_filter_le b (List.range n)
  simpa [part] using this

theorem part_succ {n : Nat} {b : Nat → Bool} : part (n + 1) b = part n b ++ (bif b n then [(n : Int)] else []) := by
  unfold part
  rw [List.range_succ, List.filter_append, List.map_append]
  cases h : b n <;> simp [h]

theorem part_hd {n : Nat} {b : Nat → Bool} (hn : 1 ≤ n) (h0 : b 0 = true) : ∃ r, part n b = 0 :: r := by
  induction n with
  | zero => omega
  | succ n ih =>
    rw [part_succ]
    by_cases e : n = 0
    · subst e; exact ⟨[], by simp [part, h0]⟩
    · obtain ⟨r, hr⟩ := ih (by omega)
      rw [hr]; exact ⟨_, rfl⟩

theorem led_side {d : Dg} (hd : Dlg d) {s : Nat → Int} {b : Nat → Bool} (hs : StF d.Moves s) (hb : LedF d.Moves s b) : ∀ k, k < d.Moves.length → b k = true → ((mv d.Moves k).By = lead s ↔ s k = 1) := by
  have h1n := hd.n1
  intro k
  induction k using Nat.strongRecOn with
  | _ k ih =>
    intro hk hbk
    by_cases h0 : k = 0
    · subst h0
      rw [hd.hd]
      unfold lead
      rcases hs.root h1n with h | h <;> rw [h] <;> simp
    · obtain ⟨h1, h2, h3⟩ := (hb.s k (by omega) hk).1 hbk
      have hkd := hs.kid hd hk (by omega) h1
      obtain ⟨_, _, _, a4, _, _, a5, _⟩ := hd.att hk hkd.1
      have hl := lead_12 s
      have hp := hd.by' (i := tg d.Moves k) (by omega)
      have hih := ih _ a4 (by omega) h2
      by_cases h4 : (mv d.Moves (tg d.Moves k)).By = lead s
      · have h5 := hih.1 h4
        have h6 : s k ≠ 1 := fun h6 => by
          rcases hs.st (tg d.Moves k) (by omega) with h | ⟨h, _⟩ | ⟨_, h⟩
          · omega
          · omega
          · exact h ⟨k, a4, hk, rfl, h6⟩
        constructor
        · intro h; omega
        · intro h; exact absurd h h6
      · have h5 : s k = 1 := h3.resolve_left h4
        constructor
        · exact fun _ => h5
        · intro _; omega

/-- an attack that is added -/
theorem push_st {d : Dg} (hd : Dlg d) {s s' : Nat → Int} {x : Mv} (hs : StF d.Moves s) (hs' : StF (d.Moves ++ [x]) s') (hx : x.Kind = 2) {t : Nat} (ht : t < d.Moves.length) (hxt : x.Target = (t : Int)) (hst : s t ≠ 0) :
    s' t = 2 ∧ s' d.Moves.length = 1 := by
  have hlen : (d.Moves ++ [x]).length = d.Moves.length + 1 := by simp
  have hret : ∀ i, ret (d.Moves ++ [x]) i ↔ ret d.Moves i := fun i => by
    constructor
    · rintro ⟨k, h1, h2, h3⟩
      rw [hlen] at h1
      by_cases e : k = d.Moves.length
      · rw [e, mv_new] at h2; omega
      · rw [mv_app (by omega)] at h2 h3
        exact ⟨k, by omega, h2, h3⟩
    · rintro ⟨k, h1, h2, h3⟩
      exact ⟨k, by omega, by rw [mv_app h1]; exact h2, by rw [mv_app h1]; exact h3⟩
  have hal : ∀ i, i < d.Moves.length → (s' i ≠ 0 ↔ s i ≠ 0) := by
    intro i
    induction i using Nat.strongRecOn with
    | _ i ih =>
      intro hi
      rw [hs.al i hi, hs'.al i (by omega), mv_app hi, tg_app hi, hret]
      by_cases h0 : i = 0
      · simp [h0]
      · by_cases hk : (mv d.Moves i).Kind = 2
        · have := (hd.att hi hk).2.2.2.1
          rw [ih _ this (by omega)]
        · simp [hk]
  have htn : tg (d.Moves ++ [x]) d.Moves.length = t := by rw [tg_new, hxt]; rfl
  have hnew : s' d.Moves.length ≠ 0 := by
    rw [hs'.al _ (by omega)]
    refine .inr ⟨by rw [mv_new]; exact hx, ?_, by rw [htn]; exact (hal t ht).2 hst⟩
    rw [hret]
    rintro ⟨k, h1, h2, h3⟩
    have := hd.rtr h1 h2
    omega
  have h1 : s' d.Moves.length = 1 := by
    rcases hs'.st d.Moves.length (by omega) with h | ⟨_, k, h2, h3, _⟩ | ⟨h, _⟩
    · exact absurd h hnew
    · omega
    · exact h
  refine ⟨?_, h1⟩
  rcases hs'.st t (by omega) with h | ⟨h, _⟩ | ⟨_, h⟩
  · exact absurd h ((hal t ht).2 hst)
  · exact h
  · exact absurd ⟨d.Moves.length, ht, by omega, htn, h1⟩ h

theorem T_of {d : Dg} (hd : Dlg d) : ∃ tb, protocol_of_m d = some tb ∧ TabOk d tb := of_plain hd

theorem leg_acc {d : Dg} {s : Nat → Int} {b : Nat → Bool} {x : Mv} (hx : Leg d s b x) : Acc d s b x x := by
  have hx' := hx
  obtain ⟨t, p, _, _, _, _, _, e, _⟩ := hx'
  exact ⟨by rw [e], .inr (.inl ⟨by rw [e], hx, rfl⟩)⟩

theorem acc_kind2 {d : Dg} {s : Nat → Int} {b : Nat → Bool} {m x : Mv} (hk : m.Kind = 2) (h : Acc d s b m x) : x = m ∧ Leg d s b m := by
  rcases h.2 with ⟨h1, _⟩ | ⟨_, h2, h1⟩ | ⟨h1, _⟩
  · omega
  · exact ⟨h1, h2⟩
  · omega

theorem leg_kind {d : Dg} {s : Nat → Int} {b : Nat → Bool} {x : Mv} (hx : Leg d s b x) : x.Kind = 2 := by
  obtain ⟨t, p, _, _, _, _, _, e, _⟩ := hx
  rw [e]
end Go.Dc
