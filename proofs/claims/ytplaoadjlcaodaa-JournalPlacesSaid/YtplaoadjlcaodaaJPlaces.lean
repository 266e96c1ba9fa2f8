/- Part J.Places of a proof that a law of the program returns true: general lemmas, no condition. -/
import Derived.Test.YtplaoadjlcaodaaJDamage
set_option linter.unusedVariables false
set_option linter.unusedSimpArgs false
namespace Go.Dc
open Go.Dc.J

theorem law39_JournalPlaces_plain (l : List Int) (f t : Int) (_ : l.length ≤ maxLen ∧ ∀ x ∈ l, (Lit.int .i64 x).wf = true) (_ : (Lit.int .i64 f).wf = true) (_ : (Lit.int .i64 t).wf = true) :
    law39_JournalPlaces_m l f t = some true := by
  refine T.eq ?_
  unfold law39_JournalPlaces_m
  refine T.bind New_plain fun s hs => T.bind (records_plain hs) fun ⟨r, s'⟩ ⟨_, hr⟩ => ?_
  dsimp only at hr ⊢
  have hl := hr.1
  have h70 := hr.len 0
  simp only [awake_plain, some_bind]
  refine T.cond (fun _ => .ret rfl) fun g => ?_
  simp at g
  refine T.bind (Mod_plain (by omega)) fun a ha => T.bind (Mod_plain (by omega)) fun c hc => ?_
  have ha := ha (by omega)
  have hc := hc (by omega)
  obtain ⟨a, rfl⟩ := Int.eq_ofNat_of_zero_le ha.1
  obtain ⟨c, rfl⟩ := Int.eq_ofNat_of_zero_le hc.1
  have ha' : a < r.length := by omega
  have hc' : c < r.length := by omega
  refine T.bind (P := fun b => B b ∧ b.length ≤ 70 ∧ (a = c → b = frames 0 r) ∧ ∃ rest, b = frames 0 (r.take c) ++ (frame a r[a] ++ rest))
    (T.loop (fun s : Int × List Int => ∃ n : Nat, s.1 = (n : Int) ∧ n ≤ r.length ∧ B s.2 ∧ s.2.length ≤ n * 14 ∧ ((n ≤ c ∨ a = c) → s.2 = frames 0 (r.take n)) ∧ (c < n → ∃ rest, s.2 = frames 0 (r.take c) ++ (frame a r[a] ++ rest)))
      (fun s => r.length - s.1.toNat) ⟨0, rfl, by omega, B.nil, by simp, fun _ => by simp [frames], fun h => by omega⟩ ?_) fun b hb => ?_
  · rintro ⟨i, b⟩ ⟨n, rfl, h1, h2, h3, h4, h5⟩
    dsimp only at h2 h3 h4 h5
    dsimp only [law39_JournalPlaces_l1]
    refine T.cond (fun g => ?_) fun g => ?_
    · simp at g
      have body : ∀ (x : Nat) (hx : x < r.length), (x = if n = c then a else n) → T (Option.bind (idxM r (x : Int)) fun t41 => Option.bind (ref39_Frame_m (x : Int) t41) fun t42 => Option.bind (appM 1 b t42.1) fun b44 => letM (iadd .i64 (n : Int) 1) fun i46 => some (Sum.inr (i46, b44)))
          (fun o : Sum (List Int) (Int × List Int) => ∃ b', o = Sum.inr ((n : Int) + 1, b') ∧ B b' ∧ b'.length ≤ (n + 1) * 14 ∧ ((n + 1 ≤ c ∨ a = c) → b' = frames 0 (r.take (n + 1))) ∧ (c < n + 1 → ∃ rest, b' = frames 0 (r.take c) ++ (frame a r[a] ++ rest))) := fun x hx e => by
        have hxr := hr.2 _ (List.getElem_mem hx)
        have hF : FrameS (x : Int) r[x] = (frame x r[x], 0) := by unfold FrameS; rw [if_neg (by omega), if_neg (by omega), Int.toNat_natCast]
        rw [idxM_nat hx, some_bind, rFrame_plain hxr.2, some_bind, hF]
        simp only
        rw [appM_eq (by simp [frame_len]; omega), some_bind]
        refine .letM (.ret ?_)
        rw [iadd64 (by omega) (by omega)]
        refine ⟨_, rfl, h2.app (frame_B hxr.2), by simp [frame_len]; omega, fun hh => ?_, fun hh => ?_⟩
        · have hxn : x = n := by split at e <;> omega
          subst hxn
          rw [h4 (by omega), List.take_succ_eq_append_getElem hx, frames_app, List.length_take, Nat.min_eq_left (by omega)]
          simp [frames]
        · by_cases hnc : c < n
          · obtain ⟨rest, hrest⟩ := h5 hnc
            exact ⟨rest ++ frame x r[x], by rw [hrest]; simp⟩
          · have hnc' : n = c := by omega
            rw [if_pos hnc'] at e
            subst e
            refine ⟨[], ?_⟩
            rw [h4 (by omega), hnc']
            simp
      refine .join (T.cond (fun g2 => ?_) fun g2 => ?_)
      · simp at g2
        exact (body a ha' (by rw [if_pos (by omega)])).mono fun o ⟨b', e1, e2, e3, e4, e5⟩ => by
          subst e1
          exact ⟨⟨n + 1, by simp, by omega, e2, e3, e4, e5⟩, by simp only; omega⟩
      · simp at g2
        exact (body n g (by rw [if_neg (by omega)])).mono fun o ⟨b', e1, e2, e3, e4, e5⟩ => by
          subst e1
          exact ⟨⟨n + 1, by simp, by omega, e2, e3, e4, e5⟩, by simp only; omega⟩
    · simp at g
      have e : n = r.length := by omega
      refine .ret ⟨h2, by omega, fun hh => ?_, h5 (by omega)⟩
      have := h4 (.inr hh)
      rw [e, List.take_length] at this
      exact this
  · obtain ⟨h1, h2, h3, rest, h4⟩ := hb
    rw [Read_plain h1 (by omega), some_bind]
    refine T.cond (fun g2 => ?_) fun g2 => ?_
    · simp at g2
      simp only [readR]
      rw [h3 (by omega), read_all hr]
      simp only
      rw [SameAll_plain (by omega), some_bind]
      exact .ret rfl
    · simp at g2
      have hx := hr.2 _ (List.getElem_mem ha')
      simp only [readR]
      rw [h4, read_stop hr (by omega) (first_other (by omega) (by omega) (by omega) (by omega))]
      simp only
      rw [sl_eq (by omega) (by omega) (by omega), some_bind]
      simp only [Int.toNat_natCast, Int.toNat_zero, List.drop_zero, Nat.sub_zero]
      rw [SameAll_plain (by simp; omega), some_bind]
      exact .ret rfl
end Go.Dc
