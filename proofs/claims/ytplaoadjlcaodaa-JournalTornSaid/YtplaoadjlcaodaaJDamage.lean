/- Part J.Damage of a proof that a law of the program returns true: general lemmas, no condition. -/
import Derived.Test.YtplaoadjlcaodaaJLaws
set_option linter.unusedVariables false
set_option linter.unusedSimpArgs false
namespace Go.Dc
open Go.Dc.J

theorem frames_at {l : List (List Int)} {n : Nat} (h : n < l.length) : frames 0 l = frames 0 (l.take n) ++ (frame n l[n] ++ frames (n + 1) (l.drop (n + 1))) := by
  conv => lhs; rw [← List.take_append_drop n l, frames_app, List.drop_eq_getElem_cons h]
  rw [frames, List.length_take, Nat.min_eq_left (by omega), Nat.zero_add]

theorem frames_take_len {l : List (List Int)} {n : Nat} (h : n < l.length) : (frames 0 (l.take (n + 1))).length = (frames 0 (l.take n)).length + (8 + l[n].length) := by
  rw [List.take_succ_eq_append_getElem h, frames_app]
  simp [frames, frame_len]; omega

theorem read_stop {l : List (List Int)} (h : Rec l) {n : Nat} (hn : n ≤ l.length) {rest : List Int} (hf : first n rest = none) :
    J.read 0 (frames 0 (l.take n) ++ rest) = (l.take n, (frames 0 (l.take n)).length) := by
  rw [read_frames (h.take n).big, List.length_take, Nat.min_eq_left hn, Nat.zero_add, read_none hf]
  simp

theorem law39_JournalDamage_plain (l : List Int) (pos by_ : Int) (_ : l.length ≤ maxLen ∧ ∀ x ∈ l, (Lit.int .i64 x).wf = true) (_ : (Lit.int .i64 pos).wf = true) (hby : (Lit.int .u8 by_).wf = true) :
    law39_JournalDamage_m l pos by_ = some true := by
  have hby' : 0 ≤ by_ ∧ by_ ≤ 255 := by simpa [Lit.wf, IntKind.min, IntKind.max, IntKind.signed, IntKind.bits] using hby
  refine T.eq ?_
  unfold law39_JournalDamage_m
  refine T.bind New_plain fun s hs => T.bind (records_plain hs) fun ⟨r, s'⟩ ⟨_, hr⟩ => ?_
  dsimp only at hr ⊢
  have hl := hr.1
  have h70 := hr.len 0
  rw [written_plain hr, some_bind]
  simp only [awake_plain, some_bind]
  refine T.cond (fun _ => .ret rfl) fun g1 => T.cond (fun _ => .ret rfl) fun g2 => ?_
  simp at g1 g2
  have hpos : 1 ≤ (frames 0 r).length := List.length_pos_iff.2 g1
  refine T.bind (Mod_plain (by omega)) fun k hk => ?_
  have hk := hk (by omega)
  obtain ⟨m, rfl⟩ := Int.eq_ofNat_of_zero_le hk.1
  have hm : m < (frames 0 r).length := by omega
  rw [idxM_nat hm, some_bind, some_bind]
  refine T.bind (P := fun q => ∃ n : Nat, ∃ hn : n < r.length, q = ((n : Int), ((frames 0 (r.take n)).length : Int)) ∧ (frames 0 (r.take n)).length ≤ m ∧ m < (frames 0 (r.take n)).length + (8 + r[n].length))
    (T.loop (fun s : Int × Int => ∃ n : Nat, s = ((n : Int), ((frames 0 (r.take n)).length : Int)) ∧ n < r.length ∧ (frames 0 (r.take n)).length ≤ m) (fun s => r.length - s.1.toNat) ⟨0, rfl, ?_, by simp [frames]⟩ ?_) fun q hq => ?_
  · cases r with
    | nil => simp [frames] at hpos
    | cons => simp
  · rintro _ ⟨n, rfl, h1, h2⟩
    dsimp only [law39_JournalDamage_l1]
    have h3 := frames_take_len h1
    have h4 := (hr.2 _ (List.getElem_mem h1)).1
    rw [idxM_nat h1, some_bind, some_bind, iadd64 (x := ((frames 0 (r.take n)).length : Int)) (y := 8) (by omega) (by omega), iadd64 (y := (r[n].length : Int)) (by omega) (by omega)]
    refine T.cond (fun g => ?_) fun g => ?_
    · simp at g
      refine .letM (.letM (.ret ?_))
      rw [iadd64 (x := 8) (by omega) (by omega), iadd64 (x := ((frames 0 (r.take n)).length : Int)) (by omega) (by omega), iadd64 (by omega) (by omega)]
      refine ⟨⟨n + 1, by rw [h3]; simp, ?_, by omega⟩, by simp only; omega⟩
      refine Classical.byContradiction fun h5 => ?_
      rw [List.take_of_length_le (by omega)] at h3
      omega
    · simp at g
      exact .ret ⟨n, h1, rfl, h2, by omega⟩
  · obtain ⟨n, hn, rfl, h1, h2⟩ := hq
    have hx := hr.2 _ (List.getElem_mem hn)
    have hb := (hr.B 0) _ (List.getElem_mem hm)
    obtain ⟨hv, hv2⟩ := xor_ne hb (show 0 < by_ ∧ by_ ≤ 255 by omega)
    generalize hw : ixor .u8 (frames 0 r)[m] by_ = v at *
    have hread : J.read 0 ((frames 0 r).set m v) = (r.take n, (frames 0 (r.take n)).length) := by
      have e : (frames 0 r).set m v = frames 0 (r.take n) ++ ((frame n r[n]).set (m - (frames 0 (r.take n)).length) v ++ frames (n + 1) (r.drop (n + 1))) := by
        rw [frames_at hn, List.set_append, if_neg (by omega), List.set_append, if_pos (by rw [frame_len]; omega)]
      rw [e]
      refine read_stop hr (by omega) (first_damage hx.2 (by omega) (by omega) hv fun h => hv2 ?_)
      rw [h]
      have e2 : (frames 0 r)[m]? = (frame n r[n])[m - (frames 0 (r.take n)).length]? := by
        rw [frames_at hn, List.getElem?_append_right h1, List.getElem?_append_left (by rw [frame_len]; omega)]
      rw [List.getElem?_eq_getElem hm, List.getElem?_eq_getElem (by rw [frame_len]; omega)] at e2
      exact (Option.some.inj e2).symm
    rw [Int.toNat_natCast, Read_plain ((hr.B 0).set hv) (by simp; omega), some_bind]
    simp only [readR, hread, beq_self_eq_true, cond_true]
    rw [sl_eq (by omega) (by omega) (by omega), some_bind]
    simp only [Int.toNat_natCast, Int.toNat_zero, List.drop_zero, Nat.sub_zero]
    rw [SameAll_plain (by simp; omega), some_bind]
    exact .ret rfl
end Go.Dc
