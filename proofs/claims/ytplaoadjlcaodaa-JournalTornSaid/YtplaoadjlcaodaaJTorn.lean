/- Part J.Torn of a proof that a law of the program returns true: general lemmas, no condition. -/
import Derived.Test.YtplaoadjlcaodaaJDamage
set_option linter.unusedVariables false
set_option linter.unusedSimpArgs false
namespace Go.Dc
open Go.Dc.J

theorem law39_JournalTorn_plain (l : List Int) (cut : Int) (_ : l.length ≤ maxLen ∧ ∀ x ∈ l, (Lit.int .i64 x).wf = true) (_ : (Lit.int .i64 cut).wf = true) :
    law39_JournalTorn_m l cut = some true := by
  refine T.eq ?_
  unfold law39_JournalTorn_m
  refine T.bind New_plain fun s hs => T.bind (records_plain hs) fun ⟨r, s'⟩ ⟨_, hr⟩ => ?_
  dsimp only at hr ⊢
  have hl := hr.1
  have h70 := hr.len 0
  rw [written_plain hr, some_bind, iadd64 (by omega) (by omega)]
  simp only [awake_plain, some_bind]
  refine T.bind (Mod_plain (by omega)) fun k hk => ?_
  have hk := hk (by omega)
  obtain ⟨m, rfl⟩ := Int.eq_ofNat_of_zero_le hk.1
  have hm : m ≤ (frames 0 r).length := by omega
  refine T.bind (P := fun q => ∃ n : Nat, n ≤ r.length ∧ q = ((n : Int), ((frames 0 (r.take n)).length : Int)) ∧ (frames 0 (r.take n)).length ≤ m ∧ ∀ hn : n < r.length, m < (frames 0 (r.take n)).length + (8 + r[n].length))
    (T.loop (fun s : Int × Int => ∃ n : Nat, s = ((n : Int), ((frames 0 (r.take n)).length : Int)) ∧ n ≤ r.length ∧ (frames 0 (r.take n)).length ≤ m) (fun s => r.length - s.1.toNat) ⟨0, rfl, by omega, by simp [frames]⟩ ?_) fun q hq => ?_
  · rintro _ ⟨n, rfl, h1, h2⟩
    dsimp only [law39_JournalTorn_l1]
    refine T.cond (fun g => ?_) fun g => ?_
    · simp at g
      have h3 := frames_take_len g
      have h4 := (hr.2 _ (List.getElem_mem g)).1
      rw [idxM_nat g, some_bind, some_bind, iadd64 (x := ((frames 0 (r.take n)).length : Int)) (y := 8) (by omega) (by omega), iadd64 (y := (r[n].length : Int)) (by omega) (by omega)]
      refine T.cond (fun g => ?_) fun g => ?_
      · simp at g
        refine .letM (.letM (.ret ?_))
        rw [iadd64 (x := 8) (by omega) (by omega), iadd64 (x := ((frames 0 (r.take n)).length : Int)) (by omega) (by omega), iadd64 (by omega) (by omega)]
        exact ⟨⟨n + 1, by rw [h3]; simp, by omega, by omega⟩, by simp only; omega⟩
      · simp at g
        exact .ret ⟨n, h1, rfl, h2, fun _ => by omega⟩
    · simp at g
      exact .ret ⟨n, h1, rfl, h2, fun h => by omega⟩
  · obtain ⟨n, hn, rfl, h1, h2⟩ := hq
    have hlt := (hr.take n).len 0
    have hread : J.read 0 ((frames 0 r).take m) = (r.take n, (frames 0 (r.take n)).length) := by
      by_cases g : n < r.length
      · have h3 := h2 g
        have hx := hr.2 _ (List.getElem_mem g)
        have e : (frames 0 r).take m = frames 0 (r.take n) ++ (frame n r[n]).take (m - (frames 0 (r.take n)).length) := by
          rw [frames_at g, List.take_append, List.take_of_length_le h1, List.take_append_of_le_length (by rw [frame_len]; omega)]
        rw [e]
        exact read_stop hr hn (first_torn (by omega) (by omega))
      · have e : r.take n = r := List.take_of_length_le (by omega)
        rw [e] at h1 ⊢
        rw [List.take_of_length_le h1]
        exact read_all hr
    have e : ((frames 0 r).take m).take (frames 0 (r.take n)).length = frames 0 (r.take n) := by
      rw [List.take_take, Nat.min_eq_left h1]
      conv => lhs; rw [← List.take_append_drop n r, frames_app]
      exact List.take_left' (by simp)
    have h7 : B [7] := fun x hx => by simp at hx; omega
    have hr7 : Rec (r.take n ++ [[7]]) ∨ True := .inr trivial
    have hb7 : (r.take n ++ [[7]]).length ≤ 6 ∧ ∀ x ∈ r.take n ++ [[7]], x.length ≤ 6 ∧ B x := ⟨by simp; omega, fun x hx => by
      rcases List.mem_append.1 hx with h | h
      · exact (hr.take n).2 x h
      · simp at h; subst h; exact ⟨by simp, h7⟩⟩
    have hread7 : J.read 0 (frames 0 (r.take n ++ [[7]])) = (r.take n ++ [[7]], (frames 0 (r.take n ++ [[7]])).length) := by
      have := read_frames (l := r.take n ++ [[7]]) (i := 0) (rest := []) fun x hx => by have := (hb7.2 x hx).1; omega
      have e : J.read (0 + (r.take n ++ [[7]]).length) [] = ([], 0) := read_none (by simp [first])
      rw [List.append_nil, e] at this
      simpa using this
    have h84 := frames_len (l := r.take n ++ [[7]]) (i := 0) fun x hx => (hb7.2 x hx).1
    rw [sl_eq (by omega) (by omega) (by omega), some_bind]
    simp only [Int.toNat_natCast, Int.toNat_zero, List.drop_zero, Nat.sub_zero]
    rw [Read_plain ((hr.B 0).take m) (by simp; omega), some_bind, some_bind, Repair_plain ((hr.B 0).take m) (by simp; omega), some_bind, hread]
    simp only [readR, hread]
    rw [e, Append_plain ((hr.take n).B 0) h7 (by omega), some_bind, append_all (hr.take n) (by simp)]
    simp only
    rw [Read_plain (frames_B fun x hx => (hb7.2 x hx).2) (by omega), some_bind]
    simp only [readR, hread7, beq_self_eq_true, cond_true]
    rw [sl_eq (by omega) (by omega) (by omega), some_bind]
    simp only [Int.toNat_natCast, Int.toNat_zero, List.drop_zero, Nat.sub_zero]
    rw [SameAll_plain (by simp; omega), some_bind, iadd64 (by omega) (by omega)]
    have e9 : (((r.take n ++ [[7]]).length : Int) == (n : Int) + 1) = true := by simp; omega
    rw [e9]
    have hlen : (r.take n ++ [[7]])[n]? = some [7] := by
      rw [List.getElem?_append_right (by simp; omega)]; simp [Nat.min_eq_left hn]
    have e10 : idxM (r.take n ++ [[7]]) (n : Int) = some [7] := by unfold idxM; rw [if_pos (by omega)]; exact hlen
    rw [e10, some_bind, Same_plain]
    exact .ret rfl
end Go.Dc
