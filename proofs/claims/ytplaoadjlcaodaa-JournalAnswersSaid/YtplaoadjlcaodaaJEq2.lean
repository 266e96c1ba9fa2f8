/- Part J.Eq2 of a proof that a law of the program returns true: general lemmas, no condition. -/
import Derived.Test.YtplaoadjlcaodaaJEq
set_option linter.unusedVariables false
set_option linter.unusedSimpArgs false
/-! Frames, reading and appending. -/
namespace Go.Dc
open Go.Dc.J

theorem sl_eq {α : Type} {d : List α} {lo hi : Int} (h0 : 0 ≤ lo) (h1 : lo ≤ hi) (h2 : hi ≤ d.length) : slM d lo hi = some ((d.drop lo.toNat).take (hi.toNat - lo.toNat)) := by
  rw [slM_eq h0 h1 h2, List.drop_take]
theorem some_bind {α β : Type} {a : α} {f : α → Option β} : Option.bind (some a) f = f a := rfl

theorem sum_plain {i : Int} {r : List Int} (hi : 0 ≤ i) (hr : B r) (hl : r.length ≤ 1048576) : journal_sum_m i r = some (sumS (be 4 i ++ r)) := by
  unfold journal_sum_m
  rw [show journal_bytes_m i 4 = some (be 4 i) from bytes_plain (k := 4) hi (by omega), some_bind, Concat_plain (by simp) (by simp [be_len]; omega), some_bind]
  simp only [List.flatten_cons, List.flatten_nil, List.append_nil]
  rw [Sum_plain (be_B.app hr) (by simp [be_len]; omega)]
  rfl

def FrameS (i : Int) (r : List Int) : List Int × Int :=
  if i < 0 ∨ i > 1048576 then ([], 1) else if (r.length : Int) > 4096 then ([], 2) else (frame i.toNat r, 0)

theorem Frame_plain {i : Int} {r : List Int} (hr : B r) : journal_Frame_m i r = some (FrameS i r) := by
  unfold journal_Frame_m joinM FrameS letM
  by_cases h1 : i < 0
  · simp [h1]
  · by_cases h2 : i > 1048576
    · simp [h1, h2]
    · by_cases h3 : (r.length : Int) > 4096
      · simp [h1, h2, h3]
      · have hs := sumS_range (be 4 i ++ r)
        have e : i = (i.toNat : Int) := by omega
        simp only [h1, h2, h3, decide_false, cond_false, if_false, or_self]
        rw [isub64 (by omega) (by omega), show journal_bytes_m (r.length : Int) 2 = some (be 2 r.length) from bytes_plain (k := 2) (by omega) (by omega), some_bind,
          show journal_bytes_m (65535 - (r.length : Int)) 2 = some (be 2 (65535 - r.length)) from bytes_plain (k := 2) (by omega) (by omega), some_bind,
          sum_plain (by omega) hr (by omega), some_bind, show journal_bytes_m (sumS (be 4 i ++ r)) 4 = some (be 4 (sumS (be 4 i ++ r))) from bytes_plain (k := 4) (by omega) (by omega), some_bind,
          Concat_plain (by simp) (by simp [be_len]; omega), some_bind]
        simp only [List.flatten_cons, List.flatten_nil, List.append_nil, frame, ← e, List.append_assoc]

theorem rFrame_plain {i : Int} {r : List Int} (hr : B r) : ref39_Frame_m i r = some (FrameS i r) := by
  unfold ref39_Frame_m FrameS
  by_cases h1 : i < 0
  · simp [h1]
  · by_cases h2 : i > 1048576
    · simp [h1, h2]
    · by_cases h3 : (r.length : Int) > 4096
      · simp [h1, h2, h3]
      · have hs := sumS_range (be 4 i ++ r)
        have e : i = (i.toNat : Int) := by omega
        simp only [h1, h2, h3, decide_false, cond_false, if_false, or_self]
        rw [isub64 (by omega) (by omega), show ref39_number_m (r.length : Int) 2 = some (be 2 r.length) from rnumber_plain (k := 2) (by omega) (by omega) (by omega), some_bind,
          show ref39_number_m (65535 - (r.length : Int)) 2 = some (be 2 (65535 - r.length)) from rnumber_plain (k := 2) (by omega) (by omega) (by omega), some_bind,
          appM_eq (by simp [be_len]), some_bind, appM_eq (by simp [be_len]; omega), some_bind, show ref39_number_m i 4 = some (be 4 i) from rnumber_plain (k := 4) (by omega) (by omega) (by omega), some_bind,
          appM_eq (by simp [be_len]; omega), some_bind, rSum_plain (be_B.app hr) (by simp [be_len]; omega), some_bind,
          show ref39_number_m (sumS (be 4 i ++ r)) 4 = some (be 4 (sumS (be 4 i ++ r))) from rnumber_plain (k := 4) (by omega) (by omega) (by omega), some_bind, appM_eq (by simp [be_len]; omega), some_bind]
        simp only [frame, ← e]

def firstR (i : Nat) (b : List Int) : List Int × Int := match first i b with
  | none => ([], 0)
  | some r => (r, r.length + 8)

theorem val_range {l : List Int} (h : B l) (hl : l.length ≤ 2) : 0 ≤ val 0 l ∧ val 0 l < 65536 := by
  have h1 := val_bound h
  have h2 : l.length = 0 ∨ l.length = 1 ∨ l.length = 2 := by omega
  rcases h2 with e | e | e <;> rw [e] at h1 <;> simp at h1 <;> omega

theorem first_plain {i : Nat} {b : List Int} (hb : B b) (hl : b.length ≤ 1099511627776) : journal_first_m (i : Int) b = some (firstR i b) := by
  unfold journal_first_m firstR first
  by_cases h1 : b.length < 8
  · have : (b.length : Int) < 8 := by omega
    simp [h1, this]
  · have h1' : ¬ (b.length : Int) < 8 := by omega
    have hv := val_range (hb.take 2) (by simp; omega)
    have e2 : slM b 0 2 = some (b.take 2) := by rw [sl_eq (by omega) (by omega) (by omega)]; rfl
    have e4 : slM b 2 4 = some ((b.drop 2).take 2) := by rw [sl_eq (by omega) (by omega) (by omega)]; rfl
    simp only [h1, h1', decide_false, cond_false, if_false]
    rw [e2, some_bind, number_plain (hb.take 2) (by simp; omega), some_bind, e4, some_bind, number_plain ((hb.drop 2).take 2) (by simp; omega), some_bind, isub64 (by omega) (by omega)]
    by_cases h2 : val 0 ((b.drop 2).take 2) ≠ 65535 - val 0 (b.take 2)
    · rw [if_pos h2, (bne_iff_ne.2 h2 : (_ != _) = true)]; rfl
    · have h2' : val 0 ((b.drop 2).take 2) = 65535 - val 0 (b.take 2) := by omega
      simp only [h2', ne_eq, not_true, if_false, bne_self_eq_false, cond_false]
      by_cases h3 : val 0 (b.take 2) > 4096
      · simp [h3]
      · simp only [h3, decide_false, cond_false, if_false]
        have e6 : iadd .i64 4 (val 0 (b.take 2)) = 4 + val 0 (b.take 2) := iadd64 (by omega) (by omega)
        have e7 : iadd .i64 (4 + val 0 (b.take 2)) 4 = val 0 (b.take 2) + 8 := by rw [iadd64 (by omega) (by omega)]; omega
        simp only [e6, e7]
        by_cases h4 : (b.length : Int) < val 0 (b.take 2) + 8
        · simp [h4]
        · simp only [h4, decide_false, cond_false, if_false]
          have s1 : slM b (4 + val 0 (b.take 2)) (val 0 (b.take 2) + 8) = some ((b.drop (4 + (val 0 (b.take 2)).toNat)).take 4) := by
            rw [sl_eq (by omega) (by omega) (by omega), show (4 + val 0 (b.take 2)).toNat = 4 + (val 0 (b.take 2)).toNat from by omega,
              show (val 0 (b.take 2) + 8).toNat - (4 + (val 0 (b.take 2)).toNat) = 4 from by omega]
          have s2 : slM b 4 (4 + val 0 (b.take 2)) = some ((b.drop 4).take (val 0 (b.take 2)).toNat) := by
            rw [sl_eq (by omega) (by omega) (by omega), show (4 + val 0 (b.take 2)).toNat - (4 : Int).toNat = (val 0 (b.take 2)).toNat from by omega]; rfl
          rw [s1, some_bind, s2, some_bind, number_plain ((hb.drop _).take _) (by simp; omega), some_bind, sum_plain (by omega) ((hb.drop _).take _) (by simp; omega), some_bind]
          by_cases h5 : val 0 ((b.drop (4 + (val 0 (b.take 2)).toNat)).take 4) ≠ sumS (be 4 i ++ (b.drop 4).take (val 0 (b.take 2)).toNat)
          · rw [if_pos h5, (bne_iff_ne.2 h5 : (_ != _) = true)]; rfl
          · have h5' := Decidable.not_not.1 h5
            simp only [h5', ne_eq, not_true, if_false, bne_self_eq_false, cond_false, some_bind, letM]
            congr 2
            simp; omega

def readR (b : List Int) : List (List Int) × Int := ((read 0 b).1, ((read 0 b).2 : Int))

theorem Read_plain {b : List Int} (hb : B b) (hl : b.length ≤ 1099511627776) : journal_Read_m b = some (readR b) := by
  refine T.eq ?_
  unfold journal_Read_m
  refine T.bind (P := (· = readR b)) (T.loop (fun s : Int × List (List Int) => ∃ n : Nat, s.1 = (n : Int) ∧ n ≤ b.length ∧ s.2.length * 8 ≤ n ∧ s.2 ++ (read s.2.length (b.drop n)).1 = (read 0 b).1 ∧ n + (read s.2.length (b.drop n)).2 = (read 0 b).2) (fun s => b.length - s.1.toNat)
    ⟨0, rfl, by omega, by simp, by simp, by simp⟩ ?_) fun q hq => .ret hq
  rintro ⟨i, out⟩ ⟨n, rfl, h1, h2, h3, h4⟩
  dsimp only at h2 h3 h4
  dsimp only [journal_Read_l1]
  rw [sl_eq (by omega) (by omega) (by omega), some_bind]
  simp only [Int.toNat_natCast]
  rw [show b.length - n = (b.drop n).length from by simp, List.take_length, first_plain (hb.drop n) (by simp; omega), some_bind]
  unfold firstR
  cases hf : first out.length (b.drop n) with
  | none =>
    rw [read_none hf] at h3 h4
    refine .ret ?_
    simp at h3 h4
    simp [readR, ← h3, ← h4]
  | some r =>
    have hr := first_some hf
    rw [read_some hf, List.drop_drop] at h3 h4
    simp at hr
    dsimp only
    refine T.cond (fun h => by simp at h; omega) fun _ => ?_
    rw [Clone_plain (by omega), some_bind, appM_eq (by simp; omega), some_bind]
    refine .letM (.ret ?_)
    rw [iadd64 (by omega) (by omega)]
    refine ⟨⟨n + (r.length + 8), by simp, by omega, by simp; omega, ?_, ?_⟩, by dsimp only; have : (b.drop n).length = b.length - n := List.length_drop; omega⟩
    · simp only [List.length_append, List.length_singleton]
      rw [List.append_assoc]; exact h3
    · simp only [List.length_append, List.length_singleton]
      omega

theorem rRead_plain {b : List Int} (hb : B b) (hl : b.length ≤ 1099511627776) : ref39_Read_m b = some (readR b) := by
  refine T.eq ?_
  unfold ref39_Read_m
  refine T.bind (P := (· = readR b)) (T.loop (fun s : Int × List (List Int) => ∃ n : Nat, s.1 = (n : Int) ∧ n ≤ b.length ∧ s.2.length * 8 ≤ n ∧ s.2 ++ (read s.2.length (b.drop n)).1 = (read 0 b).1 ∧ n + (read s.2.length (b.drop n)).2 = (read 0 b).2) (fun s => b.length - s.1.toNat)
    ⟨0, rfl, by omega, by simp, by simp, by simp⟩ ?_) fun q hq => .ret hq
  rintro ⟨i, out⟩ ⟨n, rfl, h1, h2, h3, h4⟩
  dsimp only at h2 h3 h4
  dsimp only [ref39_Read_l1]
  have done : first out.length (b.drop n) = none → (out, (n : Int)) = readR b := fun hf => by
    rw [read_none hf] at h3 h4
    simp at h3 h4
    simp [readR, ← h3, ← h4]
  have hlen : (b.drop n).length = b.length - n := by simp
  generalize hc : b.drop n = c at *
  have hB : B c := hc ▸ hb.drop n
  have sub : ∀ (x k : Nat) {lo hi : Int}, lo = (n : Int) + x → hi = lo + k → hi ≤ b.length → slM b lo hi = some ((c.drop x).take k) := fun x k lo hi e1 e2 e3 => by
    rw [sl_eq (by omega) (by omega) (by omega), ← hc, List.drop_drop, show lo.toNat = n + x from by omega, show hi.toNat - (n + x) = k from by omega]
  rw [iadd64 (by omega) (by omega)]
  refine T.cond (fun g1 => ?_) fun g1 => .ret (done (by simp at g1; unfold first; rw [if_pos (by omega)]))
  simp at g1
  have hv := val_range (hB.take 2) (by simp; omega)
  rw [iadd64 (x := (n : Int)) (y := 2) (by omega) (by omega), iadd64 (x := (n : Int)) (y := 4) (by omega) (by omega), sub 0 2 (by omega) (by omega) (by omega), some_bind, List.drop_zero, value_plain (hB.take 2) (by simp; omega), some_bind,
    sub 2 2 (by omega) (by omega) (by omega), some_bind, value_plain ((hB.drop 2).take 2) (by simp; omega), some_bind, isub64 (by omega) (by omega)]
  refine T.cond (fun g2 => .ret (done ?_)) fun g2 => ?_
  · simp at g2; exact first_none g2
  simp at g2
  refine T.cond (fun g3 => .ret (done ?_)) fun g3 => ?_
  · simp at g3; unfold first; rw [if_neg (by omega), if_neg (by omega), if_pos g3]
  simp at g3
  rw [iadd64 (x := (n : Int) + 8) (by omega) (by omega)]
  refine T.cond (fun g4 => .ret (done (first_short ?_))) fun g4 => ?_
  · simp at g4; omega
  simp at g4
  obtain ⟨k, hk⟩ : ∃ k : Nat, val 0 (c.take 2) = k := ⟨(val 0 (c.take 2)).toNat, by omega⟩
  rw [hk] at g2 g3 g4 hv ⊢
  rw [iadd64 (x := (n : Int) + 4) (by omega) (by omega), sub 4 k (by omega) (by omega) (by omega), some_bind, sub (4 + k) 4 (by omega) (by omega) (by omega), some_bind, value_plain ((hB.drop _).take 4) (by simp; omega), some_bind,
    show ref39_number_m (out.length : Int) 4 = some (be 4 out.length) from rnumber_plain (k := 4) (by omega) (by omega) (by omega), some_bind, appM_eq (by simp [be_len]; omega), some_bind,
    rSum_plain (be_B.app ((hB.drop _).take _)) (by simp [be_len]; omega), some_bind]
  refine T.cond (fun g5 => .ret (done ?_)) fun g5 => ?_
  · simp at g5
    unfold first
    rw [if_neg (by omega), if_neg (by rw [hk]; omega), if_neg (by omega), if_neg (by omega), hk, Int.toNat_natCast, if_pos g5]
  simp at g5
  have hf : first out.length c = some ((c.drop 4).take k) := by
    unfold first
    rw [if_neg (by omega), if_neg (by rw [hk]; omega), if_neg (by omega), if_neg (by omega), hk, Int.toNat_natCast, if_neg (by simpa using g5)]
  have hkl : ((c.drop 4).take k).length = k := by simp; omega
  rw [appM_eq (by simp; omega), some_bind, appM_eq (by simp; omega), some_bind]
  refine .letM (.ret ?_)
  rw [iadd64 (x := 8) (by omega) (by omega), iadd64 (by omega) (by omega)]
  have hd : c.drop (k + 8) = b.drop (n + (k + 8)) := by rw [← hc, List.drop_drop]
  rw [read_some hf, hkl, hd] at h3 h4
  refine ⟨⟨n + (k + 8), by simp; omega, by omega, by simp; omega, ?_, ?_⟩, by simp only; omega⟩
  · simp only [List.length_append, List.length_singleton, List.nil_append]
    rw [List.append_assoc]
    exact h3
  · simp only [List.length_append, List.length_singleton, List.nil_append]
    omega

def AppendS (b r : List Int) : List Int × Int :=
  if (read 0 b).2 ≠ b.length then ([], 7) else if r.length > 4096 then ([], 2) else if b.length + 8 + r.length > 1048576 then ([], 2) else (b ++ frame (read 0 b).1.length r, 0)

theorem Append_plain {b r : List Int} (hb : B b) (hr : B r) (hl : b.length ≤ 1099511627776) : journal_Append_m b r = some (AppendS b r) := by
  unfold journal_Append_m AppendS
  rw [Read_plain hb hl, some_bind]
  have hle := read_le _ (i := 0) (Nat.le_refl b.length)
  simp only [readR, letM]
  by_cases h1 : (read 0 b).2 ≠ b.length
  · have : (((read 0 b).2 : Int) != (b.length : Int)) = true := by simp; omega
    simp [h1, this]
  · have h1' : (read 0 b).2 = b.length := by omega
    simp only [h1', ne_eq, not_true, if_false, bne_self_eq_false, cond_false]
    by_cases h2 : r.length > 4096
    · have : (r.length : Int) > 4096 := by omega
      simp [h2, this]
    · have h2' : ¬ (r.length : Int) > 4096 := by omega
      simp only [h2, h2', decide_false, cond_false, if_false]
      rw [iadd64 (x := (b.length : Int)) (by omega) (by omega), iadd64 (x := (b.length : Int) + 4) (by omega) (by omega), iadd64 (by omega) (by omega)]
      by_cases h3 : b.length + 8 + r.length > 1048576
      · have : (b.length : Int) + 4 + r.length + 4 > 1048576 := by omega
        simp [h3, this]
      · have h3' : ¬ (b.length : Int) + 4 + r.length + 4 > 1048576 := by omega
        simp only [h3, h3', decide_false, cond_false, if_false]
        rw [Frame_plain hr, some_bind]
        have e : FrameS ((read 0 b).1.length : Int) r = (frame (read 0 b).1.length r, 0) := by
          unfold FrameS; rw [if_neg (by omega), if_neg (by omega), Int.toNat_natCast]
        rw [e]
        simp only [bne_self_eq_false, cond_false]
        rw [Concat_plain (by simp) (by simp [frame_len]; omega), some_bind]
        simp

theorem rAppend_plain {b r : List Int} (hb : B b) (hr : B r) (hl : b.length ≤ 1099511627776) : ref39_Append_m b r = some (AppendS b r) := by
  unfold ref39_Append_m AppendS
  rw [rRead_plain hb hl, some_bind]
  have hle := read_le _ (i := 0) (Nat.le_refl b.length)
  simp only [readR]
  by_cases h1 : (read 0 b).2 ≠ b.length
  · have : (((read 0 b).2 : Int) != (b.length : Int)) = true := by simp; omega
    simp [h1, this]
  · have h1' : (read 0 b).2 = b.length := by omega
    simp only [h1', ne_eq, not_true, if_false, bne_self_eq_false, cond_false]
    by_cases h2 : r.length > 4096
    · have : (r.length : Int) > 4096 := by omega
      simp [h2, this]
    · have h2' : ¬ (r.length : Int) > 4096 := by omega
      simp only [h2, h2', decide_false, cond_false, if_false]
      rw [iadd64 (x := (b.length : Int)) (by omega) (by omega), iadd64 (x := (b.length : Int) + 8) (by omega) (by omega)]
      by_cases h3 : b.length + 8 + r.length > 1048576
      · have : (b.length : Int) + 8 + r.length > 1048576 := by omega
        simp [h3, this]
      · have h3' : ¬ (b.length : Int) + 8 + r.length > 1048576 := by omega
        simp only [h3, h3', decide_false, cond_false, if_false]
        rw [rFrame_plain hr, some_bind]
        have e : FrameS ((read 0 b).1.length : Int) r = (frame (read 0 b).1.length r, 0) := by
          unfold FrameS; rw [if_neg (by omega), if_neg (by omega), Int.toNat_natCast]
        rw [e, appM_eq (by simp; omega), some_bind, appM_eq (by simp [frame_len]; omega), some_bind]
        simp

theorem Repair_plain {b : List Int} (hb : B b) (hl : b.length ≤ 1099511627776) : journal_Repair_m b = some (b.take (read 0 b).2) := by
  have hle := read_le _ (i := 0) (Nat.le_refl b.length)
  unfold journal_Repair_m
  rw [Read_plain hb hl, some_bind]
  simp only [readR]
  rw [sl_eq (by omega) (by omega) (by omega), some_bind]
  simp only [Int.toNat_natCast, Int.toNat_zero, List.drop_zero, Nat.sub_zero]
  rw [Clone_plain (by simp; omega)]
  rfl
theorem rRepair_plain {b : List Int} (hb : B b) (hl : b.length ≤ 1099511627776) : ref39_Repair_m b = some (b.take (read 0 b).2) := by
  have hle := read_le _ (i := 0) (Nat.le_refl b.length)
  unfold ref39_Repair_m
  rw [rRead_plain hb hl, some_bind]
  simp only [readR]
  rw [sl_eq (by omega) (by omega) (by omega), some_bind]
  simp only [Int.toNat_natCast, Int.toNat_zero, List.drop_zero, Nat.sub_zero]
  rw [appM_eq (by simp; omega)]
  simp [some_bind]
end Go.Dc
