/- Part J.Laws of a proof that a law of the program returns true: general lemmas, no condition. -/
import Derived.Test.YtplaoadjlcaodaaJEq2
set_option linter.unusedVariables false
set_option linter.unusedSimpArgs false
/-! The laws of the journal, in plain words. -/
namespace Go.Dc
open Go.Dc.J

def Rec (l : List (List Int)) : Prop := l.length ≤ 5 ∧ ∀ x ∈ l, x.length ≤ 6 ∧ B x

theorem awake_plain : law39_awake_m = some true := by
  unfold law39_awake_m
  rw [Frame_plain B.nil, some_bind]
  have e : FrameS 0 [] = ([0, 0, 255, 255, 0, 4, 0, 1], 0) := by decide +kernel
  rw [e]
  have s1 : journal_Sum_m [] = some 1 := by rw [Sum_plain B.nil (by simp)]; rfl
  have s2 : journal_Sum_m [97, 98] = some 19267780 := by rw [Sum_plain (fun x hx => by simp at hx; omega) (by simp)]; exact congrArg some (by decide +kernel)
  simp only [beq_self_eq_true, cond_true, Same_plain, some_bind, s1, s2]

theorem records_plain {s : T_deliberationkeep_Src} (hs : SrcOk s) : T (law39_records_m s) fun r => SrcOk r.2 ∧ Rec r.1 := by
  unfold law39_records_m
  refine T.bind (N_plain hs (by omega)) fun i ⟨hi, hb⟩ => ?_
  have hb := hb (by omega)
  refine T.bind (P := fun q => SrcOk ⟨q.1, q.2.1⟩ ∧ Rec q.2.2) (T.loop (fun s : Int × List Int × Int × List (List Int) => 0 ≤ s.1 ∧ SrcOk ⟨s.2.1, s.2.2.1⟩ ∧ s.2.2.2.length + s.1 ≤ 5 ∧ ∀ x ∈ s.2.2.2, x.length ≤ 6 ∧ B x) (fun s => s.1.toNat)
    ⟨by simp only; omega, hi, by simp; omega, by simp⟩ ?_) fun q hq => .ret hq
  rintro ⟨k, L, At, out⟩ ⟨h1, h2, h3, h4⟩
  dsimp only at h1 h2 h3 h4
  dsimp only [law39_records_l1]
  refine T.cond (fun h => ?_) fun h => .ret ⟨h2, by simp only; omega, h4⟩
  simp at h
  refine T.bind (N_plain h2 (by omega)) fun k2 ⟨hi2, hb2⟩ => ?_
  have hb2 := hb2 (by omega)
  refine T.bind (P := fun q : List Int × Int × List Int => SrcOk ⟨q.1, q.2.1⟩ ∧ q.2.2.length ≤ 6 ∧ B q.2.2) (T.loop (fun s : Int × List Int × Int × List Int => 0 ≤ s.1 ∧ SrcOk ⟨s.2.1, s.2.2.1⟩ ∧ s.2.2.2.length + s.1 ≤ 6 ∧ B s.2.2.2) (fun s => s.1.toNat)
    ⟨by simp only; omega, hi2, by simp; omega, B.nil⟩ ?_) fun q ⟨hq1, hq2, hq3⟩ => ?_
  · rintro ⟨m, L', At', r⟩ ⟨g1, g2, g3, g4⟩
    dsimp only at g1 g2 g3 g4
    dsimp only [law39_records_l2]
    refine T.cond (fun h => ?_) fun h => .ret ⟨g2, by simp only; omega, g4⟩
    simp at h
    refine T.bind (N_plain g2 (by omega)) fun t ⟨ht, hb3⟩ => ?_
    have hb3 := hb3 (by omega)
    refine T.bind (Pick_plain ht (by simp) (by simp)) fun u ⟨hu, hm⟩ => ?_
    have hx : 0 ≤ u.1 ∧ u.1 ≤ 255 := by simp at hm; omega
    rw [appM_eq (by simp; omega), some_bind, wrap8 hx.1 hx.2]
    refine .letM (.ret ?_)
    rw [isub64 (by omega) (by omega)]
    exact ⟨⟨by simp only; omega, hu, by simp; omega, g4.app fun x hxx => by simp at hxx; omega⟩, by simp only; omega⟩
  · rw [appM_eq (by simp; omega), some_bind]
    refine .letM (.ret ?_)
    rw [isub64 (by omega) (by omega)]
    refine ⟨⟨by simp only; omega, hq1, by simp; omega, fun x hx => ?_⟩, by simp only; omega⟩
    rcases List.mem_append.1 hx with e | e
    · exact h4 x e
    · simp at e; subst e; exact ⟨hq2, hq3⟩

theorem frames_len : ∀ {l : List (List Int)} {i : Nat}, (∀ x ∈ l, x.length ≤ 6) → (frames i l).length ≤ l.length * 14
  | [], _, _ => by simp [frames]
  | r :: l, i, h => by
    have h1 := h r (by simp)
    have h2 := frames_len (l := l) (i := i + 1) fun x hx => h x (by simp [hx])
    simp only [frames, List.length_append, frame_len, List.length_cons]
    omega
theorem frames_B : ∀ {l : List (List Int)} {i : Nat}, (∀ x ∈ l, B x) → B (frames i l)
  | [], _, _ => B.nil
  | r :: l, i, h => (frame_B (h r (by simp))).app (frames_B fun x hx => h x (by simp [hx]))

theorem Rec.len {l : List (List Int)} (h : Rec l) (i : Nat) : (frames i l).length ≤ 70 := by
  have := frames_len (i := i) fun x hx => (h.2 x hx).1
  have := h.1
  omega
theorem Rec.B {l : List (List Int)} (h : Rec l) (i : Nat) : J.B (frames i l) := frames_B fun x hx => (h.2 x hx).2
theorem Rec.take {l : List (List Int)} (h : Rec l) (n : Nat) : Rec (l.take n) := ⟨by have := h.1; simp; omega, fun x hx => h.2 x (List.mem_of_mem_take hx)⟩
theorem Rec.big {l : List (List Int)} (h : Rec l) : ∀ r ∈ l, r.length ≤ 4096 := fun r hr => by have := (h.2 r hr).1; omega

theorem read_all {l : List (List Int)} (h : Rec l) : read 0 (frames 0 l) = (l, (frames 0 l).length) := by
  have := read_frames (i := 0) (rest := []) h.big
  have e : J.read (0 + l.length) [] = ([], 0) := read_none (by simp [first])
  rw [List.append_nil, e] at this
  simpa using this

theorem append_all {l : List (List Int)} {r : List Int} (h : Rec l) (hr : r.length ≤ 6) : AppendS (frames 0 l) r = (frames 0 (l ++ [r]), 0) := by
  have := h.len 0
  unfold AppendS
  rw [read_all h, if_neg (by simp), if_neg (by omega), if_neg (by omega), frames_app]
  simp [frames]

theorem written_plain {l : List (List Int)} (h : Rec l) : law39_written_m l = some (frames 0 l) := by
  refine T.eq ?_
  unfold law39_written_m
  refine T.bind (P := (· = frames 0 l)) (T.loop (fun s : Int × List Int => ∃ n : Nat, s.1 = (n : Int) ∧ n ≤ l.length ∧ s.2 = frames 0 (l.take n)) (fun s => l.length - s.1.toNat) ⟨0, rfl, by omega, by simp [frames]⟩ ?_) fun q hq => .ret hq
  rintro ⟨i, b⟩ ⟨n, rfl, h1, rfl⟩
  dsimp only [law39_written_l1]
  have hl := h.1
  refine T.cond (fun g => ?_) fun g => ?_
  · simp at g
    have hx := h.2 _ (List.getElem_mem g)
    have h2 := (h.take n).len 0
    rw [idxM_nat g, some_bind, rAppend_plain ((h.take n).B 0) hx.2 (by omega), some_bind, append_all (h.take n) hx.1]
    refine .letM (.ret ?_)
    rw [iadd64 (by omega) (by omega)]
    exact ⟨⟨n + 1, by simp, by omega, by rw [List.take_succ_eq_append_getElem g]⟩, by simp only; omega⟩
  · simp at g
    exact .ret (by simp only; rw [List.take_of_length_le (by omega)])

theorem law39_JournalBack_plain (l : List Int) (_ : l.length ≤ maxLen ∧ ∀ x ∈ l, (Lit.int .i64 x).wf = true) : law39_JournalBack_m l = some true := by
  refine T.eq ?_
  unfold law39_JournalBack_m
  refine T.bind New_plain fun s hs => T.bind (records_plain hs) fun ⟨r, s'⟩ ⟨_, hr⟩ => ?_
  dsimp only at hr
  have hl := hr.1
  refine T.bind (P := (· = Sum.inr (frames 0 r))) (T.loop (fun s : Int × List Int => ∃ n : Nat, s.1 = (n : Int) ∧ n ≤ r.length ∧ s.2 = frames 0 (r.take n)) (fun s => r.length - s.1.toNat) ⟨0, rfl, by omega, by simp [frames]⟩ ?_) fun q hq => ?_
  · rintro ⟨i, b⟩ ⟨n, rfl, h1, rfl⟩
    dsimp only [law39_JournalBack_l1]
    refine T.cond (fun g => ?_) fun g => ?_
    · simp at g
      have hx := hr.2 _ (List.getElem_mem g)
      have h2 := (hr.take n).len 0
      rw [idxM_nat g, some_bind, Append_plain ((hr.take n).B 0) hx.2 (by omega), some_bind, append_all (hr.take n) hx.1]
      refine T.cond (fun g => by simp at g) fun _ => .letM (.ret ?_)
      rw [iadd64 (by omega) (by omega)]
      exact ⟨⟨n + 1, by simp, by omega, by rw [List.take_succ_eq_append_getElem g]⟩, by simp only; omega⟩
    · simp at g
      exact .ret (by simp only; rw [List.take_of_length_le (by omega)])
  · subst hq
    have h2 := hr.len 0
    dsimp only [sumK]
    rw [Read_plain (hr.B 0) (by omega), some_bind]
    simp only [readR, read_all hr, beq_self_eq_true, cond_true]
    rw [SameAll_plain (by omega), some_bind]
    simp only [cond_true, awake_plain, some_bind]
    exact .ret rfl

theorem xor_ne {x y : Int} (hx : 0 ≤ x ∧ x ≤ 255) (hy : 0 < y ∧ y ≤ 255) : (0 ≤ ixor .u8 x y ∧ ixor .u8 x y ≤ 255) ∧ ixor .u8 x y ≠ x := by
  obtain ⟨m, rfl⟩ := Int.eq_ofNat_of_zero_le hx.1
  obtain ⟨n, rfl⟩ := Int.eq_ofNat_of_zero_le (Int.le_of_lt hy.1)
  have e : ixor .u8 (m : Int) (n : Int) = ((m ^^^ n : Nat) : Int) := by
    have h1 : (BitVec.ofInt 8 (m : Int) ^^^ BitVec.ofInt 8 (n : Int)).toNat = m ^^^ n := by
      simp only [BitVec.toNat_xor, BitVec.ofInt_natCast, BitVec.toNat_ofNat]
      rw [Nat.mod_eq_of_lt (by omega), Nat.mod_eq_of_lt (by omega)]
    have h2 : m ^^^ n < 2 ^ 8 := Nat.xor_lt_two_pow (by omega) (by omega)
    unfold ixor
    rw [show IntKind.bits .u8 = 8 from rfl, h1, wrap8 (by omega) (by omega)]
  have h2 : m ^^^ n < 2 ^ 8 := Nat.xor_lt_two_pow (by omega) (by omega)
  rw [e]
  refine ⟨by omega, fun h => ?_⟩
  have h3 : m ^^^ n = m := by omega
  have h4 : n = 0 := by
    have := congrArg (m ^^^ ·) h3
    simpa [← Nat.xor_assoc] using this
  omega
end Go.Dc
