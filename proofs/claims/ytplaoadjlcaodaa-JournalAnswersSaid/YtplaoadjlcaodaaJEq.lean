/- Part J.Eq of a proof that a law of the program returns true: general lemmas, no condition. -/
import Derived.Test.YtplaoadjlcaodaaJKeep
import Derived.Test.YtplaoadjlcaodaaJSpec
set_option linter.unusedVariables false
set_option linter.unusedSimpArgs false
/-! The functions of the journal are what J.Spec says. -/
namespace Go.Dc
open Go.Dc.J

theorem drop_cons {α : Type} {l : List α} {n : Nat} (h : n < l.length) : l.drop n = l[n] :: l.drop (n + 1) := List.drop_eq_getElem_cons h

theorem Sum_plain {b : List Int} (hb : B b) (hl : b.length ≤ 1099511627776) : journal_Sum_m b = some (sumS b) := by
  refine T.eq ?_
  unfold journal_Sum_m
  refine T.bind (P := fun q => q = adl 1 0 b) (T.loop (fun s => ∃ n : Nat, s.2.2 = (n : Int) ∧ n ≤ b.length ∧ 0 ≤ s.1 ∧ s.1 < 65521 ∧ 0 ≤ s.2.1 ∧ s.2.1 < 65521 ∧ adl s.1 s.2.1 (b.drop n) = adl 1 0 b) (fun s => b.length - s.2.2.toNat)
    ⟨0, rfl, by omega, by simp, by simp, by simp, by simp, by simp⟩ ?_) fun q hq => ?_
  · rintro ⟨lo, hi, i⟩ ⟨n, rfl, h1, h2, h3, h4, h5, h6⟩
    dsimp only at h2 h3 h4 h5 h6
    dsimp only [journal_Sum_l1]
    refine T.cond (fun h => ?_) fun h => ?_
    · simp at h
      have hx := hb _ (List.getElem_mem h)
      rw [idxM_nat h]
      refine T.bind (T.ret rfl) fun x e => .letM (.letM (.ret ?_))
      subst e
      rw [wrap64 (x := b[n]) (by omega) (by omega), iadd64 (by omega) (by omega), irem_nn (by omega), iadd64 (x := hi) (by omega) (by omega), irem_nn (by omega), iadd64 (by omega) (by omega)]
      refine ⟨⟨n + 1, by simp, by omega, by simp only; omega, by simp only; omega, by simp only; omega, by simp only; omega, ?_⟩, by simp only; omega⟩
      rw [drop_cons h] at h6
      exact h6
    · simp at h
      refine .ret ?_
      rw [show b.drop n = [] from List.drop_eq_nil_of_le h] at h6
      exact h6
  · subst hq
    have hr := adl_range (l := b) (a := 1) (b := 0) (by omega) (by omega) (by omega) (by omega)
    refine .letM (.ret ?_)
    rw [ishl_eq (by omega), wrap64 (by simp; omega) (by simp; omega), iadd64 (by simp; omega) (by simp; omega)]
    simp [sumS]

theorem rSum_plain {b : List Int} (hb : B b) (hl : b.length ≤ 1099511627776) : ref39_Sum_m b = some (sumS b) := by
  refine T.eq ?_
  unfold ref39_Sum_m
  refine T.bind (P := fun q => q = adl 1 0 b) (T.loop (fun s => ∃ n : Nat, s.2.2 = (n : Int) ∧ n ≤ b.length ∧ 0 ≤ s.1 ∧ s.1 < 65521 ∧ 0 ≤ s.2.1 ∧ s.2.1 < 65521 ∧ adl s.1 s.2.1 (b.drop n) = adl 1 0 b) (fun s => b.length - s.2.2.toNat)
    ⟨0, rfl, by omega, by simp, by simp, by simp, by simp, by simp⟩ ?_) fun q hq => ?_
  · rintro ⟨lo, hi, i⟩ ⟨n, rfl, h1, h2, h3, h4, h5, h6⟩
    dsimp only at h2 h3 h4 h5 h6
    dsimp only [ref39_Sum_l1]
    refine T.cond (fun h => ?_) fun h => ?_
    · simp at h
      have hx := hb _ (List.getElem_mem h)
      rw [idxM_nat h]
      refine T.bind (T.ret rfl) fun x e => .letM (.letM (.letM (.ret ?_)))
      subst e
      rw [wrap64 (x := b[n]) (by omega) (by omega), iadd64 (by omega) (by omega), irem_nn (by omega), iadd64 (x := hi) (by omega) (by omega), irem_nn (by omega), iadd64 (by omega) (by omega)]
      refine ⟨⟨n + 1, by simp, by omega, by simp only; omega, by simp only; omega, by simp only; omega, by simp only; omega, ?_⟩, by simp only; omega⟩
      rw [drop_cons h] at h6
      exact h6
    · simp at h
      refine .ret ?_
      rw [show b.drop n = [] from List.drop_eq_nil_of_le h] at h6
      exact h6
  · subst hq
    have hr := adl_range (l := b) (a := 1) (b := 0) (by omega) (by omega) (by omega) (by omega)
    refine .letM (.ret ?_)
    rw [imul64 (by omega) (by omega), iadd64 (by omega) (by omega)]
    rfl

theorem bytes_plain {n : Int} {k : Nat} (h0 : 0 ≤ n) (hk : k ≤ 8) : journal_bytes_m n k = some (be k n) := by
  refine T.eq ?_
  unfold journal_bytes_m
  refine .letM (T.bind (P := (· = be k n)) (T.loop (fun s => ∃ m : Nat, s.1 = (m : Int) - 1 ∧ m ≤ k ∧ s.2.length = k - m ∧ s.2 ++ be m n = be k n) (fun s => (s.1 + 1).toNat)
    ⟨k, by rw [isub64 (by omega) (by omega)], by omega, by simp, by simp⟩ ?_) fun q hq => .ret hq)
  rintro ⟨i, out⟩ ⟨m, rfl, h1, h2, h3⟩
  dsimp only at h2 h3
  dsimp only [journal_bytes_l1]
  refine T.cond (fun h => ?_) fun h => ?_
  · simp at h
    obtain ⟨j, rfl⟩ : ∃ j, m = j + 1 := ⟨m - 1, by omega⟩
    rw [imul64 (by omega) (by omega)]
    have e : ishrM .i64 n (8 * (((j + 1 : Nat) : Int) - 1)) = some (n / 256 ^ j) := by
      unfold ishrM
      rw [if_neg (by omega), ishr_eq (by omega) (by omega), show (8 * (((j + 1 : Nat) : Int) - 1)).toNat = 8 * j from by omega, Int.pow_mul]
      rfl
    rw [e]
    refine T.bind (T.ret rfl) fun x hx => ?_
    subst hx
    rw [appM_eq (by simp; omega)]
    refine T.bind (T.ret rfl) fun o ho => .letM (.ret ?_)
    subst ho
    rw [isub64 (by omega) (by omega)]
    refine ⟨⟨j, by simp only; omega, by omega, by simp; omega, ?_⟩, by simp only; omega⟩
    rw [wrap8_mod]
    simpa [be] using h3
  · simp at h
    have : m = 0 := by omega
    subst this
    exact .ret (by simpa [be] using h3)

theorem pow_small {m : Nat} (h : m < 4) : (256 : Int) ^ m = 1 ∨ (256 : Int) ^ m = 256 ∨ (256 : Int) ^ m = 65536 ∨ (256 : Int) ^ m = 16777216 := by
  have : m = 0 ∨ m = 1 ∨ m = 2 ∨ m = 3 := by omega
  rcases this with rfl | rfl | rfl | rfl <;> simp

theorem number_plain {b : List Int} (hb : B b) (hl : b.length ≤ 4) : journal_number_m b = some (val 0 b) := by
  refine T.eq ?_
  unfold journal_number_m
  refine T.bind (P := (· = val 0 b)) (T.loop (fun s => ∃ m : Nat, s.2 = (m : Int) ∧ m ≤ b.length ∧ 0 ≤ s.1 ∧ s.1 < 256 ^ m ∧ val s.1 (b.drop m) = val 0 b) (fun s => b.length - s.2.toNat)
    ⟨0, rfl, by omega, by simp, by simp, by simp⟩ ?_) fun q hq => .ret hq
  rintro ⟨a, i⟩ ⟨n, rfl, h1, h2, h3, h4⟩
  dsimp only at h2 h3 h4
  dsimp only [journal_number_l1]
  refine T.cond (fun h => ?_) fun h => ?_
  · simp at h
    have hx := hb _ (List.getElem_mem h)
    have hp := pow_small (show n < 4 by omega)
    rw [idxM_nat h]
    refine T.bind (T.ret rfl) fun x e => .letM (.ret ?_)
    subst e
    rw [wrap64 (x := b[n]) (by omega) (by omega), ishl_eq (by omega), wrap64 (by simp; omega) (by simp; omega), ior_add (k := 8) (by simp; omega) (by omega) (by simp; omega) (by simp) (by simp; omega), iadd64 (by omega) (by omega)]
    refine ⟨⟨n + 1, by simp, by omega, by simp; omega, by rw [Int.pow_succ]; simp; omega, ?_⟩, by simp only; omega⟩
    rw [drop_cons h] at h4
    exact h4
  · simp at h
    refine .ret ?_
    rw [show b.drop n = [] from List.drop_eq_nil_of_le h] at h4
    exact h4

theorem value_plain {b : List Int} (hb : B b) (hl : b.length ≤ 4) : ref39_value_m b = some (val 0 b) := by
  refine T.eq ?_
  unfold ref39_value_m
  refine T.bind (P := (· = val 0 b)) (T.loop (fun s => ∃ m : Nat, s.2 = (m : Int) ∧ m ≤ b.length ∧ 0 ≤ s.1 ∧ s.1 < 256 ^ m ∧ val s.1 (b.drop m) = val 0 b) (fun s => b.length - s.2.toNat)
    ⟨0, rfl, by omega, by simp, by simp, by simp⟩ ?_) fun q hq => .ret hq
  rintro ⟨a, i⟩ ⟨n, rfl, h1, h2, h3, h4⟩
  dsimp only at h2 h3 h4
  dsimp only [ref39_value_l1]
  refine T.cond (fun h => ?_) fun h => ?_
  · simp at h
    have hx := hb _ (List.getElem_mem h)
    have hp := pow_small (show n < 4 by omega)
    rw [idxM_nat h]
    refine T.bind (T.ret rfl) fun x e => .letM (.letM (.ret ?_))
    subst e
    rw [wrap64 (x := b[n]) (by omega) (by omega), imul64 (by omega) (by omega), iadd64 (by omega) (by omega), iadd64 (by omega) (by omega)]
    refine ⟨⟨n + 1, by simp, by omega, by simp only; omega, by rw [Int.pow_succ]; simp only; omega, ?_⟩, by simp only; omega⟩
    rw [drop_cons h] at h4
    exact h4
  · simp at h
    refine .ret ?_
    rw [show b.drop n = [] from List.drop_eq_nil_of_le h] at h4
    exact h4

theorem rnumber_plain {n : Int} {k : Nat} (h0 : 0 ≤ n) (h1 : n ≤ 9223372036854775807) (hk : k ≤ 8) : ref39_number_m n k = some (be k n) := by
  refine T.eq ?_
  unfold ref39_number_m
  rw [mkM_eq (by omega) (by simp; omega)]
  refine T.bind (T.ret rfl) fun o ho => .letM ?_
  subst ho
  refine T.bind (P := (· = be k n)) (T.loop (fun s => ∃ (m : Nat) (t : List Int), s.2.1 = (m : Int) - 1 ∧ m ≤ k ∧ s.2.2 = List.replicate m 0 ++ t ∧ 0 ≤ s.1 ∧ s.1 ≤ 9223372036854775807 ∧ be m s.1 ++ t = be k n) (fun s => (s.2.1 + 1).toNat)
    ⟨k, [], by rw [isub64 (by omega) (by omega)], by omega, by simp, h0, h1, by simp⟩ ?_) fun q hq => .ret hq
  rintro ⟨a, i, out⟩ ⟨m, t, rfl, h2, rfl, h3, h4, h5⟩
  dsimp only at h3 h4 h5
  dsimp only [ref39_number_l1]
  refine T.cond (fun h => ?_) fun h => ?_
  · simp at h
    obtain ⟨j, rfl⟩ : ∃ j, m = j + 1 := ⟨m - 1, by omega⟩
    rw [show ((j + 1 : Nat) : Int) - 1 = (j : Int) from by omega, idxM_nat (by simp; omega)]
    refine T.bind (T.ret rfl) fun x _ => .letM (.letM (.ret ?_))
    rw [iquo_nn h3 (by omega) h4, isub64 (by omega) (by omega), irem_nn h3, wrap8 (by omega) (by omega)]
    refine ⟨⟨j, a % 256 :: t, by simp only, by omega, ?_, by simp only; omega, by simp only; omega, ?_⟩, by simp only; omega⟩
    · simp only [Int.toNat_natCast]
      rw [List.replicate_succ', List.append_assoc, List.set_append, if_neg (by simp)]
      simp
    · rw [be_last] at h5
      simpa using h5
  · simp at h
    have : m = 0 := by omega
    subst this
    exact .ret (by simpa [be] using h5)

theorem Same_plain {a : List Int} : ref39_Same_m a a = some true := by
  unfold ref39_Same_m letM
  simp

theorem SameAll_plain {a : List (List Int)} (hl : a.length ≤ 1099511627776) : ref39_SameAll_m a a = some true := by
  refine T.eq ?_
  unfold ref39_SameAll_m
  refine T.cond (fun h => by simp at h) fun _ => ?_
  refine T.bind (P := (· = Sum.inr ())) (T.loop (fun s : Int => ∃ n : Nat, s = (n : Int) ∧ n ≤ a.length) (fun s => a.length - s.toNat) ⟨0, rfl, by omega⟩ ?_) fun q hq => by subst hq; exact .ret rfl
  rintro i ⟨n, rfl, h1⟩
  dsimp only [ref39_SameAll_l1]
  refine T.cond (fun h => ?_) fun h => .ret rfl
  simp at h
  rw [idxM_nat h]
  refine T.bind (T.ret rfl) fun x e => T.bind (T.ret rfl) fun y e2 => ?_
  subst e; subst e2
  rw [Same_plain]
  refine T.bind (T.ret rfl) fun b hb => ?_
  subst hb
  refine .ret ?_
  rw [iadd64 (by omega) (by omega)]
  exact ⟨⟨n + 1, by simp, by omega⟩, by omega⟩

theorem Clone_plain {a : List Int} (hl : a.length ≤ 1099511627776) : slices_Clone_byte_byte_m a = some a := by
  unfold slices_Clone_byte_byte_m
  rw [appM_eq (by simp; omega)]; simp

theorem Grow_plain {n : Int} (h0 : 0 ≤ n) (h : n ≤ 1099511627776) : slices_Grow_byte_byte_m n = some [] := by
  refine T.eq ?_
  unfold slices_Grow_byte_byte_m
  refine T.cond (fun h => by simp at h; omega) fun _ => .letM ?_
  rw [isub64 (x := 0) (y := 0) (by omega) (by omega), isub64 (by omega) (by omega)]
  refine T.cond (fun _ => ?_) fun _ => .ret rfl
  rw [mkM_eq (by omega) (by omega)]
  refine T.bind (T.ret rfl) fun x e => ?_
  subst e
  rw [slM_eq (by omega) (by omega) (by simp; omega)]
  exact T.bind (T.ret rfl) fun y hy => .ret (by subst hy; simp)

theorem flat_take {l : List (List Int)} {n : Nat} (h : n < l.length) : (l.take (n + 1)).flatten = (l.take n).flatten ++ l[n] := by
  rw [List.take_succ_eq_append_getElem h, List.flatten_append]; simp
theorem flat_le {l : List (List Int)} {n : Nat} : (l.take n).flatten.length ≤ l.flatten.length := by
  have := congrArg (fun m : List (List Int) => m.flatten.length) (List.take_append_drop n l)
  simp only [List.flatten_append, List.length_append] at this
  omega

theorem Concat_plain {l : List (List Int)} (hl : l.length ≤ 1099511627776) (h : l.flatten.length ≤ 1099511627776) : slices_Concat_byte_byte_m l = some l.flatten := by
  refine T.eq ?_
  unfold slices_Concat_byte_byte_m
  refine T.bind (P := (· = (l.flatten.length : Int))) (T.loop (fun s => ∃ n : Nat, s.2 = (n : Int) ∧ n ≤ l.length ∧ s.1 = ((l.take n).flatten.length : Int)) (fun s => l.length - s.2.toNat) ⟨0, rfl, by omega, by simp⟩ ?_) fun q hq => ?_
  · rintro ⟨a, i⟩ ⟨n, rfl, h1, rfl⟩
    dsimp only [slices_Concat_byte_byte_l1]
    refine T.cond (fun h => ?_) fun h => ?_
    · simp at h
      have h2 := flat_take h
      have h3 := flat_le (l := l) (n := n + 1)
      rw [h2, List.length_append] at h3
      rw [idxM_nat h]
      refine T.bind (T.ret rfl) fun x e => .letM ?_
      subst e
      rw [iadd64 (by omega) (by omega)]
      refine T.cond (fun h => by simp at h; omega) fun _ => .ret ?_
      rw [iadd64 (by omega) (by omega)]
      exact ⟨⟨n + 1, by simp, by omega, by rw [h2]; simp⟩, by simp only; omega⟩
    · simp at h
      refine .ret ?_
      simp only
      rw [List.take_of_length_le (by omega)]
  · subst hq
    rw [Grow_plain (by omega) (by omega)]
    refine T.bind (T.ret rfl) fun g hg => ?_
    subst hg
    refine T.bind (P := (· = l.flatten)) (T.loop (fun s => ∃ n : Nat, s.1 = (n : Int) ∧ n ≤ l.length ∧ s.2 = (l.take n).flatten) (fun s => l.length - s.1.toNat) ⟨0, rfl, by omega, by simp⟩ ?_) fun q hq => .ret hq
    rintro ⟨i, a⟩ ⟨n, rfl, h1, rfl⟩
    dsimp only [slices_Concat_byte_byte_l2]
    refine T.cond (fun h => ?_) fun h => ?_
    · simp at h
      have h2 := flat_take h
      have h3 := flat_le (l := l) (n := n + 1)
      rw [h2, List.length_append] at h3
      rw [idxM_nat h]
      refine T.bind (T.ret rfl) fun x e => ?_
      subst e
      rw [appM_eq (by omega)]
      refine T.bind (T.ret rfl) fun y hy => .ret ?_
      subst hy
      rw [iadd64 (by omega) (by omega)]
      exact ⟨⟨n + 1, by simp, by omega, by rw [h2]⟩, by simp only; omega⟩
    · simp at h
      refine .ret ?_
      simp only
      rw [List.take_of_length_le (by omega)]
end Go.Dc
