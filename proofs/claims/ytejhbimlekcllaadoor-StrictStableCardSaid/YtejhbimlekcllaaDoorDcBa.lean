/- Part Dc.Ba of a proof: lemmas. -/
import Derived.Test.YtejhbimlekcllaaDoorDcCore
/-! Byte arrays and their lists. -/
namespace Go.Dc

theorem ba_loop (bs : ByteArray) : ∀ n i r, bs.size - i ≤ n → ByteArray.toList.loop bs i r = r.reverse ++ bs.data.toList.drop i := by
  intro n
  induction n with
  | zero =>
    intro i r h
    rw [ByteArray.toList.loop, if_neg (by omega), List.drop_eq_nil_of_le (by simp; exact Nat.le_of_sub_eq_zero (by have : bs.data.size = bs.size := rfl; omega)), List.append_nil]
  | succ n ih =>
    intro i r h
    rw [ByteArray.toList.loop]
    by_cases hi : i < bs.size
    · have hi' : i < bs.data.toList.length := by simpa using hi
      rw [if_pos hi, ih _ _ (by omega), List.drop_eq_getElem_cons hi']
      have : bs.get! i = bs.data.toList[i] := by
        show bs.data[i]! = _
        rw [getElem!_pos bs.data i hi]; simp
      rw [this]; simp
    · rw [if_neg hi, List.drop_eq_nil_of_le (by simp; exact Nat.le_of_sub_eq_zero (by have : bs.data.size = bs.size := rfl; omega)), List.append_nil]

theorem ba_toList (bs : ByteArray) : bs.toList = bs.data.toList := by
  unfold ByteArray.toList
  rw [ba_loop bs _ 0 [] (Nat.le_refl _)]; simp

theorem ba_inj {a b : ByteArray} : a.toList = b.toList ↔ a = b := by
  rw [ba_toList, ba_toList]
  constructor
  · intro h
    have := Array.toList_inj.1 h
    cases a; cases b; simp only at this; rw [this]
  · rintro rfl; rfl
theorem ba_beq {a b : ByteArray} : (a.toList == b.toList) = decide (a = b) := by
  rw [Bool.eq_iff_iff, beq_iff_eq, decide_eq_true_iff, ba_inj]
end Go.Dc
