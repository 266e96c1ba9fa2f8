/- Part Dc.Loops of a proof: lemmas. -/
import Derived.Test.YtmbflfngkcmfeaaDoorDcBits
set_option linter.unusedVariables false
set_option linter.unusedSimpArgs false
/-! Loops that fold over a list. -/
namespace Go.Dc
variable {α β ρ : Type}

/-- for _, x := range l: the state beside the index -/
theorem fold_loop {l : List α} {f : β × Int → Option (Sum ρ (β × Int))} (g : β → α → β) (fin : β → ρ) (I : β → Prop) {b0 : β} (h0 : I b0)
    (h : ∀ b i (hi : i < l.length), I b → f (b, (i : Int)) = some (.inr (g b l[i], ((i + 1 : Nat) : Int))) ∧ I (g b l[i])) (he : ∀ b, I b → f (b, (l.length : Int)) = some (.inl (fin b))) :
    loopC f (b0, 0) = some (fin (l.foldl g b0)) ∧ I (l.foldl g b0) := by
  suffices hh : ∀ m i b, l.length - i ≤ m → i ≤ l.length → I b → loopC f (b, (i : Int)) = some (fin ((l.drop i).foldl g b)) ∧ I ((l.drop i).foldl g b) by
    simpa using hh _ 0 b0 (Nat.le_refl _) (Nat.zero_le _) h0
  intro m
  induction m with
  | zero =>
    intro i b h1 h2 hb
    have e : i = l.length := by omega
    subst e
    rw [loopC_eq, he b hb, List.drop_length]; exact ⟨rfl, hb⟩
  | succ m ih =>
    intro i b h1 h2 hb
    by_cases e : i = l.length
    · subst e; rw [loopC_eq, he b hb, List.drop_length]; exact ⟨rfl, hb⟩
    · have hi : i < l.length := by omega
      obtain ⟨h3, h4⟩ := h b i hi hb
      rw [loopC_eq, h3, List.drop_eq_getElem_cons hi, List.foldl_cons]
      exact ih (i + 1) (g b l[i]) (by omega) (by omega) h4

/-- numbers of Nat as numbers -/
abbrev il (l : List Nat) : List Int := l.map fun x : Nat => (x : Int)
theorem il_idx {l : List Nat} {i : Nat} (h : i < l.length) : idxM (il l) (i : Int) = some ((l.getD i 0 : Nat) : Int) := by
  rw [idxM_nat (by simpa using h)]; simp [List.getD, h]
theorem il_set {l : List Nat} {i : Nat} {x : Nat} : (il l).set i (x : Int) = il (l.set i x) := by simp [il, List.map_set]
theorem il_mem {l : List Nat} {x : Int} : x ∈ il l ↔ ∃ n ∈ l, x = (n : Int) := by
  simp [il]; constructor
  · rintro ⟨n, h, e⟩; exact ⟨n, h, e.symm⟩
  · rintro ⟨n, h, e⟩; exact ⟨n, h, e.symm⟩

/-! ### unions of bits over a list -/
def orL (g : Nat → Nat) (l : List Nat) : Nat := l.foldl (fun a i => a ||| g i) 0
theorem orL_from {g : Nat → Nat} {l : List Nat} {a j : Nat} : (l.foldl (fun a i => a ||| g i) a).testBit j = (a.testBit j || l.any fun i => (g i).testBit j) := by
  induction l generalizing a with
  | nil => simp
  | cons x l ih => rw [List.foldl_cons, ih, Nat.testBit_or, List.any_cons, Bool.or_assoc]
theorem orL_bit {g : Nat → Nat} {l : List Nat} {j : Nat} : (orL g l).testBit j = true ↔ ∃ i ∈ l, (g i).testBit j = true := by
  unfold orL
  rw [orL_from]; simp
theorem lt_of_bits {a n : Nat} (h : ∀ j, a.testBit j = true → j < n) : a < 2 ^ n := Nat.lt_pow_two_of_testBit a fun j hj => by
  cases hb : a.testBit j
  · rfl
  · have := h j hb; omega
theorem bits_lt {a n j : Nat} (ha : a < 2 ^ n) (h : a.testBit j = true) : j < n := by
  by_cases h1 : j < n
  · exact h1
  · have := Nat.testBit_lt_two_pow (Nat.lt_of_lt_of_le ha (Nat.pow_le_pow_right (by decide : 0 < 2) (by omega : n ≤ j)))
    rw [this] at h; cases h
theorem lt64 {a n : Nat} (ha : a < 2 ^ n) (hn : n ≤ 64) : a < 2 ^ 64 := Nat.lt_of_lt_of_le ha (Nat.pow_le_pow_right (by decide) hn)

/-! ### subsets, downward -/
def SubB (a b : Nat) : Prop := ∀ i, a.testBit i = true → b.testBit i = true
theorem SubB.refl (a : Nat) : SubB a a := fun _ h => h
theorem SubB.and {a b : Nat} : SubB (a &&& b) b := fun i h => by rw [Nat.testBit_and, Bool.and_eq_true] at h; exact h.2
theorem SubB.trans {a b c : Nat} (h : SubB a b) (k : SubB b c) : SubB a c := fun i hi => k i (h i hi)
theorem SubB.antisymm {a b : Nat} (h : SubB a b) (k : SubB b a) : a = b := eq_of_bits fun i => by
  cases ha : a.testBit i <;> cases hb : b.testBit i
  · rfl
  · rw [k i hb] at ha; cases ha
  · rw [h i ha] at hb; cases hb
  · rfl
theorem SubB.zero {a : Nat} : SubB 0 a := fun i h => by simp at h

end Go.Dc
