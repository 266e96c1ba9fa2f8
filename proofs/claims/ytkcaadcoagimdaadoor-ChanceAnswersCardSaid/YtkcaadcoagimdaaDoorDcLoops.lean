/- Part Dc.Loops of a proof: lemmas. -/
import Derived.Test.YtkcaadcoagimdaaDoorDcBits
set_option linter.unusedVariables false
set_option linter.unusedSimpArgs false
/-! Loops that fold over a list. -/
namespace Go.Dc
variable {α β ρ : Type}

/-- for _, x := range l: the state beside the index -/
theorem fold_loop {l : List α} {f : β × Int → Option (Sum ρ (β × Int))} (g : β → α → β) (fin : β → ρ) (I : β → Prop) {b0 : β} (h0 : I b0)
    (h : ∀ b i (hi : i < l.length), I b → f (b, (i : Int)) = some (.inr (g b l[i], ((i + 1 : Nat) : Int))) ∧ I (g b l[i])) (he : ∀ b, I b → f (b, (l.length : Int)) = some (.inl (fin b))) :
    loopC f (b0, 0) = some (fin (l.foldl g b0)) ∧ I (l.foldl g b0) := by
  suffices hh : ∀ m i b, l.length - i ≤ m → i ≤ l.length → I b → loopC f (b, (i : Int)) = some (fin ((l.drop i).foldl g b)) ∧ I ((l.drop i).foldl g b) by
    simpa using hh _ 0 b0 (Nat.le_refl _) (Nat.zero_le _) h0
  intro m
  induction m with
  | zero =>
    intro i b h1 h2 hb
    have e : i = l.length := by omega
    subst e
    rw [loopC_eq, he b hb, List.drop_length]; exact ⟨rfl, hb⟩
  | succ m ih =>
    intro i b h1 h2 hb
    by_cases e : i = l.length
    · subst e; rw [loopC_eq, he b hb, List.drop_length]; exact ⟨rfl, hb⟩
    · have hi : i < l.length := by omega
      obtain ⟨h3, h4⟩ := h b i hi hb
      rw [loopC_eq, h3, List.drop_eq_getElem_cons hi, List.foldl_cons]
      exact ih (i + 1) (g b l[i]) (by omega) (by omega) h4

/-- numbers of Nat as numbers -/
abbrev il (l : List Nat) : List Int := l.map fun x : Nat => (x : Int)
theorem il_idx {l : List Nat} {i : Nat} (h : i < l.length) : idxM (il l) (i : Int) = some ((l.getD i 0 : Nat) : Int) := by
  rw [idxM_nat (by simpa using h)]; simp [List.getD, h]
theorem il_set {l : List Nat} {i : Nat} {x : Nat} : (il l).set i (x : Int) = il (l.set i x) := by simp [il, List.map_set]
theorem il_len {l : List Nat} : (il l).length = l.length := by simp
theorem il_mem {l : List Nat} {x : Int} : x ∈ il l ↔ ∃ n ∈ l, x = (n : Int) := by
  simp [il]; constructor
  · rintro ⟨n, h, e⟩; exact ⟨n, h, e.symm⟩
  · rintro ⟨n, h, e⟩; exact ⟨n, h, e.symm⟩

/-! ### unions of bits over a list -/
def orL (g : Nat → Nat) (l : List Nat) : Nat := l.foldl (fun a i => a ||| g i) 0
theorem orL_from {g : Nat → Nat} {l : List Nat} {a j : Nat} : (l.foldl (fun a i => a ||| g i) a).testBit j = (a.testBit j || l.any fun i => (g i).testBit j) := by
  induction l generalizing a with
  | nil => simp
  | cons x l ih => rw [List.foldl_cons, ih, Nat.testBit_or, List.any_cons, Bool.or_assoc]
theorem orL_bit {g : Nat → Nat} {l : List Nat} {j : Nat} : (orL g l).testBit j = true ↔ ∃ i ∈ l, (g i).testBit j = true := by
  unfold orL
  rw [orL_from]; simp
theorem lt_of_bits {a n : Nat} (h : ∀ j, a.testBit j = true → j < n) : a < 2 ^ n := Nat.lt_pow_two_of_testBit a fun j hj => by
  cases hb : a.testBit j
  · rfl
  · have := h j hb; omega
theorem bits_lt {a n j : Nat} (ha : a < 2 ^ n) (h : a.testBit j = true) : j < n := by
  by_cases h1 : j < n
  · exact h1
  · have := Nat.testBit_lt_two_pow (Nat.lt_of_lt_of_le ha (Nat.pow_le_pow_right (by decide : 0 < 2) (by omega : n ≤ j)))
    rw [this] at h; cases h
theorem lt64 {a n : Nat} (ha : a < 2 ^ n) (hn : n ≤ 64) : a < 2 ^ 64 := Nat.lt_of_lt_of_le ha (Nat.pow_le_pow_right (by decide) hn)

/-! ### subsets, downward -/
def SubB (a b : Nat) : Prop := ∀ i, a.testBit i = true → b.testBit i = true
theorem SubB.refl (a : Nat) : SubB a a := fun _ h => h
theorem SubB.and {a b : Nat} : SubB (a &&& b) b := fun i h => by rw [Nat.testBit_and, Bool.and_eq_true] at h; exact h.2
theorem SubB.trans {a b c : Nat} (h : SubB a b) (k : SubB b c) : SubB a c := fun i hi => k i (h i hi)
theorem SubB.antisymm {a b : Nat} (h : SubB a b) (k : SubB b a) : a = b := eq_of_bits fun i => by
  cases ha : a.testBit i <;> cases hb : b.testBit i
  · rfl
  · rw [k i hb] at ha; cases ha
  · rw [h i ha] at hb; cases hb
  · rfl
theorem SubB.zero {a : Nat} : SubB 0 a := fun i h => by simp at h

theorem top_diff {a b n : Nat} (ha : a < 2 ^ n) (hb : b < 2 ^ n) (h : a ≠ b) : ∃ m, a.testBit m ≠ b.testBit m ∧ ∀ j, m < j → a.testBit j = b.testBit j := by
  suffices hh : ∀ k, (∀ j, k ≤ j → a.testBit j = b.testBit j) → ∃ m, a.testBit m ≠ b.testBit m ∧ ∀ j, m < j → a.testBit j = b.testBit j from hh n fun j hj => by
    rw [Nat.testBit_lt_two_pow (Nat.lt_of_lt_of_le ha (Nat.pow_le_pow_right (by decide) hj)), Nat.testBit_lt_two_pow (Nat.lt_of_lt_of_le hb (Nat.pow_le_pow_right (by decide) hj))]
  intro k
  induction k with
  | zero => intro hk; exact absurd (eq_of_bits fun i => hk i (by omega)) h
  | succ k ih =>
    intro hk
    by_cases e : a.testBit k = b.testBit k
    · exact ih fun j hj => by
        by_cases e2 : j = k
        · rw [e2]; exact e
        · exact hk j (by omega)
    · exact ⟨k, e, fun j hj => hk j (by omega)⟩

theorem lt_of_bit {x y : Nat} (i : Nat) (hx : x.testBit i = false) (hy : y.testBit i = true) (hj : ∀ j, i < j → x.testBit j = y.testBit j) : x < y := by
  have h1 : x / 2 ^ (i + 1) = y / 2 ^ (i + 1) := eq_of_bits fun j => by
    rw [Nat.testBit_div_two_pow, Nat.testBit_div_two_pow]; exact hj _ (by omega)
  have h2 : x % 2 ^ (i + 1) < 2 ^ i := Nat.lt_pow_two_of_testBit _ fun j h => by
    rw [Nat.testBit_mod_two_pow]
    by_cases e : j = i
    · rw [e, hx]; simp
    · simp [show ¬ j < i + 1 by omega]
  have h3 : 2 ^ i ≤ y % 2 ^ (i + 1) := by
    refine Nat.le_of_not_lt fun h => ?_
    have := Nat.testBit_lt_two_pow h
    rw [Nat.testBit_mod_two_pow, hy] at this
    simp at this
  have h4 := Nat.div_add_mod x (2 ^ (i + 1))
  have h5 := Nat.div_add_mod y (2 ^ (i + 1))
  rw [h1] at h4
  omega

/-- the next subset -/
theorem sub_next {s x y : Nat} (hs : s < 2 ^ 64) (hx : SubB x s) (hy : SubB y s) (hlt : y < x) : y ≤ (x - 1) &&& s := by
  have hx64 : x < 2 ^ 64 := lt_of_bits fun j hj => bits_lt hs (hx j hj)
  obtain ⟨k, hk, hl⟩ := low_exists (show x ≠ 0 by omega)
  obtain ⟨m, hm, hab⟩ := top_diff (n := 64) (show y < 2 ^ 64 by omega) hx64 (by omega)
  have hym : y.testBit m = false ∧ x.testBit m = true := by
    cases h1 : y.testBit m <;> cases h2 : x.testBit m
    · rw [h1, h2] at hm; exact absurd rfl hm
    · exact ⟨rfl, rfl⟩
    · have := lt_of_bit m h2 h1 fun j hj => (hab j hj).symm
      omega
    · rw [h1, h2] at hm; exact absurd rfl hm
  have hmk : k ≤ m := by
    rcases Nat.lt_or_ge m k with h | h
    · have := hl m h; rw [hym.2] at this; cases this
    · exact h
  have hbit : ∀ j, ((x - 1) &&& s).testBit j = ((if j < k then true else if j = k then false else x.testBit j) && s.testBit j) := fun j => by rw [Nat.testBit_and, low_pred hk hl]
  rcases Nat.lt_or_ge k m with h | h
  · refine Nat.le_of_lt (lt_of_bit m hym.1 ?_ fun j hj => ?_)
    · rw [hbit, if_neg (by omega), if_neg (by omega), hym.2, hx m hym.2]; rfl
    · rw [hbit, if_neg (by omega), if_neg (by omega), hab j hj]
      cases hj2 : x.testBit j
      · rfl
      · rw [hx j hj2]; rfl
  · have e : m = k := by omega
    subst e
    refine Nat.le_of_not_lt fun hgt => ?_
    obtain ⟨q, hq, hq2⟩ := top_diff (n := 64) (a := (x - 1) &&& s) (b := y) (Nat.lt_of_le_of_lt Nat.and_le_right hs) (by omega) (by omega)
    have h4 : y.testBit q = true ∧ ((x - 1) &&& s).testBit q = false := by
      cases h1 : y.testBit q <;> cases h2 : ((x - 1) &&& s).testBit q
      · rw [h1, h2] at hq; exact absurd rfl hq
      · have := lt_of_bit q h1 h2 fun j hj => (hq2 j hj).symm
        omega
      · exact ⟨rfl, rfl⟩
      · rw [h1, h2] at hq; exact absurd rfl hq
    obtain ⟨h5, h6⟩ := h4
    rw [hbit, hy q h5, Bool.and_true] at h6
    by_cases c1 : q < m
    · rw [if_pos c1] at h6; cases h6
    · by_cases c2 : q = m
      · subst c2; rw [hym.1] at h5; cases h5
      · rw [if_neg c1, if_neg c2, ← hab q (by omega), h5] at h6; cases h6
end Go.Dc
