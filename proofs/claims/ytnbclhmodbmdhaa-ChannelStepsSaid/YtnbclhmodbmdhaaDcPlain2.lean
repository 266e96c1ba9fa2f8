/- Part Dc.Plain2 of a proof: lemmas. -/
import Derived.Test.YtnbclhmodbmdhaaDcPlain
set_option linter.unusedVariables false
set_option linter.unusedSimpArgs false
/-! More on loops and lists of the plain models. -/
namespace Go.Dc
variable {α β γ σ ρ τ : Type} {Q : ρ → Prop}

abbrev onO (Q : ρ → Prop) (I : σ → Prop) (o : Sum ρ σ) : Prop := match o with | .inl r => Q r | .inr s => I s

theorem T.loopM {f : σ → Option (Sum ρ σ)} (I : σ → Prop) (μ : σ → Nat) {s : σ} (h0 : I s)
    (step : ∀ s, I s → T (f s) (onO Q fun s' => I s' ∧ μ s' < μ s)) : T (loopC f s) Q :=
  T.loop I μ h0 fun s hs => (step s hs).mono fun o ho => by
    match o, ho with
    | .inl r, h => exact h
    | .inr s', h => exact h

theorem T.joinP {S : Type} {f : S → Option ρ} {g : (S → Option ρ) → Option ρ} (P : S → Prop) (h1 : ∀ x, P x → T (f x) Q) (h2 : ∀ k : S → Option ρ, (∀ x, P x → T (k x) Q) → T (g k) Q) : T (joinM f g) Q := h2 f h1

theorem T.loopK {f : σ → Option (Sum ρ σ)} (n : Nat) (I : Nat → σ → Prop) {s : σ} (h0 : I 0 s)
    (step : ∀ k s, I k s → T (f s) (onO Q fun s' => k < n ∧ I (k + 1) s')) : T (loopC f s) Q := by
  suffices h : ∀ m k s, n + 1 - k ≤ m → I k s → T (loopC f s) Q from h _ 0 s (Nat.le_refl _) h0
  intro m
  induction m with
  | zero =>
    intro k s hm hs
    obtain ⟨o, h1, h2⟩ := step k s hs
    rw [loopC_eq, h1]
    match o, h2 with
    | .inl r, h2 => exact ⟨r, rfl, h2⟩
    | .inr s', h2 => have := h2.1; omega
  | succ m ih =>
    intro k s hm hs
    obtain ⟨o, h1, h2⟩ := step k s hs
    rw [loopC_eq, h1]
    match o, h2 with
    | .inl r, h2 => exact ⟨r, rfl, h2⟩
    | .inr s', h2 => exact ih (k + 1) s' (by have := h2.1; omega) h2.2

theorem some_bind {a : α} {f : α → Option β} : Option.bind (some a) f = f a := rfl
/-! ### getD -/
theorem idxM_getD {d : List α} {z : α} {n : Nat} (h : n < d.length) : idxM d (n : Int) = some (d.getD n z) := by
  rw [idxM_nat h]; simp [List.getD, h]
theorem idxM_getD' {d : List α} (z : α) {n : Int} (h0 : 0 ≤ n) (h : n < d.length) : idxM d n = some (d.getD n.toNat z) := by
  obtain ⟨m, rfl⟩ := Int.eq_ofNat_of_zero_le h0
  rw [idxM_getD (z := z) (by omega)]; rfl
theorem iadd1 {n : Nat} (h : n ≤ 4611686018427387904) : iadd .i64 (n : Int) 1 = ((n + 1 : Nat) : Int) := by
  rw [iadd64 (by omega) (by omega)]; rfl
end Go.Dc
