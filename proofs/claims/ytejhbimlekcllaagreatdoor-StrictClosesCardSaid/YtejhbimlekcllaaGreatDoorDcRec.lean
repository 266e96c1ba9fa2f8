/- Part Dc.Rec of a proof: lemmas. -/
import Derived.Test.YtejhbimlekcllaaGreatDoorDcFuel
set_option linter.unusedVariables false
/-! Functions that call themselves: models by depth. -/
namespace Go.Dc
variable {α β σ ρ R : Type}

open Classical in
/-- what a model gives at some depth -/
noncomputable def recC (f : Nat → Option R) : Option R := if h : ∃ n r, f n = some r then some h.choose_spec.choose else none

theorem recC_some {f : Nat → Option R} {r : R} (h : recC f = some r) : ∃ n, f n = some r := by
  unfold recC at h
  split at h
  · rename_i hx
    exact ⟨_, by rw [← h]; exact hx.choose_spec.choose_spec⟩
  · cases h

theorem recC_of {f : Nat → Option R} (hm : ∀ n, Le (f n) (f (n + 1))) {n : Nat} {r : R} (h : f n = some r) : recC f = some r := by
  have mono : ∀ {a b : Nat}, a ≤ b → Le (f a) (f b) := by
    intro a b hab
    induction hab with
    | refl => exact .refl _
    | step _ ih => exact fun r hr => hm _ r (ih r hr)
  cases hc : recC f with
  | none =>
    unfold recC at hc
    rw [dif_pos ⟨n, r, h⟩] at hc
    cases hc
  | some r' =>
    obtain ⟨k, hk⟩ := recC_some hc
    have h1 := mono (Nat.le_max_left n k) r h
    have h2 := mono (Nat.le_max_right n k) r' hk
    rw [h1] at h2; exact h2.symm

theorem T.recC {f : Nat → Option R} (hm : ∀ n, Le (f n) (f (n + 1))) {n : Nat} {Q : R → Prop} (h : T (f n) Q) : T (recC f) Q := by
  obtain ⟨r, h1, h2⟩ := h
  exact ⟨r, recC_of hm h1, h2⟩

theorem Le.trans {m m' m'' : Option α} (h : Le m m') (k : Le m' m'') : Le m m'' := fun r hr => k r (h r hr)
theorem Le.loopC {f f' : σ → Option (Sum ρ σ)} {s : σ} (h : ∀ s, Le (f s) (f' s)) : Le (loopC f s) (loopC f' s) := by
  intro r hr
  obtain ⟨n, hn⟩ := loopC_iff.1 hr
  exact Le.loop (k := n) h r hn
end Go.Dc
