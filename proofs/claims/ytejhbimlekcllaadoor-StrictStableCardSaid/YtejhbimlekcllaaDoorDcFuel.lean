/- Part Dc.Fuel of a proof: lemmas. -/
import Derived.Test.YtejhbimlekcllaaDoorDcCut4
set_option linter.unusedVariables false
/-! Models with a bound on the rounds of their loops, which can be computed. -/
namespace Go.Dc
variable {α β σ ρ S A B R : Type}

def Le (m m' : Option α) : Prop := ∀ r, m = some r → m' = some r
def loopF (k : Nat) (f : σ → Option (Sum ρ σ)) (s : σ) : Option ρ := loopN f k s

theorem Le.refl (m : Option α) : Le m m := fun _ h => h
theorem Le.bind {m m' : Option α} {f f' : α → Option β} (h : Le m m') (hf : ∀ a, Le (f a) (f' a)) : Le (m.bind f) (m'.bind f') := by
  intro r hr
  cases hm : m with
  | none => rw [hm] at hr; cases hr
  | some a => rw [hm] at hr; rw [h a hm]; exact hf a r hr
theorem Le.cond {b : Bool} {x y x' y' : Option α} (h1 : Le x x') (h2 : Le y y') : Le (bif b then x else y) (bif b then x' else y') := by
  cases b
  · exact h2
  · exact h1
theorem Le.letM {x : S} {k k' : S → Option α} (h : ∀ a, Le (k a) (k' a)) : Le (letM x k) (letM x k') := h x
theorem Le.join {f f' : S → Option R} {g g' : (S → Option R) → Option R} (h1 : ∀ x, Le (f x) (f' x)) (h2 : ∀ k k' : S → Option R, (∀ x, Le (k x) (k' x)) → Le (g k) (g' k')) :
    Le (joinM f g) (joinM f' g') := h2 f f' h1
theorem Le.sumK {kr : A → Option R} {kb kb' : B → Option R} (h : ∀ b, Le (kb b) (kb' b)) : ∀ a, Le (sumK kr kb a) (sumK kr kb' a)
  | .inl a => .refl _
  | .inr b => h b
theorem Le.loop {k : Nat} {f f' : σ → Option (Sum ρ σ)} {s : σ} (h : ∀ s, Le (f s) (f' s)) : Le (loopF k f s) (loopC f' s) := by
  intro r hr
  refine loopC_iff.2 ⟨k, ?_⟩
  unfold loopF at hr
  induction k generalizing s with
  | zero => simp [loopN] at hr
  | succ k ih =>
    simp only [loopN] at hr ⊢
    cases hf : f s with
    | none => rw [hf] at hr; cases hr
    | some o =>
      rw [hf] at hr
      rw [h s o hf]
      cases o with
      | inl q => exact hr
      | inr s' => exact ih hr
end Go.Dc
