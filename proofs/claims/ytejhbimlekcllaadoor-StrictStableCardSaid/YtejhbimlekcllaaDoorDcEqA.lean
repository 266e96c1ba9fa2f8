/- Part Dc.EqA of a proof: lemmas. -/
import Derived.Test.YtejhbimlekcllaaDoorDcClo
import Derived.ChangeKeysEq
/-! Arrays that are compared. -/
namespace Go.Dc
variable {P : Program} {α : Type} [DecidableEq α] {ρ : Rep α}

def EqAs (P : Program) (e : TypeId) : List Value → List Value → Bool → Prop
  | [], [], r => r = true
  | x :: xs, y :: ys, r => ∃ b r', EqC P e x y b ∧ EqAs P e xs ys r' ∧ r = (b && r')
  | _, _, _ => False

theorem EqAs.run {e : TypeId} (hg : ∀ w, (isAgg e).run P w = .ok false w) : ∀ {xs ys : List Value} {r : Bool}, EqAs P e xs ys r → ∀ (X Y : List Value) (k : Nat), X.drop k = xs → Y.drop k = ys →
    ∀ (d : Nat) (w : World), (Op.eqItems (d + 1) e 1 ⟨X⟩ ⟨Y⟩ (List.range' k xs.length)).run P w = .ok r w
  | [], [], _, h, _, _, _, _, _, _, _ => by rw [show _ = true from h]; simp [Op.eqItems]
  | x :: xs, y :: ys, r, ⟨b, r', h4, h5, h6⟩, X, Y, k, hX, hY, d, w => by
    have hx : X[k]? = some x := by
      have e : (X.drop k)[0]? = some x := by rw [hX]; rfl
      rwa [List.getElem?_drop, Nat.add_zero] at e
    have hy : Y[k]? = some y := by
      have e : (Y.drop k)[0]? = some y := by rw [hY]; rfl
      rwa [List.getElem?_drop, Nat.add_zero] at e
    have hX' : X.drop (k + 1) = xs := by rw [← List.drop_drop, hX]; rfl
    have hY' : Y.drop (k + 1) = ys := by rw [← List.drop_drop, hY]; rfl
    have hr := EqAs.run hg h5 X Y (k + 1) hX' hY' d w
    simp only [List.length_cons, List.range'_succ, Op.eqItems]
    simp [part, hg, hx, hy, h4.run, hr, h6]
    cases b <;> simp
  | [], _ :: _, _, h, _, _, _, _, _, _, _ => h.elim
  | _ :: _, [], _, h, _, _, _, _, _, _, _ => h.elim

end Go.Dc
