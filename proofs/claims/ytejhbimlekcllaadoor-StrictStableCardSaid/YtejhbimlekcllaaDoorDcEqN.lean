/- Part Dc.EqN of a proof: lemmas. -/
import Derived.Test.YtejhbimlekcllaaDoorDcEqS
set_option linter.unusedVariables false
/-! Structs within structs, compared. -/
namespace Go.Dc
variable {P : Program} {α : Type} [DecidableEq α] {ρ : Rep α}

/-- fields of one cell, or structs of such -/
def EqGs (P : Program) : List Go.Field → Nat → List Value → List Value → Bool → Prop
  | [], _, xs, ys, r => xs = [] ∧ ys = [] ∧ r = true
  | f :: fs, n, xs, ys, r => (f.name ≠ "_" ∧ f.offset = n) ∧ ∃ m b r', m ≤ xs.length ∧ m ≤ ys.length ∧ EqGs P fs (n + m) (xs.drop m) (ys.drop m) r' ∧ r = (b && r') ∧
      (((∀ w, (isAgg f.type).run P w = .ok false w) ∧ m = 1 ∧ ∃ x y, xs[0]? = some x ∧ ys[0]? = some y ∧ EqC P f.type x y b) ∨
       ((∀ w, (isAgg f.type).run P w = .ok true w) ∧ (∀ w, (Go.sizeOf f.type).run P w = .ok m w) ∧ P.stoodInHeld f.type = false ∧ ∃ gs, P.underlying f.type = some (.struct gs) ∧ EqFs P gs.toList 0 (xs.take m) (ys.take m) b))

theorem EqGs.run : ∀ {fs : List Go.Field} {n : Nat} {xs ys : List Value} {r : Bool}, EqGs P fs n xs ys r → ∀ (X Y : List Value), X.drop n = xs → Y.drop n = ys → ∀ (d : Nat) (w : World), (Op.eqFields (d + 2) ⟨X⟩ ⟨Y⟩ fs).run P w = .ok r w
  | [], n, xs, ys, r, h, X, Y, _, _, d, w => by rw [h.2.2]; simp [Op.eqFields]
  | f :: fs, n, xs, ys, r, ⟨⟨h1, h2⟩, m, b, r', hm, hm', h5, h6, h7⟩, X, Y, hX, hY, d, w => by
    have hX' : X.drop (n + m) = xs.drop m := by rw [← List.drop_drop, hX]
    have hY' : Y.drop (n + m) = ys.drop m := by rw [← List.drop_drop, hY]
    have hr := EqGs.run h5 X Y hX' hY' d w
    subst h2
    simp only [Op.eqFields, if_pos h1]
    rcases h7 with ⟨h3, rfl, x, y, hx0, hy0, h4⟩ | ⟨h3, hz, hs, gs, hu, h4⟩
    · have hx : X[f.offset]? = some x := by rw [← hX] at hx0; rwa [List.getElem?_drop, Nat.add_zero] at hx0
      have hy : Y[f.offset]? = some y := by rw [← hY] at hy0; rwa [List.getElem?_drop, Nat.add_zero] at hy0
      simp [part, h3, hx, hy, (h4.run (d + 1)), hr, h6]
      cases b <;> simp
    · have hf : P.fieldsOf f.type = gs := by simp [Program.fieldsOf, hu]
      have ht : P.underlying f.type = some (.struct (P.fieldsOf f.type)) := by rw [hf]; exact hu
      subst hX; subst hY
      have heq : (Op.equalIn (d + 2) f.type (.agg (List.take m (List.drop f.offset X)).toArray) (.agg (List.take m (List.drop f.offset Y)).toArray)).run P w = .ok b w := by
        rw [run_equalIn_struct _ _ _ _ _ ht hs, hf]
        exact h4.run _ _ rfl rfl _ _
      simp [part, h3, hz, heq, hr, h6]
      cases b <;> simp

theorem eqT_structN {t : TypeId} {fs : Array Go.Field} (hu : P.underlying t = some (.struct fs)) (hh : P.stoodInHeld t = false) (hg : P.eqGuardType P.depth t = false)
    (h : ∀ (x y : α) (F : FP) (w : World) (cs ds : List Value), AllP F w (ρ.cp x) cs → AllP F w (ρ.cp y) ds → ∃ r, EqGs P fs.toList 0 cs ds r ∧ r = decide (x = y)) : EqT P t ρ := ⟨hg, fun x y F w cs ds h1 h2 w' => by
  obtain ⟨r, h3, h4⟩ := h x y F w cs.toList ds.toList h1 h2
  have hf : P.fieldsOf t = fs := by simp [Program.fieldsOf, hu]
  have ht : P.underlying t = some (.struct (P.fieldsOf t)) := by rw [hf]; exact hu
  show (Op.equalIn (9997 + 2 + 1) t (.agg cs) (.agg ds)).run P w' = _
  rw [run_equalIn_struct _ _ _ _ _ ht hh, hf, ← h4]
  exact h3.run cs.toList ds.toList rfl rfl _ _⟩
end Go.Dc
