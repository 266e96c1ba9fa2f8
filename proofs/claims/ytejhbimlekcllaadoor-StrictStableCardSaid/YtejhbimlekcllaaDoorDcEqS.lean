/- Part Dc.EqS of a proof: lemmas. -/
import Derived.Test.YtejhbimlekcllaaDoorDcArr
import Derived.Laws.StructEq
/-! Structs and arrays that are compared. -/
namespace Go.Dc
variable {P : Program} {E : Env} {N : Nat} {Γ : List (Nat × RP)} {Ω : List OB} {ty : TypeId} {α : Type} [DecidableEq α] {ρ : Rep α}

structure EqT {α : Type} [DecidableEq α] (P : Program) (t : TypeId) (ρ : Rep α) : Prop where
  guard : P.eqGuardType P.depth t = false
  run : ∀ (x y : α) (F : FP) (w : World) (cs ds : Array Value), AllP F w (ρ.cp x) cs.toList → AllP F w (ρ.cp y) ds.toList → ∀ w' : World, (Op.equal t (.agg cs) (.agg ds)).run P w' = .ok (decide (x = y)) w'

theorem r_steql {t yt : TypeId} {x y : Operand} {u v : α} {φs ψs : List RP} (h : EqT P t ρ) (hx : lkO Γ x = some (ag φs)) (hy : lkO Γ y = some (ag ψs)) (hu : ρ.cp u = φs) (hv : ρ.cp v = ψs) :
    Rd P E N (.binOp .eql t x y yt) ty Γ Ω [] (bv (decide (u = v))) := .mk fun a w hs => by
  subst hu; subst hv
  obtain ⟨cs, h1, h2⟩ := hs.op hx
  obtain ⟨ds, h3, h4⟩ := hs.op hy
  refine ⟨.bool (decide (u = v)), rfl, fun w' o hop _ => ?_⟩
  have hr := h.run u v _ w cs ds h2 h4 w'
  have hg := h.guard
  simp [execOp, hop, h1, h3, eqGuard, binOp, hr, hg]
theorem r_stneq {t yt : TypeId} {x y : Operand} {u v : α} {φs ψs : List RP} (h : EqT P t ρ) (hx : lkO Γ x = some (ag φs)) (hy : lkO Γ y = some (ag ψs)) (hu : ρ.cp u = φs) (hv : ρ.cp v = ψs) :
    Rd P E N (.binOp .neq t x y yt) ty Γ Ω [] (bv (!decide (u = v))) := .mk fun a w hs => by
  subst hu; subst hv
  obtain ⟨cs, h1, h2⟩ := hs.op hx
  obtain ⟨ds, h3, h4⟩ := hs.op hy
  refine ⟨.bool (!decide (u = v)), rfl, fun w' o hop _ => ?_⟩
  have hr := h.run u v _ w cs ds h2 h4 w'
  have hg := h.guard
  simp [execOp, hop, h1, h3, eqGuard, binOp, hr, hg]

/-! the fields one after another -/
inductive EqC (P : Program) : TypeId → Value → Value → Bool → Prop
  | int {t : TypeId} {k : IntKind} {a b : Int} (h : P.underlying t = some (.int k)) : EqC P t (.int k a) (.int k b) (a == b)
  | bool {t : TypeId} {a b : Bool} (h : P.underlying t = some .bool) : EqC P t (.bool a) (.bool b) (a == b)
  | str {t : TypeId} {a b : ByteArray} (h : P.underlying t = some .string) : EqC P t (.string a) (.string b) (a.toList == b.toList)

theorem EqC.run {t : TypeId} {x y : Value} {b : Bool} (h : EqC P t x y b) (d : Nat) (w : World) : (Op.equalIn (d + 1) t x y).run P w = .ok b w := by
  cases h with
  | int h => exact run_equalIn_int w d t _ _ _ _ h
  | bool h => exact run_equalIn_bool' w d t _ _ h
  | str h => exact run_equalIn_string w d t _ _ h

/-- fields of one cell each -/
def EqFs (P : Program) : List Go.Field → Nat → List Value → List Value → Bool → Prop
  | [], _, [], [], r => r = true
  | f :: fs, n, x :: xs, y :: ys, r => (f.name ≠ "_" ∧ f.offset = n ∧ (∀ w, (isAgg f.type).run P w = .ok false w)) ∧ ∃ b r', EqC P f.type x y b ∧ EqFs P fs (n + 1) xs ys r' ∧ r = (b && r')
  | _, _, _, _, _ => False

theorem EqFs.run : ∀ {fs : List Go.Field} {n : Nat} {xs ys : List Value} {r : Bool}, EqFs P fs n xs ys r → ∀ (X Y : List Value), X.drop n = xs → Y.drop n = ys → ∀ (d : Nat) (w : World), (Op.eqFields (d + 1) ⟨X⟩ ⟨Y⟩ fs).run P w = .ok r w
  | [], _, [], [], _, h, _, _, _, _, _, _ => by rw [show _ = true from h]; simp [Op.eqFields]
  | f :: fs, n, x :: xs, y :: ys, r, ⟨⟨h1, h2, h3⟩, b, r', h4, h5, h6⟩, X, Y, hX, hY, d, w => by
    have hx : X[n]? = some x := by
      have e : (X.drop n)[0]? = some x := by rw [hX]; rfl
      rwa [List.getElem?_drop, Nat.add_zero] at e
    have hy : Y[n]? = some y := by
      have e : (Y.drop n)[0]? = some y := by rw [hY]; rfl
      rwa [List.getElem?_drop, Nat.add_zero] at e
    have hX' : X.drop (n + 1) = xs := by rw [← List.drop_drop, hX]; rfl
    have hY' : Y.drop (n + 1) = ys := by rw [← List.drop_drop, hY]; rfl
    have hr := EqFs.run h5 X Y hX' hY' d w
    subst h2
    simp only [Op.eqFields, if_pos h1]
    simp [part, h3, hx, hy, h4.run, hr, h6]
    cases b <;> simp
  | [], _, [], _ :: _, _, h, _, _, _, _, _, _ => h.elim
  | [], _, _ :: _, _, _, h, _, _, _, _, _, _ => h.elim
  | _ :: _, _, [], _, _, h, _, _, _, _, _, _ => h.elim
  | _ :: _, _, _ :: _, [], _, h, _, _, _, _, _, _ => h.elim

theorem eqT_struct {t : TypeId} {fs : Array Go.Field} (hu : P.underlying t = some (.struct fs)) (hh : P.stoodInHeld t = false) (hg : P.eqGuardType P.depth t = false)
    (h : ∀ (x y : α) (F : FP) (w : World) (cs ds : List Value), AllP F w (ρ.cp x) cs → AllP F w (ρ.cp y) ds → ∃ r, EqFs P fs.toList 0 cs ds r ∧ r = decide (x = y)) : EqT P t ρ := ⟨hg, fun x y F w cs ds h1 h2 w' => by
  obtain ⟨r, h3, h4⟩ := h x y F w cs.toList ds.toList h1 h2
  have hf : P.fieldsOf t = fs := by simp [Program.fieldsOf, hu]
  have ht : P.underlying t = some (.struct (P.fieldsOf t)) := by rw [hf]; exact hu
  show (Op.equalIn (9998 + 1 + 1) t (.agg cs) (.agg ds)).run P w' = _
  rw [run_equalIn_struct _ _ _ _ _ ht hh, hf, ← h4]
  exact h3.run cs.toList ds.toList rfl rfl _ _⟩
end Go.Dc
