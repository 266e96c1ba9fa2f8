/- Part Dc.Mem6 of a proof: lemmas. -/
import Derived.Test.YtmbflfngkcmfeaaDoorDcOps2
/-! Some more operations on slices. -/
namespace Go.Dc
variable {P : Program} {E : Env} {N : Nat} {Γ : List (Nat × RP)} {Ω : List OB} {ty : TypeId}

section
variable {α : Type} {e t yt : TypeId} {ρ : Rep α} {bytes : Nat} {x : Operand}

theorem run_isnil {a : Option Addr} {n c : Nat} (hu : P.underlying t = some (.slice e)) (w : World) : (Op.equal t (.slice a n c) (.slice none 0 0)).run P w = .ok a.isNone w := by
  unfold Op.equal
  rw [show Op.maxDepth = 9999 + 1 from rfl, Op.equalIn, Sem.run_bind, run_underlying hu]
  cases a <;> rfl

/-- x == nil -/
theorem s_isnil {d : List α} (hu : P.underlying t = some (.slice e)) (hx : lkO Γ x = some (slv ρ d)) :
    St P E N (.binOp .eql t x (.const (.slice none 0 0)) yt) ty Γ Ω [] (fun b : { b : Bool // b = true → d = [] } => bv b.1) (fun _ => Ω) := by
  intro a w hs o ho ht
  obtain ⟨ad, c, hv, hc, hat⟩ := hs.op hx
  have hg : (eqGuard .eql t x (.const (.slice none 0 0)) (.slice ad d.length c) (.slice none 0 0)).run P w = .ok () w := by unfold eqGuard; rfl
  have hb : binOp .eql t (.slice ad d.length c) (.slice none 0 0) = (do pure (.bool (← Op.equal t (.slice ad d.length c) (.slice none 0 0)))) := rfl
  have hr : (execOp a.eval o).run P w = .ok (.value (.bool ad.isNone)) w := by
    have he : a.eval (.const (.slice none 0 0)) = .slice none 0 0 := rfl
    simp [execOp, ho, hv, he, hg, hb, run_isnil hu]
  rw [hr]
  refine ⟨⟨ad.isNone, fun h => ?_⟩, hs, rfl, Nat.le_refl _, fun _ _ _ => rfl, fun _ _ h => h⟩
  refine Classical.byContradiction fun hd => ?_
  obtain ⟨b, off, _, _, _, h1, _⟩ := hat hd
  rw [h1] at h; cases h

end

theorem b_to {R : Type} {m : Option R} {Γ' : List (Nat × RP)} {Ω' : List OB} {B : R → Act → World → Prop} (h : RefB E N m Γ' Ω' B) (hw : ∀ a w, Sat E N Γ Ω a w → Sat E N Γ' Ω' a w) : RefB E N m Γ Ω B :=
  b_of hw h

theorem ref_condE {R : Type} {m : Option R} {K : KT R} {c : Operand} {thn els : Code} {b : Bool} (hc : lkO Γ c = some (bv b))
    (h1 : b = true → Ref P E N m thn Γ Ω K) (h2 : b = false → Ref P E N m els Γ Ω K) : Ref P E N m (.cond c thn els) Γ Ω K := by
  cases b with
  | true => exact ref_condT hc rfl (h1 rfl)
  | false => exact ref_condF hc rfl (h2 rfl)
end Go.Dc
