/- Part Dc.Mem6 of a proof: lemmas. -/
import Derived.Test.YtofcoilhjmkejaaDcOps2
/-! Some more operations on slices. -/
namespace Go.Dc
variable {P : Program} {E : Env} {N : Nat} {Γ : List (Nat × RP)} {Ω : List OB} {ty : TypeId}

section
variable {α : Type} {e t yt : TypeId} {ρ : Rep α} {bytes : Nat} {x : Operand}

end

theorem b_to {R : Type} {m : Option R} {Γ' : List (Nat × RP)} {Ω' : List OB} {B : R → Act → World → Prop} (h : RefB E N m Γ' Ω' B) (hw : ∀ a w, Sat E N Γ Ω a w → Sat E N Γ' Ω' a w) : RefB E N m Γ Ω B :=
  b_of hw h

end Go.Dc
