/- Part Dc.Cut3 of a proof: lemmas. -/
import Derived.Test.YtkcaadcoagimdaaDoorDcCut2
/-! A part of a slice with zeros appended; do two slices overlap. -/
namespace Go.Dc
variable {P : Program} {E : Env} {N : Nat} {Γ : List (Nat × RP)} {Ω : List OB} {ty : TypeId}

section
variable {α : Type} {e t yt : TypeId} {ρ : Rep α} {bytes : Nat} {x y : Operand} {hv : Value} {S : List Nat} {d : List α} {j : Nat}

end
end Go.Dc
