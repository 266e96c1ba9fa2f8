/- Part Dc.Cut2 of a proof: lemmas. -/
import Derived.Test.YtkcaadcoagimdaaDoorDcCut
/-! Copying within and into owned slices; appending to parts of them. -/
namespace Go.Dc
variable {P : Program} {E : Env} {N : Nat} {Γ : List (Nat × RP)} {Ω : List OB} {ty : TypeId}

section
variable {α : Type} {e t : TypeId} {ρ : Rep α} {bytes : Nat} {x y : Operand} {hv : Value} {S : List Nat} {d : List α} {j : Nat}

end
end Go.Dc
