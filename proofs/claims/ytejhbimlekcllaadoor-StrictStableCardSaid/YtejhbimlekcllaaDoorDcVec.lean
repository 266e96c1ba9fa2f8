/- Part Dc.Vec of a proof: lemmas. -/
import Derived.Test.YtejhbimlekcllaaDoorDcArr
import Derived.Test.YtejhbimlekcllaaDoorDcClo
/-! Arrays of numbers, however long, as variables. -/
namespace Go.Dc
variable {P : Program} {E : Env} {N : Nat} {Γ : List (Nat × RP)} {Ω : List OB} {ty : TypeId}

/-- an element of an array of n numbers -/
def vidxM (n : Nat) (d : List Int) (i : Int) : Option Int := if d.length = n then idxM d i else none
end Go.Dc
