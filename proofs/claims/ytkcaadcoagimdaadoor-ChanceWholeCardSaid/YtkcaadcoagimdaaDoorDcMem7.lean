/- Part Dc.Mem7 of a proof: lemmas. -/
import Derived.Test.YtkcaadcoagimdaaDoorDcMem6
/-! Fields of elements of slices. -/
namespace Go.Dc
variable {R S : Type} {P : Program} {E : Env} {N : Nat} {Γ Γ' : List (Nat × RP)} {Ω Ω' : List OB} {ty : TypeId} {α β : Type} {ρ : Rep α} {ρ' : Rep β} {y : α} {z : β} {bytes : Nat} {e : TypeId}

/-- the address of a field of an element of an owned slice -/
def elF (hv : Value) (sz : Nat) (n : Int) (fo : Nat) : Value :=
  match hv with
  | .slice (some a) _ _ => .pointer (some ((a.add (n.toNat * sz)).add fo))
  | _ => .pointer none

variable {d : List α} {n : Int} {hv : Value} {Sx : List Nat} {j : Nat}
end Go.Dc
