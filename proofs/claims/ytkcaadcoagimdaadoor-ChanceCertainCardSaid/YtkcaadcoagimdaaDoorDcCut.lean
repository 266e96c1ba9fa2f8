/- Part Dc.Cut of a proof: lemmas. -/
import Derived.Test.YtkcaadcoagimdaaDoorDcClo
import Derived.Lib.Overlaps
/-! Parts of owned slices: a slice that is lengthened within its room, copied into, or cut out of. -/
namespace Go.Dc
variable {R : Type} {P : Program} {E : Env} {N : Nat} {Γ : List (Nat × RP)} {Ω : List OB} {ty : TypeId}

def capV (v : Value) : Nat := match v with | .slice _ _ c => c | _ => 0

section rows
variable {α : Type} {ρ : Rep α} {F : FP} {w : World}
end rows

section
variable {α : Type} {e t : TypeId} {ρ : Rep α} {bytes : Nat} {x y : Operand} {hv : Value} {S : List Nat} {d : List α} {j : Nat}

theorem Sat.cap {a : Act} {w : World} (hs : Sat E N Γ Ω a w) (hj : Ω[j]? = some (oa ρ hv S d)) : d.length ≤ capV hv := by
  obtain ⟨ad, c, rfl, hc, _⟩ := hs.objAt hj
  exact hc

/-- x[l:m:k] -/
def sub3V (v : Value) (sz l m k : Nat) : Value := match v with
  | .slice ad _ _ => .slice (if k = l then ad else ad.map (·.add (l * sz))) (m - l) (k - l)
  | v => v
/-! ### writing into the row of an owned slice -/
end
end Go.Dc
