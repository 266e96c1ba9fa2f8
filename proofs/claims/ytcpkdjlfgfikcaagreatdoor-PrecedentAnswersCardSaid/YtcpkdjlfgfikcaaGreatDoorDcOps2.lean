/- Part Dc.Ops2 of a proof: lemmas. -/
import Derived.Test.YtcpkdjlfgfikcaaGreatDoorDcGlue
/-! Operations that can fail, and some more. -/
namespace Go.Dc
variable {P : Program} {E : Env} {N : Nat} {Γ : List (Nat × RP)} {Ω : List OB} {ty : TypeId}

def iremM (k : IntKind) (x y : Int) : Option Int := if y = 0 then none else some (irem k x y)
def iquoM (k : IntKind) (x y : Int) : Option Int := if y = 0 then none else some (iquo k x y)
def ishlM (k : IntKind) (x y : Int) : Option Int := if y < 0 then none else some (ishl k x y)
def ishrM (k : IntKind) (x y : Int) : Option Int := if y < 0 then none else some (ishr k x y)

section
variable {t yt : TypeId} {x y c : Operand} {k k' : IntKind} {m n v : Int}
theorem r_remM (hd : iremM k m n = some v) (hx : lkO Γ x = some (iv k m)) (hy : lkO Γ y = some (iv k n)) : Rd P E N (.binOp .rem t x y yt) ty Γ Ω [] (iv k v) := by
  unfold iremM at hd; split at hd
  · cases hd
  · cases hd; exact r_rem hx hy (by assumption)
theorem r_shlM (hd : ishlM k m n = some v) (hx : lkO Γ x = some (iv k m)) (hy : lkO Γ y = some (iv k' n)) : Rd P E N (.binOp .shl t x y yt) ty Γ Ω [] (iv k v) := by
  unfold ishlM at hd; split at hd
  · cases hd
  · cases hd; exact r_shl hx hy (by omega)
/-- min(x, y) and max(x, y) of ints -/
def imin (x y : Int) : Int := if y < x then y else x
def imax (x y : Int) : Int := if y > x then y else x
theorem r_min {t1 t2 : TypeId} (hx : lkO Γ x = some (iv k m)) (hy : lkO Γ y = some (iv k n)) : Rd P E N (.call ⟨.builtin .min, #[x, y], #[t1, t2]⟩) ty Γ Ω [] (iv k (imin m n)) := .mk fun a w hs => by
  have h1 : a.eval x = .int k m := hs.op hx
  have h2 : a.eval y = .int k n := hs.op hy
  refine ⟨_, rfl, fun w' o ho _ => ?_⟩
  simp [execOp, ho, resolve, invoke, builtin, Builtin.min_, Builtin.min2, h1, h2, imin]
theorem r_max {t1 t2 : TypeId} (hx : lkO Γ x = some (iv k m)) (hy : lkO Γ y = some (iv k n)) : Rd P E N (.call ⟨.builtin .max, #[x, y], #[t1, t2]⟩) ty Γ Ω [] (iv k (imax m n)) := .mk fun a w hs => by
  have h1 : a.eval x = .int k m := hs.op hx
  have h2 : a.eval y = .int k n := hs.op hy
  refine ⟨_, rfl, fun w' o ho _ => ?_⟩
  simp [execOp, ho, resolve, invoke, builtin, Builtin.max_, Builtin.max2, h1, h2, imax]
end

end Go.Dc
