/- Part Dc.Bridge3 of a proof: lemmas. -/
import Derived.Test.YtejhbimlekcllaaDoorDcBridge2
import Derived.Test.YtejhbimlekcllaaDoorDcTab
import Derived.Lib.LaidTab
import Derived.LaidHandle
/-! Laws that lean on a table of the library's. -/
namespace Go.Dc
open Go.ChangeShapes Go.WideShapes Go.RowKit
variable {P : Program}

theorem calls_trueT {X : Type} {f : FuncId} {φs : List RP} {W : World} {args : Array Value} {Ω0 : List OB} {res : X → List RP} {Ω1 : X → List OB} (h : FnOk P f φs Ω0 res Ω1) (hr : ∀ x, res x = [bv true]) (hS : ow Ω0 = [])
    (hob : ∀ o ∈ Ω0, o.h (fun _ => True) W) (ha : AllP (fun _ => True) W φs args.toList) : Calls P f args W fun e W' => e = .returned (.bool true) ∧ Kept [] W W' := by
  have h1 := h (fun _ => True) W args.toList (fun _ _ => trivial) (fun _ _ => trivial) (fun b hb => by rw [hS] at hb; simp at hb) (by rw [hS]; simp)
    (fun o ho => o.mono (.refl fun b _ _ => ⟨trivial, by rw [hS]; simp⟩) (fun _ _ => rfl) (hob o ho)) (AllP.mono (.refl fun b _ _ => ⟨trivial, by rw [hS]; simp⟩) ha)
  refine h1.mono fun e W' ⟨x, v, he, hk, _, _, _, hv⟩ => ?_
  rw [hr] at hv
  rw [hS] at hk
  exact ⟨by rw [he]; exact congrArg _ hv, hk⟩
end Go.Dc
