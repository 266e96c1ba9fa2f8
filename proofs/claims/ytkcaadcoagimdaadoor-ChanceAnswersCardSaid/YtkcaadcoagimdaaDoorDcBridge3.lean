/- Part Dc.Bridge3 of a proof: lemmas. -/
import Derived.Test.YtkcaadcoagimdaaDoorDcBridge2
import Derived.Test.YtkcaadcoagimdaaDoorDcTab
import Derived.Lib.LaidTab
import Derived.LaidHandle
/-! Laws that lean on a table of the library's. -/
namespace Go.Dc
open Go.ChangeShapes Go.WideShapes Go.RowKit
variable {P : Program}

theorem tb_of_tab {W : World} {name : String} {k : IntKind} {d : List Int} {g : Nat} (h : Lib.TabIs P W name k d) (hg : P.globalNamed name = some g) (h0 : 0 < d.length) : (tbO (rI k) g d).h (fun _ => True) W := by
  have h1 := h.cell hg
  have h2 := h1 0 h0
  unfold World.cell? at h2
  split at h2
  · rename_i c ty fz hbl
    refine ⟨trivial, c, ty, fz, hbl, fun i hi => ⟨[.int k d[i]], ⟨rfl, trivial⟩, fun j hj => ?_⟩⟩
    have hj0 : j = 0 := by have : j < 1 := hj; omega
    subst hj0
    have h3 := h1 i hi
    have h4 : W.heap[g]? = some (.cells c ty fz) := hbl
    simp [World.cell?, h4] at h3
    simpa [rI, one, hi] using h3
  · cases h2

theorem calls_trueT {X : Type} {f : FuncId} {φs : List RP} {W : World} {args : Array Value} {Ω0 : List OB} {res : X → List RP} {Ω1 : X → List OB} (h : FnOk P f φs Ω0 res Ω1) (hr : ∀ x, res x = [bv true]) (hS : ow Ω0 = [])
    (hob : ∀ o ∈ Ω0, o.h (fun _ => True) W) (ha : AllP (fun _ => True) W φs args.toList) : Calls P f args W fun e W' => e = .returned (.bool true) ∧ Kept [] W W' := by
  have h1 := h (fun _ => True) W args.toList (fun _ _ => trivial) (fun _ _ => trivial) (fun b hb => by rw [hS] at hb; simp at hb) (by rw [hS]; simp)
    (fun o ho => o.mono (.refl fun b _ _ => ⟨trivial, by rw [hS]; simp⟩) (fun _ _ => rfl) (hob o ho)) (AllP.mono (.refl fun b _ _ => ⟨trivial, by rw [hS]; simp⟩) ha)
  refine h1.mono fun e W' ⟨x, v, he, hk, _, _, _, hv⟩ => ?_
  rw [hr] at hv
  rw [hS] at hk
  exact ⟨by rw [he]; exact congrArg _ hv, hk⟩
end Go.Dc
