/- Part Dc.Drop of a proof: lemmas. -/
import Derived.Test.YtejhbimlekcllaaGreatDoorDcCall
/-! A call that looks at what is ours, and whose result is not used again. -/
namespace Go.Dc
/-- some value of one cell -/
def anyc : RP := ⟨fun _ _ v => v.oneCell' = true, fun _ h => h⟩
theorem anyc_at : anyc.At := fun h => h
theorem AllP.any {F F' : FP} {w : World} : ∀ {φs : List RP} {vs : List Value}, (∀ φ ∈ φs, φ.At) → AllP F w φs vs → AllP F' w (φs.map fun _ => anyc) vs
  | [], [], _, _ => trivial
  | φ :: φs, v :: vs, h0, ⟨h1, h2⟩ => ⟨h0 φ (by simp) h1, AllP.any (fun ψ hψ => h0 ψ (by simp [hψ])) h2⟩
  | [], _ :: _, _, h => h.elim
  | _ :: _, [], _, h => h.elim
theorem dropS {φs : List RP} {u : Value} (hat : ∀ φ ∈ φs, φ.At) {F F' : FP} {w : World} {v : Value} (h : resH F w [ag φs, pv u] v) : (tup [ag (φs.map fun _ => anyc), pv u]).h F' w v := by
  obtain ⟨vs, rfl, h1⟩ := h
  refine ⟨vs, rfl, ?_⟩
  generalize vs.toList = l at h1
  match l, h1 with
  | [a, b], ⟨⟨cs, e, h2⟩, h3, _⟩ => exact ⟨⟨cs, e, h2.any hat⟩, h3, trivial⟩
theorem dropS3 {α β γ : Type} {ρ : Rep α} {σ : Rep β} {τ : Rep γ} {a : List α} {b : List β} {c : List γ} {k : IntKind} {n : Int} {F F' : FP} {w : World} {v : Value} (h : resH F w [ag [slv ρ a, slv σ b, slv τ c], iv k n] v) :
    (tup [ag [anyc, anyc, anyc], iv k n]).h F' w v :=
  dropS (φs := [slv ρ a, slv σ b, slv τ c]) (fun φ hφ => by
    simp only [List.mem_cons, List.not_mem_nil, or_false] at hφ
    rcases hφ with rfl | rfl | rfl <;> exact slv_at) h
end Go.Dc
