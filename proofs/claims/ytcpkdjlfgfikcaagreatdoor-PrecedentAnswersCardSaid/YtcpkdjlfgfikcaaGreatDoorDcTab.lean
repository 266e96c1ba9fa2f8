/- Part Dc.Tab of a proof: lemmas. -/
import Derived.Test.YtcpkdjlfgfikcaaGreatDoorDcEqA
/-! Tables of the program's packages: a global array of which the cells are known. -/
namespace Go.Dc
variable {R : Type} {P : Program} {E : Env} {N : Nat} {Γ : List (Nat × RP)} {Ω : List OB} {ty : TypeId}

/-- a table: the global g holds the data d -/
def tbO {α : Type} (ρ : Rep α) (g : Nat) (d : List α) : OB where
  S := []
  h := fun F w => F g ∧ ∃ cells ty fz, w.heap[g]? = some (.cells cells ty fz) ∧ SlH ρ F w cells 0 d
  mono := by
    rintro F F' w w' ag hs ⟨hF, cells, ty, fz, h1, h2⟩
    have hb := size_of_get h1
    exact ⟨ag.f g hb hF, cells, ty, fz, by rw [ag.s g hb hF]; exact h1, h2.mono ag⟩

theorem r_gindex {α : Type} {ρ : Rep α} {t e len sz g j : Nat} {i : Operand} {k : IntKind} {n : Int} {d : List α} {y : α} (hy : idxM d n = some y) (hl : d.length = len) (hs : sz = ρ.size) (hu : P.underlying t = some (.array len e))
    (hn : ∀ w, (Go.sizeOf e).run P w = .ok sz w) (hj : Ω[j]? = some (tbO ρ g d)) (hi : lkO Γ i = some (iv k n)) :
    Rd P E N (.indexAddr t (.global g) i) ty Γ Ω [] (ea ρ y) := .mk fun a w hsat => by
  obtain ⟨h0, h1, hil, hd⟩ := idxM_some hy
  subst hs
  have h2 : a.eval i = .int k n := hsat.op hi
  obtain ⟨hF, cells, ct, fz, hb, hH⟩ := hsat.objAt hj
  obtain ⟨es, he, hc⟩ := hH n.toNat hil
  refine ⟨ptr g (0 + n.toNat * ρ.size), ⟨g, 0 + n.toNat * ρ.size, cells, ct, fz, es, rfl, hF, hb, hd ▸ he, hc⟩, fun w' o hop _ => ?_⟩
  have h3 : a.eval (.global g) = ptr g 0 := rfl
  have h4 : 0 ≤ n ∧ n < (len : Int) := ⟨h0, by rw [← hl]; exact h1⟩
  simp [execOp, hop, h2, h3, ptr, Instr.indexAt, run_underlying hu, Instr.sureAddr, asIntOf, hn, addr_add, h4]
end Go.Dc
