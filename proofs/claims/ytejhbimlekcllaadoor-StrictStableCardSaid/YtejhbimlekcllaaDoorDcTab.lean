/- Part Dc.Tab of a proof: lemmas. -/
import Derived.Test.YtejhbimlekcllaaDoorDcEqA
/-! Tables of the program's packages: a global array of which the cells are known. -/
namespace Go.Dc
variable {R : Type} {P : Program} {E : Env} {N : Nat} {Γ : List (Nat × RP)} {Ω : List OB} {ty : TypeId}

/-- a table: the global g holds the data d -/
def tbO {α : Type} (ρ : Rep α) (g : Nat) (d : List α) : OB where
  S := []
  h := fun F w => F g ∧ ∃ cells ty fz, w.heap[g]? = some (.cells cells ty fz) ∧ SlH ρ F w cells 0 d
  mono := by
    rintro F F' w w' ag hs ⟨hF, cells, ty, fz, h1, h2⟩
    have hb := size_of_get h1
    exact ⟨ag.f g hb hF, cells, ty, fz, by rw [ag.s g hb hF]; exact h1, h2.mono ag⟩

end Go.Dc
