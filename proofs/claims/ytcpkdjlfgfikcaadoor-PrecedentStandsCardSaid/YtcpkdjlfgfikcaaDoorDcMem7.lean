/- Part Dc.Mem7 of a proof: lemmas. -/
import Derived.Test.YtcpkdjlfgfikcaaDoorDcMem6
/-! Fields of elements of slices. -/
namespace Go.Dc
variable {R S : Type} {P : Program} {E : Env} {N : Nat} {Γ Γ' : List (Nat × RP)} {Ω Ω' : List OB} {ty : TypeId} {α β : Type} {ρ : Rep α} {ρ' : Rep β} {y : α} {z : β} {bytes : Nat} {e : TypeId}

theorem drop_take_get {γ : Type} {l : List γ} {a k j : Nat} (hj : j < k) : ((l.drop a).take k)[j]? = l[a + j]? := by
  rw [List.getElem?_take_of_lt hj, List.getElem?_drop]

/-- a field of data in shared memory -/
theorem r_fea {t f fo : Nat} {x : Operand} {fields : Array Go.Field} {fd : Go.Field} (hu : P.underlying t = some (.struct fields)) (hf : fields[f]? = some fd) (ho : fd.offset = fo) {n : Nat}
    (hn : ∀ w, (Go.sizeOf fd.type).run P w = .ok (n + 1) w) (hx : lkO Γ x = some (ea ρ y)) (hz : ((ρ.cp y).drop fo).take ρ'.size = ρ'.cp z) (hs : Nat.ble (fo + ρ'.size) ρ.size = true) :
    Rd P E N (.fieldAddr t x f) ty Γ Ω [] (ea ρ' z) := .mk fun a w hs' => by
  obtain ⟨b, off, cells, ty', fz, es, hv, hF, hb, hes, hcs⟩ := hs'.op hx
  have hle := Nat.le_of_ble_eq_true hs
  refine ⟨.pointer (some ⟨b, off + fo, none⟩), ⟨b, off + fo, cells, ty', fz, (es.drop fo).take ρ'.size, rfl, hF, hb, hz ▸ (hes.drop fo).take _, fun j hj => ?_⟩, fun w' o hop _ => ?_⟩
  · rw [drop_take_get hj, ← hcs (fo + j) (by omega), Nat.add_assoc]
  · simp [execOp, hop, hv, Instr.fieldAt, run_underlying hu, hf, Instr.sureAddr, fieldPlace, hn, addr_add, ho]

/-- the address of a field of an element of an owned slice -/
def elF (hv : Value) (sz : Nat) (n : Int) (fo : Nat) : Value :=
  match hv with
  | .slice (some a) _ _ => .pointer (some ((a.add (n.toNat * sz)).add fo))
  | _ => .pointer none

variable {d : List α} {n : Int} {hv : Value} {Sx : List Nat} {j : Nat}
end Go.Dc
