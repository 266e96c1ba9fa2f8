/- Part Dc.Mem7 of a proof: lemmas. -/
import Derived.Test.YtofcoilhjmkejaaDcMem6
/-! Fields of elements of slices. -/
namespace Go.Dc
variable {R S : Type} {P : Program} {E : Env} {N : Nat} {Γ Γ' : List (Nat × RP)} {Ω Ω' : List OB} {ty : TypeId} {α β : Type} {ρ : Rep α} {ρ' : Rep β} {y : α} {z : β} {bytes : Nat} {e : TypeId}

theorem drop_take_get {γ : Type} {l : List γ} {a k j : Nat} (hj : j < k) : ((l.drop a).take k)[j]? = l[a + j]? := by
  rw [List.getElem?_take_of_lt hj, List.getElem?_drop]

/-- a field of data in shared memory -/
theorem r_fea {t f fo : Nat} {x : Operand} {fields : Array Go.Field} {fd : Go.Field} (hu : P.underlying t = some (.struct fields)) (hf : fields[f]? = some fd) (ho : fd.offset = fo) {n : Nat}
    (hn : ∀ w, (Go.sizeOf fd.type).run P w = .ok (n + 1) w) (hx : lkO Γ x = some (ea ρ y)) (hz : ((ρ.cp y).drop fo).take ρ'.size = ρ'.cp z) (hs : Nat.ble (fo + ρ'.size) ρ.size = true) :
    Rd P E N (.fieldAddr t x f) ty Γ Ω [] (ea ρ' z) := .mk fun a w hs' => by
  obtain ⟨b, off, cells, ty', fz, es, hv, hF, hb, hes, hcs⟩ := hs'.op hx
  have hle := Nat.le_of_ble_eq_true hs
  refine ⟨.pointer (some ⟨b, off + fo, none⟩), ⟨b, off + fo, cells, ty', fz, (es.drop fo).take ρ'.size, rfl, hF, hb, hz ▸ (hes.drop fo).take _, fun j hj => ?_⟩, fun w' o hop _ => ?_⟩
  · rw [drop_take_get hj, ← hcs (fo + j) (by omega), Nat.add_assoc]
  · simp [execOp, hop, hv, Instr.fieldAt, run_underlying hu, hf, Instr.sureAddr, fieldPlace, hn, addr_add, ho]

/-- the address of a field of an element of an owned slice -/
def elF (hv : Value) (sz : Nat) (n : Int) (fo : Nat) : Value :=
  match hv with
  | .slice (some a) _ _ => .pointer (some ((a.add (n.toNat * sz)).add fo))
  | _ => .pointer none

variable {d : List α} {n : Int} {hv : Value} {Sx : List Nat} {j : Nat}
theorem r_foea {t f fo : Nat} {x : Operand} {fields : Array Go.Field} {fd : Go.Field} (hy : idxM d n = some y) (hu : P.underlying t = some (.struct fields)) (hf : fields[f]? = some fd) (ho : fd.offset = fo) {m : Nat}
    (hn : ∀ w, (Go.sizeOf fd.type).run P w = .ok (m + 1) w) (hx : lkO Γ x = some (pv (elA hv ρ.size n))) (hj : Ω[j]? = some (oa ρ hv Sx d)) :
    Rd P E N (.fieldAddr t x f) ty Γ Ω [] (pv (elF hv ρ.size n fo)) := .mk fun a w hs => by
  obtain ⟨h0, h1, hlt, hd⟩ := idxM_some hy
  have hv' : a.eval x = elA hv ρ.size n := hs.op hx
  obtain ⟨ad, c, rfl, hc, hat⟩ := hs.objAt hj
  rcases hat with ⟨rfl, _, rfl⟩ | ⟨b, off, cells, ty', rfl, hS, hb, hsz, hH⟩
  · omega
  · refine ⟨_, rfl, fun w' o hop _ => ?_⟩
    simp [execOp, hop, hv', elA, elF, Instr.fieldAt, run_underlying hu, hf, Instr.sureAddr, fieldPlace, hn, addr_add, ho]
theorem r_foload {x : Operand} {fo : Nat} (hy : idxM d n = some y) (h : ElT P e ρ' bytes) (hx : lkO Γ x = some (pv (elF hv ρ.size n fo))) (hj : Ω[j]? = some (oa ρ hv Sx d))
    (hz : ((ρ.cp y).drop fo).take ρ'.size = ρ'.cp z) (hsz : Nat.ble (fo + ρ'.size) ρ.size = true) : Rd P E N (.load e x) ty Γ Ω [j] (sh ρ' z) := fun a w hs => by
  obtain ⟨h0, h1, hlt, hd⟩ := idxM_some hy
  have hle := Nat.le_of_ble_eq_true hsz
  have hv' : a.eval x = elF hv ρ.size n fo := hs.op hx
  have hob := hs.objAt hj
  obtain ⟨ad, c, rfl, hc, hat⟩ := hob
  rcases hat with ⟨rfl, _, rfl⟩ | ⟨b, off, cells, ty', rfl, hS, hb, hsz, hH⟩
  · omega
  · obtain ⟨es, hes, hcs⟩ := hH n.toNat hlt
    rw [hd] at hes
    have hes2 : AllP (fr E Ω) w (ρ'.cp z) ((es.drop fo).take ρ'.size) := hz ▸ (hes.drop fo).take _
    refine ⟨mkV ρ'.agg ((es.drop fo).take ρ'.size), [b], sh_iff.2 ⟨_, hes2, rfl⟩, ?_, fun w' hw' o ho _ => ?_⟩
    · intro b' hb'; rw [List.mem_singleton.1 hb']; exact ⟨size_of_get hb, .inr ⟨j, by simp, _, hj, by rw [show (oa ρ _ Sx d).S = Sx from rfl, hS]; simp⟩⟩
    · have hb2 : w'.heap[b]? = some (.cells cells ty' (0, 0)) := by rw [hw' b (by simp)]; exact hb
      have := h.load (off := off + n.toNat * ρ.size + fo) hb2 (by rw [hes2.length, ρ'.len]) (fun i hi => by rw [drop_take_get hi, ← hcs (fo + i) (by omega)]; congr 1; omega)
      simp [execOp, ho, hv', elF, addr_add, Instr.loadAt, Instr.sureAddr, this]

end Go.Dc
