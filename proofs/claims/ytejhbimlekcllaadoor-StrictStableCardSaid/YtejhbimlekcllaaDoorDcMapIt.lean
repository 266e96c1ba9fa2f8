/- Part Dc.MapIt of a proof: lemmas. -/
import Derived.Test.YtejhbimlekcllaaDoorDcMap
import Derived.Test.YtejhbimlekcllaaDoorDcMem5
import Derived.Laws.IdiomRangeMap
/-! Slices made with room; a range over a map. -/
namespace Go.Dc
variable {P : Program} {E : Env} {N : Nat} {Γ : List (Nat × RP)} {Ω : List OB} {ty : TypeId}

def capM (bytes : Nat) (c : Int) : Option Unit := if 0 ≤ c ∧ bytes * c.toNat ≤ 140737488355328 then some () else none
theorem capM_some {bytes : Nat} {c : Int} {u : Unit} (h : capM bytes c = some u) : 0 ≤ c ∧ bytes * c.toNat ≤ 140737488355328 := by
  unfold capM at h; split at h
  · assumption
  · cases h

theorem s_makeC {α : Type} {e t : TypeId} {ρ : Rep α} {bytes : Nat} {x y : Operand} {k k' : IntKind} {c : Int} {u : Unit} (hd : capM bytes c = some u) (hu : P.underlying t = some (.slice e)) (h : ElT P e ρ bytes)
    (hx : lkO Γ x = some (iv k 0)) (hy : lkO Γ y = some (iv k' c)) :
    St P E N (.makeSlice t x y) ty Γ Ω [] (fun X : Value × List Nat => pv X.1) (fun X => Ω ++ [oa ρ X.1 X.2 []]) := by
  intro a w hs
  obtain ⟨h0, hby⟩ := capM_some hd
  have h1 : a.eval x = .int k 0 := hs.op hx
  have h2 : a.eval y = .int k' c := hs.op hy
  obtain ⟨i, hi, his, hib, zv, hzz, hzsz⟩ := h.info
  have hbp := h.bpos
  have hn : (c.toNat : Int) = c := Int.toNat_of_nonneg h0
  have hnb : c.toNat ≤ bytes * c.toNat := Nat.le_mul_of_pos_left _ hbp
  have hrun := run_make (P := P) w t e i zv hu hi hzz k k' 0 c (Int.le_refl _) h0 (by rw [hib, ← hn, ← Int.natCast_mul]; omega) (by omega)
  refine opwp_val (v := .slice (some ⟨w.heap.size, 0, none⟩) 0 c.toNat) (w' := w.alloc (.cells (madeCells zv.cells (c.toNat * i.size)) e)) (fun o ho ht => ?_)
    ⟨(.slice (some ⟨w.heap.size, 0, none⟩) 0 c.toNat, [w.heap.size]), ?_, rfl, by simp, fun b hb _ => heap_alloc_lt w _ hb, own_add (by simp [oa])⟩
  · simp [execOp, ho, h1, h2, hrun]
  · refine hs.add ⟨rfl, rfl, rfl, by first | exact Nat.le_refl _ | exact Nat.le_add_right _ _⟩ (by simp) (fun _ hb => heap_alloc_lt w _ hb) (fun b hb => ?_) (by simp [oa]) ?_
    · rw [show b = w.heap.size from by simpa [oa] using hb]; exact ⟨Nat.le_refl _, by simp⟩
    · exact ⟨some ⟨w.heap.size, 0, none⟩, c.toNat, by simp, by simp, .inr ⟨w.heap.size, 0, _, e, rfl, rfl, heap_alloc_new' w _, by simp [size_madeCells, his], fun q hq => by simp at hq⟩⟩
end Go.Dc
