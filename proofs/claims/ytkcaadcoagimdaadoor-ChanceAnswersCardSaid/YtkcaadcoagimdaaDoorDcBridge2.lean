/- Part Dc.Bridge2 of a proof: lemmas. -/
import Derived.Test.YtkcaadcoagimdaaDoorDcBridge
/-! Structs among the arguments of a law. -/
namespace Go.Dc
open Go.ChangeShapes Go.WideShapes Go.RowKit
variable {P : Program}

theorem AllP.glue {F : FP} {w : World} {cs : List Value} {φs ψs : List RP} {off k : Nat} (h1 : AllP F w φs ((cs.drop off).take k)) (h2 : AllP F w ψs (cs.drop (off + k))) : AllP F w (φs ++ ψs) (cs.drop off) := by
  rw [← List.take_append_drop k (cs.drop off), List.drop_drop]
  exact h1.append h2

/-- the fields of a struct, opened one after another -/
theorem rd_field {H : Type} {enc : TypeId × Value → H} {W : World} {base n : Nat} {cs : List Value} {xs : List (DataW H × List MemPlace)} {fs : Array Field} {i : Nat} {f : Field} {β : Type} {ρ : Rep β} {G : β → Prop}
    (hf : ∀ (i : Nat) (f : Field), fs[i]? = some f → DataW.trod enc P W base (fun _ => true) true n f.type ((cs.drop f.offset).take (P.cellsOf f.type)) = xs[i]?) (hl : xs.length = fs.size) (hi : fs[i]? = some f) (ho : Opens P f.type ρ G) :
    ∃ d : β, AllP (fun _ => True) W (ρ.cp d) ((cs.drop f.offset).take (P.cellsOf f.type)) ∧ G d := by
  have h := hf i f hi
  have hlt : i < xs.length := by rw [hl]; exact (Array.getElem?_eq_some_iff.1 hi).1
  rw [List.getElem?_eq_getElem hlt] at h
  exact ho.rd h

theorem opens_st2 {t : TypeId} {α β γ : Type} {f0 f1 : Field} {r0 : Rep β} {r1 : Rep γ} {G0 : β → Prop} {G1 : γ → Prop} {g0 : α → β} {g1 : α → γ} (mk : β → γ → α) (hu : P.underlying t = some (.struct #[f0, f1]))
    (o0 : Opens P f0.type r0 G0) (o1 : Opens P f1.type r1 G1) (e0 : f0.offset = 0) (c0 : P.cellsOf f0.type = r0.size) (e1 : f1.offset = 0 + r0.size) (c1 : P.cellsOf f1.type = r1.size)
    (hm0 : ∀ x y, g0 (mk x y) = x) (hm1 : ∀ x y, g1 (mk x y) = y) (hc : P.cellsOf t = 0 + r0.size + r1.size) : Opens P t (rSt [⟨r0, g0⟩, ⟨r1, g1⟩]) (fun d => G0 (g0 d) ∧ G1 (g1 d)) := by
  refine ⟨fun {H enc W base fuel cs x} h => ?_, fun h => ?_⟩
  · obtain ⟨xs, n, _, _, hl, hxl, hf⟩ := DataW.trod_struct hu h
    obtain ⟨d0, a0, b0⟩ := rd_field hf hxl (i := 0) (f := f0) rfl o0
    obtain ⟨d1, a1, b1⟩ := rd_field hf hxl (i := 1) (f := f1) rfl o1
    rw [e0, c0] at a0; rw [e1, c1] at a1
    have hend : cs.drop (0 + r0.size + r1.size) = [] := List.drop_of_length_le (by omega)
    refine ⟨mk d0 d1, ?_, by rw [hm0, hm1]; exact ⟨b0, b1⟩⟩
    show AllP _ _ (r0.cp (g0 (mk d0 d1)) ++ (r1.cp (g1 (mk d0 d1)) ++ [])) cs
    rw [hm0, hm1]
    exact a0.glue (a1.glue (by rw [hend]; trivial))
  · obtain ⟨cs, rfl, _⟩ := okWide_struct hu h; rfl

end Go.Dc
