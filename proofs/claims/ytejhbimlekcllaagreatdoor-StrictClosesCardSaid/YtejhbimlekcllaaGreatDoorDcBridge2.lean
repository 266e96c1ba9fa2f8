/- Part Dc.Bridge2 of a proof: lemmas. -/
import Derived.Test.YtejhbimlekcllaaGreatDoorDcBridge
/-! Structs among the arguments of a law. -/
namespace Go.Dc
open Go.ChangeShapes Go.WideShapes Go.RowKit
variable {P : Program}

theorem AllP.glue {F : FP} {w : World} {cs : List Value} {φs ψs : List RP} {off k : Nat} (h1 : AllP F w φs ((cs.drop off).take k)) (h2 : AllP F w ψs (cs.drop (off + k))) : AllP F w (φs ++ ψs) (cs.drop off) := by
  rw [← List.take_append_drop k (cs.drop off), List.drop_drop]
  exact h1.append h2

/-- the fields of a struct, opened one after another -/
theorem rd_field {H : Type} {enc : TypeId × Value → H} {W : World} {base n : Nat} {cs : List Value} {xs : List (DataW H × List MemPlace)} {fs : Array Field} {i : Nat} {f : Field} {β : Type} {ρ : Rep β} {G : β → Prop}
    (hf : ∀ (i : Nat) (f : Field), fs[i]? = some f → DataW.trod enc P W base (fun _ => true) true n f.type ((cs.drop f.offset).take (P.cellsOf f.type)) = xs[i]?) (hl : xs.length = fs.size) (hi : fs[i]? = some f) (ho : Opens P f.type ρ G) :
    ∃ d : β, AllP (fun _ => True) W (ρ.cp d) ((cs.drop f.offset).take (P.cellsOf f.type)) ∧ G d := by
  have h := hf i f hi
  have hlt : i < xs.length := by rw [hl]; exact (Array.getElem?_eq_some_iff.1 hi).1
  rw [List.getElem?_eq_getElem hlt] at h
  exact ho.rd h

theorem opens_st2 {t : TypeId} {α β γ : Type} {f0 f1 : Field} {r0 : Rep β} {r1 : Rep γ} {G0 : β → Prop} {G1 : γ → Prop} {g0 : α → β} {g1 : α → γ} (mk : β → γ → α) (hu : P.underlying t = some (.struct #[f0, f1]))
    (o0 : Opens P f0.type r0 G0) (o1 : Opens P f1.type r1 G1) (e0 : f0.offset = 0) (c0 : P.cellsOf f0.type = r0.size) (e1 : f1.offset = 0 + r0.size) (c1 : P.cellsOf f1.type = r1.size)
    (hm0 : ∀ x y, g0 (mk x y) = x) (hm1 : ∀ x y, g1 (mk x y) = y) (hc : P.cellsOf t = 0 + r0.size + r1.size) : Opens P t (rSt [⟨r0, g0⟩, ⟨r1, g1⟩]) (fun d => G0 (g0 d) ∧ G1 (g1 d)) := by
  refine ⟨fun {H enc W base fuel cs x} h => ?_, fun h => ?_⟩
  · obtain ⟨xs, n, _, _, hl, hxl, hf⟩ := DataW.trod_struct hu h
    obtain ⟨d0, a0, b0⟩ := rd_field hf hxl (i := 0) (f := f0) rfl o0
    obtain ⟨d1, a1, b1⟩ := rd_field hf hxl (i := 1) (f := f1) rfl o1
    rw [e0, c0] at a0; rw [e1, c1] at a1
    have hend : cs.drop (0 + r0.size + r1.size) = [] := List.drop_of_length_le (by omega)
    refine ⟨mk d0 d1, ?_, by rw [hm0, hm1]; exact ⟨b0, b1⟩⟩
    show AllP _ _ (r0.cp (g0 (mk d0 d1)) ++ (r1.cp (g1 (mk d0 d1)) ++ [])) cs
    rw [hm0, hm1]
    exact a0.glue (a1.glue (by rw [hend]; trivial))
  · obtain ⟨cs, rfl, _⟩ := okWide_struct hu h; rfl

theorem opens_st4 {t : TypeId} {α β γ δ ε : Type} {f0 f1 f2 f3 : Field} {r0 : Rep β} {r1 : Rep γ} {r2 : Rep δ} {r3 : Rep ε} {G0 : β → Prop} {G1 : γ → Prop} {G2 : δ → Prop} {G3 : ε → Prop} {g0 : α → β} {g1 : α → γ} {g2 : α → δ} {g3 : α → ε}
    (mk : β → γ → δ → ε → α) (hu : P.underlying t = some (.struct #[f0, f1, f2, f3]))
    (o0 : Opens P f0.type r0 G0) (o1 : Opens P f1.type r1 G1) (o2 : Opens P f2.type r2 G2) (o3 : Opens P f3.type r3 G3) (e0 : f0.offset = 0) (c0 : P.cellsOf f0.type = r0.size) (e1 : f1.offset = 0 + r0.size) (c1 : P.cellsOf f1.type = r1.size)
    (e2 : f2.offset = 0 + r0.size + r1.size) (c2 : P.cellsOf f2.type = r2.size) (e3 : f3.offset = 0 + r0.size + r1.size + r2.size) (c3 : P.cellsOf f3.type = r3.size)
    (hm0 : ∀ x y z u, g0 (mk x y z u) = x) (hm1 : ∀ x y z u, g1 (mk x y z u) = y) (hm2 : ∀ x y z u, g2 (mk x y z u) = z) (hm3 : ∀ x y z u, g3 (mk x y z u) = u) (hc : P.cellsOf t = 0 + r0.size + r1.size + r2.size + r3.size) :
    Opens P t (rSt [⟨r0, g0⟩, ⟨r1, g1⟩, ⟨r2, g2⟩, ⟨r3, g3⟩]) (fun d => G0 (g0 d) ∧ G1 (g1 d) ∧ G2 (g2 d) ∧ G3 (g3 d)) := by
  refine ⟨fun {H enc W base fuel cs x} h => ?_, fun h => ?_⟩
  · obtain ⟨xs, n, _, _, hl, hxl, hf⟩ := DataW.trod_struct hu h
    obtain ⟨d0, a0, b0⟩ := rd_field hf hxl (i := 0) (f := f0) rfl o0
    obtain ⟨d1, a1, b1⟩ := rd_field hf hxl (i := 1) (f := f1) rfl o1
    obtain ⟨d2, a2, b2⟩ := rd_field hf hxl (i := 2) (f := f2) rfl o2
    obtain ⟨d3, a3, b3⟩ := rd_field hf hxl (i := 3) (f := f3) rfl o3
    rw [e0, c0] at a0; rw [e1, c1] at a1; rw [e2, c2] at a2; rw [e3, c3] at a3
    have hend : cs.drop (0 + r0.size + r1.size + r2.size + r3.size) = [] := List.drop_of_length_le (by omega)
    refine ⟨mk d0 d1 d2 d3, ?_, by rw [hm0, hm1, hm2, hm3]; exact ⟨b0, b1, b2, b3⟩⟩
    show AllP _ _ (r0.cp (g0 (mk d0 d1 d2 d3)) ++ (r1.cp (g1 (mk d0 d1 d2 d3)) ++ (r2.cp (g2 (mk d0 d1 d2 d3)) ++ (r3.cp (g3 (mk d0 d1 d2 d3)) ++ [])))) cs
    rw [hm0, hm1, hm2, hm3]
    exact a0.glue (a1.glue (a2.glue (a3.glue (by rw [hend]; trivial))))
  · obtain ⟨cs, rfl, _⟩ := okWide_struct hu h; rfl
end Go.Dc
