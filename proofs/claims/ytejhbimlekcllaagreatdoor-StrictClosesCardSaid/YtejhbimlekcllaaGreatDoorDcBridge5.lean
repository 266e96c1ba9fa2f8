/- Part Dc.Bridge5 of a proof: lemmas. -/
import Derived.Test.YtejhbimlekcllaaGreatDoorDcBridge3
set_option linter.unusedVariables false
/-! More structs among the arguments of a law. -/
namespace Go.Dc
open Go.ChangeShapes Go.WideShapes Go.RowKit
variable {P : Program}

theorem opens_st3 {t : TypeId} {α β γ δ : Type} {f0 f1 f2 : Field} {r0 : Rep β} {r1 : Rep γ} {r2 : Rep δ} {G0 : β → Prop} {G1 : γ → Prop} {G2 : δ → Prop} {g0 : α → β} {g1 : α → γ} {g2 : α → δ}
    (mk : β → γ → δ → α) (hu : P.underlying t = some (.struct #[f0, f1, f2]))
    (o0 : Opens P f0.type r0 G0) (o1 : Opens P f1.type r1 G1) (o2 : Opens P f2.type r2 G2) (e0 : f0.offset = 0) (c0 : P.cellsOf f0.type = r0.size) (e1 : f1.offset = 0 + r0.size) (c1 : P.cellsOf f1.type = r1.size) (e2 : f2.offset = 0 + r0.size + r1.size) (c2 : P.cellsOf f2.type = r2.size)
    (hm0 : ∀ x y z, g0 (mk x y z) = x) (hm1 : ∀ x y z, g1 (mk x y z) = y) (hm2 : ∀ x y z, g2 (mk x y z) = z) (hc : P.cellsOf t = 0 + r0.size + r1.size + r2.size) :
    Opens P t (rSt [⟨r0, g0⟩, ⟨r1, g1⟩, ⟨r2, g2⟩]) (fun d => G0 (g0 d) ∧ G1 (g1 d) ∧ G2 (g2 d)) := by
  refine ⟨fun {H enc W base fuel cs x} h => ?_, fun h => ?_⟩
  · obtain ⟨xs, n, _, _, hl, hxl, hf⟩ := DataW.trod_struct hu h
    obtain ⟨d0, a0, b0⟩ := rd_field hf hxl (i := 0) (f := f0) rfl o0
    obtain ⟨d1, a1, b1⟩ := rd_field hf hxl (i := 1) (f := f1) rfl o1
    obtain ⟨d2, a2, b2⟩ := rd_field hf hxl (i := 2) (f := f2) rfl o2
    rw [e0, c0] at a0; rw [e1, c1] at a1; rw [e2, c2] at a2
    have hend : cs.drop (0 + r0.size + r1.size + r2.size) = [] := List.drop_of_length_le (by omega)
    refine ⟨mk d0 d1 d2, ?_, by rw [hm0, hm1, hm2]; exact ⟨b0, b1, b2⟩⟩
    show AllP _ _ (r0.cp (g0 (mk d0 d1 d2)) ++ (r1.cp (g1 (mk d0 d1 d2)) ++ (r2.cp (g2 (mk d0 d1 d2)) ++ []))) cs
    rw [hm0, hm1, hm2]
    exact a0.glue (a1.glue (a2.glue (by rw [hend]; trivial)))
  · obtain ⟨cs, rfl, _⟩ := okWide_struct hu h; rfl

theorem opens_st5 {t : TypeId} {α β γ δ ε ζ : Type} {f0 f1 f2 f3 f4 : Field} {r0 : Rep β} {r1 : Rep γ} {r2 : Rep δ} {r3 : Rep ε} {r4 : Rep ζ} {G0 : β → Prop} {G1 : γ → Prop} {G2 : δ → Prop} {G3 : ε → Prop} {G4 : ζ → Prop} {g0 : α → β} {g1 : α → γ} {g2 : α → δ} {g3 : α → ε} {g4 : α → ζ}
    (mk : β → γ → δ → ε → ζ → α) (hu : P.underlying t = some (.struct #[f0, f1, f2, f3, f4]))
    (o0 : Opens P f0.type r0 G0) (o1 : Opens P f1.type r1 G1) (o2 : Opens P f2.type r2 G2) (o3 : Opens P f3.type r3 G3) (o4 : Opens P f4.type r4 G4) (e0 : f0.offset = 0) (c0 : P.cellsOf f0.type = r0.size) (e1 : f1.offset = 0 + r0.size) (c1 : P.cellsOf f1.type = r1.size) (e2 : f2.offset = 0 + r0.size + r1.size) (c2 : P.cellsOf f2.type = r2.size) (e3 : f3.offset = 0 + r0.size + r1.size + r2.size) (c3 : P.cellsOf f3.type = r3.size) (e4 : f4.offset = 0 + r0.size + r1.size + r2.size + r3.size) (c4 : P.cellsOf f4.type = r4.size)
    (hm0 : ∀ x y z u v, g0 (mk x y z u v) = x) (hm1 : ∀ x y z u v, g1 (mk x y z u v) = y) (hm2 : ∀ x y z u v, g2 (mk x y z u v) = z) (hm3 : ∀ x y z u v, g3 (mk x y z u v) = u) (hm4 : ∀ x y z u v, g4 (mk x y z u v) = v) (hc : P.cellsOf t = 0 + r0.size + r1.size + r2.size + r3.size + r4.size) :
    Opens P t (rSt [⟨r0, g0⟩, ⟨r1, g1⟩, ⟨r2, g2⟩, ⟨r3, g3⟩, ⟨r4, g4⟩]) (fun d => G0 (g0 d) ∧ G1 (g1 d) ∧ G2 (g2 d) ∧ G3 (g3 d) ∧ G4 (g4 d)) := by
  refine ⟨fun {H enc W base fuel cs x} h => ?_, fun h => ?_⟩
  · obtain ⟨xs, n, _, _, hl, hxl, hf⟩ := DataW.trod_struct hu h
    obtain ⟨d0, a0, b0⟩ := rd_field hf hxl (i := 0) (f := f0) rfl o0
    obtain ⟨d1, a1, b1⟩ := rd_field hf hxl (i := 1) (f := f1) rfl o1
    obtain ⟨d2, a2, b2⟩ := rd_field hf hxl (i := 2) (f := f2) rfl o2
    obtain ⟨d3, a3, b3⟩ := rd_field hf hxl (i := 3) (f := f3) rfl o3
    obtain ⟨d4, a4, b4⟩ := rd_field hf hxl (i := 4) (f := f4) rfl o4
    rw [e0, c0] at a0; rw [e1, c1] at a1; rw [e2, c2] at a2; rw [e3, c3] at a3; rw [e4, c4] at a4
    have hend : cs.drop (0 + r0.size + r1.size + r2.size + r3.size + r4.size) = [] := List.drop_of_length_le (by omega)
    refine ⟨mk d0 d1 d2 d3 d4, ?_, by rw [hm0, hm1, hm2, hm3, hm4]; exact ⟨b0, b1, b2, b3, b4⟩⟩
    show AllP _ _ (r0.cp (g0 (mk d0 d1 d2 d3 d4)) ++ (r1.cp (g1 (mk d0 d1 d2 d3 d4)) ++ (r2.cp (g2 (mk d0 d1 d2 d3 d4)) ++ (r3.cp (g3 (mk d0 d1 d2 d3 d4)) ++ (r4.cp (g4 (mk d0 d1 d2 d3 d4)) ++ []))))) cs
    rw [hm0, hm1, hm2, hm3, hm4]
    exact a0.glue (a1.glue (a2.glue (a3.glue (a4.glue (by rw [hend]; trivial)))))
  · obtain ⟨cs, rfl, _⟩ := okWide_struct hu h; rfl
end Go.Dc
