/- Part P08S.FLiftSets of a proof: lemmas. -/
import Derived.Test.YtofcoilhjmkejaaRows
import Derived.Test.YtofcoilhjmkejaaDcBridge2
import Derived.Test.YtofcoilhjmkejaaLAW08SA1
import Derived.Test.YtofcoilhjmkejaaP08SSets
namespace Go.Proofs.Ytofcoilhjmkejaa.liftSets
open Go.ChangeShapes Go.WideShapes Go.ChangeAt Go.RowKit
open Go.Dc
set_option linter.unusedVariables false
set_option maxRecDepth 100000

theorem own : ownKnob Try.prog.godebug = none := by kernel_rfl

/-- what the law reads is opened, the plain law answers, and what was read stays as it was -/
theorem contract (H : Type) (enc : TypeId × Value → H) (W : World) (base : Nat) (args : Array Value) (ds gs : List (DataW H)) (before : List MemPlace)
    (hval : ∀ (j : Nat) t v, Try.f3.params[j]? = some t → args[j]? = some v → Value.okWide Try.prog W .any base t v)
    (hW : DataW.Whole enc Try.prog Try.f3.params.toList Rows.liftSetsSpec.vars false W args.toList ds gs before) :
    Calls Try.prog 3 args W fun e W' => ∃ v, e = .returned v ∧ Rows.liftSetsSpec.post enc Try.prog Try.f3 false true false false W args v W' := by
  have hW' := hW
  obtain ⟨p, q, hA0, hV, rfl, hfz, hnd⟩ := hW
  have hA : DataW.TrodAll enc Try.prog W 0 (fun _ => true) true Try.f3.params.toList args.toList ds p := hA0
  rw [Try.params3] at hA hval
  obtain ⟨v0, vs0, d0, ds0, p0, q0, hargs, rfl, rfl, h0, r0⟩ := trodAll_cons hA
  obtain ⟨v1, vs1, d1, ds1, p1, q1, rfl, rfl, rfl, h1, r1⟩ := trodAll_cons r0
  obtain ⟨v2, vs2, d2, ds2, p2, q2, rfl, rfl, rfl, h2, r2⟩ := trodAll_cons r1
  obtain ⟨v3, vs3, d3, ds3, p3, q3, rfl, rfl, rfl, h3, r3⟩ := trodAll_cons r2
  obtain ⟨v4, vs4, d4, ds4, p4, q4, rfl, rfl, rfl, h4, r4⟩ := trodAll_cons r3
  obtain ⟨rfl, rfl, rfl⟩ := trodAll_nil r4
  obtain rfl : args = #[v0, v1, v2, v3, v4] := by cases args; simp_all
  obtain ⟨x0, a0, g0⟩ := ((opens_slice Try.underlying22 (opens_int Try.underlying3) (by kernel_rfl) rfl)).val (hval 0 22 v0 rfl rfl) h0
  obtain ⟨x1, a1, g1⟩ := ((opens_slice Try.underlying22 (opens_int Try.underlying3) (by kernel_rfl) rfl)).val (hval 1 22 v1 rfl rfl) h1
  obtain ⟨x2, a2, g2⟩ := ((opens_slice Try.underlying22 (opens_int Try.underlying3) (by kernel_rfl) rfl)).val (hval 2 22 v2 rfl rfl) h2
  obtain ⟨x3, a3, g3⟩ := (opens_int Try.underlying3).val (hval 3 3 v3 rfl rfl) h3
  obtain ⟨x4, a4, g4⟩ := ((opens_slice Try.underlying22 (opens_int Try.underlying3) (by kernel_rfl) rfl)).val (hval 4 22 v4 rfl rfl) h4
  clear hA0
  refine (calls_true (W := W) (args := #[v0, v1, v2, v3, v4]) (law08_LiftSets_ok (law08_LiftSets_plain x0 x1 x2 x3 x4 g0 g1 g2 g3 g4)) (fun _ => rfl) ⟨a0, a1, a2, a3, a4, trivial⟩).mono fun e W2 ⟨he, hg⟩ => ?_
  subst he
  exact ⟨_, rfl, post_true (L := [22, 3]) hW' rfl rfl Try.underlying4 (by kernel_rfl) (by kernel_rfl) rfl hg⟩

theorem lifted (os : Os) (started : os.Started) (H : Type) (enc : TypeId × Value → H) :
    ReturnsInHanded {} Try.checked os 3 .any (Rows.liftSetsSpec.pre6 enc Try.prog Try.f3 Rows.liftSetsRow.domain false) (Rows.liftSetsSpec.post enc Try.prog Try.f3 false true false false) := by
  refine returnsInHanded_of_change (C := Try.checked) own started (by kernel_rfl) Try.func3
    (ChangeSpec.witness6 (enc := enc) (C := Try.checked) false ⟨#[], #[.slice none 0 0, .slice none 0 0, .slice none 0 0, .int .i64 0, .slice none 0 0], []⟩ 8 (by kernel_rfl) (by kernel_rfl) (by kernel_rfl) (by kernel_rfl)) ?_
  intro W base args ds gs before hval hW _ _
  exact contract H enc W base args ds gs before hval hW

theorem over : Rows.liftSetsRow.holds Try.pinned (OpenSpec.ofChange Rows.liftSetsSpec) :=
  OpenClaim.holds_of_wide 3 Try.f3 rfl rfl rfl rfl rfl rfl rfl ⟨rfl, rfl, rfl, rfl, rfl⟩ rfl rfl rfl rfl rfl (by kernel_rfl) Try.func3 (by kernel_rfl)
    (of_decide_eq_true (by kernel_rfl)) (by unfold Func.isWrapper; first | (rw [if_pos (by decide +kernel)]; kernel_rfl) | (rw [if_neg (by decide +kernel)]; exact ⟨rfl, rfl⟩))
    (fun os started H enc _ => lifted os started H enc)

theorem proved : Rows.LiftSetsSaid := over
end Go.Proofs.Ytofcoilhjmkejaa.liftSets
