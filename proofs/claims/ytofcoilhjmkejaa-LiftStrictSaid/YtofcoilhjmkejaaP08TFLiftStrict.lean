/- Part P08T.FLiftStrict of a proof: lemmas. -/
import Derived.Test.YtofcoilhjmkejaaRows
import Derived.Test.YtofcoilhjmkejaaDcBridge2
import Derived.Test.YtofcoilhjmkejaaLAW08TA3
import Derived.Test.YtofcoilhjmkejaaP08TLawS
namespace Go.Proofs.Ytofcoilhjmkejaa.liftStrict
open Go.ChangeShapes Go.WideShapes Go.ChangeAt Go.RowKit
open Go.Dc
set_option linter.unusedVariables false
set_option maxRecDepth 100000

theorem own : ownKnob Try.prog.godebug = none := by kernel_rfl

/-- what the law reads is opened, the plain law answers, and what was read stays as it was -/
theorem contract (H : Type) (enc : TypeId × Value → H) (W : World) (base : Nat) (args : Array Value) (ds gs : List (DataW H)) (before : List MemPlace)
    (hval : ∀ (j : Nat) t v, Try.f7.params[j]? = some t → args[j]? = some v → Value.okWide Try.prog W .any base t v)
    (hW : DataW.Whole enc Try.prog Try.f7.params.toList Rows.liftStrictSpec.vars false W args.toList ds gs before) :
    Calls Try.prog 7 args W fun e W' => ∃ v, e = .returned v ∧ Rows.liftStrictSpec.post enc Try.prog Try.f7 false true false false W args v W' := by
  have hW' := hW
  obtain ⟨p, q, hA0, hV, rfl, hfz, hnd⟩ := hW
  have hA : DataW.TrodAll enc Try.prog W 0 (fun _ => true) true Try.f7.params.toList args.toList ds p := hA0
  rw [Try.params7] at hA hval
  obtain ⟨v0, vs0, d0, ds0, p0, q0, hargs, rfl, rfl, h0, r0⟩ := trodAll_cons hA
  obtain ⟨rfl, rfl, rfl⟩ := trodAll_nil r0
  obtain rfl : args = #[v0] := by cases args; simp_all
  obtain ⟨x0, a0, g0⟩ := ((opens_slice Try.underlying22 (opens_int Try.underlying3) (by kernel_rfl) rfl)).val (hval 0 22 v0 rfl rfl) h0
  clear hA0
  refine (calls_true (W := W) (args := #[v0]) (law08_LiftStrict_ok (law08_LiftStrict_plain x0 g0)) (fun _ => rfl) ⟨a0, trivial⟩).mono fun e W2 ⟨he, hg⟩ => ?_
  subst he
  exact ⟨_, rfl, post_true (L := [22, 3]) hW' rfl rfl Try.underlying4 (by kernel_rfl) (by kernel_rfl) rfl hg⟩

theorem lifted (os : Os) (started : os.Started) (H : Type) (enc : TypeId × Value → H) :
    ReturnsInHanded {} Try.checked os 7 .any (Rows.liftStrictSpec.pre6 enc Try.prog Try.f7 Rows.liftStrictRow.domain false) (Rows.liftStrictSpec.post enc Try.prog Try.f7 false true false false) := by
  refine returnsInHanded_of_change (C := Try.checked) own started (by kernel_rfl) Try.func7
    (ChangeSpec.witness6 (enc := enc) (C := Try.checked) false ⟨#[], #[.slice none 0 0], []⟩ 8 (by kernel_rfl) (by kernel_rfl) (by kernel_rfl) (by kernel_rfl)) ?_
  intro W base args ds gs before hval hW _ _
  exact contract H enc W base args ds gs before hval hW

theorem over : Rows.liftStrictRow.holds Try.pinned (OpenSpec.ofChange Rows.liftStrictSpec) :=
  OpenClaim.holds_of_wide 7 Try.f7 rfl rfl rfl rfl rfl rfl rfl ⟨rfl, rfl, rfl, rfl, rfl⟩ rfl rfl rfl rfl rfl (by kernel_rfl) Try.func7 (by kernel_rfl)
    (of_decide_eq_true (by kernel_rfl)) (by unfold Func.isWrapper; first | (rw [if_pos (by decide +kernel)]; kernel_rfl) | (rw [if_neg (by decide +kernel)]; exact ⟨rfl, rfl⟩))
    (fun os started H enc _ => lifted os started H enc)

theorem proved : Rows.LiftStrictSaid := over
end Go.Proofs.Ytofcoilhjmkejaa.liftStrict
