/- Part P27.FProtocolEnds of a proof that a law of the program returns true: general lemmas, no condition. -/
import Derived.Test.YtlhfddobimfcbaaRows
import Derived.Test.YtlhfddobimfcbaaDcBridge
import Derived.Test.YtlhfddobimfcbaaLAW27A3
import Derived.Test.YtlhfddobimfcbaaP27RefEnd
namespace Go.Proofs.Ytlhfddobimfcbaa.protocolEnds
open Go.ChangeShapes Go.WideShapes Go.ChangeAt Go.RowKit
open Go.Dc
set_option linter.unusedVariables false
set_option maxRecDepth 100000

theorem own : ownKnob Try.prog.godebug = none := by kernel_rfl

/-- what the law reads is opened, the plain law answers, and what was read stays as it was -/
theorem contract (H : Type) (enc : TypeId × Value → H) (W : World) (base : Nat) (args : Array Value) (ds gs : List (DataW H)) (before : List MemPlace)
    (hval : ∀ (j : Nat) t v, Try.f5.params[j]? = some t → args[j]? = some v → Value.okWide Try.prog W .any base t v)
    (hW : DataW.Whole enc Try.prog Try.f5.params.toList Rows.protocolEndsSpec.vars false W args.toList ds gs before) :
    Calls Try.prog 5 args W fun e W' => ∃ v, e = .returned v ∧ Rows.protocolEndsSpec.post enc Try.prog Try.f5 false true false false W args v W' := by
  have hW' := hW
  obtain ⟨p, q, hA0, hV, rfl, hfz, hnd⟩ := hW
  have hA : DataW.TrodAll enc Try.prog W 0 (fun _ => true) true Try.f5.params.toList args.toList ds p := hA0
  rw [Try.params5] at hA hval
  obtain ⟨v0, vs0, d0, ds0, p0, q0, hargs, rfl, rfl, h0, r0⟩ := trodAll_cons hA
  obtain ⟨v1, vs1, d1, ds1, p1, q1, rfl, rfl, rfl, h1, r1⟩ := trodAll_cons r0
  obtain ⟨v2, vs2, d2, ds2, p2, q2, rfl, rfl, rfl, h2, r2⟩ := trodAll_cons r1
  obtain ⟨rfl, rfl, rfl⟩ := trodAll_nil r2
  obtain rfl : args = #[v0, v1, v2] := by cases args; simp_all
  obtain ⟨x0, a0, g0⟩ := ((opens_slice Try.underlying22 (opens_int Try.underlying3) (by kernel_rfl) rfl)).val (hval 0 22 v0 rfl rfl) h0
  obtain ⟨x1, a1, g1⟩ := (opens_int Try.underlying3).val (hval 1 3 v1 rfl rfl) h1
  obtain ⟨x2, a2, g2⟩ := (opens_int Try.underlying3).val (hval 2 3 v2 rfl rfl) h2
  clear hA0
  refine (calls_true (W := W) (args := #[v0, v1, v2]) (law27_ProtocolEnds_ok (law27_ProtocolEnds_plain x0 x1 x2 g0 g1 g2)) (fun _ => rfl) ⟨a0, a1, a2, trivial⟩).mono fun e W2 ⟨he, hg⟩ => ?_
  subst he
  exact ⟨_, rfl, post_true (L := [22, 3]) hW' rfl rfl Try.underlying4 (by kernel_rfl) (by kernel_rfl) rfl hg⟩

theorem lifted (os : Os) (started : os.Started) (H : Type) (enc : TypeId × Value → H) :
    ReturnsInHanded {} Try.checked os 5 .any (Rows.protocolEndsSpec.pre6 enc Try.prog Try.f5 Rows.protocolEndsRow.domain false) (Rows.protocolEndsSpec.post enc Try.prog Try.f5 false true false false) := by
  refine returnsInHanded_of_change (C := Try.checked) own started (by kernel_rfl) Try.func5
    (ChangeSpec.witness6 (enc := enc) (C := Try.checked) false ⟨#[], #[.slice none 0 0, .int .i64 0, .int .i64 0], []⟩ 8 (by kernel_rfl) (by kernel_rfl) (by kernel_rfl) (by kernel_rfl)) ?_
  intro W base args ds gs before hval hW _ _
  exact contract H enc W base args ds gs before hval hW

theorem over : Rows.protocolEndsRow.holds Try.pinned (OpenSpec.ofChange Rows.protocolEndsSpec) :=
  OpenClaim.holds_of_wide 5 Try.f5 rfl rfl rfl rfl rfl rfl rfl ⟨rfl, rfl, rfl, rfl, rfl⟩ rfl rfl rfl rfl rfl (by kernel_rfl) Try.func5 (by kernel_rfl)
    (of_decide_eq_true (by kernel_rfl)) (by unfold Func.isWrapper; first | (rw [if_pos (by decide +kernel)]; kernel_rfl) | (rw [if_neg (by decide +kernel)]; exact ⟨rfl, rfl⟩))
    (fun os started H enc _ => lifted os started H enc)

theorem proved : Rows.ProtocolEndsSaid := over
end Go.Proofs.Ytlhfddobimfcbaa.protocolEnds
