/- Part P26.FCommitmentLocal of a proof: lemmas. -/
import Derived.Test.YtmejeobfjojfeaaRows
import Derived.Handed
import Derived.Test.YtmejeobfjojfeaaDcLend
import Derived.Test.YtmejeobfjojfeaaLAW26W
import Derived.Test.YtmejeobfjojfeaaP26Fin
/- CommitmentLocal: the law CommitmentLocal answers true for every input (walk and plain law). Conditions: none beyond the statement's own. -/
namespace Go.Proofs.Ytmejeobfjojfeaa.commitmentLocal
open Go.ChangeShapes Go.WideShapes Go.ChangeAt Go.RowKit
open Go.Dc
set_option linter.unusedVariables false
set_option maxRecDepth 100000

theorem own : ownKnob Try.prog.godebug = none := by kernel_rfl

/-- what the law reads is opened, the plain law answers, and what was read stays as it was -/
theorem contract (H : Type) (enc : TypeId × Value → H) (W : World) (base : Nat) (args : Array Value) (ds gs : List (DataW H)) (before : List MemPlace)
  (hval : ∀ (j : Nat) t v, Try.f3.params[j]? = some t → args[j]? = some v → Value.okWide Try.prog W .any base t v)
  (hW : DataW.Whole enc Try.prog Try.f3.params.toList Rows.commitmentLocalSpec.vars false W args.toList ds gs before) :
  Calls Try.prog 3 args W fun e W' => ∃ v, e = .returned v ∧ Rows.commitmentLocalSpec.post enc Try.prog Try.f3 false true false false W args v W' := by
 have hW' := hW
 obtain ⟨p, q, hA0, hV, rfl, hfz, hnd⟩ := hW
 have hA : DataW.TrodAll enc Try.prog W 0 (fun _ => true) true Try.f3.params.toList args.toList ds p := hA0
 rw [Try.params3] at hA hval
 obtain ⟨v0, vs0, d0, ds0, p0, q0, hargs, rfl, rfl, h0, r0⟩ := trodAll_cons hA
 obtain ⟨rfl, rfl, rfl⟩ := trodAll_nil r0
 obtain rfl : args = #[v0] := by cases args; simp_all
 obtain ⟨x0, a0, g0⟩ := ((opens_slice Try.underlying22 (opens_int Try.underlying3) (by kernel_rfl) rfl)).val (hval 0 22 v0 rfl rfl) h0
 clear hA0
 refine (calls_trueT (W := W) (args := #[v0]) (law26_CommitmentLocal_ok.ok x0 true (law26_CommitmentLocal_plain x0 g0) (fun _ => ⟨.nilIface, [], 0, rfl, fun _ => nilB⟩)) (fun _ => rfl) rfl (fun _ h => by cases h) (fun o ho => by cases ho) ⟨a0, trivial⟩).mono fun e W2 ⟨he, hg⟩ => ?_
 subst he
 exact ⟨_, rfl, post_true (L := [22, 3]) hW' rfl rfl Try.underlying4 (by kernel_rfl) (by kernel_rfl) rfl hg⟩

theorem lifted (os : Os) (started : os.Started) (H : Type) (enc : TypeId × Value → H) :
  ReturnsInHanded {} Try.checked os 3 .any (Rows.commitmentLocalSpec.pre6 enc Try.prog Try.f3 Rows.commitmentLocalRow.domain false) (Rows.commitmentLocalSpec.post enc Try.prog Try.f3 false true false false) := by
 refine returnsInHanded_of_change (C := Try.checked) own started (by kernel_rfl) Try.func3
  (ChangeSpec.witness6 (enc := enc) (C := Try.checked) false ⟨#[], #[.slice none 0 0], []⟩ 8 (by kernel_rfl) (by kernel_rfl) (by kernel_rfl) (by kernel_rfl)) ?_
 intro W base args ds gs before hval hW _ _
 exact contract H enc W base args ds gs before hval hW

theorem over : Rows.commitmentLocalRow.holds Try.pinned (OpenSpec.ofChange Rows.commitmentLocalSpec) :=
 OpenClaim.holds_of_wide 3 Try.f3 rfl rfl rfl rfl rfl rfl rfl ⟨rfl, rfl, rfl, rfl, rfl⟩ rfl rfl rfl rfl rfl (by kernel_rfl) Try.func3 (by kernel_rfl)
  (of_decide_eq_true (by kernel_rfl)) (by unfold Func.isWrapper; first | (rw [if_pos (by decide +kernel)]; kernel_rfl) | (rw [if_neg (by decide +kernel)]; exact ⟨rfl, rfl⟩))
  (fun os started H enc _ => lifted os started H enc)

theorem proved : Rows.CommitmentLocalSaid := over
end Go.Proofs.Ytmejeobfjojfeaa.commitmentLocal
