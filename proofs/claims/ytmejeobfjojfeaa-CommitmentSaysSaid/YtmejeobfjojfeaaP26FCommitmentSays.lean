/- Part P26.FCommitmentSays of a proof: lemmas. -/
import Derived.Test.YtmejeobfjojfeaaRows
import Derived.Handed
import Derived.Test.YtmejeobfjojfeaaDcLend
import Derived.Test.YtmejeobfjojfeaaLAW26W
import Derived.Test.YtmejeobfjojfeaaP26Fin
/- CommitmentSays: the law CommitmentSays answers true for every input (walk and plain law). Conditions: none beyond the statement's own. -/
namespace Go.Proofs.Ytmejeobfjojfeaa.commitmentSays
open Go.ChangeShapes Go.WideShapes Go.ChangeAt Go.RowKit
open Go.Dc
set_option linter.unusedVariables false
set_option maxRecDepth 100000

theorem own : ownKnob Try.prog.godebug = none := by kernel_rfl

/-- what the law reads is opened, the plain law answers, and what was read stays as it was -/
theorem contract (H : Type) (enc : TypeId × Value → H) (W : World) (base : Nat) (args : Array Value) (ds gs : List (DataW H)) (before : List MemPlace)
  (hval : ∀ (j : Nat) t v, Try.f4.params[j]? = some t → args[j]? = some v → Value.okWide Try.prog W .any base t v)
  (hW : DataW.Whole enc Try.prog Try.f4.params.toList Rows.commitmentSaysSpec.vars false W args.toList ds gs before) :
  Calls Try.prog 4 args W fun e W' => ∃ v, e = .returned v ∧ Rows.commitmentSaysSpec.post enc Try.prog Try.f4 false true false false W args v W' := by
 have hW' := hW
 obtain ⟨p, q, hA0, hV, rfl, hfz, hnd⟩ := hW
 have hA : DataW.TrodAll enc Try.prog W 0 (fun _ => true) true Try.f4.params.toList args.toList ds p := hA0
 rw [Try.params4] at hA hval
 obtain ⟨v0, vs0, d0, ds0, p0, q0, hargs, rfl, rfl, h0, r0⟩ := trodAll_cons hA
 obtain ⟨v1, vs1, d1, ds1, p1, q1, rfl, rfl, rfl, h1, r1⟩ := trodAll_cons r0
 obtain ⟨v2, vs2, d2, ds2, p2, q2, rfl, rfl, rfl, h2, r2⟩ := trodAll_cons r1
 obtain ⟨v3, vs3, d3, ds3, p3, q3, rfl, rfl, rfl, h3, r3⟩ := trodAll_cons r2
 obtain ⟨rfl, rfl, rfl⟩ := trodAll_nil r3
 obtain rfl : args = #[v0, v1, v2, v3] := by cases args; simp_all
 obtain ⟨x0, a0, g0⟩ := ((opens_st1 (g0 := T_api_Stores.L) T_api_Stores.mk Try.underlying28 ((opens_slice Try.underlying26 ((opens_slice Try.underlying50 ((opens_st4 (g0 := T_api_Commitment.Claim) (g1 := T_api_Commitment.Conceded) (g2 := T_api_Commitment.Burden) (g3 := T_api_Commitment.Grounds) T_api_Commitment.mk Try.underlying52 ((opens_st2 (g0 := T_api_Literal.Neg) (g1 := T_api_Literal.Name) T_api_Literal.mk Try.underlying31 (opens_bool Try.underlying4) (opens_string Try.underlying9) (by kernel_rfl) (by kernel_rfl) (by kernel_rfl) (by kernel_rfl) (fun _ _ => rfl) (fun _ _ => rfl) (by kernel_rfl))) (opens_bool Try.underlying4) (opens_bool Try.underlying4) ((opens_slice Try.underlying32 ((opens_st2 (g0 := T_api_Literal.Neg) (g1 := T_api_Literal.Name) T_api_Literal.mk Try.underlying31 (opens_bool Try.underlying4) (opens_string Try.underlying9) (by kernel_rfl) (by kernel_rfl) (by kernel_rfl) (by kernel_rfl) (fun _ _ => rfl) (fun _ _ => rfl) (by kernel_rfl))) (by kernel_rfl) rfl)) (by kernel_rfl) (by kernel_rfl) (by kernel_rfl) (by kernel_rfl) (by kernel_rfl) (by kernel_rfl) (by kernel_rfl) (by kernel_rfl) (fun _ _ _ _ => rfl) (fun _ _ _ _ => rfl) (fun _ _ _ _ => rfl) (fun _ _ _ _ => rfl) (by kernel_rfl))) (by kernel_rfl) rfl)) (by kernel_rfl) rfl)) (by kernel_rfl) (by kernel_rfl) (fun _ => rfl) (by kernel_rfl))).val (hval 0 28 v0 rfl rfl) h0
 obtain ⟨x1, a1, g1⟩ := ((opens_st5 (g0 := T_api_Speech.Kind) (g1 := T_api_Speech.By) (g2 := T_api_Speech.To) (g3 := T_api_Speech.Claim) (g4 := T_api_Speech.Grounds) T_api_Speech.mk Try.underlying34 (opens_int Try.underlying3) (opens_int Try.underlying3) (opens_int Try.underlying3) ((opens_st2 (g0 := T_api_Literal.Neg) (g1 := T_api_Literal.Name) T_api_Literal.mk Try.underlying31 (opens_bool Try.underlying4) (opens_string Try.underlying9) (by kernel_rfl) (by kernel_rfl) (by kernel_rfl) (by kernel_rfl) (fun _ _ => rfl) (fun _ _ => rfl) (by kernel_rfl))) ((opens_slice Try.underlying32 ((opens_st2 (g0 := T_api_Literal.Neg) (g1 := T_api_Literal.Name) T_api_Literal.mk Try.underlying31 (opens_bool Try.underlying4) (opens_string Try.underlying9) (by kernel_rfl) (by kernel_rfl) (by kernel_rfl) (by kernel_rfl) (fun _ _ => rfl) (fun _ _ => rfl) (by kernel_rfl))) (by kernel_rfl) rfl)) (by kernel_rfl) (by kernel_rfl) (by kernel_rfl) (by kernel_rfl) (by kernel_rfl) (by kernel_rfl) (by kernel_rfl) (by kernel_rfl) (by kernel_rfl) (by kernel_rfl) (fun _ _ _ _ _ => rfl) (fun _ _ _ _ _ => rfl) (fun _ _ _ _ _ => rfl) (fun _ _ _ _ _ => rfl) (fun _ _ _ _ _ => rfl) (by kernel_rfl))).val (hval 1 34 v1 rfl rfl) h1
 obtain ⟨x2, a2, g2⟩ := ((opens_slice Try.underlying22 (opens_int Try.underlying3) (by kernel_rfl) rfl)).val (hval 2 22 v2 rfl rfl) h2
 obtain ⟨x3, a3, g3⟩ := (opens_int Try.underlying3).val (hval 3 3 v3 rfl rfl) h3
 clear hA0
 refine (calls_trueT (W := W) (args := #[v0, v1, v2, v3]) (law26_CommitmentSays_ok.ok (x0, x1, x2, x3) true (law26_CommitmentSays_plain x0 x1 x2 x3 g0 g1 g2 g3) (fun _ => ⟨.nilIface, [], 0, rfl, fun _ => nilB⟩)) (fun _ => rfl) rfl (fun _ h => by cases h) (fun o ho => by cases ho) ⟨a0, a1, a2, a3, trivial⟩).mono fun e W2 ⟨he, hg⟩ => ?_
 subst he
 exact ⟨_, rfl, post_true (L := [28, 26, 50, 52, 31, 4, 9, 32, 34, 3, 22]) hW' rfl rfl Try.underlying4 (by kernel_rfl) (by kernel_rfl) rfl hg⟩

theorem lifted (os : Os) (started : os.Started) (H : Type) (enc : TypeId × Value → H) :
  ReturnsInHanded {} Try.checked os 4 .any (Rows.commitmentSaysSpec.pre6 enc Try.prog Try.f4 Rows.commitmentSaysRow.domain false) (Rows.commitmentSaysSpec.post enc Try.prog Try.f4 false true false false) := by
 refine returnsInHanded_of_change (C := Try.checked) own started (by kernel_rfl) Try.func4
  (ChangeSpec.witness6 (enc := enc) (C := Try.checked) false ⟨#[], #[.agg #[.slice none 0 0], .agg #[.int .i64 0, .int .i64 0, .int .i64 0, .bool false, .string ByteArray.empty, .slice none 0 0], .slice none 0 0, .int .i64 0], []⟩ 8 (by kernel_rfl) (by kernel_rfl) (by kernel_rfl) (by kernel_rfl)) ?_
 intro W base args ds gs before hval hW _ _
 exact contract H enc W base args ds gs before hval hW

theorem over : Rows.commitmentSaysRow.holds Try.pinned (OpenSpec.ofChange Rows.commitmentSaysSpec) :=
 OpenClaim.holds_of_wide 4 Try.f4 rfl rfl rfl rfl rfl rfl rfl ⟨rfl, rfl, rfl, rfl, rfl⟩ rfl rfl rfl rfl rfl (by kernel_rfl) Try.func4 (by kernel_rfl)
  (of_decide_eq_true (by kernel_rfl)) (by unfold Func.isWrapper; first | (rw [if_pos (by decide +kernel)]; kernel_rfl) | (rw [if_neg (by decide +kernel)]; exact ⟨rfl, rfl⟩))
  (fun os started H enc _ => lifted os started H enc)

theorem proved : Rows.CommitmentSaysSaid := over
end Go.Proofs.Ytmejeobfjojfeaa.commitmentSays
