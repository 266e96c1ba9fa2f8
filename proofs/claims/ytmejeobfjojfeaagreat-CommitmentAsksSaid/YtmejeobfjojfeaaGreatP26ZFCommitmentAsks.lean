/- Part P26Z.FCommitmentAsks of a proof: lemmas. -/
import Derived.Test.YtmejeobfjojfeaaGreatRows
import Derived.Handed
import Derived.Test.YtmejeobfjojfeaaGreatDcLend
import Derived.Test.YtmejeobfjojfeaaGreatLAW26ZW
import Derived.Test.YtmejeobfjojfeaaGreatP26ZFin
/- CommitmentAsks: the law CommitmentAsks answers true for every input (walk and plain law). Conditions: none beyond the statement's own. -/
namespace Go.Proofs.YtmejeobfjojfeaaGreat.commitmentAsks
open Go.ChangeShapes Go.WideShapes Go.ChangeAt Go.RowKit
open Go.Dc
set_option linter.unusedVariables false
set_option maxRecDepth 100000

theorem own : ownKnob Tryz.prog.godebug = none := by kernel_rfl

/-- what the law reads is opened, the plain law answers, and what was read stays as it was -/
theorem contract (H : Type) (enc : TypeId × Value → H) (W : World) (base : Nat) (args : Array Value) (ds gs : List (DataW H)) (before : List MemPlace)
  (hval : ∀ (j : Nat) t v, Tryz.f3.params[j]? = some t → args[j]? = some v → Value.okWide Tryz.prog W .any base t v)
  (hW : DataW.Whole enc Tryz.prog Tryz.f3.params.toList Rows.commitmentAsksSpec.vars false W args.toList ds gs before) :
  Calls Tryz.prog 3 args W fun e W' => ∃ v, e = .returned v ∧ Rows.commitmentAsksSpec.post enc Tryz.prog Tryz.f3 false true false false W args v W' := by
 have hW' := hW
 obtain ⟨p, q, hA0, hV, rfl, hfz, hnd⟩ := hW
 have hA : DataW.TrodAll enc Tryz.prog W 0 (fun _ => true) true Tryz.f3.params.toList args.toList ds p := hA0
 rw [Tryz.params3] at hA hval
 obtain ⟨v0, vs0, d0, ds0, p0, q0, hargs, rfl, rfl, h0, r0⟩ := trodAll_cons hA
 obtain ⟨v1, vs1, d1, ds1, p1, q1, rfl, rfl, rfl, h1, r1⟩ := trodAll_cons r0
 obtain ⟨v2, vs2, d2, ds2, p2, q2, rfl, rfl, rfl, h2, r2⟩ := trodAll_cons r1
 obtain ⟨v3, vs3, d3, ds3, p3, q3, rfl, rfl, rfl, h3, r3⟩ := trodAll_cons r2
 obtain ⟨rfl, rfl, rfl⟩ := trodAll_nil r3
 obtain rfl : args = #[v0, v1, v2, v3] := by cases args; simp_all
 obtain ⟨x0, a0, g0⟩ := ((opens_st1 (g0 := T_api_Stores.L) T_api_Stores.mk Tryz.underlying24 ((opens_slice Tryz.underlying22 ((opens_slice Tryz.underlying45 ((opens_st4 (g0 := T_api_Commitment.Claim) (g1 := T_api_Commitment.Conceded) (g2 := T_api_Commitment.Burden) (g3 := T_api_Commitment.Grounds) T_api_Commitment.mk Tryz.underlying47 ((opens_st2 (g0 := T_api_Literal.Neg) (g1 := T_api_Literal.Name) T_api_Literal.mk Tryz.underlying27 (opens_bool Tryz.underlying4) (opens_string Tryz.underlying9) (by kernel_rfl) (by kernel_rfl) (by kernel_rfl) (by kernel_rfl) (fun _ _ => rfl) (fun _ _ => rfl) (by kernel_rfl))) (opens_bool Tryz.underlying4) (opens_bool Tryz.underlying4) ((opens_slice Tryz.underlying37 ((opens_st2 (g0 := T_api_Literal.Neg) (g1 := T_api_Literal.Name) T_api_Literal.mk Tryz.underlying27 (opens_bool Tryz.underlying4) (opens_string Tryz.underlying9) (by kernel_rfl) (by kernel_rfl) (by kernel_rfl) (by kernel_rfl) (fun _ _ => rfl) (fun _ _ => rfl) (by kernel_rfl))) (by kernel_rfl) rfl)) (by kernel_rfl) (by kernel_rfl) (by kernel_rfl) (by kernel_rfl) (by kernel_rfl) (by kernel_rfl) (by kernel_rfl) (by kernel_rfl) (fun _ _ _ _ => rfl) (fun _ _ _ _ => rfl) (fun _ _ _ _ => rfl) (fun _ _ _ _ => rfl) (by kernel_rfl))) (by kernel_rfl) rfl)) (by kernel_rfl) rfl)) (by kernel_rfl) (by kernel_rfl) (fun _ => rfl) (by kernel_rfl))).val (hval 0 24 v0 rfl rfl) h0
 obtain ⟨x1, a1, g1⟩ := ((opens_slice Tryz.underlying25 (opens_int Tryz.underlying3) (by kernel_rfl) rfl)).val (hval 1 25 v1 rfl rfl) h1
 obtain ⟨x2, a2, g2⟩ := (opens_int Tryz.underlying3).val (hval 2 3 v2 rfl rfl) h2
 obtain ⟨x3, a3, g3⟩ := ((opens_st2 (g0 := T_api_Literal.Neg) (g1 := T_api_Literal.Name) T_api_Literal.mk Tryz.underlying27 (opens_bool Tryz.underlying4) (opens_string Tryz.underlying9) (by kernel_rfl) (by kernel_rfl) (by kernel_rfl) (by kernel_rfl) (fun _ _ => rfl) (fun _ _ => rfl) (by kernel_rfl))).val (hval 3 27 v3 rfl rfl) h3
 clear hA0
 refine (calls_trueT (W := W) (args := #[v0, v1, v2, v3]) (law26_CommitmentAsks_ok.ok (x0, x1, x2, x3) true (law26_CommitmentAsks_plain x0 x1 x2 x3 g0 g1 g2 g3) (fun _ => ⟨.nilIface, [], 0, rfl, fun _ => nilB⟩)) (fun _ => rfl) rfl (fun _ h => by cases h) (fun o ho => by cases ho) ⟨a0, a1, a2, a3, trivial⟩).mono fun e W2 ⟨he, hg⟩ => ?_
 subst he
 exact ⟨_, rfl, post_true (L := [24, 22, 45, 47, 27, 4, 9, 37, 25, 3]) hW' rfl rfl Tryz.underlying4 (by kernel_rfl) (by kernel_rfl) rfl hg⟩

theorem lifted (os : Os) (started : os.Started) (H : Type) (enc : TypeId × Value → H) :
  ReturnsInHanded {} Tryz.checked os 3 .any (Rows.commitmentAsksSpec.pre6 enc Tryz.prog Tryz.f3 Rows.commitmentAsksRow.domain false) (Rows.commitmentAsksSpec.post enc Tryz.prog Tryz.f3 false true false false) := by
 refine returnsInHanded_of_change (C := Tryz.checked) own started (by kernel_rfl) Tryz.func3
  (ChangeSpec.witness6 (enc := enc) (C := Tryz.checked) false ⟨#[], #[.agg #[.slice none 0 0], .slice none 0 0, .int .i64 0, .agg #[.bool false, .string ByteArray.empty]], []⟩ 8 (by kernel_rfl) (by kernel_rfl) (by kernel_rfl) (by kernel_rfl)) ?_
 intro W base args ds gs before hval hW _ _
 exact contract H enc W base args ds gs before hval hW

theorem over : Rows.commitmentAsksRow.holds Tryz.pinned (OpenSpec.ofChange Rows.commitmentAsksSpec) :=
 OpenClaim.holds_of_wide 3 Tryz.f3 rfl rfl rfl rfl rfl rfl rfl ⟨rfl, rfl, rfl, rfl, rfl⟩ rfl rfl rfl rfl rfl (by kernel_rfl) Tryz.func3 (by kernel_rfl)
  (of_decide_eq_true (by kernel_rfl)) (by unfold Func.isWrapper; first | (rw [if_pos (by decide +kernel)]; kernel_rfl) | (rw [if_neg (by decide +kernel)]; exact ⟨rfl, rfl⟩))
  (fun os started H enc _ => lifted os started H enc)

theorem proved : Rows.CommitmentAsksSaid := over
end Go.Proofs.YtmejeobfjojfeaaGreat.commitmentAsks
