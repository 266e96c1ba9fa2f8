/- Part P06Z.FStrictCloses of a proof: lemmas. -/
import Derived.Test.YtejhbimlekcllaaGreatDoorRows
import Derived.Test.YtejhbimlekcllaaGreatDoorTie
import Derived.Test.YtejhbimlekcllaaGreatDoorCards
import Derived.SevenTiedAt
import Derived.Handed
import Derived.Test.YtejhbimlekcllaaGreatDoorDcBridge5
import Derived.Test.YtejhbimlekcllaaGreatDoorLAW06ZDA3
import Derived.Test.YtejhbimlekcllaaGreatDoorP06ZLawS
namespace Go.Proofs.YtejhbimlekcllaaGreatDoor.strictCloses
open Go.ChangeShapes Go.WideShapes Go.ChangeAt Go.RowKit
open Go.Dc
set_option linter.unusedVariables false
set_option maxRecDepth 100000

theorem own : ownKnob Tryz.prog.godebug = none := by kernel_rfl

/-- what the law reads is opened, the plain law answers, and what was read stays as it was -/
theorem contract (H : Type) (enc : TypeId × Value → H) (W : World) (base : Nat) (args : Array Value) (ds gs : List (DataW H)) (before : List MemPlace)
    (hval : ∀ (j : Nat) t v, Tryz.f3.params[j]? = some t → args[j]? = some v → Value.okWide Tryz.prog W .any base t v)
    (hL : laidMetH Tryz.prog Rows.strictClosesRow.laid W)
    (hW : DataW.Whole enc Tryz.prog Tryz.f3.params.toList Rows.strictClosesSpec.vars false W args.toList ds gs before) :
    Calls Tryz.prog 3 args W fun e W' => ∃ v, e = .returned v ∧ Rows.strictClosesSpec.post enc Tryz.prog Tryz.f3 false true false false W args v W' := by
  have hW' := hW
  obtain ⟨p, q, hA0, hV, rfl, hfz, hnd⟩ := hW
  have hA : DataW.TrodAll enc Tryz.prog W 0 (fun _ => true) true Tryz.f3.params.toList args.toList ds p := hA0
  rw [Tryz.params3] at hA hval
  obtain ⟨v0, vs0, d0, ds0, p0, q0, hargs, rfl, rfl, h0, r0⟩ := trodAll_cons hA
  obtain ⟨v1, vs1, d1, ds1, p1, q1, rfl, rfl, rfl, h1, r1⟩ := trodAll_cons r0
  obtain ⟨v2, vs2, d2, ds2, p2, q2, rfl, rfl, rfl, h2, r2⟩ := trodAll_cons r1
  obtain ⟨v3, vs3, d3, ds3, p3, q3, rfl, rfl, rfl, h3, r3⟩ := trodAll_cons r2
  obtain ⟨rfl, rfl, rfl⟩ := trodAll_nil r3
  obtain rfl : args = #[v0, v1, v2, v3] := by cases args; simp_all
  obtain ⟨x0, a0, g0⟩ := ((opens_st3 (g0 := T_api_Base.Premises) (g1 := T_api_Base.Rules) (g2 := T_api_Base.Promotions) T_api_Base.mk Tryz.underlying26 ((opens_slice Tryz.underlying22 ((opens_st4 (g0 := T_api_Premise.Literal) (g1 := T_api_Premise.Kind) (g2 := T_api_Premise.Rank) (g3 := T_api_Premise.Source) T_api_Premise.mk Tryz.underlying58 ((opens_st2 (g0 := T_api_Literal.Neg) (g1 := T_api_Literal.Name) T_api_Literal.mk Tryz.underlying29 (opens_bool Tryz.underlying4) (opens_string Tryz.underlying9) (by kernel_rfl) (by kernel_rfl) (by kernel_rfl) (by kernel_rfl) (fun _ _ => rfl) (fun _ _ => rfl) (by kernel_rfl))) (opens_int Tryz.underlying3) (opens_int Tryz.underlying3) (opens_string Tryz.underlying9) (by kernel_rfl) (by kernel_rfl) (by kernel_rfl) (by kernel_rfl) (by kernel_rfl) (by kernel_rfl) (by kernel_rfl) (by kernel_rfl) (fun _ _ _ _ => rfl) (fun _ _ _ _ => rfl) (fun _ _ _ _ => rfl) (fun _ _ _ _ => rfl) (by kernel_rfl))) (by kernel_rfl) rfl)) ((opens_slice Tryz.underlying23 ((opens_st5 (g0 := T_api_Rule.Name) (g1 := T_api_Rule.Strict) (g2 := T_api_Rule.Rank) (g3 := T_api_Rule.Body) (g4 := T_api_Rule.Head) T_api_Rule.mk Tryz.underlying60 (opens_string Tryz.underlying9) (opens_bool Tryz.underlying4) (opens_int Tryz.underlying3) ((opens_slice Tryz.underlying27 ((opens_st2 (g0 := T_api_Literal.Neg) (g1 := T_api_Literal.Name) T_api_Literal.mk Tryz.underlying29 (opens_bool Tryz.underlying4) (opens_string Tryz.underlying9) (by kernel_rfl) (by kernel_rfl) (by kernel_rfl) (by kernel_rfl) (fun _ _ => rfl) (fun _ _ => rfl) (by kernel_rfl))) (by kernel_rfl) rfl)) ((opens_st2 (g0 := T_api_Literal.Neg) (g1 := T_api_Literal.Name) T_api_Literal.mk Tryz.underlying29 (opens_bool Tryz.underlying4) (opens_string Tryz.underlying9) (by kernel_rfl) (by kernel_rfl) (by kernel_rfl) (by kernel_rfl) (fun _ _ => rfl) (fun _ _ => rfl) (by kernel_rfl))) (by kernel_rfl) (by kernel_rfl) (by kernel_rfl) (by kernel_rfl) (by kernel_rfl) (by kernel_rfl) (by kernel_rfl) (by kernel_rfl) (by kernel_rfl) (by kernel_rfl) (fun _ _ _ _ _ => rfl) (fun _ _ _ _ _ => rfl) (fun _ _ _ _ _ => rfl) (fun _ _ _ _ _ => rfl) (fun _ _ _ _ _ => rfl) (by kernel_rfl))) (by kernel_rfl) rfl)) ((opens_slice Tryz.underlying24 ((opens_st3 (g0 := T_api_Promotion.Rule) (g1 := T_api_Promotion.Rank) (g2 := T_api_Promotion.If) T_api_Promotion.mk Tryz.underlying62 (opens_string Tryz.underlying9) (opens_int Tryz.underlying3) ((opens_st2 (g0 := T_api_Literal.Neg) (g1 := T_api_Literal.Name) T_api_Literal.mk Tryz.underlying29 (opens_bool Tryz.underlying4) (opens_string Tryz.underlying9) (by kernel_rfl) (by kernel_rfl) (by kernel_rfl) (by kernel_rfl) (fun _ _ => rfl) (fun _ _ => rfl) (by kernel_rfl))) (by kernel_rfl) (by kernel_rfl) (by kernel_rfl) (by kernel_rfl) (by kernel_rfl) (by kernel_rfl) (fun _ _ _ => rfl) (fun _ _ _ => rfl) (fun _ _ _ => rfl) (by kernel_rfl))) (by kernel_rfl) rfl)) (by kernel_rfl) (by kernel_rfl) (by kernel_rfl) (by kernel_rfl) (by kernel_rfl) (by kernel_rfl) (fun _ _ _ => rfl) (fun _ _ _ => rfl) (fun _ _ _ => rfl) (by kernel_rfl))).val (hval 0 26 v0 rfl rfl) h0
  obtain ⟨x1, a1, g1⟩ := ((opens_slice Tryz.underlying27 ((opens_st2 (g0 := T_api_Literal.Neg) (g1 := T_api_Literal.Name) T_api_Literal.mk Tryz.underlying29 (opens_bool Tryz.underlying4) (opens_string Tryz.underlying9) (by kernel_rfl) (by kernel_rfl) (by kernel_rfl) (by kernel_rfl) (fun _ _ => rfl) (fun _ _ => rfl) (by kernel_rfl))) (by kernel_rfl) rfl)).val (hval 1 27 v1 rfl rfl) h1
  obtain ⟨x2, a2, g2⟩ := ((opens_st2 (g0 := T_api_Literal.Neg) (g1 := T_api_Literal.Name) T_api_Literal.mk Tryz.underlying29 (opens_bool Tryz.underlying4) (opens_string Tryz.underlying9) (by kernel_rfl) (by kernel_rfl) (by kernel_rfl) (by kernel_rfl) (fun _ _ => rfl) (fun _ _ => rfl) (by kernel_rfl))).val (hval 2 29 v2 rfl rfl) h2
  obtain ⟨x3, a3, g3⟩ := ((opens_slice Tryz.underlying30 (opens_int Tryz.underlying3) (by kernel_rfl) rfl)).val (hval 3 30 v3 rfl rfl) h3
  clear hA0
  refine (calls_trueT (W := W) (args := #[v0, v1, v2, v3]) (law06_StrictCloses_ok (law06_StrictCloses_plain x0 x1 x2 x3 g0 g1 g2 g3)) (fun _ => rfl) rfl (fun o ho => by cases ho) ⟨a0, a1, a2, a3, trivial⟩).mono fun e W2 ⟨he, hg⟩ => ?_
  subst he
  exact ⟨_, rfl, post_true (L := [26, 22, 58, 29, 4, 9, 3, 23, 60, 27, 24, 62, 30]) hW' rfl rfl Tryz.underlying4 (by kernel_rfl) (by kernel_rfl) rfl hg⟩

def litV : DataW Unit → Value
  | .lit (.int k n) => .int k n
  | _ => .bool false
def litVs : DataW Unit → Array Value
  | .agg l => (l.map litV).toArray
  | _ => #[]
def laidCells (d : DataW Unit) : Obj → Obj
  | .cells _ t frozen => .cells (litVs d) t frozen
  | o => o
/-- a world in which the tables lie as they are laid -/
noncomputable def laidWorld (os : Os) : World :=
  { World.holding Tryz.prog os ⟨#[], #[], []⟩ with heap := (World.holding Tryz.prog os ⟨#[], #[], []⟩).heap |>.modify 1 (laidCells Rows.laid_math_bits_deBruijn32tab) |>.modify 2 (laidCells Rows.laid_math_bits_deBruijn64tab) |>.modify 0 (laidCells Rows.laid_internal_strconv_uint64pow10) }
theorem laid_met (os : Os) (args : Array Value) : laidMetH Tryz.prog Rows.strictClosesRow.laid ((laidWorld os).forCall (fun _ _ => 0) ⟨#[], args, []⟩).memory :=
  show laidMet _ _ _ from laidMet_of_run' 8 (by kernel_rfl) (by kernel_rfl)

theorem lifted (os : Os) (started : os.Started) (H : Type) (enc : TypeId × Value → H) :
    ReturnsInHanded {} Tryz.checked os 3 .any (fun w args => (Rows.strictClosesSpec.pre enc Tryz.prog Tryz.f3 Rows.strictClosesRow.domain false w args ∧ laidMetH Tryz.prog Rows.strictClosesRow.laid w) ∧ sizedMet enc Tryz.prog Tryz.f3 (OpenSpec.ofChange Rows.strictClosesSpec) false w args) (Rows.strictClosesSpec.post enc Tryz.prog Tryz.f3 false true false false) := by
  refine returnsInHanded_of_change_and (C := Tryz.checked) (X := fun w _ => laidMetH Tryz.prog Rows.strictClosesRow.laid w) (fun _ _ _ hh h => h.of_heap hh) own started (by kernel_rfl) Tryz.func3
    (ChangeSpec.witness_at (enc := enc) (C := Tryz.checked) (os := os) (X := fun w _ => laidMetH Tryz.prog Rows.strictClosesRow.laid w) false (laidWorld os) #[.agg #[.slice none 0 0, .slice none 0 0, .slice none 0 0], .slice none 0 0, .agg #[.bool false, .string ByteArray.empty], .slice none 0 0] 8 rfl (by kernel_rfl) (by kernel_rfl) (by kernel_rfl) (by kernel_rfl) (by kernel_rfl) (laid_met os _)) ?_
  intro W base args ds gs before hval hW _ _ hL _
  exact contract H enc W base args ds gs before hval hL hW

theorem over : Rows.strictClosesRow.holds Tryz.pinned (OpenSpec.ofChange Rows.strictClosesSpec) :=
  OpenClaim.holds_of_wide 3 Tryz.f3 rfl rfl rfl rfl rfl rfl rfl ⟨rfl, rfl, rfl, rfl, rfl⟩ rfl rfl rfl rfl rfl (by kernel_rfl) Tryz.func3 (by kernel_rfl)
    (of_decide_eq_true (by kernel_rfl)) (by unfold Func.isWrapper; first | (rw [if_pos (by decide +kernel)]; kernel_rfl) | (rw [if_neg (by decide +kernel)]; exact ⟨rfl, rfl⟩))
    (fun os started H enc _ => lifted os started H enc)

theorem proved : Rows.StrictClosesCardSaid :=
  Claim7.holds_tied_plain_at .later [] [.data, .data, .data] true (true, "77b95f3a5898131a793920ff4f197028026d182e4e3a3b1d322bc3552cf222bb") false over (fun _ h => by cases h) (by kernel_rfl) (fun _ h => by cases h) strictCloses_row_tie rfl ⟨rfl, rfl⟩ (by kernel_rfl) rfl
    (fun f fn hf hfn => by
      obtain rfl : f = 3 := Option.some.inj ((show Tryz.prog.funcNamed "deliberation/deliberationlaw06.StrictCloses" = some 3 by kernel_rfl).symm.trans hf) |>.symm
      obtain rfl : fn = Tryz.f3 := (Option.some.inj (Tryz.func3.symm.trans hfn)).symm
      refine ⟨by kernel_rfl, fun j t ht => ?_⟩
      rw [Tryz.params3] at ht
      have hm := Array.mem_of_getElem? ht
      simp only [List.mem_toArray, List.mem_cons, List.not_mem_nil, or_false] at hm
      rcases hm with rfl | rfl | rfl | rfl
      · exact (show Tryz.prog.wantsStandIn 26 = false by kernel_rfl)
      · exact (show Tryz.prog.wantsStandIn 27 = false by kernel_rfl)
      · exact (show Tryz.prog.wantsStandIn 29 = false by kernel_rfl)
      · exact (show Tryz.prog.wantsStandIn 30 = false by kernel_rfl))
    (by kernel_rfl)
end Go.Proofs.YtejhbimlekcllaaGreatDoor.strictCloses
