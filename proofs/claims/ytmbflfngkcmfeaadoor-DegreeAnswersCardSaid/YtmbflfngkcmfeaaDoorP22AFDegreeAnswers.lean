/- Part P22A.FDegreeAnswers of a proof: lemmas. -/
import Derived.Test.YtmbflfngkcmfeaaDoorRows
import Derived.Test.YtmbflfngkcmfeaaDoorTie
import Derived.Test.YtmbflfngkcmfeaaDoorCards
import Derived.SevenTiedAt
import Derived.Handed
import Derived.Test.YtmbflfngkcmfeaaDoorDcBridge3
import Derived.Test.YtmbflfngkcmfeaaDoorLAW22AA2
import Derived.Test.YtmbflfngkcmfeaaDoorP22ALawA
namespace Go.Proofs.YtmbflfngkcmfeaaDoor.degreeAnswers
open Go.ChangeShapes Go.WideShapes Go.ChangeAt Go.RowKit
open Go.Dc
set_option linter.unusedVariables false
set_option maxRecDepth 100000

theorem own : ownKnob Tryd.prog.godebug = none := by kernel_rfl
theorem gN : Tryd.prog.globalNamed "math/bits.deBruijn64tab" = some 0 := by kernel_rfl
theorem gT : (Tryd.prog.globals[0]?).map (·.type) = some 116 := by kernel_rfl
theorem ce : Tryd.prog.cellsOf 5 = 1 := by kernel_rfl
theorem ct : Tryd.prog.cellsOf 116 = 64 := by kernel_rfl

/-- what the law reads is opened, the plain law answers, and what was read stays as it was -/
theorem contract (H : Type) (enc : TypeId × Value → H) (W : World) (base : Nat) (args : Array Value) (ds gs : List (DataW H)) (before : List MemPlace)
    (hval : ∀ (j : Nat) t v, Tryd.f7.params[j]? = some t → args[j]? = some v → Value.okWide Tryd.prog W .any base t v)
    (hL : laidMetH Tryd.prog Rows.degreeAnswersRow.laid W)
    (hW : DataW.Whole enc Tryd.prog Tryd.f7.params.toList Rows.degreeAnswersSpec.vars false W args.toList ds gs before) :
    Calls Tryd.prog 7 args W fun e W' => ∃ v, e = .returned v ∧ Rows.degreeAnswersSpec.post enc Tryd.prog Tryd.f7 false true false false W args v W' := by
  have hLt : laidMet Tryd.prog (("math/bits.deBruijn64tab", Lib.tabData .u8 tab_0) :: []) W := hL
  have hT := Lib.tabIs_of_head gN gT Tryd.underlying116 Tryd.underlying5 ce ct hLt
  have hW' := hW
  obtain ⟨p, q, hA0, hV, rfl, hfz, hnd⟩ := hW
  have hA : DataW.TrodAll enc Tryd.prog W 0 (fun _ => true) true Tryd.f7.params.toList args.toList ds p := hA0
  rw [Tryd.params7] at hA hval
  obtain ⟨v0, vs0, d0, ds0, p0, q0, hargs, rfl, rfl, h0, r0⟩ := trodAll_cons hA
  obtain ⟨v1, vs1, d1, ds1, p1, q1, rfl, rfl, rfl, h1, r1⟩ := trodAll_cons r0
  obtain ⟨v2, vs2, d2, ds2, p2, q2, rfl, rfl, rfl, h2, r2⟩ := trodAll_cons r1
  obtain ⟨v3, vs3, d3, ds3, p3, q3, rfl, rfl, rfl, h3, r3⟩ := trodAll_cons r2
  obtain ⟨v4, vs4, d4, ds4, p4, q4, rfl, rfl, rfl, h4, r4⟩ := trodAll_cons r3
  obtain ⟨rfl, rfl, rfl⟩ := trodAll_nil r4
  obtain rfl : args = #[v0, v1, v2, v3, v4] := by cases args; simp_all
  obtain ⟨x0, a0, g0⟩ := ((opens_st2 (g0 := T_api_Graph.N) (g1 := T_api_Graph.L) T_api_Graph.mk Tryd.underlying27 (opens_int Tryd.underlying3) ((opens_slice Tryd.underlying25 ((opens_st2 (g0 := T_api_Pair.From) (g1 := T_api_Pair.To) T_api_Pair.mk Tryd.underlying56 (opens_int Tryd.underlying3) (opens_int Tryd.underlying3) (by kernel_rfl) (by kernel_rfl) (by kernel_rfl) (by kernel_rfl) (fun _ _ => rfl) (fun _ _ => rfl) (by kernel_rfl))) (by kernel_rfl) rfl)) (by kernel_rfl) (by kernel_rfl) (by kernel_rfl) (by kernel_rfl) (fun _ _ => rfl) (fun _ _ => rfl) (by kernel_rfl))).val (hval 0 27 v0 rfl rfl) h0
  obtain ⟨x1, a1, g1⟩ := ((opens_slice Tryd.underlying22 (opens_int Tryd.underlying3) (by kernel_rfl) rfl)).val (hval 1 22 v1 rfl rfl) h1
  obtain ⟨x2, a2, g2⟩ := ((opens_slice Tryd.underlying22 (opens_int Tryd.underlying3) (by kernel_rfl) rfl)).val (hval 2 22 v2 rfl rfl) h2
  obtain ⟨x3, a3, g3⟩ := (opens_int Tryd.underlying3).val (hval 3 3 v3 rfl rfl) h3
  obtain ⟨x4, a4, g4⟩ := (opens_int Tryd.underlying3).val (hval 4 3 v4 rfl rfl) h4
  clear hA0
  refine (calls_trueT (W := W) (args := #[v0, v1, v2, v3, v4]) (law22_DegreeAnswers_ok (law22_DegreeAnswers_plain x0 x1 x2 x3 x4 g0 g1 g2 g3 g4)) (fun _ => rfl) rfl (fun o ho => by rw [List.mem_singleton.1 ho]; exact tb_of_tab hT gN (by decide)) ⟨a0, a1, a2, a3, a4, trivial⟩).mono fun e W2 ⟨he, hg⟩ => ?_
  subst he
  exact ⟨_, rfl, post_true (L := [27, 3, 25, 56, 22]) hW' rfl rfl Tryd.underlying4 (by kernel_rfl) (by kernel_rfl) rfl hg⟩

/-- a world in which the table lies as it is laid -/
noncomputable def laidWorld (os : Os) : World :=
  { World.holding Tryd.prog os ⟨#[], #[], []⟩ with heap := (World.holding Tryd.prog os ⟨#[], #[], []⟩).heap.modify 0 fun
      | .cells _ t frozen => .cells (tab_0.map fun z => Value.int .u8 z).toArray t frozen
      | o => o }
theorem laid_met (os : Os) (args : Array Value) : laidMetH Tryd.prog Rows.degreeAnswersRow.laid ((laidWorld os).forCall (fun _ _ => 0) ⟨#[], args, []⟩).memory :=
  show laidMet _ _ _ from laidMet_of_run' 8 (by kernel_rfl) (by kernel_rfl)

theorem lifted (os : Os) (started : os.Started) (H : Type) (enc : TypeId × Value → H) :
    ReturnsInHanded {} Tryd.checked os 7 .any (fun w args => (Rows.degreeAnswersSpec.pre enc Tryd.prog Tryd.f7 Rows.degreeAnswersRow.domain false w args ∧ laidMetH Tryd.prog Rows.degreeAnswersRow.laid w) ∧ sizedMet enc Tryd.prog Tryd.f7 (OpenSpec.ofChange Rows.degreeAnswersSpec) false w args) (Rows.degreeAnswersSpec.post enc Tryd.prog Tryd.f7 false true false false) := by
  refine returnsInHanded_of_change_and (C := Tryd.checked) (X := fun w _ => laidMetH Tryd.prog Rows.degreeAnswersRow.laid w) (fun _ _ _ hh h => h.of_heap hh) own started (by kernel_rfl) Tryd.func7
    (ChangeSpec.witness_at (enc := enc) (C := Tryd.checked) (os := os) (X := fun w _ => laidMetH Tryd.prog Rows.degreeAnswersRow.laid w) false (laidWorld os) #[.agg #[.int .i64 0, .slice none 0 0], .slice none 0 0, .slice none 0 0, .int .i64 0, .int .i64 0] 8 rfl (by kernel_rfl) (by kernel_rfl) (by kernel_rfl) (by kernel_rfl) (by kernel_rfl) (laid_met os _)) ?_
  intro W base args ds gs before hval hW _ _ hL _
  exact contract H enc W base args ds gs before hval hL hW

theorem over : Rows.degreeAnswersRow.holds Tryd.pinned (OpenSpec.ofChange Rows.degreeAnswersSpec) :=
  OpenClaim.holds_of_wide 7 Tryd.f7 rfl rfl rfl rfl rfl rfl rfl ⟨rfl, rfl, rfl, rfl, rfl⟩ rfl rfl rfl rfl rfl (by kernel_rfl) Tryd.func7 (by kernel_rfl)
    (of_decide_eq_true (by kernel_rfl)) (by unfold Func.isWrapper; first | (rw [if_pos (by decide +kernel)]; kernel_rfl) | (rw [if_neg (by decide +kernel)]; exact ⟨rfl, rfl⟩))
    (fun os started H enc _ => lifted os started H enc)

theorem proved : Rows.DegreeAnswersCardSaid :=
  Claim7.holds_tied_plain_at .later [] [.data] true (true, "c355f0333a9584bdca7ce3327f32d818687f3f44bab680be58f3c886dd1e6174") false over (fun _ h => by cases h) (by kernel_rfl) (fun _ h => by cases h) degreeAnswers_row_tie rfl ⟨rfl, rfl⟩ (by kernel_rfl) rfl
    (fun f fn hf hfn => by
      obtain rfl : f = 7 := Option.some.inj ((show Tryd.prog.funcNamed "deliberation/deliberationlaw22.DegreeAnswers" = some 7 by kernel_rfl).symm.trans hf) |>.symm
      obtain rfl : fn = Tryd.f7 := (Option.some.inj (Tryd.func7.symm.trans hfn)).symm
      refine ⟨by kernel_rfl, fun j t ht => ?_⟩
      rw [Tryd.params7] at ht
      have hm := Array.mem_of_getElem? ht
      simp only [List.mem_toArray, List.mem_cons, List.not_mem_nil, or_false] at hm
      rcases hm with rfl | rfl | rfl | rfl | rfl
      · exact (show Tryd.prog.wantsStandIn 27 = false by kernel_rfl)
      · exact (show Tryd.prog.wantsStandIn 22 = false by kernel_rfl)
      · exact (show Tryd.prog.wantsStandIn 22 = false by kernel_rfl)
      · exact (show Tryd.prog.wantsStandIn 3 = false by kernel_rfl)
      · exact (show Tryd.prog.wantsStandIn 3 = false by kernel_rfl))
    (by kernel_rfl)
end Go.Proofs.YtmbflfngkcmfeaaDoor.degreeAnswers
