/- Part P22T.FDegreeThresholds of a proof: lemmas. -/
import Derived.Test.YtmbflfngkcmfeaaDoorRows
import Derived.Test.YtmbflfngkcmfeaaDoorTie
import Derived.Test.YtmbflfngkcmfeaaDoorCards
import Derived.SevenTiedAt
import Derived.Handed
import Derived.Test.YtmbflfngkcmfeaaDoorDcBridge3
import Derived.Test.YtmbflfngkcmfeaaDoorLAW22TA2
import Derived.Test.YtmbflfngkcmfeaaDoorP22TLawT
namespace Go.Proofs.YtmbflfngkcmfeaaDoor.degreeThresholds
open Go.ChangeShapes Go.WideShapes Go.ChangeAt Go.RowKit
open Go.Dc
set_option linter.unusedVariables false
set_option maxRecDepth 100000

theorem own : ownKnob Tryd.prog.godebug = none := by kernel_rfl
theorem gN : Tryd.prog.globalNamed "math/bits.deBruijn64tab" = some 0 := by kernel_rfl
theorem gT : (Tryd.prog.globals[0]?).map (·.type) = some 116 := by kernel_rfl
theorem ce : Tryd.prog.cellsOf 5 = 1 := by kernel_rfl
theorem ct : Tryd.prog.cellsOf 116 = 64 := by kernel_rfl

/-- what the law reads is opened, the plain law answers, and what was read stays as it was -/
theorem contract (H : Type) (enc : TypeId × Value → H) (W : World) (base : Nat) (args : Array Value) (ds gs : List (DataW H)) (before : List MemPlace)
    (hval : ∀ (j : Nat) t v, Tryd.f8.params[j]? = some t → args[j]? = some v → Value.okWide Tryd.prog W .any base t v)
    (hL : laidMetH Tryd.prog Rows.degreeThresholdsRow.laid W)
    (hW : DataW.Whole enc Tryd.prog Tryd.f8.params.toList Rows.degreeThresholdsSpec.vars false W args.toList ds gs before) :
    Calls Tryd.prog 8 args W fun e W' => ∃ v, e = .returned v ∧ Rows.degreeThresholdsSpec.post enc Tryd.prog Tryd.f8 false true false false W args v W' := by
  have hLt : laidMet Tryd.prog (("math/bits.deBruijn64tab", Lib.tabData .u8 tab_0) :: []) W := hL
  have hT := Lib.tabIs_of_head gN gT Tryd.underlying116 Tryd.underlying5 ce ct hLt
  have hW' := hW
  obtain ⟨p, q, hA0, hV, rfl, hfz, hnd⟩ := hW
  have hA : DataW.TrodAll enc Tryd.prog W 0 (fun _ => true) true Tryd.f8.params.toList args.toList ds p := hA0
  rw [Tryd.params8] at hA hval
  obtain ⟨v0, vs0, d0, ds0, p0, q0, hargs, rfl, rfl, h0, r0⟩ := trodAll_cons hA
  obtain ⟨rfl, rfl, rfl⟩ := trodAll_nil r0
  obtain rfl : args = #[v0] := by cases args; simp_all
  obtain ⟨x0, a0, g0⟩ := ((opens_slice Tryd.underlying22 (opens_int Tryd.underlying3) (by kernel_rfl) rfl)).val (hval 0 22 v0 rfl rfl) h0
  clear hA0
  refine (calls_trueT (W := W) (args := #[v0]) (law22_DegreeThresholds_ok (law22_DegreeThresholds_plain x0 g0)) (fun _ => rfl) rfl (fun o ho => by rw [List.mem_singleton.1 ho]; exact tb_of_tab hT gN (by decide)) ⟨a0, trivial⟩).mono fun e W2 ⟨he, hg⟩ => ?_
  subst he
  exact ⟨_, rfl, post_true (L := [22, 3]) hW' rfl rfl Tryd.underlying4 (by kernel_rfl) (by kernel_rfl) rfl hg⟩

/-- a world in which the table lies as it is laid -/
noncomputable def laidWorld (os : Os) : World :=
  { World.holding Tryd.prog os ⟨#[], #[], []⟩ with heap := (World.holding Tryd.prog os ⟨#[], #[], []⟩).heap.modify 0 fun
      | .cells _ t frozen => .cells (tab_0.map fun z => Value.int .u8 z).toArray t frozen
      | o => o }
theorem laid_met (os : Os) (args : Array Value) : laidMetH Tryd.prog Rows.degreeThresholdsRow.laid ((laidWorld os).forCall (fun _ _ => 0) ⟨#[], args, []⟩).memory :=
  show laidMet _ _ _ from laidMet_of_run' 8 (by kernel_rfl) (by kernel_rfl)

theorem lifted (os : Os) (started : os.Started) (H : Type) (enc : TypeId × Value → H) :
    ReturnsInHanded {} Tryd.checked os 8 .any (fun w args => (Rows.degreeThresholdsSpec.pre enc Tryd.prog Tryd.f8 Rows.degreeThresholdsRow.domain false w args ∧ laidMetH Tryd.prog Rows.degreeThresholdsRow.laid w) ∧ sizedMet enc Tryd.prog Tryd.f8 (OpenSpec.ofChange Rows.degreeThresholdsSpec) false w args) (Rows.degreeThresholdsSpec.post enc Tryd.prog Tryd.f8 false true false false) := by
  refine returnsInHanded_of_change_and (C := Tryd.checked) (X := fun w _ => laidMetH Tryd.prog Rows.degreeThresholdsRow.laid w) (fun _ _ _ hh h => h.of_heap hh) own started (by kernel_rfl) Tryd.func8
    (ChangeSpec.witness_at (enc := enc) (C := Tryd.checked) (os := os) (X := fun w _ => laidMetH Tryd.prog Rows.degreeThresholdsRow.laid w) false (laidWorld os) #[.slice none 0 0] 8 rfl (by kernel_rfl) (by kernel_rfl) (by kernel_rfl) (by kernel_rfl) (by kernel_rfl) (laid_met os _)) ?_
  intro W base args ds gs before hval hW _ _ hL _
  exact contract H enc W base args ds gs before hval hL hW

theorem over : Rows.degreeThresholdsRow.holds Tryd.pinned (OpenSpec.ofChange Rows.degreeThresholdsSpec) :=
  OpenClaim.holds_of_wide 8 Tryd.f8 rfl rfl rfl rfl rfl rfl rfl ⟨rfl, rfl, rfl, rfl, rfl⟩ rfl rfl rfl rfl rfl (by kernel_rfl) Tryd.func8 (by kernel_rfl)
    (of_decide_eq_true (by kernel_rfl)) (by unfold Func.isWrapper; first | (rw [if_pos (by decide +kernel)]; kernel_rfl) | (rw [if_neg (by decide +kernel)]; exact ⟨rfl, rfl⟩))
    (fun os started H enc _ => lifted os started H enc)

theorem proved : Rows.DegreeThresholdsCardSaid :=
  Claim7.holds_tied_plain_at .later [] [.data] true (true, "c355f0333a9584bdca7ce3327f32d818687f3f44bab680be58f3c886dd1e6174") false over (fun _ h => by cases h) (by kernel_rfl) (fun _ h => by cases h) degreeThresholds_row_tie rfl ⟨rfl, rfl⟩ (by kernel_rfl) rfl
    (fun f fn hf hfn => by
      obtain rfl : f = 8 := Option.some.inj ((show Tryd.prog.funcNamed "deliberation/deliberationlaw22.DegreeThresholds" = some 8 by kernel_rfl).symm.trans hf) |>.symm
      obtain rfl : fn = Tryd.f8 := (Option.some.inj (Tryd.func8.symm.trans hfn)).symm
      refine ⟨by kernel_rfl, fun j t ht => ?_⟩
      rw [Tryd.params8] at ht
      have hm := Array.mem_of_getElem? ht
      simp only [List.mem_toArray, List.mem_cons, List.not_mem_nil, or_false] at hm
      rcases hm with rfl
      · exact (show Tryd.prog.wantsStandIn 22 = false by kernel_rfl))
    (by kernel_rfl)
end Go.Proofs.YtmbflfngkcmfeaaDoor.degreeThresholds
