/- Part P38S.FPrecedentStands of a proof: lemmas. -/
import Derived.Test.YtcpkdjlfgfikcaaDoorRows
import Derived.Test.YtcpkdjlfgfikcaaDoorTie
import Derived.Test.YtcpkdjlfgfikcaaDoorCards
import Derived.SevenTiedAt
import Derived.Handed
import Derived.Test.YtcpkdjlfgfikcaaDoorDcBridge3
import Derived.Test.YtcpkdjlfgfikcaaDoorLAW38SA2
import Derived.Test.YtcpkdjlfgfikcaaDoorP38SLawS
namespace Go.Proofs.YtcpkdjlfgfikcaaDoor.precedentStands
open Go.ChangeShapes Go.WideShapes Go.ChangeAt Go.RowKit
open Go.Dc
set_option linter.unusedVariables false
set_option maxRecDepth 100000

theorem own : ownKnob Tryd.prog.godebug = none := by kernel_rfl
theorem gN : Tryd.prog.globalNamed "math/bits.deBruijn64tab" = some 0 := by kernel_rfl
theorem gT : (Tryd.prog.globals[0]?).map (·.type) = some 135 := by kernel_rfl
theorem ce : Tryd.prog.cellsOf 5 = 1 := by kernel_rfl
theorem ct : Tryd.prog.cellsOf 135 = 64 := by kernel_rfl

/-- what the law reads is opened, the plain law answers, and what was read stays as it was -/
theorem contract (H : Type) (enc : TypeId × Value → H) (W : World) (base : Nat) (args : Array Value) (ds gs : List (DataW H)) (before : List MemPlace)
    (hval : ∀ (j : Nat) t v, Tryd.f5.params[j]? = some t → args[j]? = some v → Value.okWide Tryd.prog W .any base t v)
    (hL : laidMetH Tryd.prog Rows.precedentStandsRow.laid W)
    (hW : DataW.Whole enc Tryd.prog Tryd.f5.params.toList Rows.precedentStandsSpec.vars false W args.toList ds gs before) :
    Calls Tryd.prog 5 args W fun e W' => ∃ v, e = .returned v ∧ Rows.precedentStandsSpec.post enc Tryd.prog Tryd.f5 false true false false W args v W' := by
  have hLt : laidMet Tryd.prog (("math/bits.deBruijn64tab", Lib.tabData .u8 tab_0) :: []) W := hL
  have hT := Lib.tabIs_of_head gN gT Tryd.underlying135 Tryd.underlying5 ce ct hLt
  have hW' := hW
  obtain ⟨p, q, hA0, hV, rfl, hfz, hnd⟩ := hW
  have hA : DataW.TrodAll enc Tryd.prog W 0 (fun _ => true) true Tryd.f5.params.toList args.toList ds p := hA0
  rw [Tryd.params5] at hA hval
  obtain ⟨v0, vs0, d0, ds0, p0, q0, hargs, rfl, rfl, h0, r0⟩ := trodAll_cons hA
  obtain ⟨rfl, rfl, rfl⟩ := trodAll_nil r0
  obtain rfl : args = #[v0] := by cases args; simp_all
  obtain ⟨x0, a0, g0⟩ := ((opens_slice Tryd.underlying22 (opens_int Tryd.underlying3) (by kernel_rfl) rfl)).val (hval 0 22 v0 rfl rfl) h0
  clear hA0
  refine (calls_trueT (W := W) (args := #[v0]) (law38_PrecedentStands_ok (law38_PrecedentStands_plain x0 g0)) (fun _ => rfl) rfl (fun o ho => by rw [List.mem_singleton.1 ho]; exact tb_of_tab hT gN (by decide)) ⟨a0, trivial⟩).mono fun e W2 ⟨he, hg⟩ => ?_
  subst he
  exact ⟨_, rfl, post_true (L := [22, 3]) hW' rfl rfl Tryd.underlying4 (by kernel_rfl) (by kernel_rfl) rfl hg⟩

/-- a world in which the table lies as it is laid -/
noncomputable def laidWorld (os : Os) : World :=
  { World.holding Tryd.prog os ⟨#[], #[], []⟩ with heap := (World.holding Tryd.prog os ⟨#[], #[], []⟩).heap.modify 0 fun
      | .cells _ t frozen => .cells (tab_0.map fun z => Value.int .u8 z).toArray t frozen
      | o => o }
theorem laid_met (os : Os) (args : Array Value) : laidMetH Tryd.prog Rows.precedentStandsRow.laid ((laidWorld os).forCall (fun _ _ => 0) ⟨#[], args, []⟩).memory :=
  show laidMet _ _ _ from laidMet_of_run' 8 (by kernel_rfl) (by kernel_rfl)

theorem lifted (os : Os) (started : os.Started) (H : Type) (enc : TypeId × Value → H) :
    ReturnsInHanded {} Tryd.checked os 5 .any (fun w args => (Rows.precedentStandsSpec.pre enc Tryd.prog Tryd.f5 Rows.precedentStandsRow.domain false w args ∧ laidMetH Tryd.prog Rows.precedentStandsRow.laid w) ∧ sizedMet enc Tryd.prog Tryd.f5 (OpenSpec.ofChange Rows.precedentStandsSpec) false w args) (Rows.precedentStandsSpec.post enc Tryd.prog Tryd.f5 false true false false) := by
  refine returnsInHanded_of_change_and (C := Tryd.checked) (X := fun w _ => laidMetH Tryd.prog Rows.precedentStandsRow.laid w) (fun _ _ _ hh h => h.of_heap hh) own started (by kernel_rfl) Tryd.func5
    (ChangeSpec.witness_at (enc := enc) (C := Tryd.checked) (os := os) (X := fun w _ => laidMetH Tryd.prog Rows.precedentStandsRow.laid w) false (laidWorld os) #[.slice none 0 0] 8 rfl (by kernel_rfl) (by kernel_rfl) (by kernel_rfl) (by kernel_rfl) (by kernel_rfl) (laid_met os _)) ?_
  intro W base args ds gs before hval hW _ _ hL _
  exact contract H enc W base args ds gs before hval hL hW

theorem over : Rows.precedentStandsRow.holds Tryd.pinned (OpenSpec.ofChange Rows.precedentStandsSpec) :=
  OpenClaim.holds_of_wide 5 Tryd.f5 rfl rfl rfl rfl rfl rfl rfl ⟨rfl, rfl, rfl, rfl, rfl⟩ rfl rfl rfl rfl rfl (by kernel_rfl) Tryd.func5 (by kernel_rfl)
    (of_decide_eq_true (by kernel_rfl)) (by unfold Func.isWrapper; first | (rw [if_pos (by decide +kernel)]; kernel_rfl) | (rw [if_neg (by decide +kernel)]; exact ⟨rfl, rfl⟩))
    (fun os started H enc _ => lifted os started H enc)

theorem proved : Rows.PrecedentStandsCardSaid :=
  Claim7.holds_tied_plain_at .later [] [.data] true (true, "fbcf47650e590a7a130d358ff483ef7448a9b3d5680bce557f9a32324f7461be") false over (fun _ h => by cases h) (by kernel_rfl) (fun _ h => by cases h) precedentStands_row_tie rfl ⟨rfl, rfl⟩ (by kernel_rfl) rfl
    (fun f fn hf hfn => by
      obtain rfl : f = 5 := Option.some.inj ((show Tryd.prog.funcNamed "deliberation/deliberationlaw38.PrecedentStands" = some 5 by kernel_rfl).symm.trans hf) |>.symm
      obtain rfl : fn = Tryd.f5 := (Option.some.inj (Tryd.func5.symm.trans hfn)).symm
      refine ⟨by kernel_rfl, fun j t ht => ?_⟩
      rw [Tryd.params5] at ht
      have hm := Array.mem_of_getElem? ht
      simp only [List.mem_toArray, List.mem_cons, List.not_mem_nil, or_false] at hm
      rcases hm with rfl
      · exact (show Tryd.prog.wantsStandIn 22 = false by kernel_rfl))
    (by kernel_rfl)
end Go.Proofs.YtcpkdjlfgfikcaaDoor.precedentStands
