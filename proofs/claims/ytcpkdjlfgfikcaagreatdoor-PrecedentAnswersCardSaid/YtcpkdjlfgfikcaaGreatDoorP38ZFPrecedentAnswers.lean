/- Part P38Z.FPrecedentAnswers of a proof: lemmas. -/
import Derived.Test.YtcpkdjlfgfikcaaGreatDoorRows
import Derived.Test.YtcpkdjlfgfikcaaGreatDoorTie
import Derived.Test.YtcpkdjlfgfikcaaGreatDoorCards
import Derived.SevenTiedAt
import Derived.Handed
import Derived.Test.YtcpkdjlfgfikcaaGreatDoorDcBridge4
import Derived.Test.YtcpkdjlfgfikcaaGreatDoorLAW38ZA3
import Derived.Test.YtcpkdjlfgfikcaaGreatDoorP38ZAns
namespace Go.Proofs.YtcpkdjlfgfikcaaGreatDoor.precedentAnswers
open Go.ChangeShapes Go.WideShapes Go.ChangeAt Go.RowKit
open Go.Dc
set_option linter.unusedVariables false
set_option maxRecDepth 100000

theorem own : ownKnob Tryz.prog.godebug = none := by kernel_rfl
theorem gN : Tryz.prog.globalNamed "math/bits.deBruijn64tab" = some 0 := by kernel_rfl
theorem gT : (Tryz.prog.globals[0]?).map (·.type) = some 142 := by kernel_rfl
theorem ce : Tryz.prog.cellsOf 5 = 1 := by kernel_rfl
theorem ct : Tryz.prog.cellsOf 142 = 64 := by kernel_rfl

/-- what the law reads is opened, the plain law answers, and what was read stays as it was -/
theorem contract (H : Type) (enc : TypeId × Value → H) (W : World) (base : Nat) (args : Array Value) (ds gs : List (DataW H)) (before : List MemPlace)
    (hval : ∀ (j : Nat) t v, Tryz.f3.params[j]? = some t → args[j]? = some v → Value.okWide Tryz.prog W .any base t v)
    (hL : laidMetH Tryz.prog Rows.precedentAnswersRow.laid W)
    (hsz : (DataW.weightsEach Tryz.prog (Tryz.f3.params.toList ++ Rows.precedentAnswersSpec.plain.varTypes Tryz.prog) (ds ++ gs)).all (· ≤ reachBytes) = true)
    (hW : DataW.Whole enc Tryz.prog Tryz.f3.params.toList Rows.precedentAnswersSpec.vars false W args.toList ds gs before) :
    Calls Tryz.prog 3 args W fun e W' => ∃ v, e = .returned v ∧ Rows.precedentAnswersSpec.post enc Tryz.prog Tryz.f3 false true false false W args v W' := by
  have hLt : laidMet Tryz.prog (("math/bits.deBruijn64tab", Lib.tabData .u8 tab_0) :: []) W := hL
  have hT := Lib.tabIs_of_head gN gT Tryz.underlying142 Tryz.underlying5 ce ct hLt
  have hW' := hW
  obtain ⟨p, q, hA0, hV, rfl, hfz, hnd⟩ := hW
  have hA : DataW.TrodAll enc Tryz.prog W 0 (fun _ => true) true Tryz.f3.params.toList args.toList ds p := hA0
  rw [Tryz.params3] at hA hval hsz
  obtain ⟨v0, vs0, d0, ds0, p0, q0, hargs, rfl, rfl, h0, r0⟩ := trodAll_cons hA
  obtain ⟨v1, vs1, d1, ds1, p1, q1, rfl, rfl, rfl, h1, r1⟩ := trodAll_cons r0
  obtain ⟨v2, vs2, d2, ds2, p2, q2, rfl, rfl, rfl, h2, r2⟩ := trodAll_cons r1
  obtain ⟨v3, vs3, d3, ds3, p3, q3, rfl, rfl, rfl, h3, r3⟩ := trodAll_cons r2
  obtain ⟨rfl, rfl, rfl⟩ := trodAll_nil r3
  obtain rfl : args = #[v0, v1, v2, v3] := by cases args; simp_all
  obtain ⟨x0, a0, g0⟩ := ((opensW_st2 (g0 := T_Lib.Sides) (g1 := T_Lib.Cases) T_Lib.mk Tryz.underlying26 ((opensW_arr2 (g0 := T_arr2_22.i0) (g1 := T_arr2_22.i1) T_arr2_22.mk Tryz.underlying23 ((opensW_slice (k := 16) Tryz.underlying22 ((opens_string Tryz.underlying9).w) (by kernel_rfl) rfl (by kernel_rfl))) (by kernel_rfl) (fun _ _ => rfl) (fun _ _ => rfl) (by kernel_rfl))) ((opensW_slice (k := 72) Tryz.underlying24 ((opensW_st4 (g0 := T_Cas.Name) (g1 := T_Cas.Facts) (g2 := T_Cas.Winner) (g3 := T_Cas.Reason) T_Cas.mk Tryz.underlying60 ((opens_string Tryz.underlying9).w) ((opensW_slice (k := 16) Tryz.underlying22 ((opens_string Tryz.underlying9).w) (by kernel_rfl) rfl (by kernel_rfl))) ((opens_int Tryz.underlying3).w) ((opensW_slice (k := 16) Tryz.underlying22 ((opens_string Tryz.underlying9).w) (by kernel_rfl) rfl (by kernel_rfl))) (by kernel_rfl) (by kernel_rfl) (by kernel_rfl) (by kernel_rfl) (by kernel_rfl) (by kernel_rfl) (by kernel_rfl) (by kernel_rfl) (fun _ _ _ _ => rfl) (fun _ _ _ _ => rfl) (fun _ _ _ _ => rfl) (fun _ _ _ _ => rfl) (by kernel_rfl))) (by kernel_rfl) rfl (by kernel_rfl))) (by kernel_rfl) (by kernel_rfl) (by kernel_rfl) (by kernel_rfl) (fun _ _ => rfl) (fun _ _ => rfl) (by kernel_rfl))).val (hval 0 26 v0 rfl rfl) h0 (light_of hsz (i := 0) rfl rfl)
  obtain ⟨x1, a1, g1⟩ := ((opensW_slice (k := 16) Tryz.underlying22 ((opens_string Tryz.underlying9).w) (by kernel_rfl) rfl (by kernel_rfl))).val (hval 1 22 v1 rfl rfl) h1 (light_of hsz (i := 1) rfl rfl)
  obtain ⟨x2, a2, g2⟩ := ((opensW_slice (k := 8) Tryz.underlying27 ((opens_int Tryz.underlying3).w) (by kernel_rfl) rfl (by kernel_rfl))).val (hval 2 27 v2 rfl rfl) h2 (light_of hsz (i := 2) rfl rfl)
  obtain ⟨x3, a3, g3⟩ := ((opens_int Tryz.underlying3).w).val (hval 3 3 v3 rfl rfl) h3 (light_of hsz (i := 3) rfl rfl)
  clear hA0
  refine (calls_trueT (W := W) (args := #[v0, v1, v2, v3]) (law38_PA_ok (law38_PA_plain x0 x1 x2 x3 g0 g1 g2 g3)) (fun _ => rfl) rfl (fun o ho => by rw [List.mem_singleton.1 ho]; exact tb_of_tab hT gN (by decide)) ⟨a0, a1, a2, a3, trivial⟩).mono fun e W2 ⟨he, hg⟩ => ?_
  subst he
  exact ⟨_, rfl, post_true (L := [26, 23, 22, 9, 24, 60, 3, 27]) hW' rfl rfl Tryz.underlying4 (by kernel_rfl) (by kernel_rfl) rfl hg⟩

/-- a world in which the table lies as it is laid -/
noncomputable def laidWorld (os : Os) : World :=
  { World.holding Tryz.prog os ⟨#[], #[], []⟩ with heap := (World.holding Tryz.prog os ⟨#[], #[], []⟩).heap.modify 0 fun
      | .cells _ t frozen => .cells (tab_0.map fun z => Value.int .u8 z).toArray t frozen
      | o => o }
theorem laid_met (os : Os) (args : Array Value) : laidMetH Tryz.prog Rows.precedentAnswersRow.laid ((laidWorld os).forCall (fun _ _ => 0) ⟨#[], args, []⟩).memory :=
  show laidMet _ _ _ from laidMet_of_run' 8 (by kernel_rfl) (by kernel_rfl)

theorem lifted (os : Os) (started : os.Started) (H : Type) (enc : TypeId × Value → H) :
    ReturnsInHanded {} Tryz.checked os 3 .any (fun w args => (Rows.precedentAnswersSpec.pre enc Tryz.prog Tryz.f3 Rows.precedentAnswersRow.domain false w args ∧ laidMetH Tryz.prog Rows.precedentAnswersRow.laid w) ∧ sizedMet enc Tryz.prog Tryz.f3 (OpenSpec.ofChange Rows.precedentAnswersSpec) false w args) (Rows.precedentAnswersSpec.post enc Tryz.prog Tryz.f3 false true false false) := by
  refine returnsInHanded_of_change_and (C := Tryz.checked) (X := fun w _ => laidMetH Tryz.prog Rows.precedentAnswersRow.laid w) (fun _ _ _ hh h => h.of_heap hh) own started (by kernel_rfl) Tryz.func3
    (ChangeSpec.witness_at (enc := enc) (C := Tryz.checked) (os := os) (X := fun w _ => laidMetH Tryz.prog Rows.precedentAnswersRow.laid w) false (laidWorld os) #[.agg #[.slice none 0 0, .slice none 0 0, .slice none 0 0], .slice none 0 0, .slice none 0 0, .int .i64 0] 8 rfl (by kernel_rfl) (by kernel_rfl) (by kernel_rfl) (by kernel_rfl) (by kernel_rfl) (laid_met os _)) ?_
  intro W base args ds gs before hval hW _ hsz hL _
  exact contract H enc W base args ds gs before hval hL hsz hW

theorem over : Rows.precedentAnswersRow.holds Tryz.pinned (OpenSpec.ofChange Rows.precedentAnswersSpec) :=
  OpenClaim.holds_of_wide 3 Tryz.f3 rfl rfl rfl rfl rfl rfl rfl ⟨rfl, rfl, rfl, rfl, rfl⟩ rfl rfl rfl rfl rfl (by kernel_rfl) Tryz.func3 (by kernel_rfl)
    (of_decide_eq_true (by kernel_rfl)) (by unfold Func.isWrapper; first | (rw [if_pos (by decide +kernel)]; kernel_rfl) | (rw [if_neg (by decide +kernel)]; exact ⟨rfl, rfl⟩))
    (fun os started H enc _ => lifted os started H enc)

theorem proved : Rows.PrecedentAnswersCardSaid :=
  Claim7.holds_tied_plain_at .later [] [.data] true (true, "84d534e9e365bc218972eeddb425d84ac94619526c4ffa587e778a4e69101983") false over (fun _ h => by cases h) (by kernel_rfl) (fun _ h => by cases h) precedentAnswers_row_tie rfl ⟨rfl, rfl⟩ (by kernel_rfl) rfl
    (fun f fn hf hfn => by
      obtain rfl : f = 3 := Option.some.inj ((show Tryz.prog.funcNamed "deliberation/deliberationlaw38.PrecedentAnswers" = some 3 by kernel_rfl).symm.trans hf) |>.symm
      obtain rfl : fn = Tryz.f3 := (Option.some.inj (Tryz.func3.symm.trans hfn)).symm
      refine ⟨by kernel_rfl, fun j t ht => ?_⟩
      rw [Tryz.params3] at ht
      have hm := Array.mem_of_getElem? ht
      simp only [List.mem_toArray, List.mem_cons, List.not_mem_nil, or_false] at hm
      rcases hm with rfl | rfl | rfl | rfl
      · exact (show Tryz.prog.wantsStandIn 26 = false by kernel_rfl)
      · exact (show Tryz.prog.wantsStandIn 22 = false by kernel_rfl)
      · exact (show Tryz.prog.wantsStandIn 27 = false by kernel_rfl)
      · exact (show Tryz.prog.wantsStandIn 3 = false by kernel_rfl))
    (by kernel_rfl)
end Go.Proofs.YtcpkdjlfgfikcaaGreatDoor.precedentAnswers
