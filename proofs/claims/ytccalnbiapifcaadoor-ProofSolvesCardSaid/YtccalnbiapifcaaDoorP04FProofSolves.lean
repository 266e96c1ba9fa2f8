/- Part P04.FProofSolves of a proof: lemmas. -/
import Derived.Test.YtccalnbiapifcaaDoorRows
import Derived.Test.YtccalnbiapifcaaDoorTie
import Derived.Test.YtccalnbiapifcaaDoorCards
import Derived.SevenTiedAt
import Derived.Handed
import Derived.Test.YtccalnbiapifcaaDoorDcCpt
import Derived.Test.YtccalnbiapifcaaDoorLAW04W
import Derived.Test.YtccalnbiapifcaaDoorP04LawS
/- ProofSolves: the law ProofSolves answers true for every input (walk, plain law, and the card's tables as they are laid). Conditions: none beyond the statement's own. -/
namespace Go.Proofs.YtccalnbiapifcaaDoor.proofSolves
open Go.ChangeShapes Go.WideShapes Go.ChangeAt Go.RowKit
open Go.Dc
set_option linter.unusedVariables false
set_option maxRecDepth 100000

theorem own : ownKnob Tryd.prog.godebug = none := by kernel_rfl

/-- what the law reads is opened, the plain law answers, and what was read stays as it was -/
theorem contract (H : Type) (enc : TypeId × Value → H) (W : World) (base : Nat) (args : Array Value) (ds gs : List (DataW H)) (before : List MemPlace)
    (hval : ∀ (j : Nat) t v, Tryd.f6.params[j]? = some t → args[j]? = some v → Value.okWide Tryd.prog W .any base t v)
    (hL : laidMetH Tryd.prog Rows.proofSolvesRow.laid W)
    (hW : DataW.Whole enc Tryd.prog Tryd.f6.params.toList Rows.proofSolvesSpec.vars false W args.toList ds gs before) :
    Calls Tryd.prog 6 args W fun e W' => ∃ v, e = .returned v ∧ Rows.proofSolvesSpec.post enc Tryd.prog Tryd.f6 false true false false W args v W' := by
  have hl2 : laidMet Tryd.prog (("internal/strconv.uint64pow10", Lib.tabData .u64 Lib.pow10Tab) :: []) W := (laidMet_tail (laidMet_tail hL))
  have hT2 := Lib.tabIs_of_head (g := 0) (by kernel_rfl) (by kernel_rfl) Tryd.underlying127 Tryd.underlying94 (by kernel_rfl) (by kernel_rfl) hl2
  have tI2 := tinv_tab (g := 0) hT2 (by kernel_rfl)
  have hTI : TInv (fun _ => True) W := fun x hx => by
    rcases List.mem_singleton.1 hx with rfl
    exact ⟨trivial, tI2⟩
  have hW' := hW
  obtain ⟨p, q, hA0, hV, rfl, hfz, hnd⟩ := hW
  have hA : DataW.TrodAll enc Tryd.prog W 0 (fun _ => true) true Tryd.f6.params.toList args.toList ds p := hA0
  rw [Tryd.params6] at hA hval
  obtain ⟨v0, vs0, d0, ds0, p0, q0, hargs, rfl, rfl, h0, r0⟩ := trodAll_cons hA
  obtain ⟨v1, vs1, d1, ds1, p1, q1, rfl, rfl, rfl, h1, r1⟩ := trodAll_cons r0
  obtain ⟨v2, vs2, d2, ds2, p2, q2, rfl, rfl, rfl, h2, r2⟩ := trodAll_cons r1
  obtain ⟨rfl, rfl, rfl⟩ := trodAll_nil r2
  obtain rfl : args = #[v0, v1, v2] := by cases args; simp_all
  obtain ⟨x0, a0, g0⟩ := (opens_int Tryd.underlying3).val (hval 0 3 v0 rfl rfl) h0
  obtain ⟨x1, a1, g1⟩ := ((opens_slice Tryd.underlying22 ((opens_slice Tryd.underlying23 (opens_int Tryd.underlying3) (by kernel_rfl) rfl)) (by kernel_rfl) rfl)).val (hval 1 22 v1 rfl rfl) h1
  obtain ⟨x2, a2, g2⟩ := ((opens_slice Tryd.underlying23 (opens_int Tryd.underlying3) (by kernel_rfl) rfl)).val (hval 2 23 v2 rfl rfl) h2
  clear hA0
  refine (calls_trueT (W := W) (args := #[v0, v1, v2]) (law04_ProofSolves_ok.ok (x0, x1, x2) true (law04_ProofSolves_plain x0 x1 x2 g0 g1 g2) (fun _ => ⟨.nilIface, [], 0, rfl⟩)) (fun _ => rfl) rfl hTI (fun o ho => by cases ho) ⟨a0, a1, a2, trivial⟩).mono fun e W2 ⟨he, hg⟩ => ?_
  subst he
  exact ⟨_, rfl, post_true (L := [3, 22, 23]) hW' rfl rfl Tryd.underlying4 (by kernel_rfl) (by kernel_rfl) rfl hg⟩

def litV : DataW Unit → Value
  | .lit (.int k n) => .int k n
  | _ => .bool false
def litVs : DataW Unit → Array Value
  | .agg l => (l.map litV).toArray
  | _ => #[]
def laidCells (d : DataW Unit) : Obj → Obj
  | .cells _ t frozen => .cells (litVs d) t frozen
  | o => o
/-- a world in which the tables lie as they are laid -/
noncomputable def laidWorld (os : Os) : World :=
  { World.holding Tryd.prog os ⟨#[], #[], []⟩ with heap := (World.holding Tryd.prog os ⟨#[], #[], []⟩).heap |>.modify 1 (laidCells Rows.laid_math_bits_deBruijn32tab) |>.modify 2 (laidCells Rows.laid_math_bits_deBruijn64tab) |>.modify 0 (laidCells Rows.laid_internal_strconv_uint64pow10) }
theorem laid_met (os : Os) (args : Array Value) : laidMetH Tryd.prog Rows.proofSolvesRow.laid ((laidWorld os).forCall (fun _ _ => 0) ⟨#[], args, []⟩).memory :=
  show laidMet _ _ _ from laidMet_of_run' 8 (by kernel_rfl) (by kernel_rfl)

theorem lifted (os : Os) (started : os.Started) (H : Type) (enc : TypeId × Value → H) :
    ReturnsInHanded {} Tryd.checked os 6 .any (fun w args => (Rows.proofSolvesSpec.pre enc Tryd.prog Tryd.f6 Rows.proofSolvesRow.domain false w args ∧ laidMetH Tryd.prog Rows.proofSolvesRow.laid w) ∧ sizedMet enc Tryd.prog Tryd.f6 (OpenSpec.ofChange Rows.proofSolvesSpec) false w args) (Rows.proofSolvesSpec.post enc Tryd.prog Tryd.f6 false true false false) := by
  refine returnsInHanded_of_change_and (C := Tryd.checked) (X := fun w _ => laidMetH Tryd.prog Rows.proofSolvesRow.laid w) (fun _ _ _ hh h => h.of_heap hh) own started (by kernel_rfl) Tryd.func6
    (ChangeSpec.witness_at (enc := enc) (C := Tryd.checked) (os := os) (X := fun w _ => laidMetH Tryd.prog Rows.proofSolvesRow.laid w) false (laidWorld os) #[.int .i64 0, .slice none 0 0, .slice none 0 0] 8 rfl (by kernel_rfl) (by kernel_rfl) (by kernel_rfl) (by kernel_rfl) (by kernel_rfl) (laid_met os _)) ?_
  intro W base args ds gs before hval hW _ _ hL _
  exact contract H enc W base args ds gs before hval hL hW

theorem over : Rows.proofSolvesRow.holds Tryd.pinned (OpenSpec.ofChange Rows.proofSolvesSpec) :=
  OpenClaim.holds_of_wide 6 Tryd.f6 rfl rfl rfl rfl rfl rfl rfl ⟨rfl, rfl, rfl, rfl, rfl⟩ rfl rfl rfl rfl rfl (by kernel_rfl) Tryd.func6 (by kernel_rfl)
    (of_decide_eq_true (by kernel_rfl)) (by unfold Func.isWrapper; first | (rw [if_pos (by decide +kernel)]; kernel_rfl) | (rw [if_neg (by decide +kernel)]; exact ⟨rfl, rfl⟩))
    (fun os started H enc _ => lifted os started H enc)

theorem proved : Rows.ProofSolvesCardSaid :=
  Claim7.holds_tied_plain_at .later [] [.data, .data, .data] true (true, "49b5999b3f7fa94571b5c90419b352b8444f176624cb3d42c0999762a8382a5b") false over (fun _ h => by cases h) (by kernel_rfl) (fun _ h => by cases h) proofSolves_row_tie rfl ⟨rfl, rfl⟩ (by kernel_rfl) rfl
    (fun f fn hf hfn => by
      obtain rfl : f = 6 := Option.some.inj ((show Tryd.prog.funcNamed "deliberation/deliberationlaw04.ProofSolves" = some 6 by kernel_rfl).symm.trans hf) |>.symm
      obtain rfl : fn = Tryd.f6 := (Option.some.inj (Tryd.func6.symm.trans hfn)).symm
      refine ⟨by kernel_rfl, fun j t ht => ?_⟩
      rw [Tryd.params6] at ht
      have hm := Array.mem_of_getElem? ht
      simp only [List.mem_toArray, List.mem_cons, List.not_mem_nil, or_false] at hm
      rcases hm with rfl | rfl | rfl
      · exact (show Tryd.prog.wantsStandIn 3 = false by kernel_rfl)
      · exact (show Tryd.prog.wantsStandIn 22 = false by kernel_rfl)
      · exact (show Tryd.prog.wantsStandIn 23 = false by kernel_rfl))
    (by kernel_rfl)
end Go.Proofs.YtccalnbiapifcaaDoor.proofSolves
