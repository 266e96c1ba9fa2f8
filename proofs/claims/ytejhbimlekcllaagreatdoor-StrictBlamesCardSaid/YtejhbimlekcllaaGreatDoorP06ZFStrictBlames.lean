/- Part P06Z.FStrictBlames of a proof: lemmas. -/
import Derived.Test.YtejhbimlekcllaaGreatDoorRows
import Derived.Test.YtejhbimlekcllaaGreatDoorTie
import Derived.Test.YtejhbimlekcllaaGreatDoorCards
import Derived.SevenTiedAt
import Derived.Handed
import Derived.Test.YtejhbimlekcllaaGreatDoorDcBridge3
import Derived.Test.YtejhbimlekcllaaGreatDoorLAW06ZDA3
import Derived.Test.YtejhbimlekcllaaGreatDoorP06ZLawB
namespace Go.Proofs.YtejhbimlekcllaaGreatDoor.strictBlames
open Go.ChangeShapes Go.WideShapes Go.ChangeAt Go.RowKit
open Go.Dc
set_option linter.unusedVariables false
set_option maxRecDepth 100000

theorem own : ownKnob Tryz.prog.godebug = none := by kernel_rfl

/-- what the law reads is opened, the plain law answers, and what was read stays as it was -/
theorem contract (H : Type) (enc : TypeId × Value → H) (W : World) (base : Nat) (args : Array Value) (ds gs : List (DataW H)) (before : List MemPlace)
    (hval : ∀ (j : Nat) t v, Tryz.f6.params[j]? = some t → args[j]? = some v → Value.okWide Tryz.prog W .any base t v)
    (hL : laidMetH Tryz.prog Rows.strictBlamesRow.laid W)
    (hW : DataW.Whole enc Tryz.prog Tryz.f6.params.toList Rows.strictBlamesSpec.vars false W args.toList ds gs before) :
    Calls Tryz.prog 6 args W fun e W' => ∃ v, e = .returned v ∧ Rows.strictBlamesSpec.post enc Tryz.prog Tryz.f6 false true false false W args v W' := by
  have hW' := hW
  obtain ⟨p, q, hA0, hV, rfl, hfz, hnd⟩ := hW
  have hA : DataW.TrodAll enc Tryz.prog W 0 (fun _ => true) true Tryz.f6.params.toList args.toList ds p := hA0
  rw [Tryz.params6] at hA hval
  obtain ⟨v0, vs0, d0, ds0, p0, q0, hargs, rfl, rfl, h0, r0⟩ := trodAll_cons hA
  obtain ⟨rfl, rfl, rfl⟩ := trodAll_nil r0
  obtain rfl : args = #[v0] := by cases args; simp_all
  obtain ⟨x0, a0, g0⟩ := ((opens_slice Tryz.underlying30 (opens_int Tryz.underlying3) (by kernel_rfl) rfl)).val (hval 0 30 v0 rfl rfl) h0
  clear hA0
  refine (calls_trueT (W := W) (args := #[v0]) (law06_StrictBlames_ok (law06_StrictBlames_plain x0 g0)) (fun _ => rfl) rfl (fun o ho => by cases ho) ⟨a0, trivial⟩).mono fun e W2 ⟨he, hg⟩ => ?_
  subst he
  exact ⟨_, rfl, post_true (L := [30, 3]) hW' rfl rfl Tryz.underlying4 (by kernel_rfl) (by kernel_rfl) rfl hg⟩

def litV : DataW Unit → Value
  | .lit (.int k n) => .int k n
  | _ => .bool false
def litVs : DataW Unit → Array Value
  | .agg l => (l.map litV).toArray
  | _ => #[]
def laidCells (d : DataW Unit) : Obj → Obj
  | .cells _ t frozen => .cells (litVs d) t frozen
  | o => o
/-- a world in which the tables lie as they are laid -/
noncomputable def laidWorld (os : Os) : World :=
  { World.holding Tryz.prog os ⟨#[], #[], []⟩ with heap := (World.holding Tryz.prog os ⟨#[], #[], []⟩).heap |>.modify 1 (laidCells Rows.laid_math_bits_deBruijn32tab) |>.modify 2 (laidCells Rows.laid_math_bits_deBruijn64tab) |>.modify 0 (laidCells Rows.laid_internal_strconv_uint64pow10) }
theorem laid_met (os : Os) (args : Array Value) : laidMetH Tryz.prog Rows.strictBlamesRow.laid ((laidWorld os).forCall (fun _ _ => 0) ⟨#[], args, []⟩).memory :=
  show laidMet _ _ _ from laidMet_of_run' 8 (by kernel_rfl) (by kernel_rfl)

theorem lifted (os : Os) (started : os.Started) (H : Type) (enc : TypeId × Value → H) :
    ReturnsInHanded {} Tryz.checked os 6 .any (fun w args => (Rows.strictBlamesSpec.pre enc Tryz.prog Tryz.f6 Rows.strictBlamesRow.domain false w args ∧ laidMetH Tryz.prog Rows.strictBlamesRow.laid w) ∧ sizedMet enc Tryz.prog Tryz.f6 (OpenSpec.ofChange Rows.strictBlamesSpec) false w args) (Rows.strictBlamesSpec.post enc Tryz.prog Tryz.f6 false true false false) := by
  refine returnsInHanded_of_change_and (C := Tryz.checked) (X := fun w _ => laidMetH Tryz.prog Rows.strictBlamesRow.laid w) (fun _ _ _ hh h => h.of_heap hh) own started (by kernel_rfl) Tryz.func6
    (ChangeSpec.witness_at (enc := enc) (C := Tryz.checked) (os := os) (X := fun w _ => laidMetH Tryz.prog Rows.strictBlamesRow.laid w) false (laidWorld os) #[.slice none 0 0] 8 rfl (by kernel_rfl) (by kernel_rfl) (by kernel_rfl) (by kernel_rfl) (by kernel_rfl) (laid_met os _)) ?_
  intro W base args ds gs before hval hW _ _ hL _
  exact contract H enc W base args ds gs before hval hL hW

theorem over : Rows.strictBlamesRow.holds Tryz.pinned (OpenSpec.ofChange Rows.strictBlamesSpec) :=
  OpenClaim.holds_of_wide 6 Tryz.f6 rfl rfl rfl rfl rfl rfl rfl ⟨rfl, rfl, rfl, rfl, rfl⟩ rfl rfl rfl rfl rfl (by kernel_rfl) Tryz.func6 (by kernel_rfl)
    (of_decide_eq_true (by kernel_rfl)) (by unfold Func.isWrapper; first | (rw [if_pos (by decide +kernel)]; kernel_rfl) | (rw [if_neg (by decide +kernel)]; exact ⟨rfl, rfl⟩))
    (fun os started H enc _ => lifted os started H enc)

theorem proved : Rows.StrictBlamesCardSaid :=
  Claim7.holds_tied_plain_at .later [] [.data, .data, .data] true (true, "77b95f3a5898131a793920ff4f197028026d182e4e3a3b1d322bc3552cf222bb") false over (fun _ h => by cases h) (by kernel_rfl) (fun _ h => by cases h) strictBlames_row_tie rfl ⟨rfl, rfl⟩ (by kernel_rfl) rfl
    (fun f fn hf hfn => by
      obtain rfl : f = 6 := Option.some.inj ((show Tryz.prog.funcNamed "deliberation/deliberationlaw06.StrictBlames" = some 6 by kernel_rfl).symm.trans hf) |>.symm
      obtain rfl : fn = Tryz.f6 := (Option.some.inj (Tryz.func6.symm.trans hfn)).symm
      refine ⟨by kernel_rfl, fun j t ht => ?_⟩
      rw [Tryz.params6] at ht
      have hm := Array.mem_of_getElem? ht
      simp only [List.mem_toArray, List.mem_cons, List.not_mem_nil, or_false] at hm
      rcases hm with rfl
      · exact (show Tryz.prog.wantsStandIn 30 = false by kernel_rfl))
    (by kernel_rfl)
end Go.Proofs.YtejhbimlekcllaaGreatDoor.strictBlames
