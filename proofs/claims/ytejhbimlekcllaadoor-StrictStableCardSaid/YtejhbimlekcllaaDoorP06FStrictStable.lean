/- Part P06.FStrictStable of a proof: lemmas. -/
import Derived.Test.YtejhbimlekcllaaDoorRows
import Derived.Test.YtejhbimlekcllaaDoorTie
import Derived.Test.YtejhbimlekcllaaDoorCards
import Derived.SevenTiedAt
import Derived.Handed
import Derived.Test.YtejhbimlekcllaaDoorDcBridge3
import Derived.Test.YtejhbimlekcllaaDoorLAW06DA2
import Derived.Test.YtejhbimlekcllaaDoorP06LawT
namespace Go.Proofs.YtejhbimlekcllaaDoor.strictStable
open Go.ChangeShapes Go.WideShapes Go.ChangeAt Go.RowKit
open Go.Dc
set_option linter.unusedVariables false
set_option maxRecDepth 100000

theorem own : ownKnob Tryd.prog.godebug = none := by kernel_rfl

/-- what the law reads is opened, the plain law answers, and what was read stays as it was -/
theorem contract (H : Type) (enc : TypeId × Value → H) (W : World) (base : Nat) (args : Array Value) (ds gs : List (DataW H)) (before : List MemPlace)
    (hval : ∀ (j : Nat) t v, Tryd.f4.params[j]? = some t → args[j]? = some v → Value.okWide Tryd.prog W .any base t v)
    (hL : laidMetH Tryd.prog Rows.strictStableRow.laid W)
    (hW : DataW.Whole enc Tryd.prog Tryd.f4.params.toList Rows.strictStableSpec.vars false W args.toList ds gs before) :
    Calls Tryd.prog 4 args W fun e W' => ∃ v, e = .returned v ∧ Rows.strictStableSpec.post enc Tryd.prog Tryd.f4 false true false false W args v W' := by
  have hW' := hW
  obtain ⟨p, q, hA0, hV, rfl, hfz, hnd⟩ := hW
  have hA : DataW.TrodAll enc Tryd.prog W 0 (fun _ => true) true Tryd.f4.params.toList args.toList ds p := hA0
  rw [Tryd.params4] at hA hval
  obtain ⟨v0, vs0, d0, ds0, p0, q0, hargs, rfl, rfl, h0, r0⟩ := trodAll_cons hA
  obtain ⟨rfl, rfl, rfl⟩ := trodAll_nil r0
  obtain rfl : args = #[v0] := by cases args; simp_all
  obtain ⟨x0, a0, g0⟩ := ((opens_slice Tryd.underlying22 (opens_int Tryd.underlying3) (by kernel_rfl) rfl)).val (hval 0 22 v0 rfl rfl) h0
  clear hA0
  refine (calls_trueT (W := W) (args := #[v0]) (law06_StrictStable_ok (law06_StrictStable_plain x0 g0)) (fun _ => rfl) rfl (fun o ho => by cases ho) ⟨a0, trivial⟩).mono fun e W2 ⟨he, hg⟩ => ?_
  subst he
  exact ⟨_, rfl, post_true (L := [22, 3]) hW' rfl rfl Tryd.underlying4 (by kernel_rfl) (by kernel_rfl) rfl hg⟩

def litV : DataW Unit → Value
  | .lit (.int k n) => .int k n
  | _ => .bool false
def litVs : DataW Unit → Array Value
  | .agg l => (l.map litV).toArray
  | _ => #[]
def laidCells (d : DataW Unit) : Obj → Obj
  | .cells _ t frozen => .cells (litVs d) t frozen
  | o => o
/-- a world in which the tables lie as they are laid -/
noncomputable def laidWorld (os : Os) : World :=
  { World.holding Tryd.prog os ⟨#[], #[], []⟩ with heap := (World.holding Tryd.prog os ⟨#[], #[], []⟩).heap |>.modify 1 (laidCells Rows.laid_math_bits_deBruijn32tab) |>.modify 2 (laidCells Rows.laid_math_bits_deBruijn64tab) |>.modify 0 (laidCells Rows.laid_internal_strconv_uint64pow10) }
theorem laid_met (os : Os) (args : Array Value) : laidMetH Tryd.prog Rows.strictStableRow.laid ((laidWorld os).forCall (fun _ _ => 0) ⟨#[], args, []⟩).memory :=
  show laidMet _ _ _ from laidMet_of_run' 8 (by kernel_rfl) (by kernel_rfl)

theorem lifted (os : Os) (started : os.Started) (H : Type) (enc : TypeId × Value → H) :
    ReturnsInHanded {} Tryd.checked os 4 .any (fun w args => (Rows.strictStableSpec.pre enc Tryd.prog Tryd.f4 Rows.strictStableRow.domain false w args ∧ laidMetH Tryd.prog Rows.strictStableRow.laid w) ∧ sizedMet enc Tryd.prog Tryd.f4 (OpenSpec.ofChange Rows.strictStableSpec) false w args) (Rows.strictStableSpec.post enc Tryd.prog Tryd.f4 false true false false) := by
  refine returnsInHanded_of_change_and (C := Tryd.checked) (X := fun w _ => laidMetH Tryd.prog Rows.strictStableRow.laid w) (fun _ _ _ hh h => h.of_heap hh) own started (by kernel_rfl) Tryd.func4
    (ChangeSpec.witness_at (enc := enc) (C := Tryd.checked) (os := os) (X := fun w _ => laidMetH Tryd.prog Rows.strictStableRow.laid w) false (laidWorld os) #[.slice none 0 0] 8 rfl (by kernel_rfl) (by kernel_rfl) (by kernel_rfl) (by kernel_rfl) (by kernel_rfl) (laid_met os _)) ?_
  intro W base args ds gs before hval hW _ _ hL _
  exact contract H enc W base args ds gs before hval hL hW

theorem over : Rows.strictStableRow.holds Tryd.pinned (OpenSpec.ofChange Rows.strictStableSpec) :=
  OpenClaim.holds_of_wide 4 Tryd.f4 rfl rfl rfl rfl rfl rfl rfl ⟨rfl, rfl, rfl, rfl, rfl⟩ rfl rfl rfl rfl rfl (by kernel_rfl) Tryd.func4 (by kernel_rfl)
    (of_decide_eq_true (by kernel_rfl)) (by unfold Func.isWrapper; first | (rw [if_pos (by decide +kernel)]; kernel_rfl) | (rw [if_neg (by decide +kernel)]; exact ⟨rfl, rfl⟩))
    (fun os started H enc _ => lifted os started H enc)

theorem proved : Rows.StrictStableCardSaid :=
  Claim7.holds_tied_plain_at .later [] [.data, .data, .data] true (true, "6df2fd46ff3fcbf238fe7e6a5317c20c27695a5e24d650a87ea8284d67a6bb9c") false over (fun _ h => by cases h) (by kernel_rfl) (fun _ h => by cases h) strictStable_row_tie rfl ⟨rfl, rfl⟩ (by kernel_rfl) rfl
    (fun f fn hf hfn => by
      obtain rfl : f = 4 := Option.some.inj ((show Tryd.prog.funcNamed "deliberation/deliberationlaw06.StrictStable" = some 4 by kernel_rfl).symm.trans hf) |>.symm
      obtain rfl : fn = Tryd.f4 := (Option.some.inj (Tryd.func4.symm.trans hfn)).symm
      refine ⟨by kernel_rfl, fun j t ht => ?_⟩
      rw [Tryd.params4] at ht
      have hm := Array.mem_of_getElem? ht
      simp only [List.mem_toArray, List.mem_cons, List.not_mem_nil, or_false] at hm
      rcases hm with rfl
      · exact (show Tryd.prog.wantsStandIn 22 = false by kernel_rfl))
    (by kernel_rfl)
end Go.Proofs.YtejhbimlekcllaaDoor.strictStable
