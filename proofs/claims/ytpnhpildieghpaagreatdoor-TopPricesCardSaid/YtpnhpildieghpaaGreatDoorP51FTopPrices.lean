/- Part P51.FTopPrices of a proof: lemmas. -/
import Derived.Test.YtpnhpildieghpaaGreatDoorRows
import Derived.Test.YtpnhpildieghpaaGreatDoorTie
import Derived.Test.YtpnhpildieghpaaGreatDoorCards
import Derived.SevenTiedAt
import Derived.Handed
import Derived.Test.YtpnhpildieghpaaGreatDoorMRepW
import Derived.Test.YtpnhpildieghpaaGreatDoorLAWTPW
import Derived.Test.YtpnhpildieghpaaGreatDoorP51LawP
/- TopPrices: the law TopPrices answers true for every input (walk, plain law, and the card's tables as they are laid). Conditions: none beyond the statement's own. -/
namespace Go.Proofs.YtpnhpildieghpaaGreatDoor.topPrices
open Go.ChangeShapes Go.WideShapes Go.ChangeAt Go.RowKit
open Go.Dc
set_option linter.unusedVariables false
set_option maxRecDepth 100000

theorem own : ownKnob Tryz.prog.godebug = none := by kernel_rfl

/-- what the law reads is opened, the plain law answers, and what was read stays as it was -/
theorem contract (H : Type) (enc : TypeId × Value → H) (W : World) (base : Nat) (args : Array Value) (ds gs : List (DataW H)) (before : List MemPlace)
    (hval : ∀ (j : Nat) t v, Tryz.f3.params[j]? = some t → args[j]? = some v → Value.okWide Tryz.prog W .any base t v)
    (hL : laidMetH Tryz.prog Rows.topPricesRow.laid W)
    (hW : DataW.Whole enc Tryz.prog Tryz.f3.params.toList Rows.topPricesSpec.vars false W args.toList ds gs before) :
    Calls Tryz.prog 3 args W fun e W' => ∃ v, e = .returned v ∧ Rows.topPricesSpec.post enc Tryz.prog Tryz.f3 false true false false W args v W' := by
  have hl1 : laidMet Tryz.prog (("math/bits.deBruijn64tab", Lib.tabData .u8 tzInts) :: [("internal/strconv.uint64pow10", Rows.laid_internal_strconv_uint64pow10)]) W := (laidMet_tail hL)
  have hT1 := Lib.tabIs_of_head (g := 0) (by kernel_rfl) (by kernel_rfl) Tryz.underlying170 Tryz.underlying5 (by kernel_rfl) (by kernel_rfl) hl1
  have tI1 := tz_inv (tinv_tab (g := 0) hT1 (by kernel_rfl))
  have hTI : TInv (fun _ => True) W := fun x hx => by
    rcases List.mem_singleton.1 hx with rfl
    exact ⟨trivial, tI1⟩
  have hW' := hW
  obtain ⟨p, q, hA0, hV, rfl, hfz, hnd⟩ := hW
  have hA : DataW.TrodAll enc Tryz.prog W 0 (fun _ => true) true Tryz.f3.params.toList args.toList ds p := hA0
  rw [Tryz.params3] at hA hval
  obtain ⟨v0, vs0, d0, ds0, p0, q0, hargs, rfl, rfl, h0, r0⟩ := trodAll_cons hA
  obtain ⟨rfl, rfl, rfl⟩ := trodAll_nil r0
  obtain rfl : args = #[v0] := by cases args; simp_all
  obtain ⟨x0, a0, g0⟩ := ((opens_slice Tryz.underlying22 (opens_int Tryz.underlying3) (by kernel_rfl) rfl)).val (hval 0 22 v0 rfl rfl) h0
  clear hA0
  refine (calls_trueT (W := W) (args := #[v0]) (top_TopPrices_ok.ok x0 true (top_TopPrices_plain x0 g0) (fun _ => ⟨.nilIface, [], 0, rfl⟩)) (fun _ => rfl) rfl hTI (fun o ho => by cases ho) ⟨a0, trivial⟩).mono fun e W2 ⟨he, hg⟩ => ?_
  subst he
  exact ⟨_, rfl, post_true (L := [22, 3]) hW' rfl rfl Tryz.underlying4 (by kernel_rfl) (by kernel_rfl) rfl hg⟩

def litV : DataW Unit → Value
  | .lit (.int k n) => .int k n
  | _ => .bool false
def litVs : DataW Unit → Array Value
  | .agg l => (l.map litV).toArray
  | _ => #[]
def laidCells (d : DataW Unit) : Obj → Obj
  | .cells _ t frozen => .cells (litVs d) t frozen
  | o => o
/-- a world in which the tables lie as they are laid -/
noncomputable def laidWorld (os : Os) : World :=
  { World.holding Tryz.prog os ⟨#[], #[], []⟩ with heap := (World.holding Tryz.prog os ⟨#[], #[], []⟩).heap |>.modify 2 (laidCells Rows.laid_math_bits_deBruijn32tab) |>.modify 0 (laidCells Rows.laid_math_bits_deBruijn64tab) |>.modify 1 (laidCells Rows.laid_internal_strconv_uint64pow10) }
theorem laid_met (os : Os) (args : Array Value) : laidMetH Tryz.prog Rows.topPricesRow.laid ((laidWorld os).forCall (fun _ _ => 0) ⟨#[], args, []⟩).memory :=
  show laidMet _ _ _ from laidMet_of_run' 8 (by kernel_rfl) (by kernel_rfl)

theorem lifted (os : Os) (started : os.Started) (H : Type) (enc : TypeId × Value → H) :
    ReturnsInHanded {} Tryz.checked os 3 .any (fun w args => (Rows.topPricesSpec.pre enc Tryz.prog Tryz.f3 Rows.topPricesRow.domain false w args ∧ laidMetH Tryz.prog Rows.topPricesRow.laid w) ∧ sizedMet enc Tryz.prog Tryz.f3 (OpenSpec.ofChange Rows.topPricesSpec) false w args) (Rows.topPricesSpec.post enc Tryz.prog Tryz.f3 false true false false) := by
  refine returnsInHanded_of_change_and (C := Tryz.checked) (X := fun w _ => laidMetH Tryz.prog Rows.topPricesRow.laid w) (fun _ _ _ hh h => h.of_heap hh) own started (by kernel_rfl) Tryz.func3
    (ChangeSpec.witness_at (enc := enc) (C := Tryz.checked) (os := os) (X := fun w _ => laidMetH Tryz.prog Rows.topPricesRow.laid w) false (laidWorld os) #[.slice none 0 0] 8 rfl (by kernel_rfl) (by kernel_rfl) (by kernel_rfl) (by kernel_rfl) (by kernel_rfl) (laid_met os _)) ?_
  intro W base args ds gs before hval hW _ _ hL _
  exact contract H enc W base args ds gs before hval hL hW

theorem over : Rows.topPricesRow.holds Tryz.pinned (OpenSpec.ofChange Rows.topPricesSpec) :=
  OpenClaim.holds_of_wide 3 Tryz.f3 rfl rfl rfl rfl rfl rfl rfl ⟨rfl, rfl, rfl, rfl, rfl⟩ rfl rfl rfl rfl rfl (by kernel_rfl) Tryz.func3 (by kernel_rfl)
    (of_decide_eq_true (by kernel_rfl)) (by unfold Func.isWrapper; first | (rw [if_pos (by decide +kernel)]; kernel_rfl) | (rw [if_neg (by decide +kernel)]; exact ⟨rfl, rfl⟩))
    (fun os started H enc _ => lifted os started H enc)

theorem proved : Rows.TopPricesCardSaid :=
  Claim7.holds_tied_plain_at .later [] [.data, .data, .data] true (true, "d531e1076a0ec7441128cee49662f1a3fbd81fa4bed447739710725f06f306e0") false over (fun _ h => by cases h) (by kernel_rfl) (fun _ h => by cases h) topPrices_row_tie rfl ⟨rfl, rfl⟩ (by kernel_rfl) rfl
    (fun f fn hf hfn => by
      obtain rfl : f = 3 := Option.some.inj ((show Tryz.prog.funcNamed "deliberation/deliberationtop.TopPrices" = some 3 by kernel_rfl).symm.trans hf) |>.symm
      obtain rfl : fn = Tryz.f3 := (Option.some.inj (Tryz.func3.symm.trans hfn)).symm
      refine ⟨by kernel_rfl, fun j t ht => ?_⟩
      rw [Tryz.params3] at ht
      have hm := Array.mem_of_getElem? ht
      simp only [List.mem_toArray, List.mem_cons, List.not_mem_nil, or_false] at hm
      rcases hm with rfl
      · exact (show Tryz.prog.wantsStandIn 22 = false by kernel_rfl))
    (by kernel_rfl)
end Go.Proofs.YtpnhpildieghpaaGreatDoor.topPrices
