/- Part P52.FTopEnforced of a proof: lemmas. -/
import Derived.Test.YtkkgghdjclkknaaGreatDoorRows
import Derived.Test.YtkkgghdjclkknaaGreatDoorTie
import Derived.Test.YtkkgghdjclkknaaGreatDoorCards
import Derived.SevenTiedAt
import Derived.Handed
import Derived.Conc.Holds
import Derived.Leaving
import Derived.Test.YtkkgghdjclkknaaGreatDoorMBridgeM
import Derived.Test.YtkkgghdjclkknaaGreatDoorLAWTEW
import Derived.Test.YtkkgghdjclkknaaGreatDoorP52Enf13
/- TopEnforced: the law TopEnforced answers true for every input (walk, plain law, and the card's tables as they are laid). Conditions: none beyond the statement's own. -/
namespace Go.Proofs.YtkkgghdjclkknaaGreatDoor.topEnforced
open Go.ChangeShapes Go.WideShapes Go.ChangeAt Go.RowKit
open Go.Dc
set_option linter.unusedVariables false
set_option maxRecDepth 100000
theorem own : ownKnob Tryz.prog.godebug = none := by kernel_rfl
/-- what the law reads is opened, the plain law answers, and what was read stays as it was -/
theorem contract (H : Type) (enc : TypeId × Value → H) (W : World) (base : Nat) (args : Array Value) (ds gs : List (DataW H)) (before : List MemPlace)
  (hval : ∀ (j : Nat) t v, Tryz.f3.params[j]? = some t → args[j]? = some v → Value.okWide Tryz.prog W .any base t v)
  (hL : laidMetH Tryz.prog Rows.topEnforcedRow.laid W)
  (hW : DataW.Whole enc Tryz.prog Tryz.f3.params.toList Rows.topEnforcedSpec.vars false W args.toList ds gs before) :
  Calls Tryz.prog 3 args W fun e W' => ∃ v, e = .returned v ∧ Rows.topEnforcedSpec.post enc Tryz.prog Tryz.f3 false true false false W args v W' := by
 have hl1 : laidMet Tryz.prog (("math/bits.deBruijn64tab", Lib.tabData .u8 Tl) :: [("internal/strconv.uint64pow10", Rows.laid_internal_strconv_uint64pow10)]) W := (B5 hL)
 have hT1 := Lib.tabIs_of_head (g := 0) (by kernel_rfl) (by kernel_rfl) Tryz.underlying209 Tryz.underlying5 (by kernel_rfl) (by kernel_rfl) hl1
 have tI1 := tz_inv (Rf (g := 0) hT1 (by kernel_rfl))
 have hl2 : laidMet Tryz.prog (("internal/strconv.uint64pow10", Lib.tabData .u64 Lib.pow10Tab) :: []) W := (B5 (B5 hL))
 have hT2 := Lib.tabIs_of_head (g := 1) (by kernel_rfl) (by kernel_rfl) Tryz.underlying289 Tryz.underlying83 (by kernel_rfl) (by kernel_rfl) hl2
 have tI2 := (Rf (g := 1) hT2 (by kernel_rfl))
 have hTI : SZ (fun _ => True) W := fun x hx => by
  rcases List.mem_cons.1 hx with rfl | hx
  ·exact ⟨trivial, tI1⟩
  rcases List.mem_singleton.1 hx with rfl
  exact ⟨trivial, tI2⟩
 have hW' := hW
 obtain ⟨p, q, hA0, hV, rfl, hfz, hnd⟩ := hW
 have hA : DataW.TrodAll enc Tryz.prog W 0 (fun _ => true) true Tryz.f3.params.toList args.toList ds p := hA0
 rw [Tryz.params3] at hA hval
 obtain ⟨v0, vs0, d0, ds0, p0, q0, hargs, rfl, rfl, h0, r0⟩ := trodAll_cons hA
 obtain ⟨rfl, rfl, rfl⟩ := trodAll_nil r0
 obtain rfl : args = #[v0] := by cases args; simp_all
 obtain ⟨x0, a0, g0⟩ := ((RG Tryz.underlying22 (Xg Tryz.underlying3) (by kernel_rfl) rfl)).val (hval 0 22 v0 rfl rfl) h0
 clear hA0
 refine (SP (W := W) (args := #[v0]) (Gn.ok x0 true (CV x0 g0) (fun _ => ⟨.nilIface, [], 0, rfl⟩)) (fun _ => rfl) rfl hTI (fun o ho => by cases ho) ⟨a0, trivial⟩).mono fun e W2 ⟨he, hg⟩ => ?_
 subst he
 exact ⟨_, rfl, Xb (L := [22, 3]) hW' rfl rfl Tryz.underlying4 (by kernel_rfl) (by kernel_rfl) rfl hg⟩
def litV : DataW Unit → Value
 | .lit (.int k n) => .int k n
 | _ => .bool false
def litVs : DataW Unit → Array Value
 | .agg l => (l.map litV).toArray
 | _ => #[]
def JK (d : DataW Unit) : Obj → Obj
 | .cells _ t frozen => .cells (litVs d) t frozen
 | o => o
/-- a world in which the tables lie as they are laid -/
noncomputable def OR (os : Os) : World :=
 { World.holding Tryz.prog os ⟨#[], #[], []⟩ with heap := (World.holding Tryz.prog os ⟨#[], #[], []⟩).heap |>.modify 2 (JK Rows.laid_math_bits_deBruijn32tab) |>.modify 0 (JK Rows.laid_math_bits_deBruijn64tab) |>.modify 1 (JK Rows.laid_internal_strconv_uint64pow10) }
theorem aaj (os : Os) (args : Array Value) : laidMetH Tryz.prog Rows.topEnforcedRow.laid ((OR os).forCall (fun _ _ => 0) ⟨#[], args, []⟩).memory :=
 show laidMet _ _ _ from laidMet_of_run' 8 (by kernel_rfl) (by kernel_rfl)
theorem lifted (os : Os) (started : os.Started) (H : Type) (enc : TypeId × Value → H) :
  ReturnsInHanded {} Tryz.checked os 3 .any (fun w args => (Rows.topEnforcedSpec.pre enc Tryz.prog Tryz.f3 Rows.topEnforcedRow.domain false w args ∧ laidMetH Tryz.prog Rows.topEnforcedRow.laid w) ∧ sizedMet enc Tryz.prog Tryz.f3 (OpenSpec.ofChange Rows.topEnforcedSpec) false w args) (Rows.topEnforcedSpec.post enc Tryz.prog Tryz.f3 false true false false) := by
 refine returnsInHanded_of_change_and (C := Tryz.checked) (X := fun w _ => laidMetH Tryz.prog Rows.topEnforcedRow.laid w) (fun _ _ _ hh h => h.of_heap hh) own started (by kernel_rfl) Tryz.func3
  (ChangeSpec.witness_at (enc := enc) (C := Tryz.checked) (os := os) (X := fun w _ => laidMetH Tryz.prog Rows.topEnforcedRow.laid w) false (OR os) #[.slice none 0 0] 8 rfl (by kernel_rfl) (by kernel_rfl) (by kernel_rfl) (by kernel_rfl) (by kernel_rfl) (aaj os _)) ?_
 intro W base args ds gs before hval hW _ _ hL _
 exact contract H enc W base args ds gs before hval hL hW
theorem over : Rows.topEnforcedRow.holds Tryz.pinned (OpenSpec.ofChange Rows.topEnforcedSpec) :=
 OpenClaim.holds_of_wide_leaving 3 Tryz.f3 rfl rfl rfl rfl rfl rfl rfl ⟨rfl, rfl, rfl, rfl, rfl⟩ rfl rfl rfl rfl rfl (by kernel_rfl) Tryz.func3 (by kernel_rfl)
  (of_decide_eq_true (by kernel_rfl)) (by unfold Func.isWrapper; first | (rw [if_pos (by decide +kernel)]; kernel_rfl) | (rw [if_neg (by decide +kernel)]; exact ⟨rfl, rfl⟩))
  (fun os started H enc _ e => ReturnsInOpen.mono (fun _ _ _ x => ⟨x.2.1, onlyLeaving_of_quiet x.1, x.2.2⟩) (fun _ x => x) (lifted os started H enc e))
theorem proved : Rows.TopEnforcedCardSaid :=
 ⟨Claim7.tied_new_at .later [.data, .data, .data] true (Claim7.new_of_sixth over (true, "f40c7465355068069e2f34e252228c782b76a5fc01783d7d0de1800f44ac756a") false rfl ⟨rfl, rfl⟩ (by kernel_rfl) rfl
  (fun f fn hf hfn => by
   obtain rfl : f = 3 := Option.some.inj ((show Tryz.prog.funcNamed "deliberation/deliberationtop.TopEnforced" = some 3 by kernel_rfl).symm.trans hf) |>.symm
   obtain rfl : fn = Tryz.f3 := (Option.some.inj (Tryz.func3.symm.trans hfn)).symm
   refine ⟨by kernel_rfl, fun j t ht => ?_⟩
   rw [Tryz.params3] at ht
   have hm := Array.mem_of_getElem? ht
   simp only [List.mem_toArray, List.mem_cons, List.not_mem_nil, or_false] at hm
   rcases hm with rfl
   ·exact (show Tryz.prog.wantsStandIn 22 = false by kernel_rfl))) (by kernel_rfl), (fun _ h => by cases h), topEnforced_row_tie, (fun h => by cases h), (by kernel_rfl)⟩
end Go.Proofs.YtkkgghdjclkknaaGreatDoor.topEnforced
