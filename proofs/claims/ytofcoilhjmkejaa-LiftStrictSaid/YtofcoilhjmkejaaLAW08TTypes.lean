/- Part LAW08T.Types of a proof: lemmas. -/
import Derived.Test.YtofcoilhjmkejaaDcCut4
import Derived.Test.YtofcoilhjmkejaaDcBa
import Derived.Test.YtofcoilhjmkejaaDcText
import Derived.Test.YtofcoilhjmkejaaDcRec
import Derived.Test.YtofcoilhjmkejaaProg
set_option linter.unusedVariables false
set_option maxRecDepth 100000
set_option maxHeartbeats 4000000
namespace Go.Dc
open Go.Proofs
open Go.Proofs.Try (prog)

structure T_deliberationkeep_Src where
  L : (List Int)
  At : Int
  deriving DecidableEq, Inhabited

def rT_deliberationkeep_Src : Rep T_deliberationkeep_Src := rSt [⟨(rSl (rI .i64)), T_deliberationkeep_Src.L⟩, ⟨(rI .i64), T_deliberationkeep_Src.At⟩]

structure T_api_Literal where
  Neg : Bool
  Name : ByteArray
  deriving DecidableEq, Inhabited

def rT_api_Literal : Rep T_api_Literal := rSt [⟨rB, T_api_Literal.Neg⟩, ⟨rS, T_api_Literal.Name⟩]

structure T_api_Premise where
  Literal : T_api_Literal
  Kind : Int
  Rank : Int
  Source : ByteArray
  deriving DecidableEq, Inhabited

def rT_api_Premise : Rep T_api_Premise := rSt [⟨rT_api_Literal, T_api_Premise.Literal⟩, ⟨(rI .i64), T_api_Premise.Kind⟩, ⟨(rI .i64), T_api_Premise.Rank⟩, ⟨rS, T_api_Premise.Source⟩]

structure T_api_Rule where
  Name : ByteArray
  Strict : Bool
  Rank : Int
  Body : (List T_api_Literal)
  Head : T_api_Literal
  deriving DecidableEq, Inhabited

def rT_api_Rule : Rep T_api_Rule := rSt [⟨rS, T_api_Rule.Name⟩, ⟨rB, T_api_Rule.Strict⟩, ⟨(rI .i64), T_api_Rule.Rank⟩, ⟨(rSl rT_api_Literal), T_api_Rule.Body⟩, ⟨rT_api_Literal, T_api_Rule.Head⟩]

structure T_api_Promotion where
  Rule : ByteArray
  Rank : Int
  If : T_api_Literal
  deriving DecidableEq, Inhabited

def rT_api_Promotion : Rep T_api_Promotion := rSt [⟨rS, T_api_Promotion.Rule⟩, ⟨(rI .i64), T_api_Promotion.Rank⟩, ⟨rT_api_Literal, T_api_Promotion.If⟩]

structure T_api_Base where
  Premises : (List T_api_Premise)
  Rules : (List T_api_Rule)
  Promotions : (List T_api_Promotion)
  deriving DecidableEq, Inhabited

def rT_api_Base : Rep T_api_Base := rSt [⟨(rSl rT_api_Premise), T_api_Base.Premises⟩, ⟨(rSl rT_api_Rule), T_api_Base.Rules⟩, ⟨(rSl rT_api_Promotion), T_api_Base.Promotions⟩]

structure T_api_Argument where
  Premise : Int
  Rule : Int
  Subs : (List Int)
  Conclusion : T_api_Literal
  deriving DecidableEq, Inhabited

def rT_api_Argument : Rep T_api_Argument := rSt [⟨(rI .i64), T_api_Argument.Premise⟩, ⟨(rI .i64), T_api_Argument.Rule⟩, ⟨(rSl (rI .i64)), T_api_Argument.Subs⟩, ⟨rT_api_Literal, T_api_Argument.Conclusion⟩]

structure T_api_Ordering where
  Link : Int
  Lift : Int
  deriving DecidableEq, Inhabited

def rT_api_Ordering : Rep T_api_Ordering := rSt [⟨(rI .i64), T_api_Ordering.Link⟩, ⟨(rI .i64), T_api_Ordering.Lift⟩]

theorem el_3 : ElT prog 3 (rI .i64) 8 := ⟨⟨_, Try.type3, rfl, rfl, _, rfl, rfl⟩, Try.isAgg3, by decide, by decide⟩

theorem el_4 : ElT prog 4 rB 1 := ⟨⟨_, Try.type4, rfl, rfl, _, rfl, rfl⟩, Try.isAgg4, by decide, by decide⟩

theorem el_5 : ElT prog 5 (rI .u8) 1 := ⟨⟨_, Try.type5, rfl, rfl, _, rfl, rfl⟩, Try.isAgg5, by decide, by decide⟩

theorem el_9 : ElT prog 9 rS 16 := ⟨⟨_, Try.type9, rfl, rfl, _, rfl, rfl⟩, Try.isAgg9, by decide, by decide⟩

theorem el_22 : ElT prog 22 (rSl (rI .i64)) 24 := ⟨⟨_, Try.type22, rfl, rfl, _, rfl, rfl⟩, Try.isAgg22, by decide, by decide⟩

theorem el_43 : ElT prog 43 rT_api_Ordering 16 := ⟨⟨_, Try.type43, rfl, rfl, _, rfl, rfl⟩, Try.isAgg43, by decide, by decide⟩

theorem el_50 : ElT prog 50 rT_api_Literal 24 := ⟨⟨_, Try.type50, rfl, rfl, _, rfl, rfl⟩, Try.isAgg50, by decide, by decide⟩

theorem el_52 : ElT prog 52 rT_api_Argument 64 := ⟨⟨_, Try.type52, rfl, rfl, _, rfl, rfl⟩, Try.isAgg52, by decide, by decide⟩

theorem el_53 : ElT prog 53 (rSl rT_api_Literal) 24 := ⟨⟨_, Try.type53, rfl, rfl, _, rfl, rfl⟩, Try.isAgg53, by decide, by decide⟩

theorem el_55 : ElT prog 55 rT_api_Rule 80 := ⟨⟨_, Try.type55, rfl, rfl, _, rfl, rfl⟩, Try.isAgg55, by decide, by decide⟩

theorem el_64 : ElT prog 64 rT_api_Premise 56 := ⟨⟨_, Try.type64, rfl, rfl, _, rfl, rfl⟩, Try.isAgg64, by decide, by decide⟩

theorem el_84 : ElT prog 84 rT_api_Promotion 48 := ⟨⟨_, Try.type84, rfl, rfl, _, rfl, rfl⟩, Try.isAgg84, by decide, by decide⟩

theorem zt_34 : ∃ i z, prog.info? 34 = some i ∧ i.zero = some z ∧ ∀ F w, AllP F w [pv (.slice none 0 0), pv (.slice none 0 0), pv (.slice none 0 0)] z.cells.toList := ⟨_, _, Try.type34, rfl, fun _ _ => ⟨rfl, rfl, rfl, trivial⟩⟩

theorem ze_34 : ZeroT prog 34 rT_api_Base (T_api_Base.mk [] [] []) := ⟨_, _, Try.type34, rfl, fun _ _ => ⟨⟨none, 0, rfl, Nat.le_refl _, fun h => absurd rfl h⟩, ⟨none, 0, rfl, Nat.le_refl _, fun h => absurd rfl h⟩, ⟨none, 0, rfl, Nat.le_refl _, fun h => absurd rfl h⟩, trivial⟩⟩

theorem zt_43 : ∃ i z, prog.info? 43 = some i ∧ i.zero = some z ∧ ∀ F w, AllP F w [iv .i64 0, iv .i64 0] z.cells.toList := ⟨_, _, Try.type43, rfl, fun _ _ => ⟨rfl, rfl, trivial⟩⟩

theorem ze_43 : ZeroT prog 43 rT_api_Ordering (T_api_Ordering.mk 0 0) := ⟨_, _, Try.type43, rfl, fun _ _ => ⟨rfl, rfl, trivial⟩⟩

theorem zt_50 : ∃ i z, prog.info? 50 = some i ∧ i.zero = some z ∧ ∀ F w, AllP F w [bv false, sv ByteArray.empty] z.cells.toList := ⟨_, _, Try.type50, rfl, fun _ _ => ⟨rfl, rfl, trivial⟩⟩

theorem ze_50 : ZeroT prog 50 rT_api_Literal (T_api_Literal.mk false ByteArray.empty) := ⟨_, _, Try.type50, rfl, fun _ _ => ⟨rfl, rfl, trivial⟩⟩

theorem zt_55 : ∃ i z, prog.info? 55 = some i ∧ i.zero = some z ∧ ∀ F w, AllP F w [sv ByteArray.empty, bv false, iv .i64 0, pv (.slice none 0 0), bv false, sv ByteArray.empty] z.cells.toList := ⟨_, _, Try.type55, rfl, fun _ _ => ⟨rfl, rfl, rfl, rfl, rfl, rfl, trivial⟩⟩

theorem ze_55 : ZeroT prog 55 rT_api_Rule (T_api_Rule.mk ByteArray.empty false 0 [] (T_api_Literal.mk false ByteArray.empty)) := ⟨_, _, Try.type55, rfl, fun _ _ => ⟨rfl, rfl, rfl, ⟨none, 0, rfl, Nat.le_refl _, fun h => absurd rfl h⟩, rfl, rfl, trivial⟩⟩

theorem zt_64 : ∃ i z, prog.info? 64 = some i ∧ i.zero = some z ∧ ∀ F w, AllP F w [bv false, sv ByteArray.empty, iv .i64 0, iv .i64 0, sv ByteArray.empty] z.cells.toList := ⟨_, _, Try.type64, rfl, fun _ _ => ⟨rfl, rfl, rfl, rfl, rfl, trivial⟩⟩

theorem ze_64 : ZeroT prog 64 rT_api_Premise (T_api_Premise.mk (T_api_Literal.mk false ByteArray.empty) 0 0 ByteArray.empty) := ⟨_, _, Try.type64, rfl, fun _ _ => ⟨rfl, rfl, rfl, rfl, rfl, trivial⟩⟩

theorem zt_73 : ∃ i z, prog.info? 73 = some i ∧ i.zero = some z ∧ ∀ F w, AllP F w [pv .nilFunc] z.cells.toList := ⟨_, _, Try.type73, rfl, fun _ _ => ⟨rfl, trivial⟩⟩

theorem zt_84 : ∃ i z, prog.info? 84 = some i ∧ i.zero = some z ∧ ∀ F w, AllP F w [sv ByteArray.empty, iv .i64 0, bv false, sv ByteArray.empty] z.cells.toList := ⟨_, _, Try.type84, rfl, fun _ _ => ⟨rfl, rfl, rfl, rfl, trivial⟩⟩

theorem ze_84 : ZeroT prog 84 rT_api_Promotion (T_api_Promotion.mk ByteArray.empty 0 (T_api_Literal.mk false ByteArray.empty)) := ⟨_, _, Try.type84, rfl, fun _ _ => ⟨rfl, rfl, rfl, rfl, trivial⟩⟩

theorem st_34 : StT prog 34 3 [(0, 1), (1, 1), (2, 1)] := ⟨_, Try.underlying34, ⟨_, _, Try.type34, rfl, rfl⟩, fun w => by simp⟩

theorem zs_34 : ∀ i z, prog.info? 34 = some i → i.zero = some z → ∀ F w, AllP F w [pv (.slice none 0 0), pv (.slice none 0 0), pv (.slice none 0 0)] z.cells.toList := by
  intro i z hi hz F w
  have h1 : some i = some Try.t34 := hi.symm.trans Try.type34
  cases h1; cases hz
  exact ⟨rfl, rfl, rfl, trivial⟩

theorem st_43 : StT prog 43 2 [(0, 1), (1, 1)] := ⟨_, Try.underlying43, ⟨_, _, Try.type43, rfl, rfl⟩, fun w => by simp⟩

theorem zs_43 : ∀ i z, prog.info? 43 = some i → i.zero = some z → ∀ F w, AllP F w [iv .i64 0, iv .i64 0] z.cells.toList := by
  intro i z hi hz F w
  have h1 : some i = some Try.t43 := hi.symm.trans Try.type43
  cases h1; cases hz
  exact ⟨rfl, rfl, trivial⟩

theorem st_50 : StT prog 50 2 [(0, 1), (1, 1)] := ⟨_, Try.underlying50, ⟨_, _, Try.type50, rfl, rfl⟩, fun w => by simp⟩

theorem zs_50 : ∀ i z, prog.info? 50 = some i → i.zero = some z → ∀ F w, AllP F w [bv false, sv ByteArray.empty] z.cells.toList := by
  intro i z hi hz F w
  have h1 : some i = some Try.t50 := hi.symm.trans Try.type50
  cases h1; cases hz
  exact ⟨rfl, rfl, trivial⟩

theorem st_52 : StT prog 52 5 [(0, 1), (1, 1), (2, 1), (3, 2)] := ⟨_, Try.underlying52, ⟨_, _, Try.type52, rfl, rfl⟩, fun w => by simp⟩

theorem zs_52 : ∀ i z, prog.info? 52 = some i → i.zero = some z → ∀ F w, AllP F w [iv .i64 0, iv .i64 0, pv (.slice none 0 0), bv false, sv ByteArray.empty] z.cells.toList := by
  intro i z hi hz F w
  have h1 : some i = some Try.t52 := hi.symm.trans Try.type52
  cases h1; cases hz
  exact ⟨rfl, rfl, rfl, rfl, rfl, trivial⟩

theorem st_55 : StT prog 55 6 [(0, 1), (1, 1), (2, 1), (3, 1), (4, 2)] := ⟨_, Try.underlying55, ⟨_, _, Try.type55, rfl, rfl⟩, fun w => by simp⟩

theorem zs_55 : ∀ i z, prog.info? 55 = some i → i.zero = some z → ∀ F w, AllP F w [sv ByteArray.empty, bv false, iv .i64 0, pv (.slice none 0 0), bv false, sv ByteArray.empty] z.cells.toList := by
  intro i z hi hz F w
  have h1 : some i = some Try.t55 := hi.symm.trans Try.type55
  cases h1; cases hz
  exact ⟨rfl, rfl, rfl, rfl, rfl, rfl, trivial⟩

theorem st_57 : StT prog 57 2 [(0, 1), (1, 1)] := ⟨_, Try.underlying57, ⟨_, _, Try.type57, rfl, rfl⟩, fun w => by simp⟩

theorem zs_57 : ∀ i z, prog.info? 57 = some i → i.zero = some z → ∀ F w, AllP F w [pv (.slice none 0 0), iv .i64 0] z.cells.toList := by
  intro i z hi hz F w
  have h1 : some i = some Try.t57 := hi.symm.trans Try.type57
  cases h1; cases hz
  exact ⟨rfl, rfl, trivial⟩

theorem st_64 : StT prog 64 5 [(0, 2), (2, 1), (3, 1), (4, 1)] := ⟨_, Try.underlying64, ⟨_, _, Try.type64, rfl, rfl⟩, fun w => by simp⟩

theorem zs_64 : ∀ i z, prog.info? 64 = some i → i.zero = some z → ∀ F w, AllP F w [bv false, sv ByteArray.empty, iv .i64 0, iv .i64 0, sv ByteArray.empty] z.cells.toList := by
  intro i z hi hz F w
  have h1 : some i = some Try.t64 := hi.symm.trans Try.type64
  cases h1; cases hz
  exact ⟨rfl, rfl, rfl, rfl, rfl, trivial⟩

theorem st_84 : StT prog 84 4 [(0, 1), (1, 1), (2, 2)] := ⟨_, Try.underlying84, ⟨_, _, Try.type84, rfl, rfl⟩, fun w => by simp⟩

theorem zs_84 : ∀ i z, prog.info? 84 = some i → i.zero = some z → ∀ F w, AllP F w [sv ByteArray.empty, iv .i64 0, bv false, sv ByteArray.empty] z.cells.toList := by
  intro i z hi hz F w
  have h1 : some i = some Try.t84 := hi.symm.trans Try.type84
  cases h1; cases hz
  exact ⟨rfl, rfl, rfl, rfl, trivial⟩

theorem eq_50 : EqT prog 50 rT_api_Literal := eqT_struct Try.underlying50 (by kernel_rfl) (by kernel_rfl) fun x y F w cs ds h1 h2 => by
  match cs, ds, h1, h2 with
  | [_, _], [_, _], ⟨e0, e1, _⟩, ⟨f0, f1, _⟩ =>
    cases e0; cases e1; cases f0; cases f1
    exact ⟨_, ⟨⟨by decide, rfl, Try.isAgg4⟩, _, _, .bool Try.underlying4, ⟨⟨by decide, rfl, Try.isAgg9⟩, _, _, .str Try.underlying9, rfl, rfl⟩, rfl⟩, by cases x; cases y; rw [Bool.eq_iff_iff]; simp [ba_inj]⟩
end Go.Dc
