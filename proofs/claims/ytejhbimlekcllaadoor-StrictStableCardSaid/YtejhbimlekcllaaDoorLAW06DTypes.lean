/- Part LAW06D.Types of a proof: lemmas. -/
import Derived.Test.YtejhbimlekcllaaDoorDcCut4
import Derived.Test.YtejhbimlekcllaaDoorDcBa
import Derived.Test.YtejhbimlekcllaaDoorDcText
import Derived.Test.YtejhbimlekcllaaDoorDcVec
import Derived.Test.YtejhbimlekcllaaDoorDcMap
import Derived.Test.YtejhbimlekcllaaDoorDcSub
import Derived.Test.YtejhbimlekcllaaDoorDcRng
import Derived.Test.YtejhbimlekcllaaDoorDcEqN
import Derived.Test.YtejhbimlekcllaaDoorDcSortL
import Derived.Test.YtejhbimlekcllaaDoorProg
set_option linter.unusedVariables false
set_option linter.unusedSimpArgs false
set_option maxRecDepth 100000
set_option maxHeartbeats 4000000
namespace Go.Dc
open Go.Proofs
open Go.Proofs.Tryd (prog)

structure T_deliberationkeep_Src where
  L : (List Int)
  At : Int
  deriving DecidableEq, Inhabited

def rT_deliberationkeep_Src : Rep T_deliberationkeep_Src := rSt [⟨(rSl (rI .i64)), T_deliberationkeep_Src.L⟩, ⟨(rI .i64), T_deliberationkeep_Src.At⟩]

structure T_api_Literal where
  Neg : Bool
  Name : ByteArray
  deriving DecidableEq, Inhabited

def rT_api_Literal : Rep T_api_Literal := rSt [⟨rB, T_api_Literal.Neg⟩, ⟨rS, T_api_Literal.Name⟩]

structure T_api_Premise where
  Literal : T_api_Literal
  Kind : Int
  Rank : Int
  Source : ByteArray
  deriving DecidableEq, Inhabited

def rT_api_Premise : Rep T_api_Premise := rSt [⟨rT_api_Literal, T_api_Premise.Literal⟩, ⟨(rI .i64), T_api_Premise.Kind⟩, ⟨(rI .i64), T_api_Premise.Rank⟩, ⟨rS, T_api_Premise.Source⟩]

structure T_api_Rule where
  Name : ByteArray
  Strict : Bool
  Rank : Int
  Body : (List T_api_Literal)
  Head : T_api_Literal
  deriving DecidableEq, Inhabited

def rT_api_Rule : Rep T_api_Rule := rSt [⟨rS, T_api_Rule.Name⟩, ⟨rB, T_api_Rule.Strict⟩, ⟨(rI .i64), T_api_Rule.Rank⟩, ⟨(rSl rT_api_Literal), T_api_Rule.Body⟩, ⟨rT_api_Literal, T_api_Rule.Head⟩]

structure T_api_Promotion where
  Rule : ByteArray
  Rank : Int
  If : T_api_Literal
  deriving DecidableEq, Inhabited

def rT_api_Promotion : Rep T_api_Promotion := rSt [⟨rS, T_api_Promotion.Rule⟩, ⟨(rI .i64), T_api_Promotion.Rank⟩, ⟨rT_api_Literal, T_api_Promotion.If⟩]

structure T_api_Base where
  Premises : (List T_api_Premise)
  Rules : (List T_api_Rule)
  Promotions : (List T_api_Promotion)
  deriving DecidableEq, Inhabited

def rT_api_Base : Rep T_api_Base := rSt [⟨(rSl rT_api_Premise), T_api_Base.Premises⟩, ⟨(rSl rT_api_Rule), T_api_Base.Rules⟩, ⟨(rSl rT_api_Promotion), T_api_Base.Promotions⟩]

structure T_anon61 where

  deriving DecidableEq, Inhabited

def rT_anon61 : Rep T_anon61 := rSt []

theorem el_3 : ElT prog 3 (rI .i64) 8 := ⟨⟨_, Tryd.type3, rfl, rfl, _, rfl, rfl⟩, Tryd.isAgg3, by decide, by decide⟩

theorem el_4 : ElT prog 4 rB 1 := ⟨⟨_, Tryd.type4, rfl, rfl, _, rfl, rfl⟩, Tryd.isAgg4, by decide, by decide⟩

theorem el_5 : ElT prog 5 (rI .u8) 1 := ⟨⟨_, Tryd.type5, rfl, rfl, _, rfl, rfl⟩, Tryd.isAgg5, by decide, by decide⟩

theorem el_9 : ElT prog 9 rS 16 := ⟨⟨_, Tryd.type9, rfl, rfl, _, rfl, rfl⟩, Tryd.isAgg9, by decide, by decide⟩

theorem el_31 : ElT prog 31 (rSl rT_api_Literal) 24 := ⟨⟨_, Tryd.type31, rfl, rfl, _, rfl, rfl⟩, Tryd.isAgg31, by decide, by decide⟩

theorem el_35 : ElT prog 35 rT_api_Literal 24 := ⟨⟨_, Tryd.type35, rfl, rfl, _, rfl, rfl⟩, Tryd.isAgg35, by decide, by decide⟩

theorem el_40 : ElT prog 40 rT_api_Rule 80 := ⟨⟨_, Tryd.type40, rfl, rfl, _, rfl, rfl⟩, Tryd.isAgg40, by decide, by decide⟩

theorem el_55 : ElT prog 55 rT_api_Premise 56 := ⟨⟨_, Tryd.type55, rfl, rfl, _, rfl, rfl⟩, Tryd.isAgg55, by decide, by decide⟩

theorem el_59 : ElT prog 59 rT_api_Promotion 48 := ⟨⟨_, Tryd.type59, rfl, rfl, _, rfl, rfl⟩, Tryd.isAgg59, by decide, by decide⟩

theorem zt_29 : ∃ i z, prog.info? 29 = some i ∧ i.zero = some z ∧ ∀ F w, AllP F w [pv (.slice none 0 0), pv (.slice none 0 0), pv (.slice none 0 0)] z.cells.toList := ⟨_, _, Tryd.type29, rfl, fun _ _ => ⟨rfl, rfl, rfl, trivial⟩⟩

theorem ze_29 : ZeroT prog 29 rT_api_Base (T_api_Base.mk [] [] []) := ⟨_, _, Tryd.type29, rfl, fun _ _ => ⟨⟨none, 0, rfl, Nat.le_refl _, fun h => absurd rfl h⟩, ⟨none, 0, rfl, Nat.le_refl _, fun h => absurd rfl h⟩, ⟨none, 0, rfl, Nat.le_refl _, fun h => absurd rfl h⟩, trivial⟩⟩

theorem zt_35 : ∃ i z, prog.info? 35 = some i ∧ i.zero = some z ∧ ∀ F w, AllP F w [bv false, sv ByteArray.empty] z.cells.toList := ⟨_, _, Tryd.type35, rfl, fun _ _ => ⟨rfl, rfl, trivial⟩⟩

theorem ze_35 : ZeroT prog 35 rT_api_Literal (T_api_Literal.mk false ByteArray.empty) := ⟨_, _, Tryd.type35, rfl, fun _ _ => ⟨rfl, rfl, trivial⟩⟩

theorem zt_40 : ∃ i z, prog.info? 40 = some i ∧ i.zero = some z ∧ ∀ F w, AllP F w [sv ByteArray.empty, bv false, iv .i64 0, pv (.slice none 0 0), bv false, sv ByteArray.empty] z.cells.toList := ⟨_, _, Tryd.type40, rfl, fun _ _ => ⟨rfl, rfl, rfl, rfl, rfl, rfl, trivial⟩⟩

theorem ze_40 : ZeroT prog 40 rT_api_Rule (T_api_Rule.mk ByteArray.empty false 0 [] (T_api_Literal.mk false ByteArray.empty)) := ⟨_, _, Tryd.type40, rfl, fun _ _ => ⟨rfl, rfl, rfl, ⟨none, 0, rfl, Nat.le_refl _, fun h => absurd rfl h⟩, rfl, rfl, trivial⟩⟩

theorem zt_55 : ∃ i z, prog.info? 55 = some i ∧ i.zero = some z ∧ ∀ F w, AllP F w [bv false, sv ByteArray.empty, iv .i64 0, iv .i64 0, sv ByteArray.empty] z.cells.toList := ⟨_, _, Tryd.type55, rfl, fun _ _ => ⟨rfl, rfl, rfl, rfl, rfl, trivial⟩⟩

theorem ze_55 : ZeroT prog 55 rT_api_Premise (T_api_Premise.mk (T_api_Literal.mk false ByteArray.empty) 0 0 ByteArray.empty) := ⟨_, _, Tryd.type55, rfl, fun _ _ => ⟨rfl, rfl, rfl, rfl, rfl, trivial⟩⟩

theorem zt_59 : ∃ i z, prog.info? 59 = some i ∧ i.zero = some z ∧ ∀ F w, AllP F w [sv ByteArray.empty, iv .i64 0, bv false, sv ByteArray.empty] z.cells.toList := ⟨_, _, Tryd.type59, rfl, fun _ _ => ⟨rfl, rfl, rfl, rfl, trivial⟩⟩

theorem ze_59 : ZeroT prog 59 rT_api_Promotion (T_api_Promotion.mk ByteArray.empty 0 (T_api_Literal.mk false ByteArray.empty)) := ⟨_, _, Tryd.type59, rfl, fun _ _ => ⟨rfl, rfl, rfl, rfl, trivial⟩⟩

theorem zt_60 : ∃ i z, prog.info? 60 = some i ∧ i.zero = some z ∧ ∀ F w, AllP F w [pv (.map none)] z.cells.toList := ⟨_, _, Tryd.type60, rfl, fun _ _ => ⟨rfl, trivial⟩⟩

theorem zt_61 : ∃ i z, prog.info? 61 = some i ∧ i.zero = some z ∧ ∀ F w, AllP F w [] z.cells.toList := ⟨_, _, Tryd.type61, rfl, fun _ _ => trivial⟩

theorem ze_61 : ZeroT prog 61 rT_anon61 (T_anon61.mk ) := ⟨_, _, Tryd.type61, rfl, fun _ _ => trivial⟩

theorem zv_122 : ∃ i z, prog.info? 122 = some i ∧ i.zero = some z ∧ ∀ F w, AllP F w (List.map (iv .u8) (List.replicate 24 0)) z.cells.toList := ⟨_, _, Tryd.type122, rfl, fun _ _ => ⟨rfl, rfl, rfl, rfl, rfl, rfl, rfl, rfl, rfl, rfl, rfl, rfl, rfl, rfl, rfl, rfl, rfl, rfl, rfl, rfl, rfl, rfl, rfl, rfl, trivial⟩⟩

theorem zv_131 : ∃ i z, prog.info? 131 = some i ∧ i.zero = some z ∧ ∀ F w, AllP F w (List.map (iv .u8) (List.replicate 65 0)) z.cells.toList := ⟨_, _, Tryd.type131, rfl, fun _ _ => ⟨rfl, rfl, rfl, rfl, rfl, rfl, rfl, rfl, rfl, rfl, rfl, rfl, rfl, rfl, rfl, rfl, rfl, rfl, rfl, rfl, rfl, rfl, rfl, rfl, rfl, rfl, rfl, rfl, rfl, rfl, rfl, rfl, rfl, rfl, rfl, rfl, rfl, rfl, rfl, rfl, rfl, rfl, rfl, rfl, rfl, rfl, rfl, rfl, rfl, rfl, rfl, rfl, rfl, rfl, rfl, rfl, rfl, rfl, rfl, rfl, rfl, rfl, rfl, rfl, rfl, trivial⟩⟩

theorem mz_61 : ∃ zv, (∀ w, (zeroValue 61).run prog w = .ok zv w) ∧ ∀ F w, (sh rT_anon61 (T_anon61.mk )).h F w zv := ⟨_, fun w => by simp [zeroValue, typeInfo, Tryd.type61]; rfl, fun _ _ => by first | exact rfl | exact ⟨_, rfl, trivial⟩⟩

theorem st_29 : StT prog 29 3 [(0, 1), (1, 1), (2, 1)] := ⟨_, Tryd.underlying29, ⟨_, _, Tryd.type29, rfl, rfl⟩, fun w => by simp⟩

theorem zs_29 : ∀ i z, prog.info? 29 = some i → i.zero = some z → ∀ F w, AllP F w [pv (.slice none 0 0), pv (.slice none 0 0), pv (.slice none 0 0)] z.cells.toList := by
  intro i z hi hz F w
  have h1 : some i = some Tryd.t29 := hi.symm.trans Tryd.type29
  cases h1; cases hz
  exact ⟨rfl, rfl, rfl, trivial⟩

theorem st_35 : StT prog 35 2 [(0, 1), (1, 1)] := ⟨_, Tryd.underlying35, ⟨_, _, Tryd.type35, rfl, rfl⟩, fun w => by simp⟩

theorem zs_35 : ∀ i z, prog.info? 35 = some i → i.zero = some z → ∀ F w, AllP F w [bv false, sv ByteArray.empty] z.cells.toList := by
  intro i z hi hz F w
  have h1 : some i = some Tryd.t35 := hi.symm.trans Tryd.type35
  cases h1; cases hz
  exact ⟨rfl, rfl, trivial⟩

theorem st_40 : StT prog 40 6 [(0, 1), (1, 1), (2, 1), (3, 1), (4, 2)] := ⟨_, Tryd.underlying40, ⟨_, _, Tryd.type40, rfl, rfl⟩, fun w => by simp⟩

theorem zs_40 : ∀ i z, prog.info? 40 = some i → i.zero = some z → ∀ F w, AllP F w [sv ByteArray.empty, bv false, iv .i64 0, pv (.slice none 0 0), bv false, sv ByteArray.empty] z.cells.toList := by
  intro i z hi hz F w
  have h1 : some i = some Tryd.t40 := hi.symm.trans Tryd.type40
  cases h1; cases hz
  exact ⟨rfl, rfl, rfl, rfl, rfl, rfl, trivial⟩

theorem st_49 : StT prog 49 2 [(0, 1), (1, 1)] := ⟨_, Tryd.underlying49, ⟨_, _, Tryd.type49, rfl, rfl⟩, fun w => by simp⟩

theorem zs_49 : ∀ i z, prog.info? 49 = some i → i.zero = some z → ∀ F w, AllP F w [pv (.slice none 0 0), iv .i64 0] z.cells.toList := by
  intro i z hi hz F w
  have h1 : some i = some Tryd.t49 := hi.symm.trans Tryd.type49
  cases h1; cases hz
  exact ⟨rfl, rfl, trivial⟩

theorem st_55 : StT prog 55 5 [(0, 2), (2, 1), (3, 1), (4, 1)] := ⟨_, Tryd.underlying55, ⟨_, _, Tryd.type55, rfl, rfl⟩, fun w => by simp⟩

theorem zs_55 : ∀ i z, prog.info? 55 = some i → i.zero = some z → ∀ F w, AllP F w [bv false, sv ByteArray.empty, iv .i64 0, iv .i64 0, sv ByteArray.empty] z.cells.toList := by
  intro i z hi hz F w
  have h1 : some i = some Tryd.t55 := hi.symm.trans Tryd.type55
  cases h1; cases hz
  exact ⟨rfl, rfl, rfl, rfl, rfl, trivial⟩

theorem st_59 : StT prog 59 4 [(0, 1), (1, 1), (2, 2)] := ⟨_, Tryd.underlying59, ⟨_, _, Tryd.type59, rfl, rfl⟩, fun w => by simp⟩

theorem zs_59 : ∀ i z, prog.info? 59 = some i → i.zero = some z → ∀ F w, AllP F w [sv ByteArray.empty, iv .i64 0, bv false, sv ByteArray.empty] z.cells.toList := by
  intro i z hi hz F w
  have h1 : some i = some Tryd.t59 := hi.symm.trans Tryd.type59
  cases h1; cases hz
  exact ⟨rfl, rfl, rfl, rfl, trivial⟩

theorem st_61 : StT prog 61 0 [] := ⟨_, Tryd.underlying61, ⟨_, _, Tryd.type61, rfl, rfl⟩, fun w => by simp⟩

theorem zs_61 : ∀ i z, prog.info? 61 = some i → i.zero = some z → ∀ F w, AllP F w [] z.cells.toList := by
  intro i z hi hz F w
  have h1 : some i = some Tryd.t61 := hi.symm.trans Tryd.type61
  cases h1; cases hz
  exact trivial

theorem eq_35 : EqT prog 35 rT_api_Literal := eqT_struct Tryd.underlying35 (by kernel_rfl) (by kernel_rfl) fun x y F w cs ds h1 h2 => by
  match cs, ds, h1, h2 with
  | [_, _], [_, _], ⟨e0, e1, _⟩, ⟨f0, f1, _⟩ =>
    cases e0; cases e1; cases f0; cases f1
    exact ⟨_, ⟨⟨by decide, rfl, Tryd.isAgg4⟩, _, _, .bool Tryd.underlying4, ⟨⟨by decide, rfl, Tryd.isAgg9⟩, _, _, .str Tryd.underlying9, rfl, rfl⟩, rfl⟩, by cases x; cases y; rw [Bool.eq_iff_iff]; simp [ba_inj]⟩

theorem eq_55 : EqT prog 55 rT_api_Premise := eqT_structN Tryd.underlying55 (by kernel_rfl) (by kernel_rfl) fun x y F w cs ds h1 h2 => by
  match cs, ds, h1, h2 with
  | [_, _, _, _, _], [_, _, _, _, _], ⟨e0, e1, e2, e3, e4, _⟩, ⟨f0, f1, f2, f3, f4, _⟩ =>
    cases e0; cases e1; cases e2; cases e3; cases e4; cases f0; cases f1; cases f2; cases f3; cases f4
    exact ⟨_, ⟨⟨by decide, rfl⟩, 2, _, _, Nat.le_of_ble_eq_true rfl, Nat.le_of_ble_eq_true rfl, ⟨⟨by decide, rfl⟩, 1, _, _, Nat.le_of_ble_eq_true rfl, Nat.le_of_ble_eq_true rfl, ⟨⟨by decide, rfl⟩, 1, _, _, Nat.le_of_ble_eq_true rfl, Nat.le_of_ble_eq_true rfl, ⟨⟨by decide, rfl⟩, 1, _, _, Nat.le_of_ble_eq_true rfl, Nat.le_of_ble_eq_true rfl, ⟨rfl, rfl, rfl⟩, rfl, .inl ⟨Tryd.isAgg9, rfl, _, _, rfl, rfl, .str Tryd.underlying9⟩⟩, rfl, .inl ⟨Tryd.isAgg3, rfl, _, _, rfl, rfl, .int Tryd.underlying3⟩⟩, rfl, .inl ⟨Tryd.isAgg3, rfl, _, _, rfl, rfl, .int Tryd.underlying3⟩⟩, rfl, .inr ⟨Tryd.isAgg35, Tryd.sizeOf35, by kernel_rfl, _, Tryd.underlying35, ⟨⟨by decide, rfl, Tryd.isAgg4⟩, _, _, .bool Tryd.underlying4, ⟨⟨by decide, rfl, Tryd.isAgg9⟩, _, _, .str Tryd.underlying9, rfl, rfl⟩, rfl⟩⟩⟩, by obtain ⟨⟨_, _⟩, _, _, _⟩ := x; obtain ⟨⟨_, _⟩, _, _, _⟩ := y; rw [Bool.eq_iff_iff]; simp [ba_inj, and_assoc]⟩

theorem eq_59 : EqT prog 59 rT_api_Promotion := eqT_structN Tryd.underlying59 (by kernel_rfl) (by kernel_rfl) fun x y F w cs ds h1 h2 => by
  match cs, ds, h1, h2 with
  | [_, _, _, _], [_, _, _, _], ⟨e0, e1, e2, e3, _⟩, ⟨f0, f1, f2, f3, _⟩ =>
    cases e0; cases e1; cases e2; cases e3; cases f0; cases f1; cases f2; cases f3
    exact ⟨_, ⟨⟨by decide, rfl⟩, 1, _, _, Nat.le_of_ble_eq_true rfl, Nat.le_of_ble_eq_true rfl, ⟨⟨by decide, rfl⟩, 1, _, _, Nat.le_of_ble_eq_true rfl, Nat.le_of_ble_eq_true rfl, ⟨⟨by decide, rfl⟩, 2, _, _, Nat.le_of_ble_eq_true rfl, Nat.le_of_ble_eq_true rfl, ⟨rfl, rfl, rfl⟩, rfl, .inr ⟨Tryd.isAgg35, Tryd.sizeOf35, by kernel_rfl, _, Tryd.underlying35, ⟨⟨by decide, rfl, Tryd.isAgg4⟩, _, _, .bool Tryd.underlying4, ⟨⟨by decide, rfl, Tryd.isAgg9⟩, _, _, .str Tryd.underlying9, rfl, rfl⟩, rfl⟩⟩⟩, rfl, .inl ⟨Tryd.isAgg3, rfl, _, _, rfl, rfl, .int Tryd.underlying3⟩⟩, rfl, .inl ⟨Tryd.isAgg9, rfl, _, _, rfl, rfl, .str Tryd.underlying9⟩⟩, by obtain ⟨_, _, ⟨_, _⟩⟩ := x; obtain ⟨_, _, ⟨_, _⟩⟩ := y; rw [Bool.eq_iff_iff]; simp [ba_inj, and_assoc]⟩

theorem key_35 : KeyT prog 35 rT_api_Literal where
  check := fun x F w v h e w' => by
    obtain ⟨cs, hcs, rfl⟩ := sh_iff.1 h
    match cs, hcs with
    | [_, _], ⟨e0, e1, _⟩ =>
      cases e0; cases e1
      have k0 : ∀ w b, (Instr.checkKey e 9999 4 (.bool b)).run prog w = .ok () w := fun w b => MapKept.run_checkKey (n := 9998) Tryd.underlying4 (k := .bool b) (show MapKept.IsKey .bool (.bool b) from trivial) e
      have k1 : ∀ w b, (Instr.checkKey e 9999 9 (.string b)).run prog w = .ok () w := fun w b => MapKept.run_checkKey (n := 9998) Tryd.underlying9 (k := .string b) (show MapKept.IsKey .string (.string b) from trivial) e
      show (Instr.checkKey e (9999 + 1) 35 _).run prog w' = _
      rw [Instr.checkKey]
      generalize (9999 : Nat) = n at k0 k1
      simp [rT_api_Literal, rSt, mkV, run_underlying Tryd.underlying35, part, Tryd.isAgg4, Tryd.isAgg9, k0, k1]
  eq := fun x y F w u v h1 h2 w' => by
    obtain ⟨cs, hcs, rfl⟩ := sh_iff.1 h1
    obtain ⟨ds, hds, rfl⟩ := sh_iff.1 h2
    exact eq_35.run x y F w cs.toArray ds.toArray (by simpa using hcs) (by simpa using hds) w'
  stay := fun x F w u v h1 h2 => by
    obtain ⟨cs, hcs, rfl⟩ := sh_iff.1 h1
    obtain ⟨ds, hds, rfl⟩ := sh_iff.1 h2
    match cs, ds, hcs, hds with
    | [_, _], [_, _], ⟨e0, e1, _⟩, ⟨f0, f1, _⟩ =>
      cases e0; cases e1; cases f0; cases f1
      simp [rT_api_Literal, rSt, mkV, Instr.sameBits, MapKept.bytes_beq]
  now := fun k hk u v r h w' => by
    rw [Tryd.underlying35] at hk; cases hk
    cases u <;> cases v <;> simp [Instr.sameNow] at h
  und := ⟨_, Tryd.underlying35⟩
end Go.Dc
