/- Part LAW06ZD.Types of a proof: lemmas. -/
import Derived.Test.YtejhbimlekcllaaGreatDoorDcCut4
import Derived.Test.YtejhbimlekcllaaGreatDoorDcBa
import Derived.Test.YtejhbimlekcllaaGreatDoorDcText
import Derived.Test.YtejhbimlekcllaaGreatDoorDcVec
import Derived.Test.YtejhbimlekcllaaGreatDoorDcMap
import Derived.Test.YtejhbimlekcllaaGreatDoorDcSub
import Derived.Test.YtejhbimlekcllaaGreatDoorDcRng
import Derived.Test.YtejhbimlekcllaaGreatDoorDcSortL
import Derived.Test.YtejhbimlekcllaaGreatDoorDcDrop
import Derived.Test.YtejhbimlekcllaaGreatDoorDcRec
import Derived.Test.YtejhbimlekcllaaGreatDoorProg
set_option linter.unusedVariables false
set_option linter.unusedSimpArgs false
set_option maxRecDepth 100000
set_option maxHeartbeats 4000000
namespace Go.Dc
open Go.Proofs
open Go.Proofs.Tryz (prog)

structure T_api_Literal where
  Neg : Bool
  Name : ByteArray
  deriving DecidableEq, Inhabited

def rT_api_Literal : Rep T_api_Literal := rSt [⟨rB, T_api_Literal.Neg⟩, ⟨rS, T_api_Literal.Name⟩]

structure T_api_Premise where
  Literal : T_api_Literal
  Kind : Int
  Rank : Int
  Source : ByteArray
  deriving DecidableEq, Inhabited

def rT_api_Premise : Rep T_api_Premise := rSt [⟨rT_api_Literal, T_api_Premise.Literal⟩, ⟨(rI .i64), T_api_Premise.Kind⟩, ⟨(rI .i64), T_api_Premise.Rank⟩, ⟨rS, T_api_Premise.Source⟩]

structure T_api_Rule where
  Name : ByteArray
  Strict : Bool
  Rank : Int
  Body : (List T_api_Literal)
  Head : T_api_Literal
  deriving DecidableEq, Inhabited

def rT_api_Rule : Rep T_api_Rule := rSt [⟨rS, T_api_Rule.Name⟩, ⟨rB, T_api_Rule.Strict⟩, ⟨(rI .i64), T_api_Rule.Rank⟩, ⟨(rSl rT_api_Literal), T_api_Rule.Body⟩, ⟨rT_api_Literal, T_api_Rule.Head⟩]

structure T_api_Promotion where
  Rule : ByteArray
  Rank : Int
  If : T_api_Literal
  deriving DecidableEq, Inhabited

def rT_api_Promotion : Rep T_api_Promotion := rSt [⟨rS, T_api_Promotion.Rule⟩, ⟨(rI .i64), T_api_Promotion.Rank⟩, ⟨rT_api_Literal, T_api_Promotion.If⟩]

structure T_api_Base where
  Premises : (List T_api_Premise)
  Rules : (List T_api_Rule)
  Promotions : (List T_api_Promotion)
  deriving DecidableEq, Inhabited

def rT_api_Base : Rep T_api_Base := rSt [⟨(rSl rT_api_Premise), T_api_Base.Premises⟩, ⟨(rSl rT_api_Rule), T_api_Base.Rules⟩, ⟨(rSl rT_api_Promotion), T_api_Base.Promotions⟩]

structure T_deliberationkeep_Src where
  L : (List Int)
  At : Int
  deriving DecidableEq, Inhabited

def rT_deliberationkeep_Src : Rep T_deliberationkeep_Src := rSt [⟨(rSl (rI .i64)), T_deliberationkeep_Src.L⟩, ⟨(rI .i64), T_deliberationkeep_Src.At⟩]

structure T_anon71 where

  deriving DecidableEq, Inhabited

def rT_anon71 : Rep T_anon71 := rSt []

theorem el_3 : ElT prog 3 (rI .i64) 8 := ⟨⟨_, Tryz.type3, rfl, rfl, _, rfl, rfl⟩, Tryz.isAgg3, by decide, by decide⟩

theorem el_4 : ElT prog 4 rB 1 := ⟨⟨_, Tryz.type4, rfl, rfl, _, rfl, rfl⟩, Tryz.isAgg4, by decide, by decide⟩

theorem el_5 : ElT prog 5 (rI .u8) 1 := ⟨⟨_, Tryz.type5, rfl, rfl, _, rfl, rfl⟩, Tryz.isAgg5, by decide, by decide⟩

theorem el_9 : ElT prog 9 rS 16 := ⟨⟨_, Tryz.type9, rfl, rfl, _, rfl, rfl⟩, Tryz.isAgg9, by decide, by decide⟩

theorem el_26 : ElT prog 26 rT_api_Base 72 := ⟨⟨_, Tryz.type26, rfl, rfl, _, rfl, rfl⟩, Tryz.isAgg26, by decide, by decide⟩

theorem el_27 : ElT prog 27 (rSl rT_api_Literal) 24 := ⟨⟨_, Tryz.type27, rfl, rfl, _, rfl, rfl⟩, Tryz.isAgg27, by decide, by decide⟩

theorem el_29 : ElT prog 29 rT_api_Literal 24 := ⟨⟨_, Tryz.type29, rfl, rfl, _, rfl, rfl⟩, Tryz.isAgg29, by decide, by decide⟩

theorem el_58 : ElT prog 58 rT_api_Premise 56 := ⟨⟨_, Tryz.type58, rfl, rfl, _, rfl, rfl⟩, Tryz.isAgg58, by decide, by decide⟩

theorem el_60 : ElT prog 60 rT_api_Rule 80 := ⟨⟨_, Tryz.type60, rfl, rfl, _, rfl, rfl⟩, Tryz.isAgg60, by decide, by decide⟩

theorem el_62 : ElT prog 62 rT_api_Promotion 48 := ⟨⟨_, Tryz.type62, rfl, rfl, _, rfl, rfl⟩, Tryz.isAgg62, by decide, by decide⟩

theorem zt_26 : ∃ i z, prog.info? 26 = some i ∧ i.zero = some z ∧ ∀ F w, AllP F w [pv (.slice none 0 0), pv (.slice none 0 0), pv (.slice none 0 0)] z.cells.toList := ⟨_, _, Tryz.type26, rfl, fun _ _ => ⟨rfl, rfl, rfl, trivial⟩⟩

theorem ze_26 : ZeroT prog 26 rT_api_Base (T_api_Base.mk [] [] []) := ⟨_, _, Tryz.type26, rfl, fun _ _ => ⟨⟨none, 0, rfl, Nat.le_refl _, fun h => absurd rfl h⟩, ⟨none, 0, rfl, Nat.le_refl _, fun h => absurd rfl h⟩, ⟨none, 0, rfl, Nat.le_refl _, fun h => absurd rfl h⟩, trivial⟩⟩

theorem zt_29 : ∃ i z, prog.info? 29 = some i ∧ i.zero = some z ∧ ∀ F w, AllP F w [bv false, sv ByteArray.empty] z.cells.toList := ⟨_, _, Tryz.type29, rfl, fun _ _ => ⟨rfl, rfl, trivial⟩⟩

theorem ze_29 : ZeroT prog 29 rT_api_Literal (T_api_Literal.mk false ByteArray.empty) := ⟨_, _, Tryz.type29, rfl, fun _ _ => ⟨rfl, rfl, trivial⟩⟩

theorem zt_58 : ∃ i z, prog.info? 58 = some i ∧ i.zero = some z ∧ ∀ F w, AllP F w [bv false, sv ByteArray.empty, iv .i64 0, iv .i64 0, sv ByteArray.empty] z.cells.toList := ⟨_, _, Tryz.type58, rfl, fun _ _ => ⟨rfl, rfl, rfl, rfl, rfl, trivial⟩⟩

theorem ze_58 : ZeroT prog 58 rT_api_Premise (T_api_Premise.mk (T_api_Literal.mk false ByteArray.empty) 0 0 ByteArray.empty) := ⟨_, _, Tryz.type58, rfl, fun _ _ => ⟨rfl, rfl, rfl, rfl, rfl, trivial⟩⟩

theorem zt_60 : ∃ i z, prog.info? 60 = some i ∧ i.zero = some z ∧ ∀ F w, AllP F w [sv ByteArray.empty, bv false, iv .i64 0, pv (.slice none 0 0), bv false, sv ByteArray.empty] z.cells.toList := ⟨_, _, Tryz.type60, rfl, fun _ _ => ⟨rfl, rfl, rfl, rfl, rfl, rfl, trivial⟩⟩

theorem ze_60 : ZeroT prog 60 rT_api_Rule (T_api_Rule.mk ByteArray.empty false 0 [] (T_api_Literal.mk false ByteArray.empty)) := ⟨_, _, Tryz.type60, rfl, fun _ _ => ⟨rfl, rfl, rfl, ⟨none, 0, rfl, Nat.le_refl _, fun h => absurd rfl h⟩, rfl, rfl, trivial⟩⟩

theorem zt_62 : ∃ i z, prog.info? 62 = some i ∧ i.zero = some z ∧ ∀ F w, AllP F w [sv ByteArray.empty, iv .i64 0, bv false, sv ByteArray.empty] z.cells.toList := ⟨_, _, Tryz.type62, rfl, fun _ _ => ⟨rfl, rfl, rfl, rfl, trivial⟩⟩

theorem ze_62 : ZeroT prog 62 rT_api_Promotion (T_api_Promotion.mk ByteArray.empty 0 (T_api_Literal.mk false ByteArray.empty)) := ⟨_, _, Tryz.type62, rfl, fun _ _ => ⟨rfl, rfl, rfl, rfl, trivial⟩⟩

theorem zt_70 : ∃ i z, prog.info? 70 = some i ∧ i.zero = some z ∧ ∀ F w, AllP F w [pv (.map none)] z.cells.toList := ⟨_, _, Tryz.type70, rfl, fun _ _ => ⟨rfl, trivial⟩⟩

theorem zt_71 : ∃ i z, prog.info? 71 = some i ∧ i.zero = some z ∧ ∀ F w, AllP F w [] z.cells.toList := ⟨_, _, Tryz.type71, rfl, fun _ _ => trivial⟩

theorem ze_71 : ZeroT prog 71 rT_anon71 (T_anon71.mk ) := ⟨_, _, Tryz.type71, rfl, fun _ _ => trivial⟩

theorem zv_131 : ∃ i z, prog.info? 131 = some i ∧ i.zero = some z ∧ ∀ F w, AllP F w (List.map (iv .u8) (List.replicate 24 0)) z.cells.toList := ⟨_, _, Tryz.type131, rfl, fun _ _ => ⟨rfl, rfl, rfl, rfl, rfl, rfl, rfl, rfl, rfl, rfl, rfl, rfl, rfl, rfl, rfl, rfl, rfl, rfl, rfl, rfl, rfl, rfl, rfl, rfl, trivial⟩⟩

theorem zv_140 : ∃ i z, prog.info? 140 = some i ∧ i.zero = some z ∧ ∀ F w, AllP F w (List.map (iv .u8) (List.replicate 65 0)) z.cells.toList := ⟨_, _, Tryz.type140, rfl, fun _ _ => ⟨rfl, rfl, rfl, rfl, rfl, rfl, rfl, rfl, rfl, rfl, rfl, rfl, rfl, rfl, rfl, rfl, rfl, rfl, rfl, rfl, rfl, rfl, rfl, rfl, rfl, rfl, rfl, rfl, rfl, rfl, rfl, rfl, rfl, rfl, rfl, rfl, rfl, rfl, rfl, rfl, rfl, rfl, rfl, rfl, rfl, rfl, rfl, rfl, rfl, rfl, rfl, rfl, rfl, rfl, rfl, rfl, rfl, rfl, rfl, rfl, rfl, rfl, rfl, rfl, rfl, trivial⟩⟩

theorem mz_71 : ∃ zv, (∀ w, (zeroValue 71).run prog w = .ok zv w) ∧ ∀ F w, (sh rT_anon71 (T_anon71.mk )).h F w zv := ⟨_, fun w => by simp [zeroValue, typeInfo, Tryz.type71]; rfl, fun _ _ => by first | exact rfl | exact ⟨_, rfl, trivial⟩⟩

theorem st_26 : StT prog 26 3 [(0, 1), (1, 1), (2, 1)] := ⟨_, Tryz.underlying26, ⟨_, _, Tryz.type26, rfl, rfl⟩, fun w => by simp⟩

theorem zs_26 : ∀ i z, prog.info? 26 = some i → i.zero = some z → ∀ F w, AllP F w [pv (.slice none 0 0), pv (.slice none 0 0), pv (.slice none 0 0)] z.cells.toList := by
  intro i z hi hz F w
  have h1 : some i = some Tryz.t26 := hi.symm.trans Tryz.type26
  cases h1; cases hz
  exact ⟨rfl, rfl, rfl, trivial⟩

theorem st_29 : StT prog 29 2 [(0, 1), (1, 1)] := ⟨_, Tryz.underlying29, ⟨_, _, Tryz.type29, rfl, rfl⟩, fun w => by simp⟩

theorem zs_29 : ∀ i z, prog.info? 29 = some i → i.zero = some z → ∀ F w, AllP F w [bv false, sv ByteArray.empty] z.cells.toList := by
  intro i z hi hz F w
  have h1 : some i = some Tryz.t29 := hi.symm.trans Tryz.type29
  cases h1; cases hz
  exact ⟨rfl, rfl, trivial⟩

theorem st_58 : StT prog 58 5 [(0, 2), (2, 1), (3, 1), (4, 1)] := ⟨_, Tryz.underlying58, ⟨_, _, Tryz.type58, rfl, rfl⟩, fun w => by simp⟩

theorem zs_58 : ∀ i z, prog.info? 58 = some i → i.zero = some z → ∀ F w, AllP F w [bv false, sv ByteArray.empty, iv .i64 0, iv .i64 0, sv ByteArray.empty] z.cells.toList := by
  intro i z hi hz F w
  have h1 : some i = some Tryz.t58 := hi.symm.trans Tryz.type58
  cases h1; cases hz
  exact ⟨rfl, rfl, rfl, rfl, rfl, trivial⟩

theorem st_60 : StT prog 60 6 [(0, 1), (1, 1), (2, 1), (3, 1), (4, 2)] := ⟨_, Tryz.underlying60, ⟨_, _, Tryz.type60, rfl, rfl⟩, fun w => by simp⟩

theorem zs_60 : ∀ i z, prog.info? 60 = some i → i.zero = some z → ∀ F w, AllP F w [sv ByteArray.empty, bv false, iv .i64 0, pv (.slice none 0 0), bv false, sv ByteArray.empty] z.cells.toList := by
  intro i z hi hz F w
  have h1 : some i = some Tryz.t60 := hi.symm.trans Tryz.type60
  cases h1; cases hz
  exact ⟨rfl, rfl, rfl, rfl, rfl, rfl, trivial⟩

theorem st_62 : StT prog 62 4 [(0, 1), (1, 1), (2, 2)] := ⟨_, Tryz.underlying62, ⟨_, _, Tryz.type62, rfl, rfl⟩, fun w => by simp⟩

theorem zs_62 : ∀ i z, prog.info? 62 = some i → i.zero = some z → ∀ F w, AllP F w [sv ByteArray.empty, iv .i64 0, bv false, sv ByteArray.empty] z.cells.toList := by
  intro i z hi hz F w
  have h1 : some i = some Tryz.t62 := hi.symm.trans Tryz.type62
  cases h1; cases hz
  exact ⟨rfl, rfl, rfl, rfl, trivial⟩

theorem st_64 : StT prog 64 2 [(0, 1), (1, 1)] := ⟨_, Tryz.underlying64, ⟨_, _, Tryz.type64, rfl, rfl⟩, fun w => by simp⟩

theorem zs_64 : ∀ i z, prog.info? 64 = some i → i.zero = some z → ∀ F w, AllP F w [pv (.slice none 0 0), iv .i64 0] z.cells.toList := by
  intro i z hi hz F w
  have h1 : some i = some Tryz.t64 := hi.symm.trans Tryz.type64
  cases h1; cases hz
  exact ⟨rfl, rfl, trivial⟩

theorem st_71 : StT prog 71 0 [] := ⟨_, Tryz.underlying71, ⟨_, _, Tryz.type71, rfl, rfl⟩, fun w => by simp⟩

theorem zs_71 : ∀ i z, prog.info? 71 = some i → i.zero = some z → ∀ F w, AllP F w [] z.cells.toList := by
  intro i z hi hz F w
  have h1 : some i = some Tryz.t71 := hi.symm.trans Tryz.type71
  cases h1; cases hz
  exact trivial

theorem eq_29 : EqT prog 29 rT_api_Literal := eqT_struct Tryz.underlying29 (by kernel_rfl) (by kernel_rfl) fun x y F w cs ds h1 h2 => by
  match cs, ds, h1, h2 with
  | [_, _], [_, _], ⟨e0, e1, _⟩, ⟨f0, f1, _⟩ =>
    cases e0; cases e1; cases f0; cases f1
    exact ⟨_, ⟨⟨by decide, rfl, Tryz.isAgg4⟩, _, _, .bool Tryz.underlying4, ⟨⟨by decide, rfl, Tryz.isAgg9⟩, _, _, .str Tryz.underlying9, rfl, rfl⟩, rfl⟩, by cases x; cases y; rw [Bool.eq_iff_iff]; simp [ba_inj]⟩

theorem key_29 : KeyT prog 29 rT_api_Literal where
  check := fun x F w v h e w' => by
    obtain ⟨cs, hcs, rfl⟩ := sh_iff.1 h
    match cs, hcs with
    | [_, _], ⟨e0, e1, _⟩ =>
      cases e0; cases e1
      have k0 : ∀ w b, (Instr.checkKey e 9999 4 (.bool b)).run prog w = .ok () w := fun w b => MapKept.run_checkKey (n := 9998) Tryz.underlying4 (k := .bool b) (show MapKept.IsKey .bool (.bool b) from trivial) e
      have k1 : ∀ w b, (Instr.checkKey e 9999 9 (.string b)).run prog w = .ok () w := fun w b => MapKept.run_checkKey (n := 9998) Tryz.underlying9 (k := .string b) (show MapKept.IsKey .string (.string b) from trivial) e
      show (Instr.checkKey e (9999 + 1) 29 _).run prog w' = _
      rw [Instr.checkKey]
      generalize (9999 : Nat) = n at k0 k1
      simp [rT_api_Literal, rSt, mkV, run_underlying Tryz.underlying29, part, Tryz.isAgg4, Tryz.isAgg9, k0, k1]
  eq := fun x y F w u v h1 h2 w' => by
    obtain ⟨cs, hcs, rfl⟩ := sh_iff.1 h1
    obtain ⟨ds, hds, rfl⟩ := sh_iff.1 h2
    exact eq_29.run x y F w cs.toArray ds.toArray (by simpa using hcs) (by simpa using hds) w'
  stay := fun x F w u v h1 h2 => by
    obtain ⟨cs, hcs, rfl⟩ := sh_iff.1 h1
    obtain ⟨ds, hds, rfl⟩ := sh_iff.1 h2
    match cs, ds, hcs, hds with
    | [_, _], [_, _], ⟨e0, e1, _⟩, ⟨f0, f1, _⟩ =>
      cases e0; cases e1; cases f0; cases f1
      simp [rT_api_Literal, rSt, mkV, Instr.sameBits, MapKept.bytes_beq]
  now := fun k hk u v r h w' => by
    rw [Tryz.underlying29] at hk; cases hk
    cases u <;> cases v <;> simp [Instr.sameNow] at h
  und := ⟨_, Tryz.underlying29⟩
end Go.Dc
