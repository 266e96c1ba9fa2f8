/- Part LAW38Z.Types of a proof: lemmas. -/
import Derived.Test.YtcpkdjlfgfikcaaGreatDoorDcCut4
import Derived.Test.YtcpkdjlfgfikcaaGreatDoorDcTab
import Derived.Test.YtcpkdjlfgfikcaaGreatDoorDcText
import Derived.Test.YtcpkdjlfgfikcaaGreatDoorDcLend
import Derived.Test.YtcpkdjlfgfikcaaGreatDoorDcCop
import Derived.Test.YtcpkdjlfgfikcaaGreatDoorDcVec
import Derived.Test.YtcpkdjlfgfikcaaGreatDoorDcMap
import Derived.Test.YtcpkdjlfgfikcaaGreatDoorProg
set_option linter.unusedVariables false
set_option maxRecDepth 100000
set_option maxHeartbeats 4000000
namespace Go.Dc
open Go.Proofs
open Go.Proofs.Tryz (prog)

structure T_arr2_22 where
  i0 : (List ByteArray)
  i1 : (List ByteArray)
  deriving DecidableEq, Inhabited

def rT_arr2_22 : Rep T_arr2_22 := rSt [⟨(rSl rS), T_arr2_22.i0⟩, ⟨(rSl rS), T_arr2_22.i1⟩]

structure T_Cas where
  Name : ByteArray
  Facts : (List ByteArray)
  Winner : Int
  Reason : (List ByteArray)
  deriving DecidableEq, Inhabited

def rT_Cas : Rep T_Cas := rSt [⟨rS, T_Cas.Name⟩, ⟨(rSl rS), T_Cas.Facts⟩, ⟨(rI .i64), T_Cas.Winner⟩, ⟨(rSl rS), T_Cas.Reason⟩]

structure T_Lib where
  Sides : T_arr2_22
  Cases : (List T_Cas)
  deriving DecidableEq, Inhabited

def rT_Lib : Rep T_Lib := rSt [⟨rT_arr2_22, T_Lib.Sides⟩, ⟨(rSl rT_Cas), T_Lib.Cases⟩]

structure T_For where
  For : (List Int)
  Against : (List Int)
  deriving DecidableEq, Inhabited

def rT_For : Rep T_For := rSt [⟨(rSl (rI .i64)), T_For.For⟩, ⟨(rSl (rI .i64)), T_For.Against⟩]

structure T_Pai where
  From : Int
  To : Int
  deriving DecidableEq, Inhabited

def rT_Pai : Rep T_Pai := rSt [⟨(rI .i64), T_Pai.From⟩, ⟨(rI .i64), T_Pai.To⟩]

structure T_Gra where
  N : Int
  L : (List T_Pai)
  deriving DecidableEq, Inhabited

def rT_Gra : Rep T_Gra := rSt [⟨(rI .i64), T_Gra.N⟩, ⟨(rSl rT_Pai), T_Gra.L⟩]

structure T_Src where
  L : (List Int)
  At : Int
  deriving DecidableEq, Inhabited

def rT_Src : Rep T_Src := rSt [⟨(rSl (rI .i64)), T_Src.L⟩, ⟨(rI .i64), T_Src.At⟩]

def tab_0 : List Int := [0, 1, 56, 2, 57, 49, 28, 3, 61, 58, 42, 50, 38, 29, 17, 4, 62, 47, 59, 36, 45, 43, 51, 22, 53, 39, 33, 30, 24, 18, 12, 5, 63, 55, 48, 27, 60, 41, 37, 16, 46, 35, 44, 21, 52, 32, 23, 11, 54, 26, 40, 15, 34, 20, 31, 10, 25, 14, 19, 9, 13, 8, 7, 6]

theorem el_3 : ElT prog 3 (rI .i64) 8 := ⟨⟨_, Tryz.type3, rfl, rfl, _, rfl, rfl⟩, Tryz.isAgg3, by decide, by decide⟩

theorem el_5 : ElT prog 5 (rI .u8) 1 := ⟨⟨_, Tryz.type5, rfl, rfl, _, rfl, rfl⟩, Tryz.isAgg5, by decide, by decide⟩

theorem el_9 : ElT prog 9 rS 16 := ⟨⟨_, Tryz.type9, rfl, rfl, _, rfl, rfl⟩, Tryz.isAgg9, by decide, by decide⟩

theorem el_22 : ElT prog 22 (rSl rS) 24 := ⟨⟨_, Tryz.type22, rfl, rfl, _, rfl, rfl⟩, Tryz.isAgg22, by decide, by decide⟩

theorem el_26 : ElT prog 26 rT_Lib 72 := ⟨⟨_, Tryz.type26, rfl, rfl, _, rfl, rfl⟩, Tryz.isAgg26, by decide, by decide⟩

theorem el_60 : ElT prog 60 rT_Cas 72 := ⟨⟨_, Tryz.type60, rfl, rfl, _, rfl, rfl⟩, Tryz.isAgg60, by decide, by decide⟩

theorem el_87 : ElT prog 87 rT_Pai 16 := ⟨⟨_, Tryz.type87, rfl, rfl, _, rfl, rfl⟩, Tryz.isAgg87, by decide, by decide⟩

theorem el_117 : ElT prog 117 (rI .u64) 8 := ⟨⟨_, Tryz.type117, rfl, rfl, _, rfl, rfl⟩, Tryz.isAgg117, by decide, by decide⟩

theorem zt_3 : ∃ i z, prog.info? 3 = some i ∧ i.zero = some z ∧ ∀ F w, AllP F w [iv .i64 0] z.cells.toList := ⟨_, _, Tryz.type3, rfl, fun _ _ => ⟨rfl, trivial⟩⟩

theorem ze_3 : ZeroT prog 3 (rI .i64) 0 := ⟨_, _, Tryz.type3, rfl, fun _ _ => ⟨rfl, trivial⟩⟩

theorem zt_9 : ∃ i z, prog.info? 9 = some i ∧ i.zero = some z ∧ ∀ F w, AllP F w [sv ByteArray.empty] z.cells.toList := ⟨_, _, Tryz.type9, rfl, fun _ _ => ⟨rfl, trivial⟩⟩

theorem ze_9 : ZeroT prog 9 rS ByteArray.empty := ⟨_, _, Tryz.type9, rfl, fun _ _ => ⟨rfl, trivial⟩⟩

theorem zt_22 : ∃ i z, prog.info? 22 = some i ∧ i.zero = some z ∧ ∀ F w, AllP F w [pv (.slice none 0 0)] z.cells.toList := ⟨_, _, Tryz.type22, rfl, fun _ _ => ⟨rfl, trivial⟩⟩

theorem ze_22 : ZeroT prog 22 (rSl rS) [] := ⟨_, _, Tryz.type22, rfl, fun _ _ => ⟨⟨none, 0, rfl, Nat.le_refl _, fun h => absurd rfl h⟩, trivial⟩⟩

theorem zt_23 : ∃ i z, prog.info? 23 = some i ∧ i.zero = some z ∧ ∀ F w, AllP F w [pv (.slice none 0 0), pv (.slice none 0 0)] z.cells.toList := ⟨_, _, Tryz.type23, rfl, fun _ _ => ⟨rfl, rfl, trivial⟩⟩

theorem zt_26 : ∃ i z, prog.info? 26 = some i ∧ i.zero = some z ∧ ∀ F w, AllP F w [pv (.slice none 0 0), pv (.slice none 0 0), pv (.slice none 0 0)] z.cells.toList := ⟨_, _, Tryz.type26, rfl, fun _ _ => ⟨rfl, rfl, rfl, trivial⟩⟩

theorem ze_26 : ZeroT prog 26 rT_Lib (T_Lib.mk (T_arr2_22.mk [] []) []) := ⟨_, _, Tryz.type26, rfl, fun _ _ => ⟨⟨none, 0, rfl, Nat.le_refl _, fun h => absurd rfl h⟩, ⟨none, 0, rfl, Nat.le_refl _, fun h => absurd rfl h⟩, ⟨none, 0, rfl, Nat.le_refl _, fun h => absurd rfl h⟩, trivial⟩⟩

theorem zt_42 : ∃ i z, prog.info? 42 = some i ∧ i.zero = some z ∧ ∀ F w, AllP F w [pv (.slice none 0 0), pv (.slice none 0 0)] z.cells.toList := ⟨_, _, Tryz.type42, rfl, fun _ _ => ⟨rfl, rfl, trivial⟩⟩

theorem ze_42 : ZeroT prog 42 rT_For (T_For.mk [] []) := ⟨_, _, Tryz.type42, rfl, fun _ _ => ⟨⟨none, 0, rfl, Nat.le_refl _, fun h => absurd rfl h⟩, ⟨none, 0, rfl, Nat.le_refl _, fun h => absurd rfl h⟩, trivial⟩⟩

theorem zt_52 : ∃ i z, prog.info? 52 = some i ∧ i.zero = some z ∧ ∀ F w, AllP F w [iv .i64 0, pv (.slice none 0 0)] z.cells.toList := ⟨_, _, Tryz.type52, rfl, fun _ _ => ⟨rfl, rfl, trivial⟩⟩

theorem ze_52 : ZeroT prog 52 rT_Gra (T_Gra.mk 0 []) := ⟨_, _, Tryz.type52, rfl, fun _ _ => ⟨rfl, ⟨none, 0, rfl, Nat.le_refl _, fun h => absurd rfl h⟩, trivial⟩⟩

theorem zt_60 : ∃ i z, prog.info? 60 = some i ∧ i.zero = some z ∧ ∀ F w, AllP F w [sv ByteArray.empty, pv (.slice none 0 0), iv .i64 0, pv (.slice none 0 0)] z.cells.toList := ⟨_, _, Tryz.type60, rfl, fun _ _ => ⟨rfl, rfl, rfl, rfl, trivial⟩⟩

theorem ze_60 : ZeroT prog 60 rT_Cas (T_Cas.mk ByteArray.empty [] 0 []) := ⟨_, _, Tryz.type60, rfl, fun _ _ => ⟨rfl, ⟨none, 0, rfl, Nat.le_refl _, fun h => absurd rfl h⟩, rfl, ⟨none, 0, rfl, Nat.le_refl _, fun h => absurd rfl h⟩, trivial⟩⟩

theorem zt_87 : ∃ i z, prog.info? 87 = some i ∧ i.zero = some z ∧ ∀ F w, AllP F w [iv .i64 0, iv .i64 0] z.cells.toList := ⟨_, _, Tryz.type87, rfl, fun _ _ => ⟨rfl, rfl, trivial⟩⟩

theorem ze_87 : ZeroT prog 87 rT_Pai (T_Pai.mk 0 0) := ⟨_, _, Tryz.type87, rfl, fun _ _ => ⟨rfl, rfl, trivial⟩⟩

theorem zt_117 : ∃ i z, prog.info? 117 = some i ∧ i.zero = some z ∧ ∀ F w, AllP F w [iv .u64 0] z.cells.toList := ⟨_, _, Tryz.type117, rfl, fun _ _ => ⟨rfl, trivial⟩⟩

theorem ze_117 : ZeroT prog 117 (rI .u64) 0 := ⟨_, _, Tryz.type117, rfl, fun _ _ => ⟨rfl, trivial⟩⟩

theorem zv_119 : ∃ i z, prog.info? 119 = some i ∧ i.zero = some z ∧ ∀ F w, AllP F w (List.map (iv .i64) (List.replicate 40 0)) z.cells.toList := ⟨_, _, Tryz.type119, rfl, fun _ _ => ⟨rfl, rfl, rfl, rfl, rfl, rfl, rfl, rfl, rfl, rfl, rfl, rfl, rfl, rfl, rfl, rfl, rfl, rfl, rfl, rfl, rfl, rfl, rfl, rfl, rfl, rfl, rfl, rfl, rfl, rfl, rfl, rfl, rfl, rfl, rfl, rfl, rfl, rfl, rfl, rfl, trivial⟩⟩

theorem zs_23 : ∀ i z, prog.info? 23 = some i → i.zero = some z → ∀ F w, AllP F w [pv (.slice none 0 0), pv (.slice none 0 0)] z.cells.toList := by
  intro i z hi hz F w
  have h1 : some i = some Tryz.t23 := hi.symm.trans Tryz.type23
  cases h1; cases hz
  exact ⟨rfl, rfl, trivial⟩

theorem st_26 : StT prog 26 3 [(0, 2), (2, 1)] := ⟨_, Tryz.underlying26, ⟨_, _, Tryz.type26, rfl, rfl⟩, fun w => by simp⟩

theorem zs_26 : ∀ i z, prog.info? 26 = some i → i.zero = some z → ∀ F w, AllP F w [pv (.slice none 0 0), pv (.slice none 0 0), pv (.slice none 0 0)] z.cells.toList := by
  intro i z hi hz F w
  have h1 : some i = some Tryz.t26 := hi.symm.trans Tryz.type26
  cases h1; cases hz
  exact ⟨rfl, rfl, rfl, trivial⟩

theorem st_42 : StT prog 42 2 [(0, 1), (1, 1)] := ⟨_, Tryz.underlying42, ⟨_, _, Tryz.type42, rfl, rfl⟩, fun w => by simp⟩

theorem zs_42 : ∀ i z, prog.info? 42 = some i → i.zero = some z → ∀ F w, AllP F w [pv (.slice none 0 0), pv (.slice none 0 0)] z.cells.toList := by
  intro i z hi hz F w
  have h1 : some i = some Tryz.t42 := hi.symm.trans Tryz.type42
  cases h1; cases hz
  exact ⟨rfl, rfl, trivial⟩

theorem st_52 : StT prog 52 2 [(0, 1), (1, 1)] := ⟨_, Tryz.underlying52, ⟨_, _, Tryz.type52, rfl, rfl⟩, fun w => by simp⟩

theorem zs_52 : ∀ i z, prog.info? 52 = some i → i.zero = some z → ∀ F w, AllP F w [iv .i64 0, pv (.slice none 0 0)] z.cells.toList := by
  intro i z hi hz F w
  have h1 : some i = some Tryz.t52 := hi.symm.trans Tryz.type52
  cases h1; cases hz
  exact ⟨rfl, rfl, trivial⟩

theorem st_60 : StT prog 60 4 [(0, 1), (1, 1), (2, 1), (3, 1)] := ⟨_, Tryz.underlying60, ⟨_, _, Tryz.type60, rfl, rfl⟩, fun w => by simp⟩

theorem zs_60 : ∀ i z, prog.info? 60 = some i → i.zero = some z → ∀ F w, AllP F w [sv ByteArray.empty, pv (.slice none 0 0), iv .i64 0, pv (.slice none 0 0)] z.cells.toList := by
  intro i z hi hz F w
  have h1 : some i = some Tryz.t60 := hi.symm.trans Tryz.type60
  cases h1; cases hz
  exact ⟨rfl, rfl, rfl, rfl, trivial⟩

theorem st_63 : StT prog 63 2 [(0, 1), (1, 1)] := ⟨_, Tryz.underlying63, ⟨_, _, Tryz.type63, rfl, rfl⟩, fun w => by simp⟩

theorem zs_63 : ∀ i z, prog.info? 63 = some i → i.zero = some z → ∀ F w, AllP F w [pv (.slice none 0 0), iv .i64 0] z.cells.toList := by
  intro i z hi hz F w
  have h1 : some i = some Tryz.t63 := hi.symm.trans Tryz.type63
  cases h1; cases hz
  exact ⟨rfl, rfl, trivial⟩

theorem st_87 : StT prog 87 2 [(0, 1), (1, 1)] := ⟨_, Tryz.underlying87, ⟨_, _, Tryz.type87, rfl, rfl⟩, fun w => by simp⟩

theorem zs_87 : ∀ i z, prog.info? 87 = some i → i.zero = some z → ∀ F w, AllP F w [iv .i64 0, iv .i64 0] z.cells.toList := by
  intro i z hi hz F w
  have h1 : some i = some Tryz.t87 := hi.symm.trans Tryz.type87
  cases h1; cases hz
  exact ⟨rfl, rfl, trivial⟩

theorem eq_87 : EqT prog 87 rT_Pai := eqT_struct Tryz.underlying87 (by kernel_rfl) (by kernel_rfl) fun x y F w cs ds h1 h2 => by
  match cs, ds, h1, h2 with
  | [_, _], [_, _], ⟨e0, e1, _⟩, ⟨f0, f1, _⟩ =>
    cases e0; cases e1; cases f0; cases f1
    exact ⟨_, ⟨⟨by decide, rfl, Tryz.isAgg3⟩, _, _, .int Tryz.underlying3, ⟨⟨by decide, rfl, Tryz.isAgg3⟩, _, _, .int Tryz.underlying3, rfl, rfl⟩, rfl⟩, by cases x; cases y; rw [Bool.eq_iff_iff]; simp⟩
end Go.Dc
