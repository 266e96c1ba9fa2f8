/- Part LAW38S.Types of a proof: lemmas. -/
import Derived.Test.YtcpkdjlfgfikcaaDoorDcCut4
import Derived.Test.YtcpkdjlfgfikcaaDoorDcTab
import Derived.Test.YtcpkdjlfgfikcaaDoorDcText
import Derived.Test.YtcpkdjlfgfikcaaDoorDcLend
import Derived.Test.YtcpkdjlfgfikcaaDoorDcCop
import Derived.Test.YtcpkdjlfgfikcaaDoorDcVec
import Derived.Test.YtcpkdjlfgfikcaaDoorDcMap
import Derived.Test.YtcpkdjlfgfikcaaDoorProg
set_option linter.unusedVariables false
set_option maxRecDepth 100000
set_option maxHeartbeats 4000000
namespace Go.Dc
open Go.Proofs
open Go.Proofs.Tryd (prog)

structure T_deliberationkeep_Src where
  L : (List Int)
  At : Int
  deriving DecidableEq, Inhabited

def rT_deliberationkeep_Src : Rep T_deliberationkeep_Src := rSt [⟨(rSl (rI .i64)), T_deliberationkeep_Src.L⟩, ⟨(rI .i64), T_deliberationkeep_Src.At⟩]

structure T_arr2_25 where
  i0 : (List ByteArray)
  i1 : (List ByteArray)
  deriving DecidableEq, Inhabited

def rT_arr2_25 : Rep T_arr2_25 := rSt [⟨(rSl rS), T_arr2_25.i0⟩, ⟨(rSl rS), T_arr2_25.i1⟩]

structure T_api_Case where
  Name : ByteArray
  Facts : (List ByteArray)
  Winner : Int
  Reason : (List ByteArray)
  deriving DecidableEq, Inhabited

def rT_api_Case : Rep T_api_Case := rSt [⟨rS, T_api_Case.Name⟩, ⟨(rSl rS), T_api_Case.Facts⟩, ⟨(rI .i64), T_api_Case.Winner⟩, ⟨(rSl rS), T_api_Case.Reason⟩]

structure T_api_Library where
  Sides : T_arr2_25
  Cases : (List T_api_Case)
  deriving DecidableEq, Inhabited

def rT_api_Library : Rep T_api_Library := rSt [⟨rT_arr2_25, T_api_Library.Sides⟩, ⟨(rSl rT_api_Case), T_api_Library.Cases⟩]

structure T_api_Force where
  For : (List Int)
  Against : (List Int)
  deriving DecidableEq, Inhabited

def rT_api_Force : Rep T_api_Force := rSt [⟨(rSl (rI .i64)), T_api_Force.For⟩, ⟨(rSl (rI .i64)), T_api_Force.Against⟩]

structure T_api_Pair where
  From : Int
  To : Int
  deriving DecidableEq, Inhabited

def rT_api_Pair : Rep T_api_Pair := rSt [⟨(rI .i64), T_api_Pair.From⟩, ⟨(rI .i64), T_api_Pair.To⟩]

structure T_api_Graph where
  N : Int
  L : (List T_api_Pair)
  deriving DecidableEq, Inhabited

def rT_api_Graph : Rep T_api_Graph := rSt [⟨(rI .i64), T_api_Graph.N⟩, ⟨(rSl rT_api_Pair), T_api_Graph.L⟩]

def tab_0 : List Int := [0, 1, 56, 2, 57, 49, 28, 3, 61, 58, 42, 50, 38, 29, 17, 4, 62, 47, 59, 36, 45, 43, 51, 22, 53, 39, 33, 30, 24, 18, 12, 5, 63, 55, 48, 27, 60, 41, 37, 16, 46, 35, 44, 21, 52, 32, 23, 11, 54, 26, 40, 15, 34, 20, 31, 10, 25, 14, 19, 9, 13, 8, 7, 6]

theorem el_3 : ElT prog 3 (rI .i64) 8 := ⟨⟨_, Tryd.type3, rfl, rfl, _, rfl, rfl⟩, Tryd.isAgg3, by decide, by decide⟩

theorem el_5 : ElT prog 5 (rI .u8) 1 := ⟨⟨_, Tryd.type5, rfl, rfl, _, rfl, rfl⟩, Tryd.isAgg5, by decide, by decide⟩

theorem el_9 : ElT prog 9 rS 16 := ⟨⟨_, Tryd.type9, rfl, rfl, _, rfl, rfl⟩, Tryd.isAgg9, by decide, by decide⟩

theorem el_25 : ElT prog 25 (rSl rS) 24 := ⟨⟨_, Tryd.type25, rfl, rfl, _, rfl, rfl⟩, Tryd.isAgg25, by decide, by decide⟩

theorem el_39 : ElT prog 39 rT_api_Case 72 := ⟨⟨_, Tryd.type39, rfl, rfl, _, rfl, rfl⟩, Tryd.isAgg39, by decide, by decide⟩

theorem el_57 : ElT prog 57 rT_api_Pair 16 := ⟨⟨_, Tryd.type57, rfl, rfl, _, rfl, rfl⟩, Tryd.isAgg57, by decide, by decide⟩

theorem el_107 : ElT prog 107 (rI .u64) 8 := ⟨⟨_, Tryd.type107, rfl, rfl, _, rfl, rfl⟩, Tryd.isAgg107, by decide, by decide⟩

theorem zt_3 : ∃ i z, prog.info? 3 = some i ∧ i.zero = some z ∧ ∀ F w, AllP F w [iv .i64 0] z.cells.toList := ⟨_, _, Tryd.type3, rfl, fun _ _ => ⟨rfl, trivial⟩⟩

theorem ze_3 : ZeroT prog 3 (rI .i64) 0 := ⟨_, _, Tryd.type3, rfl, fun _ _ => ⟨rfl, trivial⟩⟩

theorem zt_9 : ∃ i z, prog.info? 9 = some i ∧ i.zero = some z ∧ ∀ F w, AllP F w [sv ByteArray.empty] z.cells.toList := ⟨_, _, Tryd.type9, rfl, fun _ _ => ⟨rfl, trivial⟩⟩

theorem ze_9 : ZeroT prog 9 rS ByteArray.empty := ⟨_, _, Tryd.type9, rfl, fun _ _ => ⟨rfl, trivial⟩⟩

theorem zt_25 : ∃ i z, prog.info? 25 = some i ∧ i.zero = some z ∧ ∀ F w, AllP F w [pv (.slice none 0 0)] z.cells.toList := ⟨_, _, Tryd.type25, rfl, fun _ _ => ⟨rfl, trivial⟩⟩

theorem ze_25 : ZeroT prog 25 (rSl rS) [] := ⟨_, _, Tryd.type25, rfl, fun _ _ => ⟨⟨none, 0, rfl, Nat.le_refl _, fun h => absurd rfl h⟩, trivial⟩⟩

theorem zt_26 : ∃ i z, prog.info? 26 = some i ∧ i.zero = some z ∧ ∀ F w, AllP F w [pv (.slice none 0 0), pv (.slice none 0 0)] z.cells.toList := ⟨_, _, Tryd.type26, rfl, fun _ _ => ⟨rfl, rfl, trivial⟩⟩

theorem zt_29 : ∃ i z, prog.info? 29 = some i ∧ i.zero = some z ∧ ∀ F w, AllP F w [pv (.slice none 0 0), pv (.slice none 0 0), pv (.slice none 0 0)] z.cells.toList := ⟨_, _, Tryd.type29, rfl, fun _ _ => ⟨rfl, rfl, rfl, trivial⟩⟩

theorem ze_29 : ZeroT prog 29 rT_api_Library (T_api_Library.mk (T_arr2_25.mk [] []) []) := ⟨_, _, Tryd.type29, rfl, fun _ _ => ⟨⟨none, 0, rfl, Nat.le_refl _, fun h => absurd rfl h⟩, ⟨none, 0, rfl, Nat.le_refl _, fun h => absurd rfl h⟩, ⟨none, 0, rfl, Nat.le_refl _, fun h => absurd rfl h⟩, trivial⟩⟩

theorem zt_33 : ∃ i z, prog.info? 33 = some i ∧ i.zero = some z ∧ ∀ F w, AllP F w [pv (.slice none 0 0), pv (.slice none 0 0)] z.cells.toList := ⟨_, _, Tryd.type33, rfl, fun _ _ => ⟨rfl, rfl, trivial⟩⟩

theorem ze_33 : ZeroT prog 33 rT_api_Force (T_api_Force.mk [] []) := ⟨_, _, Tryd.type33, rfl, fun _ _ => ⟨⟨none, 0, rfl, Nat.le_refl _, fun h => absurd rfl h⟩, ⟨none, 0, rfl, Nat.le_refl _, fun h => absurd rfl h⟩, trivial⟩⟩

theorem zt_39 : ∃ i z, prog.info? 39 = some i ∧ i.zero = some z ∧ ∀ F w, AllP F w [sv ByteArray.empty, pv (.slice none 0 0), iv .i64 0, pv (.slice none 0 0)] z.cells.toList := ⟨_, _, Tryd.type39, rfl, fun _ _ => ⟨rfl, rfl, rfl, rfl, trivial⟩⟩

theorem ze_39 : ZeroT prog 39 rT_api_Case (T_api_Case.mk ByteArray.empty [] 0 []) := ⟨_, _, Tryd.type39, rfl, fun _ _ => ⟨rfl, ⟨none, 0, rfl, Nat.le_refl _, fun h => absurd rfl h⟩, rfl, ⟨none, 0, rfl, Nat.le_refl _, fun h => absurd rfl h⟩, trivial⟩⟩

theorem zt_50 : ∃ i z, prog.info? 50 = some i ∧ i.zero = some z ∧ ∀ F w, AllP F w [iv .i64 0, pv (.slice none 0 0)] z.cells.toList := ⟨_, _, Tryd.type50, rfl, fun _ _ => ⟨rfl, rfl, trivial⟩⟩

theorem ze_50 : ZeroT prog 50 rT_api_Graph (T_api_Graph.mk 0 []) := ⟨_, _, Tryd.type50, rfl, fun _ _ => ⟨rfl, ⟨none, 0, rfl, Nat.le_refl _, fun h => absurd rfl h⟩, trivial⟩⟩

theorem zt_57 : ∃ i z, prog.info? 57 = some i ∧ i.zero = some z ∧ ∀ F w, AllP F w [iv .i64 0, iv .i64 0] z.cells.toList := ⟨_, _, Tryd.type57, rfl, fun _ _ => ⟨rfl, rfl, trivial⟩⟩

theorem ze_57 : ZeroT prog 57 rT_api_Pair (T_api_Pair.mk 0 0) := ⟨_, _, Tryd.type57, rfl, fun _ _ => ⟨rfl, rfl, trivial⟩⟩

theorem zt_107 : ∃ i z, prog.info? 107 = some i ∧ i.zero = some z ∧ ∀ F w, AllP F w [iv .u64 0] z.cells.toList := ⟨_, _, Tryd.type107, rfl, fun _ _ => ⟨rfl, trivial⟩⟩

theorem ze_107 : ZeroT prog 107 (rI .u64) 0 := ⟨_, _, Tryd.type107, rfl, fun _ _ => ⟨rfl, trivial⟩⟩

theorem zv_109 : ∃ i z, prog.info? 109 = some i ∧ i.zero = some z ∧ ∀ F w, AllP F w (List.map (iv .i64) (List.replicate 40 0)) z.cells.toList := ⟨_, _, Tryd.type109, rfl, fun _ _ => ⟨rfl, rfl, rfl, rfl, rfl, rfl, rfl, rfl, rfl, rfl, rfl, rfl, rfl, rfl, rfl, rfl, rfl, rfl, rfl, rfl, rfl, rfl, rfl, rfl, rfl, rfl, rfl, rfl, rfl, rfl, rfl, rfl, rfl, rfl, rfl, rfl, rfl, rfl, rfl, rfl, trivial⟩⟩

theorem zs_26 : ∀ i z, prog.info? 26 = some i → i.zero = some z → ∀ F w, AllP F w [pv (.slice none 0 0), pv (.slice none 0 0)] z.cells.toList := by
  intro i z hi hz F w
  have h1 : some i = some Tryd.t26 := hi.symm.trans Tryd.type26
  cases h1; cases hz
  exact ⟨rfl, rfl, trivial⟩

theorem st_29 : StT prog 29 3 [(0, 2), (2, 1)] := ⟨_, Tryd.underlying29, ⟨_, _, Tryd.type29, rfl, rfl⟩, fun w => by simp⟩

theorem zs_29 : ∀ i z, prog.info? 29 = some i → i.zero = some z → ∀ F w, AllP F w [pv (.slice none 0 0), pv (.slice none 0 0), pv (.slice none 0 0)] z.cells.toList := by
  intro i z hi hz F w
  have h1 : some i = some Tryd.t29 := hi.symm.trans Tryd.type29
  cases h1; cases hz
  exact ⟨rfl, rfl, rfl, trivial⟩

theorem st_33 : StT prog 33 2 [(0, 1), (1, 1)] := ⟨_, Tryd.underlying33, ⟨_, _, Tryd.type33, rfl, rfl⟩, fun w => by simp⟩

theorem zs_33 : ∀ i z, prog.info? 33 = some i → i.zero = some z → ∀ F w, AllP F w [pv (.slice none 0 0), pv (.slice none 0 0)] z.cells.toList := by
  intro i z hi hz F w
  have h1 : some i = some Tryd.t33 := hi.symm.trans Tryd.type33
  cases h1; cases hz
  exact ⟨rfl, rfl, trivial⟩

theorem st_39 : StT prog 39 4 [(0, 1), (1, 1), (2, 1), (3, 1)] := ⟨_, Tryd.underlying39, ⟨_, _, Tryd.type39, rfl, rfl⟩, fun w => by simp⟩

theorem zs_39 : ∀ i z, prog.info? 39 = some i → i.zero = some z → ∀ F w, AllP F w [sv ByteArray.empty, pv (.slice none 0 0), iv .i64 0, pv (.slice none 0 0)] z.cells.toList := by
  intro i z hi hz F w
  have h1 : some i = some Tryd.t39 := hi.symm.trans Tryd.type39
  cases h1; cases hz
  exact ⟨rfl, rfl, rfl, rfl, trivial⟩

theorem st_50 : StT prog 50 2 [(0, 1), (1, 1)] := ⟨_, Tryd.underlying50, ⟨_, _, Tryd.type50, rfl, rfl⟩, fun w => by simp⟩

theorem zs_50 : ∀ i z, prog.info? 50 = some i → i.zero = some z → ∀ F w, AllP F w [iv .i64 0, pv (.slice none 0 0)] z.cells.toList := by
  intro i z hi hz F w
  have h1 : some i = some Tryd.t50 := hi.symm.trans Tryd.type50
  cases h1; cases hz
  exact ⟨rfl, rfl, trivial⟩

theorem st_57 : StT prog 57 2 [(0, 1), (1, 1)] := ⟨_, Tryd.underlying57, ⟨_, _, Tryd.type57, rfl, rfl⟩, fun w => by simp⟩

theorem zs_57 : ∀ i z, prog.info? 57 = some i → i.zero = some z → ∀ F w, AllP F w [iv .i64 0, iv .i64 0] z.cells.toList := by
  intro i z hi hz F w
  have h1 : some i = some Tryd.t57 := hi.symm.trans Tryd.type57
  cases h1; cases hz
  exact ⟨rfl, rfl, trivial⟩

theorem st_64 : StT prog 64 2 [(0, 1), (1, 1)] := ⟨_, Tryd.underlying64, ⟨_, _, Tryd.type64, rfl, rfl⟩, fun w => by simp⟩

theorem zs_64 : ∀ i z, prog.info? 64 = some i → i.zero = some z → ∀ F w, AllP F w [pv (.slice none 0 0), iv .i64 0] z.cells.toList := by
  intro i z hi hz F w
  have h1 : some i = some Tryd.t64 := hi.symm.trans Tryd.type64
  cases h1; cases hz
  exact ⟨rfl, rfl, trivial⟩
end Go.Dc
