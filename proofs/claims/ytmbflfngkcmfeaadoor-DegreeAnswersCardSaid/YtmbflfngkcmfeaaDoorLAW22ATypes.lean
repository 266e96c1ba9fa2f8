/- Part LAW22A.Types of a proof: lemmas. -/
import Derived.Test.YtmbflfngkcmfeaaDoorDcCut4
import Derived.Test.YtmbflfngkcmfeaaDoorDcTab
import Derived.Test.YtmbflfngkcmfeaaDoorDcOpt
import Derived.Test.YtmbflfngkcmfeaaDoorProg
set_option linter.unusedVariables false
set_option maxRecDepth 100000
set_option maxHeartbeats 4000000
namespace Go.Dc
open Go.Proofs
open Go.Proofs.Tryd (prog)

structure T_api_Pair where
  From : Int
  To : Int
  deriving DecidableEq, Inhabited

def rT_api_Pair : Rep T_api_Pair := rSt [⟨(rI .i64), T_api_Pair.From⟩, ⟨(rI .i64), T_api_Pair.To⟩]

structure T_api_Graph where
  N : Int
  L : (List T_api_Pair)
  deriving DecidableEq, Inhabited

def rT_api_Graph : Rep T_api_Graph := rSt [⟨(rI .i64), T_api_Graph.N⟩, ⟨(rSl rT_api_Pair), T_api_Graph.L⟩]

structure T_network_Net where
  All : Int
  By : (List Int)
  Out : (List Int)
  deriving DecidableEq, Inhabited

def rT_network_Net : Rep T_network_Net := rSt [⟨(rI .u64), T_network_Net.All⟩, ⟨(rSl (rI .u64)), T_network_Net.By⟩, ⟨(rSl (rI .u64)), T_network_Net.Out⟩]

structure T_api_Budget where
  Weight : Int
  Dropped : (List Int)
  deriving DecidableEq, Inhabited

def rT_api_Budget : Rep T_api_Budget := rSt [⟨(rI .i64), T_api_Budget.Weight⟩, ⟨(rSl (rI .i64)), T_api_Budget.Dropped⟩]

structure T_api_Fraction where
  Num : Int
  Den : Int
  deriving DecidableEq, Inhabited

def rT_api_Fraction : Rep T_api_Fraction := rSt [⟨(rI .i64), T_api_Fraction.Num⟩, ⟨(rI .i64), T_api_Fraction.Den⟩]

structure T_deliberationkeep_Src where
  L : (List Int)
  At : Int
  deriving DecidableEq, Inhabited

def rT_deliberationkeep_Src : Rep T_deliberationkeep_Src := rSt [⟨(rSl (rI .i64)), T_deliberationkeep_Src.L⟩, ⟨(rI .i64), T_deliberationkeep_Src.At⟩]

structure T_anon57 where
  g : T_api_Graph
  w' : (List Int)
  node : Int
  deriving DecidableEq, Inhabited

def rT_anon57 : Rep T_anon57 := rSt [⟨rT_api_Graph, T_anon57.g⟩, ⟨(rSl (rI .i64)), T_anon57.w'⟩, ⟨(rI .i64), T_anon57.node⟩]

def tab_0 : List Int := [0, 1, 56, 2, 57, 49, 28, 3, 61, 58, 42, 50, 38, 29, 17, 4, 62, 47, 59, 36, 45, 43, 51, 22, 53, 39, 33, 30, 24, 18, 12, 5, 63, 55, 48, 27, 60, 41, 37, 16, 46, 35, 44, 21, 52, 32, 23, 11, 54, 26, 40, 15, 34, 20, 31, 10, 25, 14, 19, 9, 13, 8, 7, 6]

theorem el_3 : ElT prog 3 (rI .i64) 8 := ⟨⟨_, Tryd.type3, rfl, rfl, _, rfl, rfl⟩, Tryd.isAgg3, by decide, by decide⟩

theorem el_5 : ElT prog 5 (rI .u8) 1 := ⟨⟨_, Tryd.type5, rfl, rfl, _, rfl, rfl⟩, Tryd.isAgg5, by decide, by decide⟩

theorem el_22 : ElT prog 22 (rSl (rI .i64)) 24 := ⟨⟨_, Tryd.type22, rfl, rfl, _, rfl, rfl⟩, Tryd.isAgg22, by decide, by decide⟩

theorem el_32 : ElT prog 32 rT_api_Budget 32 := ⟨⟨_, Tryd.type32, rfl, rfl, _, rfl, rfl⟩, Tryd.isAgg32, by decide, by decide⟩

theorem el_53 : ElT prog 53 rT_api_Fraction 16 := ⟨⟨_, Tryd.type53, rfl, rfl, _, rfl, rfl⟩, Tryd.isAgg53, by decide, by decide⟩

theorem el_56 : ElT prog 56 rT_api_Pair 16 := ⟨⟨_, Tryd.type56, rfl, rfl, _, rfl, rfl⟩, Tryd.isAgg56, by decide, by decide⟩

theorem el_57 : ElT prog 57 rT_anon57 64 := ⟨⟨_, Tryd.type57, rfl, rfl, _, rfl, rfl⟩, Tryd.isAgg57, by decide, by decide⟩

theorem el_77 : ElT prog 77 (rI .u64) 8 := ⟨⟨_, Tryd.type77, rfl, rfl, _, rfl, rfl⟩, Tryd.isAgg77, by decide, by decide⟩

theorem zt_3 : ∃ i z, prog.info? 3 = some i ∧ i.zero = some z ∧ ∀ F w, AllP F w [iv .i64 0] z.cells.toList := ⟨_, _, Tryd.type3, rfl, fun _ _ => ⟨rfl, trivial⟩⟩

theorem ze_3 : ZeroT prog 3 (rI .i64) 0 := ⟨_, _, Tryd.type3, rfl, fun _ _ => ⟨rfl, trivial⟩⟩

theorem zt_27 : ∃ i z, prog.info? 27 = some i ∧ i.zero = some z ∧ ∀ F w, AllP F w [iv .i64 0, pv (.slice none 0 0)] z.cells.toList := ⟨_, _, Tryd.type27, rfl, fun _ _ => ⟨rfl, rfl, trivial⟩⟩

theorem ze_27 : ZeroT prog 27 rT_api_Graph (T_api_Graph.mk 0 []) := ⟨_, _, Tryd.type27, rfl, fun _ _ => ⟨rfl, ⟨none, 0, rfl, Nat.le_refl _, fun h => absurd rfl h⟩, trivial⟩⟩

theorem zt_32 : ∃ i z, prog.info? 32 = some i ∧ i.zero = some z ∧ ∀ F w, AllP F w [iv .i64 0, pv (.slice none 0 0)] z.cells.toList := ⟨_, _, Tryd.type32, rfl, fun _ _ => ⟨rfl, rfl, trivial⟩⟩

theorem ze_32 : ZeroT prog 32 rT_api_Budget (T_api_Budget.mk 0 []) := ⟨_, _, Tryd.type32, rfl, fun _ _ => ⟨rfl, ⟨none, 0, rfl, Nat.le_refl _, fun h => absurd rfl h⟩, trivial⟩⟩

theorem zt_53 : ∃ i z, prog.info? 53 = some i ∧ i.zero = some z ∧ ∀ F w, AllP F w [iv .i64 0, iv .i64 0] z.cells.toList := ⟨_, _, Tryd.type53, rfl, fun _ _ => ⟨rfl, rfl, trivial⟩⟩

theorem ze_53 : ZeroT prog 53 rT_api_Fraction (T_api_Fraction.mk 0 0) := ⟨_, _, Tryd.type53, rfl, fun _ _ => ⟨rfl, rfl, trivial⟩⟩

theorem zt_56 : ∃ i z, prog.info? 56 = some i ∧ i.zero = some z ∧ ∀ F w, AllP F w [iv .i64 0, iv .i64 0] z.cells.toList := ⟨_, _, Tryd.type56, rfl, fun _ _ => ⟨rfl, rfl, trivial⟩⟩

theorem ze_56 : ZeroT prog 56 rT_api_Pair (T_api_Pair.mk 0 0) := ⟨_, _, Tryd.type56, rfl, fun _ _ => ⟨rfl, rfl, trivial⟩⟩

theorem zt_57 : ∃ i z, prog.info? 57 = some i ∧ i.zero = some z ∧ ∀ F w, AllP F w [iv .i64 0, pv (.slice none 0 0), pv (.slice none 0 0), iv .i64 0] z.cells.toList := ⟨_, _, Tryd.type57, rfl, fun _ _ => ⟨rfl, rfl, rfl, rfl, trivial⟩⟩

theorem ze_57 : ZeroT prog 57 rT_anon57 (T_anon57.mk (T_api_Graph.mk 0 []) [] 0) := ⟨_, _, Tryd.type57, rfl, fun _ _ => ⟨rfl, ⟨none, 0, rfl, Nat.le_refl _, fun h => absurd rfl h⟩, ⟨none, 0, rfl, Nat.le_refl _, fun h => absurd rfl h⟩, rfl, trivial⟩⟩

theorem zt_77 : ∃ i z, prog.info? 77 = some i ∧ i.zero = some z ∧ ∀ F w, AllP F w [iv .u64 0] z.cells.toList := ⟨_, _, Tryd.type77, rfl, fun _ _ => ⟨rfl, trivial⟩⟩

theorem ze_77 : ZeroT prog 77 (rI .u64) 0 := ⟨_, _, Tryd.type77, rfl, fun _ _ => ⟨rfl, trivial⟩⟩

theorem zt_80 : ∃ i z, prog.info? 80 = some i ∧ i.zero = some z ∧ ∀ F w, AllP F w [iv .u64 0, pv (.slice none 0 0), pv (.slice none 0 0)] z.cells.toList := ⟨_, _, Tryd.type80, rfl, fun _ _ => ⟨rfl, rfl, rfl, trivial⟩⟩

theorem ze_80 : ZeroT prog 80 rT_network_Net (T_network_Net.mk 0 [] []) := ⟨_, _, Tryd.type80, rfl, fun _ _ => ⟨rfl, ⟨none, 0, rfl, Nat.le_refl _, fun h => absurd rfl h⟩, ⟨none, 0, rfl, Nat.le_refl _, fun h => absurd rfl h⟩, trivial⟩⟩

theorem st_27 : StT prog 27 2 [(0, 1), (1, 1)] := ⟨_, Tryd.underlying27, ⟨_, _, Tryd.type27, rfl, rfl⟩, fun w => by simp⟩

theorem zs_27 : ∀ i z, prog.info? 27 = some i → i.zero = some z → ∀ F w, AllP F w [iv .i64 0, pv (.slice none 0 0)] z.cells.toList := by
  intro i z hi hz F w
  have h1 : some i = some Tryd.t27 := hi.symm.trans Tryd.type27
  cases h1; cases hz
  exact ⟨rfl, rfl, trivial⟩

theorem st_32 : StT prog 32 2 [(0, 1), (1, 1)] := ⟨_, Tryd.underlying32, ⟨_, _, Tryd.type32, rfl, rfl⟩, fun w => by simp⟩

theorem zs_32 : ∀ i z, prog.info? 32 = some i → i.zero = some z → ∀ F w, AllP F w [iv .i64 0, pv (.slice none 0 0)] z.cells.toList := by
  intro i z hi hz F w
  have h1 : some i = some Tryd.t32 := hi.symm.trans Tryd.type32
  cases h1; cases hz
  exact ⟨rfl, rfl, trivial⟩

theorem st_53 : StT prog 53 2 [(0, 1), (1, 1)] := ⟨_, Tryd.underlying53, ⟨_, _, Tryd.type53, rfl, rfl⟩, fun w => by simp⟩

theorem zs_53 : ∀ i z, prog.info? 53 = some i → i.zero = some z → ∀ F w, AllP F w [iv .i64 0, iv .i64 0] z.cells.toList := by
  intro i z hi hz F w
  have h1 : some i = some Tryd.t53 := hi.symm.trans Tryd.type53
  cases h1; cases hz
  exact ⟨rfl, rfl, trivial⟩

theorem st_56 : StT prog 56 2 [(0, 1), (1, 1)] := ⟨_, Tryd.underlying56, ⟨_, _, Tryd.type56, rfl, rfl⟩, fun w => by simp⟩

theorem zs_56 : ∀ i z, prog.info? 56 = some i → i.zero = some z → ∀ F w, AllP F w [iv .i64 0, iv .i64 0] z.cells.toList := by
  intro i z hi hz F w
  have h1 : some i = some Tryd.t56 := hi.symm.trans Tryd.type56
  cases h1; cases hz
  exact ⟨rfl, rfl, trivial⟩

theorem st_57 : StT prog 57 4 [(0, 2), (2, 1), (3, 1)] := ⟨_, Tryd.underlying57, ⟨_, _, Tryd.type57, rfl, rfl⟩, fun w => by simp⟩

theorem zs_57 : ∀ i z, prog.info? 57 = some i → i.zero = some z → ∀ F w, AllP F w [iv .i64 0, pv (.slice none 0 0), pv (.slice none 0 0), iv .i64 0] z.cells.toList := by
  intro i z hi hz F w
  have h1 : some i = some Tryd.t57 := hi.symm.trans Tryd.type57
  cases h1; cases hz
  exact ⟨rfl, rfl, rfl, rfl, trivial⟩

theorem st_69 : StT prog 69 2 [(0, 1), (1, 1)] := ⟨_, Tryd.underlying69, ⟨_, _, Tryd.type69, rfl, rfl⟩, fun w => by simp⟩

theorem zs_69 : ∀ i z, prog.info? 69 = some i → i.zero = some z → ∀ F w, AllP F w [pv (.slice none 0 0), iv .i64 0] z.cells.toList := by
  intro i z hi hz F w
  have h1 : some i = some Tryd.t69 := hi.symm.trans Tryd.type69
  cases h1; cases hz
  exact ⟨rfl, rfl, trivial⟩

theorem st_80 : StT prog 80 3 [(0, 1), (1, 1), (2, 1)] := ⟨_, Tryd.underlying80, ⟨_, _, Tryd.type80, rfl, rfl⟩, fun w => by simp⟩

theorem zs_80 : ∀ i z, prog.info? 80 = some i → i.zero = some z → ∀ F w, AllP F w [iv .u64 0, pv (.slice none 0 0), pv (.slice none 0 0)] z.cells.toList := by
  intro i z hi hz F w
  have h1 : some i = some Tryd.t80 := hi.symm.trans Tryd.type80
  cases h1; cases hz
  exact ⟨rfl, rfl, rfl, trivial⟩

theorem eq_53 : EqT prog 53 rT_api_Fraction := eqT_struct Tryd.underlying53 (by kernel_rfl) (by kernel_rfl) fun x y F w cs ds h1 h2 => by
  match cs, ds, h1, h2 with
  | [_, _], [_, _], ⟨e0, e1, _⟩, ⟨f0, f1, _⟩ =>
    cases e0; cases e1; cases f0; cases f1
    exact ⟨_, ⟨⟨by decide, rfl, Tryd.isAgg3⟩, _, _, .int Tryd.underlying3, ⟨⟨by decide, rfl, Tryd.isAgg3⟩, _, _, .int Tryd.underlying3, rfl, rfl⟩, rfl⟩, by cases x; cases y; rw [Bool.eq_iff_iff]; simp⟩

theorem eq_56 : EqT prog 56 rT_api_Pair := eqT_struct Tryd.underlying56 (by kernel_rfl) (by kernel_rfl) fun x y F w cs ds h1 h2 => by
  match cs, ds, h1, h2 with
  | [_, _], [_, _], ⟨e0, e1, _⟩, ⟨f0, f1, _⟩ =>
    cases e0; cases e1; cases f0; cases f1
    exact ⟨_, ⟨⟨by decide, rfl, Tryd.isAgg3⟩, _, _, .int Tryd.underlying3, ⟨⟨by decide, rfl, Tryd.isAgg3⟩, _, _, .int Tryd.underlying3, rfl, rfl⟩, rfl⟩, by cases x; cases y; rw [Bool.eq_iff_iff]; simp⟩
end Go.Dc
