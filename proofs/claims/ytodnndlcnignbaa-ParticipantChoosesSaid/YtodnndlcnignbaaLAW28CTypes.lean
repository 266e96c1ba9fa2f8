/- Part LAW28C.Types of a proof: lemmas. -/
import Derived.Test.YtodnndlcnignbaaDcEqA
import Derived.Test.YtodnndlcnignbaaProg
set_option linter.unusedVariables false
set_option maxRecDepth 100000
set_option maxHeartbeats 4000000
namespace Go.Dc
open Go.Proofs
open Go.Proofs.Try (prog)

structure T_api_Pair where
  From : Int
  To : Int
  deriving DecidableEq, Inhabited

def rT_api_Pair : Rep T_api_Pair := rSt [⟨(rI .i64), T_api_Pair.From⟩, ⟨(rI .i64), T_api_Pair.To⟩]

structure T_api_Graph where
  N : Int
  L : (List T_api_Pair)
  deriving DecidableEq, Inhabited

def rT_api_Graph : Rep T_api_Graph := rSt [⟨(rI .i64), T_api_Graph.N⟩, ⟨(rSl rT_api_Pair), T_api_Graph.L⟩]

structure T_arr2_3 where
  i0 : Int
  i1 : Int
  deriving DecidableEq, Inhabited

def rT_arr2_3 : Rep T_arr2_3 := rSt [⟨(rI .i64), T_arr2_3.i0⟩, ⟨(rI .i64), T_arr2_3.i1⟩]

structure T_api_Move where
  By : Int
  Kind : Int
  Node : Int
  Target : Int
  deriving DecidableEq, Inhabited

def rT_api_Move : Rep T_api_Move := rSt [⟨(rI .i64), T_api_Move.By⟩, ⟨(rI .i64), T_api_Move.Kind⟩, ⟨(rI .i64), T_api_Move.Node⟩, ⟨(rI .i64), T_api_Move.Target⟩]

structure T_api_Dialogue where
  Graph : T_api_Graph
  Root : Int
  Limits : T_arr2_3
  Moves : (List T_api_Move)
  deriving DecidableEq, Inhabited

def rT_api_Dialogue : Rep T_api_Dialogue := rSt [⟨rT_api_Graph, T_api_Dialogue.Graph⟩, ⟨(rI .i64), T_api_Dialogue.Root⟩, ⟨rT_arr2_3, T_api_Dialogue.Limits⟩, ⟨(rSl rT_api_Move), T_api_Dialogue.Moves⟩]

structure T_api_Player where
  Pool : (List Int)
  Withheld : (List Int)
  Script : (List T_api_Move)
  Style : Int
  deriving DecidableEq, Inhabited

def rT_api_Player : Rep T_api_Player := rSt [⟨(rSl (rI .i64)), T_api_Player.Pool⟩, ⟨(rSl (rI .i64)), T_api_Player.Withheld⟩, ⟨(rSl rT_api_Move), T_api_Player.Script⟩, ⟨(rI .i64), T_api_Player.Style⟩]

structure T_protocol_table where
  d : T_api_Dialogue
  status : (List Int)
  leader : Int
  leading : (List Bool)
  deriving DecidableEq, Inhabited

def rT_protocol_table : Rep T_protocol_table := rSt [⟨rT_api_Dialogue, T_protocol_table.d⟩, ⟨(rSl (rI .i64)), T_protocol_table.status⟩, ⟨(rI .i64), T_protocol_table.leader⟩, ⟨(rSl rB), T_protocol_table.leading⟩]

structure T_api_Outcome where
  Winner : Int
  Reason : Int
  deriving DecidableEq, Inhabited

def rT_api_Outcome : Rep T_api_Outcome := rSt [⟨(rI .i64), T_api_Outcome.Winner⟩, ⟨(rI .i64), T_api_Outcome.Reason⟩]

structure T_deliberationkeep_Src where
  L : (List Int)
  At : Int
  deriving DecidableEq, Inhabited

def rT_deliberationkeep_Src : Rep T_deliberationkeep_Src := rSt [⟨(rSl (rI .i64)), T_deliberationkeep_Src.L⟩, ⟨(rI .i64), T_deliberationkeep_Src.At⟩]

structure T_arr2_25 where
  i0 : T_api_Player
  i1 : T_api_Player
  deriving DecidableEq, Inhabited

def rT_arr2_25 : Rep T_arr2_25 := rSt [⟨rT_api_Player, T_arr2_25.i0⟩, ⟨rT_api_Player, T_arr2_25.i1⟩]

theorem el_3 : ElT prog 3 (rI .i64) 8 := ⟨⟨_, Try.type3, rfl, rfl, _, rfl, rfl⟩, Try.isAgg3, by decide, by decide⟩

theorem el_4 : ElT prog 4 rB 1 := ⟨⟨_, Try.type4, rfl, rfl, _, rfl, rfl⟩, Try.isAgg4, by decide, by decide⟩

theorem el_25 : ElT prog 25 rT_api_Player 80 := ⟨⟨_, Try.type25, rfl, rfl, _, rfl, rfl⟩, Try.isAgg25, by decide, by decide⟩

theorem el_28 : ElT prog 28 rT_api_Graph 32 := ⟨⟨_, Try.type28, rfl, rfl, _, rfl, rfl⟩, Try.isAgg28, by decide, by decide⟩

theorem el_40 : ElT prog 40 rT_api_Move 32 := ⟨⟨_, Try.type40, rfl, rfl, _, rfl, rfl⟩, Try.isAgg40, by decide, by decide⟩

theorem el_44 : ElT prog 44 rT_arr2_25 160 := ⟨⟨_, Try.type44, rfl, rfl, _, rfl, rfl⟩, Try.isAgg44, by decide, by decide⟩

theorem el_67 : ElT prog 67 rT_api_Pair 16 := ⟨⟨_, Try.type67, rfl, rfl, _, rfl, rfl⟩, Try.isAgg67, by decide, by decide⟩

theorem zt_3 : ∃ i z, prog.info? 3 = some i ∧ i.zero = some z ∧ ∀ F w, AllP F w [iv .i64 0] z.cells.toList := ⟨_, _, Try.type3, rfl, fun _ _ => ⟨rfl, trivial⟩⟩

theorem ze_3 : ZeroT prog 3 (rI .i64) 0 := ⟨_, _, Try.type3, rfl, fun _ _ => ⟨rfl, trivial⟩⟩

theorem zt_4 : ∃ i z, prog.info? 4 = some i ∧ i.zero = some z ∧ ∀ F w, AllP F w [bv false] z.cells.toList := ⟨_, _, Try.type4, rfl, fun _ _ => ⟨rfl, trivial⟩⟩

theorem ze_4 : ZeroT prog 4 rB false := ⟨_, _, Try.type4, rfl, fun _ _ => ⟨rfl, trivial⟩⟩

theorem zt_25 : ∃ i z, prog.info? 25 = some i ∧ i.zero = some z ∧ ∀ F w, AllP F w [pv (.slice none 0 0), pv (.slice none 0 0), pv (.slice none 0 0), iv .i64 0] z.cells.toList := ⟨_, _, Try.type25, rfl, fun _ _ => ⟨rfl, rfl, rfl, rfl, trivial⟩⟩

theorem ze_25 : ZeroT prog 25 rT_api_Player (T_api_Player.mk [] [] [] 0) := ⟨_, _, Try.type25, rfl, fun _ _ => ⟨⟨none, 0, rfl, Nat.le_refl _, fun h => absurd rfl h⟩, ⟨none, 0, rfl, Nat.le_refl _, fun h => absurd rfl h⟩, ⟨none, 0, rfl, Nat.le_refl _, fun h => absurd rfl h⟩, rfl, trivial⟩⟩

theorem zt_28 : ∃ i z, prog.info? 28 = some i ∧ i.zero = some z ∧ ∀ F w, AllP F w [iv .i64 0, pv (.slice none 0 0)] z.cells.toList := ⟨_, _, Try.type28, rfl, fun _ _ => ⟨rfl, rfl, trivial⟩⟩

theorem ze_28 : ZeroT prog 28 rT_api_Graph (T_api_Graph.mk 0 []) := ⟨_, _, Try.type28, rfl, fun _ _ => ⟨rfl, ⟨none, 0, rfl, Nat.le_refl _, fun h => absurd rfl h⟩, trivial⟩⟩

theorem zt_35 : ∃ i z, prog.info? 35 = some i ∧ i.zero = some z ∧ ∀ F w, AllP F w [iv .i64 0, pv (.slice none 0 0), iv .i64 0, iv .i64 0, iv .i64 0, pv (.slice none 0 0)] z.cells.toList := ⟨_, _, Try.type35, rfl, fun _ _ => ⟨rfl, rfl, rfl, rfl, rfl, rfl, trivial⟩⟩

theorem ze_35 : ZeroT prog 35 rT_api_Dialogue (T_api_Dialogue.mk (T_api_Graph.mk 0 []) 0 (T_arr2_3.mk 0 0) []) := ⟨_, _, Try.type35, rfl, fun _ _ => ⟨rfl, ⟨none, 0, rfl, Nat.le_refl _, fun h => absurd rfl h⟩, rfl, rfl, rfl, ⟨none, 0, rfl, Nat.le_refl _, fun h => absurd rfl h⟩, trivial⟩⟩

theorem zt_40 : ∃ i z, prog.info? 40 = some i ∧ i.zero = some z ∧ ∀ F w, AllP F w [iv .i64 0, iv .i64 0, iv .i64 0, iv .i64 0] z.cells.toList := ⟨_, _, Try.type40, rfl, fun _ _ => ⟨rfl, rfl, rfl, rfl, trivial⟩⟩

theorem ze_40 : ZeroT prog 40 rT_api_Move (T_api_Move.mk 0 0 0 0) := ⟨_, _, Try.type40, rfl, fun _ _ => ⟨rfl, rfl, rfl, rfl, trivial⟩⟩

theorem zt_44 : ∃ i z, prog.info? 44 = some i ∧ i.zero = some z ∧ ∀ F w, AllP F w [pv (.slice none 0 0), pv (.slice none 0 0), pv (.slice none 0 0), iv .i64 0, pv (.slice none 0 0), pv (.slice none 0 0), pv (.slice none 0 0), iv .i64 0] z.cells.toList := ⟨_, _, Try.type44, rfl, fun _ _ => ⟨rfl, rfl, rfl, rfl, rfl, rfl, rfl, rfl, trivial⟩⟩

theorem zt_55 : ∃ i z, prog.info? 55 = some i ∧ i.zero = some z ∧ ∀ F w, AllP F w [pv .nilFunc] z.cells.toList := ⟨_, _, Try.type55, rfl, fun _ _ => ⟨rfl, trivial⟩⟩

theorem zt_57 : ∃ i z, prog.info? 57 = some i ∧ i.zero = some z ∧ ∀ F w, AllP F w [iv .i64 0, iv .i64 0] z.cells.toList := ⟨_, _, Try.type57, rfl, fun _ _ => ⟨rfl, rfl, trivial⟩⟩

theorem ze_57 : ZeroT prog 57 rT_api_Outcome (T_api_Outcome.mk 0 0) := ⟨_, _, Try.type57, rfl, fun _ _ => ⟨rfl, rfl, trivial⟩⟩

theorem zt_67 : ∃ i z, prog.info? 67 = some i ∧ i.zero = some z ∧ ∀ F w, AllP F w [iv .i64 0, iv .i64 0] z.cells.toList := ⟨_, _, Try.type67, rfl, fun _ _ => ⟨rfl, rfl, trivial⟩⟩

theorem ze_67 : ZeroT prog 67 rT_api_Pair (T_api_Pair.mk 0 0) := ⟨_, _, Try.type67, rfl, fun _ _ => ⟨rfl, rfl, trivial⟩⟩

theorem zt_95 : ∃ i z, prog.info? 95 = some i ∧ i.zero = some z ∧ ∀ F w, AllP F w [iv .i64 0, pv (.slice none 0 0), iv .i64 0, iv .i64 0, iv .i64 0, pv (.slice none 0 0), pv (.slice none 0 0), iv .i64 0, pv (.slice none 0 0)] z.cells.toList := ⟨_, _, Try.type95, rfl, fun _ _ => ⟨rfl, rfl, rfl, rfl, rfl, rfl, rfl, rfl, rfl, trivial⟩⟩

theorem ze_95 : ZeroT prog 95 rT_protocol_table (T_protocol_table.mk (T_api_Dialogue.mk (T_api_Graph.mk 0 []) 0 (T_arr2_3.mk 0 0) []) [] 0 []) := ⟨_, _, Try.type95, rfl, fun _ _ => ⟨rfl, ⟨none, 0, rfl, Nat.le_refl _, fun h => absurd rfl h⟩, rfl, rfl, rfl, ⟨none, 0, rfl, Nat.le_refl _, fun h => absurd rfl h⟩, ⟨none, 0, rfl, Nat.le_refl _, fun h => absurd rfl h⟩, rfl, ⟨none, 0, rfl, Nat.le_refl _, fun h => absurd rfl h⟩, trivial⟩⟩

theorem st_25 : StT prog 25 4 [(0, 1), (1, 1), (2, 1), (3, 1)] := ⟨_, Try.underlying25, ⟨_, _, Try.type25, rfl, rfl⟩, fun w => by simp⟩

theorem zs_25 : ∀ i z, prog.info? 25 = some i → i.zero = some z → ∀ F w, AllP F w [pv (.slice none 0 0), pv (.slice none 0 0), pv (.slice none 0 0), iv .i64 0] z.cells.toList := by
  intro i z hi hz F w
  have h1 : some i = some Try.t25 := hi.symm.trans Try.type25
  cases h1; cases hz
  exact ⟨rfl, rfl, rfl, rfl, trivial⟩

theorem st_28 : StT prog 28 2 [(0, 1), (1, 1)] := ⟨_, Try.underlying28, ⟨_, _, Try.type28, rfl, rfl⟩, fun w => by simp⟩

theorem zs_28 : ∀ i z, prog.info? 28 = some i → i.zero = some z → ∀ F w, AllP F w [iv .i64 0, pv (.slice none 0 0)] z.cells.toList := by
  intro i z hi hz F w
  have h1 : some i = some Try.t28 := hi.symm.trans Try.type28
  cases h1; cases hz
  exact ⟨rfl, rfl, trivial⟩

theorem zs_33 : ∀ i z, prog.info? 33 = some i → i.zero = some z → ∀ F w, AllP F w [iv .i64 0, iv .i64 0] z.cells.toList := by
  intro i z hi hz F w
  have h1 : some i = some Try.t33 := hi.symm.trans Try.type33
  cases h1; cases hz
  exact ⟨rfl, rfl, trivial⟩

theorem st_35 : StT prog 35 6 [(0, 2), (2, 1), (3, 2), (5, 1)] := ⟨_, Try.underlying35, ⟨_, _, Try.type35, rfl, rfl⟩, fun w => by simp⟩

theorem zs_35 : ∀ i z, prog.info? 35 = some i → i.zero = some z → ∀ F w, AllP F w [iv .i64 0, pv (.slice none 0 0), iv .i64 0, iv .i64 0, iv .i64 0, pv (.slice none 0 0)] z.cells.toList := by
  intro i z hi hz F w
  have h1 : some i = some Try.t35 := hi.symm.trans Try.type35
  cases h1; cases hz
  exact ⟨rfl, rfl, rfl, rfl, rfl, rfl, trivial⟩

theorem st_40 : StT prog 40 4 [(0, 1), (1, 1), (2, 1), (3, 1)] := ⟨_, Try.underlying40, ⟨_, _, Try.type40, rfl, rfl⟩, fun w => by simp⟩

theorem zs_40 : ∀ i z, prog.info? 40 = some i → i.zero = some z → ∀ F w, AllP F w [iv .i64 0, iv .i64 0, iv .i64 0, iv .i64 0] z.cells.toList := by
  intro i z hi hz F w
  have h1 : some i = some Try.t40 := hi.symm.trans Try.type40
  cases h1; cases hz
  exact ⟨rfl, rfl, rfl, rfl, trivial⟩

theorem zs_44 : ∀ i z, prog.info? 44 = some i → i.zero = some z → ∀ F w, AllP F w [pv (.slice none 0 0), pv (.slice none 0 0), pv (.slice none 0 0), iv .i64 0, pv (.slice none 0 0), pv (.slice none 0 0), pv (.slice none 0 0), iv .i64 0] z.cells.toList := by
  intro i z hi hz F w
  have h1 : some i = some Try.t44 := hi.symm.trans Try.type44
  cases h1; cases hz
  exact ⟨rfl, rfl, rfl, rfl, rfl, rfl, rfl, rfl, trivial⟩

theorem st_57 : StT prog 57 2 [(0, 1), (1, 1)] := ⟨_, Try.underlying57, ⟨_, _, Try.type57, rfl, rfl⟩, fun w => by simp⟩

theorem zs_57 : ∀ i z, prog.info? 57 = some i → i.zero = some z → ∀ F w, AllP F w [iv .i64 0, iv .i64 0] z.cells.toList := by
  intro i z hi hz F w
  have h1 : some i = some Try.t57 := hi.symm.trans Try.type57
  cases h1; cases hz
  exact ⟨rfl, rfl, trivial⟩

theorem st_67 : StT prog 67 2 [(0, 1), (1, 1)] := ⟨_, Try.underlying67, ⟨_, _, Try.type67, rfl, rfl⟩, fun w => by simp⟩

theorem zs_67 : ∀ i z, prog.info? 67 = some i → i.zero = some z → ∀ F w, AllP F w [iv .i64 0, iv .i64 0] z.cells.toList := by
  intro i z hi hz F w
  have h1 : some i = some Try.t67 := hi.symm.trans Try.type67
  cases h1; cases hz
  exact ⟨rfl, rfl, trivial⟩

theorem st_69 : StT prog 69 2 [(0, 1), (1, 1)] := ⟨_, Try.underlying69, ⟨_, _, Try.type69, rfl, rfl⟩, fun w => by simp⟩

theorem zs_69 : ∀ i z, prog.info? 69 = some i → i.zero = some z → ∀ F w, AllP F w [pv (.slice none 0 0), iv .i64 0] z.cells.toList := by
  intro i z hi hz F w
  have h1 : some i = some Try.t69 := hi.symm.trans Try.type69
  cases h1; cases hz
  exact ⟨rfl, rfl, trivial⟩

theorem st_95 : StT prog 95 9 [(0, 6), (6, 1), (7, 1), (8, 1)] := ⟨_, Try.underlying95, ⟨_, _, Try.type95, rfl, rfl⟩, fun w => by simp⟩

theorem zs_95 : ∀ i z, prog.info? 95 = some i → i.zero = some z → ∀ F w, AllP F w [iv .i64 0, pv (.slice none 0 0), iv .i64 0, iv .i64 0, iv .i64 0, pv (.slice none 0 0), pv (.slice none 0 0), iv .i64 0, pv (.slice none 0 0)] z.cells.toList := by
  intro i z hi hz F w
  have h1 : some i = some Try.t95 := hi.symm.trans Try.type95
  cases h1; cases hz
  exact ⟨rfl, rfl, rfl, rfl, rfl, rfl, rfl, rfl, rfl, trivial⟩

theorem eq_33 : EqT prog 33 rT_arr2_3 := eqT_array Try.underlying33 Try.type3 rfl Try.isAgg3 (by kernel_rfl) fun x y F w cs ds h1 h2 => by
  match cs, ds, h1, h2 with
  | [_, _], [_, _], ⟨e0, e1, _⟩, ⟨f0, f1, _⟩ =>
    cases e0; cases e1; cases f0; cases f1
    exact ⟨rfl, _, ⟨_, _, .int Try.underlying3, ⟨_, _, .int Try.underlying3, rfl, rfl⟩, rfl⟩, by cases x; cases y; rw [Bool.eq_iff_iff]; simp⟩

theorem eq_40 : EqT prog 40 rT_api_Move := eqT_struct Try.underlying40 (by kernel_rfl) (by kernel_rfl) fun x y F w cs ds h1 h2 => by
  match cs, ds, h1, h2 with
  | [_, _, _, _], [_, _, _, _], ⟨e0, e1, e2, e3, _⟩, ⟨f0, f1, f2, f3, _⟩ =>
    cases e0; cases e1; cases e2; cases e3; cases f0; cases f1; cases f2; cases f3
    exact ⟨_, ⟨⟨by decide, rfl, Try.isAgg3⟩, _, _, .int Try.underlying3, ⟨⟨by decide, rfl, Try.isAgg3⟩, _, _, .int Try.underlying3, ⟨⟨by decide, rfl, Try.isAgg3⟩, _, _, .int Try.underlying3, ⟨⟨by decide, rfl, Try.isAgg3⟩, _, _, .int Try.underlying3, rfl, rfl⟩, rfl⟩, rfl⟩, rfl⟩, by cases x; cases y; rw [Bool.eq_iff_iff]; simp⟩

theorem eq_57 : EqT prog 57 rT_api_Outcome := eqT_struct Try.underlying57 (by kernel_rfl) (by kernel_rfl) fun x y F w cs ds h1 h2 => by
  match cs, ds, h1, h2 with
  | [_, _], [_, _], ⟨e0, e1, _⟩, ⟨f0, f1, _⟩ =>
    cases e0; cases e1; cases f0; cases f1
    exact ⟨_, ⟨⟨by decide, rfl, Try.isAgg3⟩, _, _, .int Try.underlying3, ⟨⟨by decide, rfl, Try.isAgg3⟩, _, _, .int Try.underlying3, rfl, rfl⟩, rfl⟩, by cases x; cases y; rw [Bool.eq_iff_iff]; simp⟩

theorem eq_67 : EqT prog 67 rT_api_Pair := eqT_struct Try.underlying67 (by kernel_rfl) (by kernel_rfl) fun x y F w cs ds h1 h2 => by
  match cs, ds, h1, h2 with
  | [_, _], [_, _], ⟨e0, e1, _⟩, ⟨f0, f1, _⟩ =>
    cases e0; cases e1; cases f0; cases f1
    exact ⟨_, ⟨⟨by decide, rfl, Try.isAgg3⟩, _, _, .int Try.underlying3, ⟨⟨by decide, rfl, Try.isAgg3⟩, _, _, .int Try.underlying3, rfl, rfl⟩, rfl⟩, by cases x; cases y; rw [Bool.eq_iff_iff]; simp⟩
end Go.Dc
