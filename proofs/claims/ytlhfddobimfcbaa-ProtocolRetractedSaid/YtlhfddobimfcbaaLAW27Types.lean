/- Part LAW27.Types of a proof that a law of the program returns true: general lemmas, no condition. -/
import Derived.Test.YtlhfddobimfcbaaDcDrawI
import Derived.Test.YtlhfddobimfcbaaProg
set_option linter.unusedVariables false
set_option maxRecDepth 100000
set_option maxHeartbeats 4000000
namespace Go.Dc
open Go.Proofs
open Go.Proofs.Try (prog)

structure T_deliberationkeep_Src where
  L : (List Int)
  At : Int
  deriving DecidableEq, Inhabited

def rT_deliberationkeep_Src : Rep T_deliberationkeep_Src := rSt [⟨(rSl (rI .i64)), T_deliberationkeep_Src.L⟩, ⟨(rI .i64), T_deliberationkeep_Src.At⟩]

structure T_api_Pair where
  From : Int
  To : Int
  deriving DecidableEq, Inhabited

def rT_api_Pair : Rep T_api_Pair := rSt [⟨(rI .i64), T_api_Pair.From⟩, ⟨(rI .i64), T_api_Pair.To⟩]

structure T_api_Graph where
  N : Int
  L : (List T_api_Pair)
  deriving DecidableEq, Inhabited

def rT_api_Graph : Rep T_api_Graph := rSt [⟨(rI .i64), T_api_Graph.N⟩, ⟨(rSl rT_api_Pair), T_api_Graph.L⟩]

structure T_arr2_3 where
  i0 : Int
  i1 : Int
  deriving DecidableEq, Inhabited

def rT_arr2_3 : Rep T_arr2_3 := rSt [⟨(rI .i64), T_arr2_3.i0⟩, ⟨(rI .i64), T_arr2_3.i1⟩]

structure T_api_Move where
  By : Int
  Kind : Int
  Node : Int
  Target : Int
  deriving DecidableEq, Inhabited

def rT_api_Move : Rep T_api_Move := rSt [⟨(rI .i64), T_api_Move.By⟩, ⟨(rI .i64), T_api_Move.Kind⟩, ⟨(rI .i64), T_api_Move.Node⟩, ⟨(rI .i64), T_api_Move.Target⟩]

structure T_api_Dialogue where
  Graph : T_api_Graph
  Root : Int
  Limits : T_arr2_3
  Moves : (List T_api_Move)
  deriving DecidableEq, Inhabited

def rT_api_Dialogue : Rep T_api_Dialogue := rSt [⟨rT_api_Graph, T_api_Dialogue.Graph⟩, ⟨(rI .i64), T_api_Dialogue.Root⟩, ⟨rT_arr2_3, T_api_Dialogue.Limits⟩, ⟨(rSl rT_api_Move), T_api_Dialogue.Moves⟩]

structure T_api_Outcome where
  Winner : Int
  Reason : Int
  deriving DecidableEq, Inhabited

def rT_api_Outcome : Rep T_api_Outcome := rSt [⟨(rI .i64), T_api_Outcome.Winner⟩, ⟨(rI .i64), T_api_Outcome.Reason⟩]

structure T_protocol_table where
  d : T_api_Dialogue
  status : (List Int)
  leader : Int
  leading : (List Bool)
  deriving DecidableEq, Inhabited

def rT_protocol_table : Rep T_protocol_table := rSt [⟨rT_api_Dialogue, T_protocol_table.d⟩, ⟨(rSl (rI .i64)), T_protocol_table.status⟩, ⟨(rI .i64), T_protocol_table.leader⟩, ⟨(rSl rB), T_protocol_table.leading⟩]

theorem el_3 : ElT prog 3 (rI .i64) 8 := ⟨⟨_, Try.type3, rfl, rfl, _, rfl, rfl⟩, Try.isAgg3, by decide, by decide⟩

theorem el_4 : ElT prog 4 rB 1 := ⟨⟨_, Try.type4, rfl, rfl, _, rfl, rfl⟩, Try.isAgg4, by decide, by decide⟩

theorem el_38 : ElT prog 38 rT_api_Move 32 := ⟨⟨_, Try.type38, rfl, rfl, _, rfl, rfl⟩, Try.isAgg38, by decide, by decide⟩

theorem el_71 : ElT prog 71 rT_api_Pair 16 := ⟨⟨_, Try.type71, rfl, rfl, _, rfl, rfl⟩, Try.isAgg71, by decide, by decide⟩

theorem zt_3 : ∃ i z, prog.info? 3 = some i ∧ i.zero = some z ∧ ∀ F w, AllP F w [iv .i64 0] z.cells.toList := ⟨_, _, Try.type3, rfl, fun _ _ => ⟨rfl, trivial⟩⟩

theorem ze_3 : ZeroT prog 3 (rI .i64) 0 := ⟨_, _, Try.type3, rfl, fun _ _ => ⟨rfl, trivial⟩⟩

theorem zt_4 : ∃ i z, prog.info? 4 = some i ∧ i.zero = some z ∧ ∀ F w, AllP F w [bv false] z.cells.toList := ⟨_, _, Try.type4, rfl, fun _ _ => ⟨rfl, trivial⟩⟩

theorem ze_4 : ZeroT prog 4 rB false := ⟨_, _, Try.type4, rfl, fun _ _ => ⟨rfl, trivial⟩⟩

theorem zt_27 : ∃ i z, prog.info? 27 = some i ∧ i.zero = some z ∧ ∀ F w, AllP F w [iv .i64 0, pv (.slice none 0 0)] z.cells.toList := ⟨_, _, Try.type27, rfl, fun _ _ => ⟨rfl, rfl, trivial⟩⟩

theorem zt_31 : ∃ i z, prog.info? 31 = some i ∧ i.zero = some z ∧ ∀ F w, AllP F w [iv .i64 0, pv (.slice none 0 0), iv .i64 0, iv .i64 0, iv .i64 0, pv (.slice none 0 0)] z.cells.toList := ⟨_, _, Try.type31, rfl, fun _ _ => ⟨rfl, rfl, rfl, rfl, rfl, rfl, trivial⟩⟩

theorem zt_38 : ∃ i z, prog.info? 38 = some i ∧ i.zero = some z ∧ ∀ F w, AllP F w [iv .i64 0, iv .i64 0, iv .i64 0, iv .i64 0] z.cells.toList := ⟨_, _, Try.type38, rfl, fun _ _ => ⟨rfl, rfl, rfl, rfl, trivial⟩⟩

theorem zt_50 : ∃ i z, prog.info? 50 = some i ∧ i.zero = some z ∧ ∀ F w, AllP F w [iv .i64 0, iv .i64 0] z.cells.toList := ⟨_, _, Try.type50, rfl, fun _ _ => ⟨rfl, rfl, trivial⟩⟩

theorem zt_56 : ∃ i z, prog.info? 56 = some i ∧ i.zero = some z ∧ ∀ F w, AllP F w [iv .i64 0, iv .i64 0, iv .i64 0] z.cells.toList := ⟨_, _, Try.type56, rfl, fun _ _ => ⟨rfl, rfl, rfl, trivial⟩⟩

theorem zt_66 : ∃ i z, prog.info? 66 = some i ∧ i.zero = some z ∧ ∀ F w, AllP F w [iv .i64 0, pv (.slice none 0 0), iv .i64 0, iv .i64 0, iv .i64 0, pv (.slice none 0 0), pv (.slice none 0 0), iv .i64 0, pv (.slice none 0 0)] z.cells.toList := ⟨_, _, Try.type66, rfl, fun _ _ => ⟨rfl, rfl, rfl, rfl, rfl, rfl, rfl, rfl, rfl, trivial⟩⟩

theorem zt_71 : ∃ i z, prog.info? 71 = some i ∧ i.zero = some z ∧ ∀ F w, AllP F w [iv .i64 0, iv .i64 0] z.cells.toList := ⟨_, _, Try.type71, rfl, fun _ _ => ⟨rfl, rfl, trivial⟩⟩

theorem st_27 : StT prog 27 2 [(0, 1), (1, 1)] := ⟨_, Try.underlying27, ⟨_, _, Try.type27, rfl, rfl⟩, fun w => by simp⟩

theorem zs_27 : ∀ i z, prog.info? 27 = some i → i.zero = some z → ∀ F w, AllP F w [iv .i64 0, pv (.slice none 0 0)] z.cells.toList := by
  intro i z hi hz F w
  have h1 : some i = some Try.t27 := hi.symm.trans Try.type27
  cases h1; cases hz
  exact ⟨rfl, rfl, trivial⟩

theorem zs_28 : ∀ i z, prog.info? 28 = some i → i.zero = some z → ∀ F w, AllP F w [iv .i64 0, iv .i64 0] z.cells.toList := by
  intro i z hi hz F w
  have h1 : some i = some Try.t28 := hi.symm.trans Try.type28
  cases h1; cases hz
  exact ⟨rfl, rfl, trivial⟩

theorem st_31 : StT prog 31 6 [(0, 2), (2, 1), (3, 2), (5, 1)] := ⟨_, Try.underlying31, ⟨_, _, Try.type31, rfl, rfl⟩, fun w => by simp⟩

theorem zs_31 : ∀ i z, prog.info? 31 = some i → i.zero = some z → ∀ F w, AllP F w [iv .i64 0, pv (.slice none 0 0), iv .i64 0, iv .i64 0, iv .i64 0, pv (.slice none 0 0)] z.cells.toList := by
  intro i z hi hz F w
  have h1 : some i = some Try.t31 := hi.symm.trans Try.type31
  cases h1; cases hz
  exact ⟨rfl, rfl, rfl, rfl, rfl, rfl, trivial⟩

theorem st_38 : StT prog 38 4 [(0, 1), (1, 1), (2, 1), (3, 1)] := ⟨_, Try.underlying38, ⟨_, _, Try.type38, rfl, rfl⟩, fun w => by simp⟩

theorem zs_38 : ∀ i z, prog.info? 38 = some i → i.zero = some z → ∀ F w, AllP F w [iv .i64 0, iv .i64 0, iv .i64 0, iv .i64 0] z.cells.toList := by
  intro i z hi hz F w
  have h1 : some i = some Try.t38 := hi.symm.trans Try.type38
  cases h1; cases hz
  exact ⟨rfl, rfl, rfl, rfl, trivial⟩

theorem st_50 : StT prog 50 2 [(0, 1), (1, 1)] := ⟨_, Try.underlying50, ⟨_, _, Try.type50, rfl, rfl⟩, fun w => by simp⟩

theorem zs_50 : ∀ i z, prog.info? 50 = some i → i.zero = some z → ∀ F w, AllP F w [iv .i64 0, iv .i64 0] z.cells.toList := by
  intro i z hi hz F w
  have h1 : some i = some Try.t50 := hi.symm.trans Try.type50
  cases h1; cases hz
  exact ⟨rfl, rfl, trivial⟩

theorem st_60 : StT prog 60 2 [(0, 1), (1, 1)] := ⟨_, Try.underlying60, ⟨_, _, Try.type60, rfl, rfl⟩, fun w => by simp⟩

theorem zs_60 : ∀ i z, prog.info? 60 = some i → i.zero = some z → ∀ F w, AllP F w [pv (.slice none 0 0), iv .i64 0] z.cells.toList := by
  intro i z hi hz F w
  have h1 : some i = some Try.t60 := hi.symm.trans Try.type60
  cases h1; cases hz
  exact ⟨rfl, rfl, trivial⟩

theorem st_66 : StT prog 66 9 [(0, 6), (6, 1), (7, 1), (8, 1)] := ⟨_, Try.underlying66, ⟨_, _, Try.type66, rfl, rfl⟩, fun w => by simp⟩

theorem zs_66 : ∀ i z, prog.info? 66 = some i → i.zero = some z → ∀ F w, AllP F w [iv .i64 0, pv (.slice none 0 0), iv .i64 0, iv .i64 0, iv .i64 0, pv (.slice none 0 0), pv (.slice none 0 0), iv .i64 0, pv (.slice none 0 0)] z.cells.toList := by
  intro i z hi hz F w
  have h1 : some i = some Try.t66 := hi.symm.trans Try.type66
  cases h1; cases hz
  exact ⟨rfl, rfl, rfl, rfl, rfl, rfl, rfl, rfl, rfl, trivial⟩

theorem st_71 : StT prog 71 2 [(0, 1), (1, 1)] := ⟨_, Try.underlying71, ⟨_, _, Try.type71, rfl, rfl⟩, fun w => by simp⟩

theorem zs_71 : ∀ i z, prog.info? 71 = some i → i.zero = some z → ∀ F w, AllP F w [iv .i64 0, iv .i64 0] z.cells.toList := by
  intro i z hi hz F w
  have h1 : some i = some Try.t71 := hi.symm.trans Try.type71
  cases h1; cases hz
  exact ⟨rfl, rfl, trivial⟩

theorem eq_38 : EqT prog 38 rT_api_Move := eqT_struct Try.underlying38 (by kernel_rfl) (by kernel_rfl) fun x y F w cs ds h1 h2 => by
  match cs, ds, h1, h2 with
  | [_, _, _, _], [_, _, _, _], ⟨e0, e1, e2, e3, _⟩, ⟨f0, f1, f2, f3, _⟩ =>
    cases e0; cases e1; cases e2; cases e3; cases f0; cases f1; cases f2; cases f3
    exact ⟨_, ⟨⟨by decide, rfl, Try.isAgg3⟩, _, _, .int Try.underlying3, ⟨⟨by decide, rfl, Try.isAgg3⟩, _, _, .int Try.underlying3, ⟨⟨by decide, rfl, Try.isAgg3⟩, _, _, .int Try.underlying3, ⟨⟨by decide, rfl, Try.isAgg3⟩, _, _, .int Try.underlying3, rfl, rfl⟩, rfl⟩, rfl⟩, rfl⟩, by cases x; cases y; rw [Bool.eq_iff_iff]; simp⟩

theorem eq_50 : EqT prog 50 rT_api_Outcome := eqT_struct Try.underlying50 (by kernel_rfl) (by kernel_rfl) fun x y F w cs ds h1 h2 => by
  match cs, ds, h1, h2 with
  | [_, _], [_, _], ⟨e0, e1, _⟩, ⟨f0, f1, _⟩ =>
    cases e0; cases e1; cases f0; cases f1
    exact ⟨_, ⟨⟨by decide, rfl, Try.isAgg3⟩, _, _, .int Try.underlying3, ⟨⟨by decide, rfl, Try.isAgg3⟩, _, _, .int Try.underlying3, rfl, rfl⟩, rfl⟩, by cases x; cases y; rw [Bool.eq_iff_iff]; simp⟩
end Go.Dc
