/- Part LAW29.Types of a proof: lemmas. -/
import Derived.Test.YtnbclhmodbmdhaaDcCut4
import Derived.Test.YtnbclhmodbmdhaaProg
set_option linter.unusedVariables false
set_option maxRecDepth 100000
set_option maxHeartbeats 4000000
namespace Go.Dc
open Go.Proofs
open Go.Proofs.Try (prog)

structure T_api_Packet where
  Ack : Bool
  Number : Int
  Value : Int
  deriving DecidableEq, Inhabited

def rT_api_Packet : Rep T_api_Packet := rSt [⟨rB, T_api_Packet.Ack⟩, ⟨(rI .i64), T_api_Packet.Number⟩, ⟨(rI .i64), T_api_Packet.Value⟩]

structure T_api_Channel where
  Items : (List Int)
  Window : Int
  Base : Int
  Received : (List Int)
  Held : (List T_api_Packet)
  Flight : (List T_api_Packet)
  deriving DecidableEq, Inhabited

def rT_api_Channel : Rep T_api_Channel := rSt [⟨(rSl (rI .i64)), T_api_Channel.Items⟩, ⟨(rI .i64), T_api_Channel.Window⟩, ⟨(rI .i64), T_api_Channel.Base⟩, ⟨(rSl (rI .i64)), T_api_Channel.Received⟩, ⟨(rSl rT_api_Packet), T_api_Channel.Held⟩, ⟨(rSl rT_api_Packet), T_api_Channel.Flight⟩]

structure T_channel_line where
  c : T_api_Channel
  deriving DecidableEq, Inhabited

def rT_channel_line : Rep T_channel_line := rSt [⟨rT_api_Channel, T_channel_line.c⟩]

structure T_api_NetEvent where
  Kind : Int
  N : Int
  deriving DecidableEq, Inhabited

def rT_api_NetEvent : Rep T_api_NetEvent := rSt [⟨(rI .i64), T_api_NetEvent.Kind⟩, ⟨(rI .i64), T_api_NetEvent.N⟩]

structure T_deliberationkeep_Src where
  L : (List Int)
  At : Int
  deriving DecidableEq, Inhabited

def rT_deliberationkeep_Src : Rep T_deliberationkeep_Src := rSt [⟨(rSl (rI .i64)), T_deliberationkeep_Src.L⟩, ⟨(rI .i64), T_deliberationkeep_Src.At⟩]

theorem el_3 : ElT prog 3 (rI .i64) 8 := ⟨⟨_, Try.type3, rfl, rfl, _, rfl, rfl⟩, Try.isAgg3, by decide, by decide⟩

theorem el_55 : ElT prog 55 rT_api_Packet 24 := ⟨⟨_, Try.type55, rfl, rfl, _, rfl, rfl⟩, Try.isAgg55, by decide, by decide⟩

theorem zt_28 : ∃ i z, prog.info? 28 = some i ∧ i.zero = some z ∧ ∀ F w, AllP F w [pv (.slice none 0 0), iv .i64 0, iv .i64 0, pv (.slice none 0 0), pv (.slice none 0 0), pv (.slice none 0 0)] z.cells.toList := ⟨_, _, Try.type28, rfl, fun _ _ => ⟨rfl, rfl, rfl, rfl, rfl, rfl, trivial⟩⟩

theorem ze_28 : ZeroT prog 28 rT_api_Channel (T_api_Channel.mk [] 0 0 [] [] []) := ⟨_, _, Try.type28, rfl, fun _ _ => ⟨⟨none, 0, rfl, Nat.le_refl _, fun h => absurd rfl h⟩, rfl, rfl, ⟨none, 0, rfl, Nat.le_refl _, fun h => absurd rfl h⟩, ⟨none, 0, rfl, Nat.le_refl _, fun h => absurd rfl h⟩, ⟨none, 0, rfl, Nat.le_refl _, fun h => absurd rfl h⟩, trivial⟩⟩

theorem zt_35 : ∃ i z, prog.info? 35 = some i ∧ i.zero = some z ∧ ∀ F w, AllP F w [iv .i64 0, iv .i64 0] z.cells.toList := ⟨_, _, Try.type35, rfl, fun _ _ => ⟨rfl, rfl, trivial⟩⟩

theorem ze_35 : ZeroT prog 35 rT_api_NetEvent (T_api_NetEvent.mk 0 0) := ⟨_, _, Try.type35, rfl, fun _ _ => ⟨rfl, rfl, trivial⟩⟩

theorem zt_55 : ∃ i z, prog.info? 55 = some i ∧ i.zero = some z ∧ ∀ F w, AllP F w [bv false, iv .i64 0, iv .i64 0] z.cells.toList := ⟨_, _, Try.type55, rfl, fun _ _ => ⟨rfl, rfl, rfl, trivial⟩⟩

theorem ze_55 : ZeroT prog 55 rT_api_Packet (T_api_Packet.mk false 0 0) := ⟨_, _, Try.type55, rfl, fun _ _ => ⟨rfl, rfl, rfl, trivial⟩⟩

theorem st_28 : StT prog 28 6 [(0, 1), (1, 1), (2, 1), (3, 1), (4, 1), (5, 1)] := ⟨_, Try.underlying28, ⟨_, _, Try.type28, rfl, rfl⟩, fun w => by simp⟩

theorem zs_28 : ∀ i z, prog.info? 28 = some i → i.zero = some z → ∀ F w, AllP F w [pv (.slice none 0 0), iv .i64 0, iv .i64 0, pv (.slice none 0 0), pv (.slice none 0 0), pv (.slice none 0 0)] z.cells.toList := by
  intro i z hi hz F w
  have h1 : some i = some Try.t28 := hi.symm.trans Try.type28
  cases h1; cases hz
  exact ⟨rfl, rfl, rfl, rfl, rfl, rfl, trivial⟩

theorem st_35 : StT prog 35 2 [(0, 1), (1, 1)] := ⟨_, Try.underlying35, ⟨_, _, Try.type35, rfl, rfl⟩, fun w => by simp⟩

theorem zs_35 : ∀ i z, prog.info? 35 = some i → i.zero = some z → ∀ F w, AllP F w [iv .i64 0, iv .i64 0] z.cells.toList := by
  intro i z hi hz F w
  have h1 : some i = some Try.t35 := hi.symm.trans Try.type35
  cases h1; cases hz
  exact ⟨rfl, rfl, trivial⟩

theorem st_45 : StT prog 45 2 [(0, 1), (1, 1)] := ⟨_, Try.underlying45, ⟨_, _, Try.type45, rfl, rfl⟩, fun w => by simp⟩

theorem zs_45 : ∀ i z, prog.info? 45 = some i → i.zero = some z → ∀ F w, AllP F w [pv (.slice none 0 0), iv .i64 0] z.cells.toList := by
  intro i z hi hz F w
  have h1 : some i = some Try.t45 := hi.symm.trans Try.type45
  cases h1; cases hz
  exact ⟨rfl, rfl, trivial⟩

theorem st_51 : StT prog 51 6 [(0, 6)] := ⟨_, Try.underlying51, ⟨_, _, Try.type51, rfl, rfl⟩, fun w => by simp⟩

theorem zs_51 : ∀ i z, prog.info? 51 = some i → i.zero = some z → ∀ F w, AllP F w [pv (.slice none 0 0), iv .i64 0, iv .i64 0, pv (.slice none 0 0), pv (.slice none 0 0), pv (.slice none 0 0)] z.cells.toList := by
  intro i z hi hz F w
  have h1 : some i = some Try.t51 := hi.symm.trans Try.type51
  cases h1; cases hz
  exact ⟨rfl, rfl, rfl, rfl, rfl, rfl, trivial⟩

theorem st_55 : StT prog 55 3 [(0, 1), (1, 1), (2, 1)] := ⟨_, Try.underlying55, ⟨_, _, Try.type55, rfl, rfl⟩, fun w => by simp⟩

theorem zs_55 : ∀ i z, prog.info? 55 = some i → i.zero = some z → ∀ F w, AllP F w [bv false, iv .i64 0, iv .i64 0] z.cells.toList := by
  intro i z hi hz F w
  have h1 : some i = some Try.t55 := hi.symm.trans Try.type55
  cases h1; cases hz
  exact ⟨rfl, rfl, rfl, trivial⟩

theorem eq_55 : EqT prog 55 rT_api_Packet := eqT_struct Try.underlying55 (by kernel_rfl) (by kernel_rfl) fun x y F w cs ds h1 h2 => by
  match cs, ds, h1, h2 with
  | [_, _, _], [_, _, _], ⟨e0, e1, e2, _⟩, ⟨f0, f1, f2, _⟩ =>
    cases e0; cases e1; cases e2; cases f0; cases f1; cases f2
    exact ⟨_, ⟨⟨by decide, rfl, Try.isAgg4⟩, _, _, .bool Try.underlying4, ⟨⟨by decide, rfl, Try.isAgg3⟩, _, _, .int Try.underlying3, ⟨⟨by decide, rfl, Try.isAgg3⟩, _, _, .int Try.underlying3, rfl, rfl⟩, rfl⟩, rfl⟩, by cases x; cases y; rw [Bool.eq_iff_iff]; simp⟩
end Go.Dc
