/- Part J.Types of a proof that a law of the program returns true: general lemmas, no condition. -/
import Derived.Test.YtplaoadjlcaodaaDcMem6
import Derived.Test.YtplaoadjlcaodaaProg
set_option linter.unusedVariables false
set_option maxRecDepth 100000
set_option maxHeartbeats 4000000
namespace Go.Dc
open Go.Proofs
open Go.Proofs.Try (prog)

structure T_deliberationkeep_Src where
  L : (List Int)
  At : Int
  deriving DecidableEq, Inhabited

def rT_deliberationkeep_Src : Rep T_deliberationkeep_Src := rSt [⟨(rSl (rI .i64)), T_deliberationkeep_Src.L⟩, ⟨(rI .i64), T_deliberationkeep_Src.At⟩]

theorem el_3 : ElT prog 3 (rI .i64) 8 := ⟨⟨_, Try.type3, rfl, rfl, _, rfl, rfl⟩, Try.isAgg3, by decide, by decide⟩

theorem el_5 : ElT prog 5 (rI .u8) 1 := ⟨⟨_, Try.type5, rfl, rfl, _, rfl, rfl⟩, Try.isAgg5, by decide, by decide⟩

theorem el_27 : ElT prog 27 (rSl (rI .u8)) 24 := ⟨⟨_, Try.type27, rfl, rfl, _, rfl, rfl⟩, Try.isAgg27, by decide, by decide⟩

theorem zt_5 : ∃ i z, prog.info? 5 = some i ∧ i.zero = some z ∧ ∀ F w, AllP F w [iv .u8 0] z.cells.toList := ⟨_, _, Try.type5, rfl, fun _ _ => ⟨rfl, trivial⟩⟩

theorem ze_5 : ZeroT prog 5 (rI .u8) 0 := ⟨_, _, Try.type5, rfl, fun _ _ => ⟨rfl, trivial⟩⟩

theorem st_48 : StT prog 48 2 [(0, 1), (1, 1)] := ⟨_, Try.underlying48, ⟨_, _, Try.type48, rfl, rfl⟩, fun w => by simp⟩

theorem zs_48 : ∀ i z, prog.info? 48 = some i → i.zero = some z → ∀ F w, AllP F w [pv (.slice none 0 0), iv .i64 0] z.cells.toList := by
  intro i z hi hz F w
  have h1 : some i = some Try.t48 := hi.symm.trans Try.type48
  cases h1; cases hz
  exact ⟨rfl, rfl, trivial⟩
end Go.Dc
