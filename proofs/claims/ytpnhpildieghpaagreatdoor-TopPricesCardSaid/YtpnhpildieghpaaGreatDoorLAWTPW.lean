/- Part LAWTP.W of a proof: lemmas. -/
import Derived.Test.YtpnhpildieghpaaGreatDoorMRepW
import Derived.Test.YtpnhpildieghpaaGreatDoorProg
import Derived.Test.YtpnhpildieghpaaGreatDoorLAWTPLay
set_option linter.unusedVariables false
set_option linter.unusedSectionVars false
set_option maxRecDepth 100000
set_option maxHeartbeats 4000000
namespace Go.Dc
open Go.Proofs
open Go.Proofs.Tryz (prog)
open Go.RowKit Go.Sort Go.Shelf
instance chMode : DrawMode := ⟨False, [(0, tzCells)]⟩
structure T_deliberationkeep_Src where
  L : (List Int)
  At : Int
  deriving DecidableEq, Inhabited
def rT_deliberationkeep_Src : Rep T_deliberationkeep_Src := rSt [⟨(rSl (rI .i64)), T_deliberationkeep_Src.L⟩, ⟨(rI .i64), T_deliberationkeep_Src.At⟩]
structure T_api_Pair where
  From : Int
  To : Int
  deriving DecidableEq, Inhabited
def rT_api_Pair : Rep T_api_Pair := rSt [⟨(rI .i64), T_api_Pair.From⟩, ⟨(rI .i64), T_api_Pair.To⟩]
structure T_api_Graph where
  N : Int
  L : (List T_api_Pair)
  deriving DecidableEq, Inhabited
def rT_api_Graph : Rep T_api_Graph := rSt [⟨(rI .i64), T_api_Graph.N⟩, ⟨(rSl rT_api_Pair), T_api_Graph.L⟩]
structure T_network_Net where
  All : Int
  By : (List Int)
  Out : (List Int)
  deriving DecidableEq, Inhabited
def rT_network_Net : Rep T_network_Net := rSt [⟨(rI .u64), T_network_Net.All⟩, ⟨(rSl (rI .u64)), T_network_Net.By⟩, ⟨(rSl (rI .u64)), T_network_Net.Out⟩]
structure T_api_Budget where
  Weight : Int
  Dropped : (List Int)
  deriving DecidableEq, Inhabited
def rT_api_Budget : Rep T_api_Budget := rSt [⟨(rI .i64), T_api_Budget.Weight⟩, ⟨(rSl (rI .i64)), T_api_Budget.Dropped⟩]
structure T_api_Reply where
  To : Int
  Node : Int
  deriving DecidableEq, Inhabited
def rT_api_Reply : Rep T_api_Reply := rSt [⟨(rI .i64), T_api_Reply.To⟩, ⟨(rI .i64), T_api_Reply.Node⟩]
structure T_api_Strategy where
  Game : Int
  Root : Int
  By : Int
  Replies : (List T_api_Reply)
  deriving DecidableEq, Inhabited
def rT_api_Strategy : Rep T_api_Strategy := rSt [⟨(rI .i64), T_api_Strategy.Game⟩, ⟨(rI .i64), T_api_Strategy.Root⟩, ⟨(rI .i64), T_api_Strategy.By⟩, ⟨(rSl rT_api_Reply), T_api_Strategy.Replies⟩]
structure T_api_Step where
  Left : Int
  Right : Int
  Pivot : Int
  deriving DecidableEq, Inhabited
def rT_api_Step : Rep T_api_Step := rSt [⟨(rI .i64), T_api_Step.Left⟩, ⟨(rI .i64), T_api_Step.Right⟩, ⟨(rI .i64), T_api_Step.Pivot⟩]
structure T_api_Answer where
  Sat : Bool
  Model : (List Bool)
  Steps : (List T_api_Step)
  deriving DecidableEq, Inhabited
def rT_api_Answer : Rep T_api_Answer := rSt [⟨rB, T_api_Answer.Sat⟩, ⟨(rSl rB), T_api_Answer.Model⟩, ⟨(rSl rT_api_Step), T_api_Answer.Steps⟩]
structure T_api_Verdict where
  Holds : Bool
  Labels : (List Int)
  Ranks : (List Int)
  Steps : (List T_api_Step)
  deriving DecidableEq, Inhabited
def rT_api_Verdict : Rep T_api_Verdict := rSt [⟨rB, T_api_Verdict.Holds⟩, ⟨(rSl (rI .i64)), T_api_Verdict.Labels⟩, ⟨(rSl (rI .i64)), T_api_Verdict.Ranks⟩, ⟨(rSl rT_api_Step), T_api_Verdict.Steps⟩]
structure T_api_Enforcement where
  Set : (List Int)
  Changes : (List T_api_Pair)
  Obligations : (List (List T_api_Pair))
  deriving DecidableEq, Inhabited
def rT_api_Enforcement : Rep T_api_Enforcement := rSt [⟨(rSl (rI .i64)), T_api_Enforcement.Set⟩, ⟨(rSl rT_api_Pair), T_api_Enforcement.Changes⟩, ⟨(rSl (rSl rT_api_Pair)), T_api_Enforcement.Obligations⟩]
def den_ : Nat → Type
  | 0 => T_deliberationkeep_Src
  | 1 => T_api_Pair
  | 2 => T_api_Graph
  | 3 => T_network_Net
  | 4 => T_api_Budget
  | 5 => T_api_Reply
  | 6 => T_api_Strategy
  | 7 => T_api_Step
  | 8 => T_api_Answer
  | 9 => T_api_Verdict
  | 10 => T_api_Enforcement
  | _ + 11 => Unit
instance tabS : SDen := ⟨den_⟩
def rep_ : (n : Nat) → Rep (den_ n)
  | 0 => rT_deliberationkeep_Src
  | 1 => rT_api_Pair
  | 2 => rT_api_Graph
  | 3 => rT_network_Net
  | 4 => rT_api_Budget
  | 5 => rT_api_Reply
  | 6 => rT_api_Strategy
  | 7 => rT_api_Step
  | 8 => rT_api_Answer
  | 9 => rT_api_Verdict
  | 10 => rT_api_Enforcement
  | _ + 11 => rSt []
theorem agg_ : ∀ n, (rep_ n).agg = true
  | 0 => rfl
  | 1 => rfl
  | 2 => rfl
  | 3 => rfl
  | 4 => rfl
  | 5 => rfl
  | 6 => rfl
  | 7 => rfl
  | 8 => rfl
  | 9 => rfl
  | 10 => rfl
  | _ + 11 => rfl
instance tabR : SRep := { tabS with rep := rep_, agg := agg_ }
def split_0 (x : T_deliberationkeep_Src) : List Dyn := [⟨(.sl (.int .i64)), x.L⟩, ⟨(.int .i64), x.At⟩]
def join_0 (l : List Dyn) : Option T_deliberationkeep_Src := match l with
  | [D0, D1] => (D0.as (.sl (.int .i64))).bind fun a0 => (D1.as (.int .i64)).bind fun a1 => some (T_deliberationkeep_Src.mk a0 a1)
  | _ => none
theorem join_0_ok {l : List Dyn} {x : T_deliberationkeep_Src} (h : join_0 l = some x) : split_0 x = l := by
  unfold join_0 at h
  split at h
  · obtain ⟨a0, h0, h⟩ := Option.bind_eq_some_iff.1 h
    obtain ⟨a1, h1, h⟩ := Option.bind_eq_some_iff.1 h
    cases h
    rw [Dyn.as_ok h0, Dyn.as_ok h1]
    rfl
  · cases h
def split_1 (x : T_api_Pair) : List Dyn := [⟨(.int .i64), x.From⟩, ⟨(.int .i64), x.To⟩]
def join_1 (l : List Dyn) : Option T_api_Pair := match l with
  | [D0, D1] => (D0.as (.int .i64)).bind fun a0 => (D1.as (.int .i64)).bind fun a1 => some (T_api_Pair.mk a0 a1)
  | _ => none
theorem join_1_ok {l : List Dyn} {x : T_api_Pair} (h : join_1 l = some x) : split_1 x = l := by
  unfold join_1 at h
  split at h
  · obtain ⟨a0, h0, h⟩ := Option.bind_eq_some_iff.1 h
    obtain ⟨a1, h1, h⟩ := Option.bind_eq_some_iff.1 h
    cases h
    rw [Dyn.as_ok h0, Dyn.as_ok h1]
    rfl
  · cases h
def split_2 (x : T_api_Graph) : List Dyn := [⟨(.int .i64), x.N⟩, ⟨(.sl (.st 1)), x.L⟩]
def join_2 (l : List Dyn) : Option T_api_Graph := match l with
  | [D0, D1] => (D0.as (.int .i64)).bind fun a0 => (D1.as (.sl (.st 1))).bind fun a1 => some (T_api_Graph.mk a0 a1)
  | _ => none
theorem join_2_ok {l : List Dyn} {x : T_api_Graph} (h : join_2 l = some x) : split_2 x = l := by
  unfold join_2 at h
  split at h
  · obtain ⟨a0, h0, h⟩ := Option.bind_eq_some_iff.1 h
    obtain ⟨a1, h1, h⟩ := Option.bind_eq_some_iff.1 h
    cases h
    rw [Dyn.as_ok h0, Dyn.as_ok h1]
    rfl
  · cases h
def split_3 (x : T_network_Net) : List Dyn := [⟨(.int .u64), x.All⟩, ⟨(.sl (.int .u64)), x.By⟩, ⟨(.sl (.int .u64)), x.Out⟩]
def join_3 (l : List Dyn) : Option T_network_Net := match l with
  | [D0, D1, D2] => (D0.as (.int .u64)).bind fun a0 => (D1.as (.sl (.int .u64))).bind fun a1 => (D2.as (.sl (.int .u64))).bind fun a2 => some (T_network_Net.mk a0 a1 a2)
  | _ => none
theorem join_3_ok {l : List Dyn} {x : T_network_Net} (h : join_3 l = some x) : split_3 x = l := by
  unfold join_3 at h
  split at h
  · obtain ⟨a0, h0, h⟩ := Option.bind_eq_some_iff.1 h
    obtain ⟨a1, h1, h⟩ := Option.bind_eq_some_iff.1 h
    obtain ⟨a2, h2, h⟩ := Option.bind_eq_some_iff.1 h
    cases h
    rw [Dyn.as_ok h0, Dyn.as_ok h1, Dyn.as_ok h2]
    rfl
  · cases h
def split_4 (x : T_api_Budget) : List Dyn := [⟨(.int .i64), x.Weight⟩, ⟨(.sl (.int .i64)), x.Dropped⟩]
def join_4 (l : List Dyn) : Option T_api_Budget := match l with
  | [D0, D1] => (D0.as (.int .i64)).bind fun a0 => (D1.as (.sl (.int .i64))).bind fun a1 => some (T_api_Budget.mk a0 a1)
  | _ => none
theorem join_4_ok {l : List Dyn} {x : T_api_Budget} (h : join_4 l = some x) : split_4 x = l := by
  unfold join_4 at h
  split at h
  · obtain ⟨a0, h0, h⟩ := Option.bind_eq_some_iff.1 h
    obtain ⟨a1, h1, h⟩ := Option.bind_eq_some_iff.1 h
    cases h
    rw [Dyn.as_ok h0, Dyn.as_ok h1]
    rfl
  · cases h
def split_5 (x : T_api_Reply) : List Dyn := [⟨(.int .i64), x.To⟩, ⟨(.int .i64), x.Node⟩]
def join_5 (l : List Dyn) : Option T_api_Reply := match l with
  | [D0, D1] => (D0.as (.int .i64)).bind fun a0 => (D1.as (.int .i64)).bind fun a1 => some (T_api_Reply.mk a0 a1)
  | _ => none
theorem join_5_ok {l : List Dyn} {x : T_api_Reply} (h : join_5 l = some x) : split_5 x = l := by
  unfold join_5 at h
  split at h
  · obtain ⟨a0, h0, h⟩ := Option.bind_eq_some_iff.1 h
    obtain ⟨a1, h1, h⟩ := Option.bind_eq_some_iff.1 h
    cases h
    rw [Dyn.as_ok h0, Dyn.as_ok h1]
    rfl
  · cases h
def split_6 (x : T_api_Strategy) : List Dyn := [⟨(.int .i64), x.Game⟩, ⟨(.int .i64), x.Root⟩, ⟨(.int .i64), x.By⟩, ⟨(.sl (.st 5)), x.Replies⟩]
def join_6 (l : List Dyn) : Option T_api_Strategy := match l with
  | [D0, D1, D2, D3] => (D0.as (.int .i64)).bind fun a0 => (D1.as (.int .i64)).bind fun a1 => (D2.as (.int .i64)).bind fun a2 => (D3.as (.sl (.st 5))).bind fun a3 => some (T_api_Strategy.mk a0 a1 a2 a3)
  | _ => none
theorem join_6_ok {l : List Dyn} {x : T_api_Strategy} (h : join_6 l = some x) : split_6 x = l := by
  unfold join_6 at h
  split at h
  · obtain ⟨a0, h0, h⟩ := Option.bind_eq_some_iff.1 h
    obtain ⟨a1, h1, h⟩ := Option.bind_eq_some_iff.1 h
    obtain ⟨a2, h2, h⟩ := Option.bind_eq_some_iff.1 h
    obtain ⟨a3, h3, h⟩ := Option.bind_eq_some_iff.1 h
    cases h
    rw [Dyn.as_ok h0, Dyn.as_ok h1, Dyn.as_ok h2, Dyn.as_ok h3]
    rfl
  · cases h
def split_7 (x : T_api_Step) : List Dyn := [⟨(.int .i64), x.Left⟩, ⟨(.int .i64), x.Right⟩, ⟨(.int .i64), x.Pivot⟩]
def join_7 (l : List Dyn) : Option T_api_Step := match l with
  | [D0, D1, D2] => (D0.as (.int .i64)).bind fun a0 => (D1.as (.int .i64)).bind fun a1 => (D2.as (.int .i64)).bind fun a2 => some (T_api_Step.mk a0 a1 a2)
  | _ => none
theorem join_7_ok {l : List Dyn} {x : T_api_Step} (h : join_7 l = some x) : split_7 x = l := by
  unfold join_7 at h
  split at h
  · obtain ⟨a0, h0, h⟩ := Option.bind_eq_some_iff.1 h
    obtain ⟨a1, h1, h⟩ := Option.bind_eq_some_iff.1 h
    obtain ⟨a2, h2, h⟩ := Option.bind_eq_some_iff.1 h
    cases h
    rw [Dyn.as_ok h0, Dyn.as_ok h1, Dyn.as_ok h2]
    rfl
  · cases h
def split_8 (x : T_api_Answer) : List Dyn := [⟨.bool, x.Sat⟩, ⟨(.sl .bool), x.Model⟩, ⟨(.sl (.st 7)), x.Steps⟩]
def join_8 (l : List Dyn) : Option T_api_Answer := match l with
  | [D0, D1, D2] => (D0.as .bool).bind fun a0 => (D1.as (.sl .bool)).bind fun a1 => (D2.as (.sl (.st 7))).bind fun a2 => some (T_api_Answer.mk a0 a1 a2)
  | _ => none
theorem join_8_ok {l : List Dyn} {x : T_api_Answer} (h : join_8 l = some x) : split_8 x = l := by
  unfold join_8 at h
  split at h
  · obtain ⟨a0, h0, h⟩ := Option.bind_eq_some_iff.1 h
    obtain ⟨a1, h1, h⟩ := Option.bind_eq_some_iff.1 h
    obtain ⟨a2, h2, h⟩ := Option.bind_eq_some_iff.1 h
    cases h
    rw [Dyn.as_ok h0, Dyn.as_ok h1, Dyn.as_ok h2]
    rfl
  · cases h
def split_9 (x : T_api_Verdict) : List Dyn := [⟨.bool, x.Holds⟩, ⟨(.sl (.int .i64)), x.Labels⟩, ⟨(.sl (.int .i64)), x.Ranks⟩, ⟨(.sl (.st 7)), x.Steps⟩]
def join_9 (l : List Dyn) : Option T_api_Verdict := match l with
  | [D0, D1, D2, D3] => (D0.as .bool).bind fun a0 => (D1.as (.sl (.int .i64))).bind fun a1 => (D2.as (.sl (.int .i64))).bind fun a2 => (D3.as (.sl (.st 7))).bind fun a3 => some (T_api_Verdict.mk a0 a1 a2 a3)
  | _ => none
theorem join_9_ok {l : List Dyn} {x : T_api_Verdict} (h : join_9 l = some x) : split_9 x = l := by
  unfold join_9 at h
  split at h
  · obtain ⟨a0, h0, h⟩ := Option.bind_eq_some_iff.1 h
    obtain ⟨a1, h1, h⟩ := Option.bind_eq_some_iff.1 h
    obtain ⟨a2, h2, h⟩ := Option.bind_eq_some_iff.1 h
    obtain ⟨a3, h3, h⟩ := Option.bind_eq_some_iff.1 h
    cases h
    rw [Dyn.as_ok h0, Dyn.as_ok h1, Dyn.as_ok h2, Dyn.as_ok h3]
    rfl
  · cases h
def split_10 (x : T_api_Enforcement) : List Dyn := [⟨(.sl (.int .i64)), x.Set⟩, ⟨(.sl (.st 1)), x.Changes⟩, ⟨(.sl (.sl (.st 1))), x.Obligations⟩]
def join_10 (l : List Dyn) : Option T_api_Enforcement := match l with
  | [D0, D1, D2] => (D0.as (.sl (.int .i64))).bind fun a0 => (D1.as (.sl (.st 1))).bind fun a1 => (D2.as (.sl (.sl (.st 1)))).bind fun a2 => some (T_api_Enforcement.mk a0 a1 a2)
  | _ => none
theorem join_10_ok {l : List Dyn} {x : T_api_Enforcement} (h : join_10 l = some x) : split_10 x = l := by
  unfold join_10 at h
  split at h
  · obtain ⟨a0, h0, h⟩ := Option.bind_eq_some_iff.1 h
    obtain ⟨a1, h1, h⟩ := Option.bind_eq_some_iff.1 h
    obtain ⟨a2, h2, h⟩ := Option.bind_eq_some_iff.1 h
    cases h
    rw [Dyn.as_ok h0, Dyn.as_ok h1, Dyn.as_ok h2]
    rfl
  · cases h
def splitT : (n : Nat) → den_ n → List Dyn
  | 0, x => split_0 x
  | 1, x => split_1 x
  | 2, x => split_2 x
  | 3, x => split_3 x
  | 4, x => split_4 x
  | 5, x => split_5 x
  | 6, x => split_6 x
  | 7, x => split_7 x
  | 8, x => split_8 x
  | 9, x => split_9 x
  | 10, x => split_10 x
  | _ + 11, _ => []
def joinT : (n : Nat) → List Dyn → Option (den_ n)
  | 0, l => join_0 l
  | 1, l => join_1 l
  | 2, l => join_2 l
  | 3, l => join_3 l
  | 4, l => join_4 l
  | 5, l => join_5 l
  | 6, l => join_6 l
  | 7, l => join_7 l
  | 8, l => join_8 l
  | 9, l => join_9 l
  | 10, l => join_10 l
  | _ + 11, _ => none
def ftsT : Nat → List Ty
  | 0 => [(.sl (.int .i64)), (.int .i64)]
  | 1 => [(.int .i64), (.int .i64)]
  | 2 => [(.int .i64), (.sl (.st 1))]
  | 3 => [(.int .u64), (.sl (.int .u64)), (.sl (.int .u64))]
  | 4 => [(.int .i64), (.sl (.int .i64))]
  | 5 => [(.int .i64), (.int .i64)]
  | 6 => [(.int .i64), (.int .i64), (.int .i64), (.sl (.st 5))]
  | 7 => [(.int .i64), (.int .i64), (.int .i64)]
  | 8 => [.bool, (.sl .bool), (.sl (.st 7))]
  | 9 => [.bool, (.sl (.int .i64)), (.sl (.int .i64)), (.sl (.st 7))]
  | 10 => [(.sl (.int .i64)), (.sl (.st 1)), (.sl (.sl (.st 1)))]
  | _ + 11 => []
def fldT : (n f : Nat) → den_ n → Option (Nat × Dyn)
  | 0, 0, x => some (0, ⟨(.sl (.int .i64)), x.L⟩)
  | 0, 1, x => some (1, ⟨(.int .i64), x.At⟩)
  | 0, _ + 2, _ => none
  | 1, 0, x => some (0, ⟨(.int .i64), x.From⟩)
  | 1, 1, x => some (1, ⟨(.int .i64), x.To⟩)
  | 1, _ + 2, _ => none
  | 2, 0, x => some (0, ⟨(.int .i64), x.N⟩)
  | 2, 1, x => some (1, ⟨(.sl (.st 1)), x.L⟩)
  | 2, _ + 2, _ => none
  | 3, 0, x => some (0, ⟨(.int .u64), x.All⟩)
  | 3, 1, x => some (1, ⟨(.sl (.int .u64)), x.By⟩)
  | 3, 2, x => some (2, ⟨(.sl (.int .u64)), x.Out⟩)
  | 3, _ + 3, _ => none
  | 4, 0, x => some (0, ⟨(.int .i64), x.Weight⟩)
  | 4, 1, x => some (1, ⟨(.sl (.int .i64)), x.Dropped⟩)
  | 4, _ + 2, _ => none
  | 5, 0, x => some (0, ⟨(.int .i64), x.To⟩)
  | 5, 1, x => some (1, ⟨(.int .i64), x.Node⟩)
  | 5, _ + 2, _ => none
  | 6, 0, x => some (0, ⟨(.int .i64), x.Game⟩)
  | 6, 1, x => some (1, ⟨(.int .i64), x.Root⟩)
  | 6, 2, x => some (2, ⟨(.int .i64), x.By⟩)
  | 6, 3, x => some (3, ⟨(.sl (.st 5)), x.Replies⟩)
  | 6, _ + 4, _ => none
  | 7, 0, x => some (0, ⟨(.int .i64), x.Left⟩)
  | 7, 1, x => some (1, ⟨(.int .i64), x.Right⟩)
  | 7, 2, x => some (2, ⟨(.int .i64), x.Pivot⟩)
  | 7, _ + 3, _ => none
  | 8, 0, x => some (0, ⟨.bool, x.Sat⟩)
  | 8, 1, x => some (1, ⟨(.sl .bool), x.Model⟩)
  | 8, 2, x => some (2, ⟨(.sl (.st 7)), x.Steps⟩)
  | 8, _ + 3, _ => none
  | 9, 0, x => some (0, ⟨.bool, x.Holds⟩)
  | 9, 1, x => some (1, ⟨(.sl (.int .i64)), x.Labels⟩)
  | 9, 2, x => some (2, ⟨(.sl (.int .i64)), x.Ranks⟩)
  | 9, 3, x => some (3, ⟨(.sl (.st 7)), x.Steps⟩)
  | 9, _ + 4, _ => none
  | 10, 0, x => some (0, ⟨(.sl (.int .i64)), x.Set⟩)
  | 10, 1, x => some (1, ⟨(.sl (.st 1)), x.Changes⟩)
  | 10, 2, x => some (2, ⟨(.sl (.sl (.st 1))), x.Obligations⟩)
  | 10, _ + 3, _ => none
  | _ + 11, _, _ => none
theorem fldT_ok : ∀ (n f : Nat) (x : den_ n) (off : Nat) (D : Dyn), fldT n f x = some (off, D) → (((rep_ n).cp x).drop off).take D.t.rep.size = D.t.rep.cp D.d ∧ off + D.t.rep.size ≤ (rep_ n).size
  | 0, 0, x, _, _, h => by cases h; exact ⟨rfl, Nat.le_of_ble_eq_true rfl⟩
  | 0, 1, x, _, _, h => by cases h; exact ⟨rfl, Nat.le_of_ble_eq_true rfl⟩
  | 0, _ + 2, x, _, _, h => by cases h
  | 1, 0, x, _, _, h => by cases h; exact ⟨rfl, Nat.le_of_ble_eq_true rfl⟩
  | 1, 1, x, _, _, h => by cases h; exact ⟨rfl, Nat.le_of_ble_eq_true rfl⟩
  | 1, _ + 2, x, _, _, h => by cases h
  | 2, 0, x, _, _, h => by cases h; exact ⟨rfl, Nat.le_of_ble_eq_true rfl⟩
  | 2, 1, x, _, _, h => by cases h; exact ⟨rfl, Nat.le_of_ble_eq_true rfl⟩
  | 2, _ + 2, x, _, _, h => by cases h
  | 3, 0, x, _, _, h => by cases h; exact ⟨rfl, Nat.le_of_ble_eq_true rfl⟩
  | 3, 1, x, _, _, h => by cases h; exact ⟨rfl, Nat.le_of_ble_eq_true rfl⟩
  | 3, 2, x, _, _, h => by cases h; exact ⟨rfl, Nat.le_of_ble_eq_true rfl⟩
  | 3, _ + 3, x, _, _, h => by cases h
  | 4, 0, x, _, _, h => by cases h; exact ⟨rfl, Nat.le_of_ble_eq_true rfl⟩
  | 4, 1, x, _, _, h => by cases h; exact ⟨rfl, Nat.le_of_ble_eq_true rfl⟩
  | 4, _ + 2, x, _, _, h => by cases h
  | 5, 0, x, _, _, h => by cases h; exact ⟨rfl, Nat.le_of_ble_eq_true rfl⟩
  | 5, 1, x, _, _, h => by cases h; exact ⟨rfl, Nat.le_of_ble_eq_true rfl⟩
  | 5, _ + 2, x, _, _, h => by cases h
  | 6, 0, x, _, _, h => by cases h; exact ⟨rfl, Nat.le_of_ble_eq_true rfl⟩
  | 6, 1, x, _, _, h => by cases h; exact ⟨rfl, Nat.le_of_ble_eq_true rfl⟩
  | 6, 2, x, _, _, h => by cases h; exact ⟨rfl, Nat.le_of_ble_eq_true rfl⟩
  | 6, 3, x, _, _, h => by cases h; exact ⟨rfl, Nat.le_of_ble_eq_true rfl⟩
  | 6, _ + 4, x, _, _, h => by cases h
  | 7, 0, x, _, _, h => by cases h; exact ⟨rfl, Nat.le_of_ble_eq_true rfl⟩
  | 7, 1, x, _, _, h => by cases h; exact ⟨rfl, Nat.le_of_ble_eq_true rfl⟩
  | 7, 2, x, _, _, h => by cases h; exact ⟨rfl, Nat.le_of_ble_eq_true rfl⟩
  | 7, _ + 3, x, _, _, h => by cases h
  | 8, 0, x, _, _, h => by cases h; exact ⟨rfl, Nat.le_of_ble_eq_true rfl⟩
  | 8, 1, x, _, _, h => by cases h; exact ⟨rfl, Nat.le_of_ble_eq_true rfl⟩
  | 8, 2, x, _, _, h => by cases h; exact ⟨rfl, Nat.le_of_ble_eq_true rfl⟩
  | 8, _ + 3, x, _, _, h => by cases h
  | 9, 0, x, _, _, h => by cases h; exact ⟨rfl, Nat.le_of_ble_eq_true rfl⟩
  | 9, 1, x, _, _, h => by cases h; exact ⟨rfl, Nat.le_of_ble_eq_true rfl⟩
  | 9, 2, x, _, _, h => by cases h; exact ⟨rfl, Nat.le_of_ble_eq_true rfl⟩
  | 9, 3, x, _, _, h => by cases h; exact ⟨rfl, Nat.le_of_ble_eq_true rfl⟩
  | 9, _ + 4, x, _, _, h => by cases h
  | 10, 0, x, _, _, h => by cases h; exact ⟨rfl, Nat.le_of_ble_eq_true rfl⟩
  | 10, 1, x, _, _, h => by cases h; exact ⟨rfl, Nat.le_of_ble_eq_true rfl⟩
  | 10, 2, x, _, _, h => by cases h; exact ⟨rfl, Nat.le_of_ble_eq_true rfl⟩
  | 10, _ + 3, x, _, _, h => by cases h
  | _ + 11, _, x, _, _, h => by cases h
def deqT : (n : Nat) → DecidableEq (den_ n)
  | 0 => inferInstanceAs (DecidableEq T_deliberationkeep_Src)
  | 1 => inferInstanceAs (DecidableEq T_api_Pair)
  | 2 => inferInstanceAs (DecidableEq T_api_Graph)
  | 3 => inferInstanceAs (DecidableEq T_network_Net)
  | 4 => inferInstanceAs (DecidableEq T_api_Budget)
  | 5 => inferInstanceAs (DecidableEq T_api_Reply)
  | 6 => inferInstanceAs (DecidableEq T_api_Strategy)
  | 7 => inferInstanceAs (DecidableEq T_api_Step)
  | 8 => inferInstanceAs (DecidableEq T_api_Answer)
  | 9 => inferInstanceAs (DecidableEq T_api_Verdict)
  | 10 => inferInstanceAs (DecidableEq T_api_Enforcement)
  | _ + 11 => inferInstanceAs (DecidableEq Unit)
theorem split_okT : ∀ (n : Nat) (x : den_ n), (rep_ n).cp x = (splitT n x).map Dyn.rp
  | 0, x => rfl
  | 1, x => rfl
  | 2, x => rfl
  | 3, x => rfl
  | 4, x => rfl
  | 5, x => rfl
  | 6, x => rfl
  | 7, x => rfl
  | 8, x => rfl
  | 9, x => rfl
  | 10, x => rfl
  | _ + 11, x => rfl
theorem split_oneT : ∀ (n : Nat) (x : den_ n), ∀ D ∈ splitT n x, D.t.one = true
  | 0, x, D, h => all_at (l := split_0 x) rfl h
  | 1, x, D, h => all_at (l := split_1 x) rfl h
  | 2, x, D, h => all_at (l := split_2 x) rfl h
  | 3, x, D, h => all_at (l := split_3 x) rfl h
  | 4, x, D, h => all_at (l := split_4 x) rfl h
  | 5, x, D, h => all_at (l := split_5 x) rfl h
  | 6, x, D, h => all_at (l := split_6 x) rfl h
  | 7, x, D, h => all_at (l := split_7 x) rfl h
  | 8, x, D, h => all_at (l := split_8 x) rfl h
  | 9, x, D, h => all_at (l := split_9 x) rfl h
  | 10, x, D, h => all_at (l := split_10 x) rfl h
  | _ + 11, x, D, h => by cases h
theorem join_okT : ∀ (n : Nat) (l : List Dyn) (x : den_ n), joinT n l = some x → splitT n x = l
  | 0, l, x, h => join_0_ok h
  | 1, l, x, h => join_1_ok h
  | 2, l, x, h => join_2_ok h
  | 3, l, x, h => join_3_ok h
  | 4, l, x, h => join_4_ok h
  | 5, l, x, h => join_5_ok h
  | 6, l, x, h => join_6_ok h
  | 7, l, x, h => join_7_ok h
  | 8, l, x, h => join_8_ok h
  | 9, l, x, h => join_9_ok h
  | 10, l, x, h => join_10_ok h
  | _ + 11, l, x, h => by cases h
def eqsT : Nat → Nat → Bool
  | _, _ => false
theorem eqs_okT [DrawMode] : ∀ t n, eqsT t n = true → letI := deqT n; EqT prog t (rep_ n) := fun t n h => by
  unfold eqsT at h
  split at h
  · cases h
instance tabP : PTab prog := { tabR with
  code := lkC [(26, 2), (27, 2), (30, 4), (31, 4), (36, 1), (37, 1), (39, 6), (40, 6), (44, 9), (45, 9), (52, 0), (53, 0), (64, 3), (65, 3), (82, 8), (83, 8), (87, 5), (88, 5), (93, 10), (94, 10), (183, 7), (184, 7)], split := splitT, split_ok := split_okT, split_one := split_oneT, join := joinT, join_ok' := join_okT, fts := ftsT, fld := fldT, fld_ok := fldT_ok, deq := deqT, eqs := eqsT, eqs_ok := eqs_okT }
noncomputable def keep_New_m (l_0 : (List Int)) : Option ((List Int) × Int) :=
 Option.bind (slM l_0 0 (imin ((l_0.length : Int)) 2000)) fun t1 =>
 some ((t1, 0))
noncomputable def keep_New_C : Con := ⟨[(.sl (.int .i64))], [(.sl (.int .i64)), (.int .i64)], fun (a : (List Int)) => keep_New_m a, [(false, [.d 0 0])], [], [(false, [.ptr 0])], [.oc 0 [.d 0 0, .d 1 0]], 0, 1⟩
def keep_New_H : Hints := ⟨[], [], [], [], []⟩
theorem keep_New_ok [DrawMode] : ConFn prog 4 keep_New_C := conFn_of (H := keep_New_H) (fin := []) Tryz.func4 Tryz.call4 (tabL_ok (l := []) trivial) rfl rfl rfl (fun a => by kernel_rfl)

noncomputable def keep_Src_Raw_m (s_0 : T_deliberationkeep_Src) : Option (Int × T_deliberationkeep_Src) :=
 bif decide (s_0.At ≥ ((s_0.L.length : Int))) then
 some ((0, s_0))
 else
 Option.bind (idxM s_0.L (isub .i64 (iadd .i64 s_0.At 1) 1)) fun t1 =>
 some ((t1, (T_deliberationkeep_Src.mk s_0.L (iadd .i64 s_0.At 1))))
noncomputable def keep_Src_Raw_C : Con := ⟨[(.st 0)], [(.int .i64), (.st 0)], fun (a : T_deliberationkeep_Src) => keep_Src_Raw_m a, [(false, [.ptr 0])], [.oc 0 [.d 0 0, .d 0 1]], [(false, [.d 0 0])], [.oc 0 [.d 1 0, .d 1 1]], 1, 1⟩
def keep_Src_Raw_H : Hints := ⟨[], [], [], [], []⟩
theorem keep_Src_Raw_ok [DrawMode] : ConFn prog 45 keep_Src_Raw_C := conFn_of (H := keep_Src_Raw_H) (fin := []) Tryz.func45 Tryz.call45 (tabL_ok (l := []) trivial) rfl rfl rfl (fun a => by kernel_rfl)

noncomputable def keep_Mod_m (x_0 : Int) (n_1 : Int) : Option (Int) :=
 bif decide (n_1 < 1) then
 some 0
 else
 Option.bind (iremM .i64 x_0 n_1) fun x1 =>
 bif decide (x1 < 0) then
 some (iadd .i64 x1 n_1)
 else
 some x1
noncomputable def keep_Mod_C : Con := ⟨[(.int .i64), (.int .i64)], [(.int .i64)], fun (a : Int × Int) => keep_Mod_m a.1 a.2, [(false, [.d 0 0]), (false, [.d 1 0])], [], [(false, [.d 0 0])], [], 0, 0⟩
def keep_Mod_H : Hints := ⟨[], [], [], [], []⟩
theorem keep_Mod_ok [DrawMode] : ConFn prog 44 keep_Mod_C := conFn_of (H := keep_Mod_H) (fin := []) Tryz.func44 Tryz.call44 (tabL_ok (l := []) trivial) rfl rfl rfl (fun a => by kernel_rfl)

noncomputable def keep_Src_N_m (s_0 : T_deliberationkeep_Src) (n_1 : Int) : Option (Int × T_deliberationkeep_Src) :=
 Option.bind (keep_Src_Raw_m s_0) fun t1 =>
 Option.bind (keep_Mod_m t1.1 n_1) fun t2 =>
 some ((t2, t1.2))
noncomputable def keep_Src_N_C : Con := ⟨[(.st 0), (.int .i64)], [(.int .i64), (.st 0)], fun (a : T_deliberationkeep_Src × Int) => keep_Src_N_m a.1 a.2, [(false, [.ptr 0]), (false, [.d 1 0])], [.oc 0 [.d 0 0, .d 0 1]], [(false, [.d 0 0])], [.oc 0 [.d 1 0, .d 1 1]], 1, 1⟩
def keep_Src_N_H : Hints := ⟨[], [], [], [], []⟩
theorem keep_Src_N_ok [DrawMode] : ConFn prog 14 keep_Src_N_C := conFn_of (H := keep_Src_N_H) (fin := []) Tryz.func14 Tryz.call14 (tabL_ok (l := [(45, keep_Src_Raw_C), (44, keep_Mod_C)]) ⟨keep_Src_Raw_ok, keep_Mod_ok, trivial⟩) rfl rfl rfl (fun a => by kernel_rfl)

noncomputable def keep_Src_Graph_l1 (t1 : (Int × T_deliberationkeep_Src)) (t2 : (Int × T_deliberationkeep_Src)) (s47 : Int × (List Int) × Int × (List T_api_Pair)) (s58 : Int × (List Int) × Int × (List T_api_Pair)) : Option (Sum ((List Int) × Int × (List T_api_Pair)) (Int × (List Int) × Int × (List T_api_Pair))) :=
 bif decide (s58.1 < t1.1) then
 Option.bind (keep_Src_N_m ((T_deliberationkeep_Src.mk s58.2.1 s58.2.2.1)) 12) fun k59 =>
 joinM (fun j61 : Bool =>
 bif j61 then
 Option.bind (appM 16 s58.2.2.2 [(T_api_Pair.mk s47.1 s58.1)]) fun t62 =>
 some (Sum.inr ((iadd .i64 s58.1 1, k59.2.L, k59.2.At, t62)))
 else
 some (Sum.inr ((iadd .i64 s58.1 1, k59.2.L, k59.2.At, s58.2.2.2)))) fun k60 =>
 bif decide (k59.1 < (iadd .i64 1 t2.1)) then
 bif (s47.1 : Int) != s58.1 then
 k60 true
 else
 k60 ((k59.1 : Int) == 0)
 else
 k60 false
 else
 some (Sum.inl ((s58.2.1, s58.2.2.1, s58.2.2.2)))
noncomputable def keep_Src_Graph_l2 (t1 : (Int × T_deliberationkeep_Src)) (t2 : (Int × T_deliberationkeep_Src)) (s47 : Int × (List Int) × Int × (List T_api_Pair)) : Option (Sum ((List Int) × Int × (List T_api_Pair)) (Int × (List Int) × Int × (List T_api_Pair))) :=
 bif decide (s47.1 < t1.1) then
 Option.bind (loopC (keep_Src_Graph_l1 t1 t2 s47) ((0, s47.2.1, s47.2.2.1, s47.2.2.2))) fun q63 : (List Int) × Int × (List T_api_Pair) =>
 some (Sum.inr ((iadd .i64 s47.1 1, q63.1, q63.2.1, q63.2.2)))
 else
 some (Sum.inl ((s47.2.1, s47.2.2.1, s47.2.2.2)))
noncomputable def keep_Src_Graph_m (s_0 : T_deliberationkeep_Src) (n_1 : Int) : Option (T_api_Graph × T_deliberationkeep_Src) :=
 Option.bind (keep_Src_N_m s_0 (iadd .i64 n_1 1)) fun t1 =>
 Option.bind (keep_Src_N_m t1.2 6) fun t2 =>
 Option.bind (loopC (keep_Src_Graph_l2 t1 t2) ((0, t2.2.L, t2.2.At, []))) fun q64 : (List Int) × Int × (List T_api_Pair) =>
 some (((T_api_Graph.mk t1.1 q64.2.2), (T_deliberationkeep_Src.mk q64.1 q64.2.1)))
noncomputable def keep_Src_Graph_C : Con := ⟨[(.st 0), (.int .i64)], [(.st 2), (.st 0)], fun (a : T_deliberationkeep_Src × Int) => keep_Src_Graph_m a.1 a.2, [(false, [.ptr 0]), (false, [.d 1 0])], [.oc 0 [.d 0 0, .d 0 1]], [(true, [.d 0 0, .d 0 1])], [.oc 0 [.d 1 0, .d 1 1]], 1, 1⟩
def keep_Src_Graph_H : Hints := ⟨[(0, ⟨[.own (.st 1) (.cell 2 1)], ⟨[(.int .i64), (.sl (.int .i64)), (.int .i64), (.sl (.st 1))], [(0, none), (4, none), (5, none), (6, none), (7, some (false, [.d 0 0]))], [.cells [some (.d 1 0), some (.d 2 0)], .keep, .cells [none, some (.own 4)], .dead, .oaN 0 (.d 3 0)], 1⟩, [], some ([], ⟨[(.sl (.int .i64)), (.int .i64), (.sl (.st 1))], [(0, none), (4, none), (5, none)], [.cells [some (.d 0 0), some (.d 1 0)], .keep, .cells [none, some (.own 4)], .dead, .oaN 0 (.d 2 0)], 1⟩), false, none⟩), (2, ⟨[], ⟨[(.int .i64), (.sl (.int .i64)), (.int .i64), (.sl (.st 1))], [(0, none), (4, none), (5, none), (6, none), (7, none), (8, some (false, [.d 0 0]))], [.cells [some (.d 1 0), some (.d 2 0)], .keep, .cells [none, some (.own 5)], .dead, .dead, .oaN 0 (.d 3 0)], 1⟩, [], some ([], ⟨[(.sl (.int .i64)), (.int .i64), (.sl (.st 1))], [(0, none), (4, none), (5, none), (6, none), (7, none)], [.cells [some (.d 0 0), some (.d 1 0)], .keep, .cells [none, some (.own 5)], .dead, .dead, .oaN 0 (.d 2 0)], 1⟩), false, none⟩)], [(24, ([], ⟨[.bool], [(0, none), (4, none), (5, none), (6, none), (7, none), (8, none), (43, some (false, [.d 0 0]))], [.keep, .keep, .keep, .dead, .dead, .keep], 0⟩))], [], [], []⟩
theorem keep_Src_Graph_ok [DrawMode] : ConFn prog 5 keep_Src_Graph_C := conFn_of (H := keep_Src_Graph_H) (fin := [.sl (.st 1) (.cell 1 1)]) Tryz.func5 Tryz.call5 (tabL_ok (l := [(14, keep_Src_N_C)]) ⟨keep_Src_N_ok, trivial⟩) rfl rfl rfl (fun a => by kernel_rfl)

theorem el_rep : ElT prog 3 (rI .i64) 8 := ⟨⟨_, Tryz.type3, rfl, rfl, _, rfl, rfl⟩, Tryz.isAgg3, by decide, by decide⟩
theorem ze_rep : ZeroT prog 3 (rI .i64) 0 := ⟨_, _, Tryz.type3, rfl, fun _ _ => ⟨rfl, trivial⟩⟩
noncomputable def math_bits_Mul64_m (x_0 : Int) (y_1 : Int) : Option (Int × Int) :=
  letM (iand .u64 x_0 4294967295) fun x01 =>
  letM (ishr .u64 x_0 32) fun x12 =>
  letM (iand .u64 y_1 4294967295) fun y03 =>
  letM (ishr .u64 y_1 32) fun y14 =>
  letM (imul .u64 x01 y03) fun w05 =>
  letM (iadd .u64 (imul .u64 x12 y03) (ishr .u64 w05 32)) fun t6 =>
  letM (iand .u64 t6 4294967295) fun w17 =>
  letM (ishr .u64 t6 32) fun w28 =>
  letM (iadd .u64 w17 (imul .u64 x01 y14)) fun w19 =>
  letM (iadd .u64 (iadd .u64 (imul .u64 x12 y14) w28) (ishr .u64 w19 32)) fun hi10 =>
  letM (imul .u64 x_0 y_1) fun lo11 =>
  some (hi10, lo11)

theorem math_bits_Mul64_ok [DrawMode] {x_0 : Int} {y_1 : Int} {r : Int × Int} (hm : math_bits_Mul64_m x_0 y_1 = some r) :
    FnOk prog 125 [iv .u64 x_0, iv .u64 y_1] [] (fun (x : Unit) => [iv .u64 r.1, iv .u64 r.2]) (fun (x : Unit) => []) := by
  refine fn_ok (fn := Tryz.f125) (N := 51) (res := fun r x => [iv .u64 r.1, iv .u64 r.2]) (Ω1 := fun r x => []) Tryz.func125 rfl rfl hm rfl (fun E hM => ?_)
  unfold math_bits_Mul64_m
  refine ref_seq (ref_region ?_)
  refine as1 rfl rfl ?_
  refine as1 rfl rfl ?_
  refine l_nil (n_then (ref_seq (ref_region ?_)))
  refine mv1 rfl rfl ?_
  refine s_rd (r_and rfl rfl) rfl ?_
  refine as1 rfl rfl ?_
  refine b_let (f := iv .u64) (t := 6) rfl fun x01 => ?_
  refine l_nil (n_then (ref_seq (ref_region ?_)))
  refine mv1 rfl rfl ?_
  refine s_rd (r_shr rfl rfl (by decide)) rfl ?_
  refine as1 rfl rfl ?_
  refine b_let (f := iv .u64) (t := 7) rfl fun x12 => ?_
  refine l_nil (n_then (ref_seq (ref_region ?_)))
  refine mv1 rfl rfl ?_
  refine s_rd (r_and rfl rfl) rfl ?_
  refine as1 rfl rfl ?_
  refine b_let (f := iv .u64) (t := 8) rfl fun y03 => ?_
  refine l_nil (n_then (ref_seq (ref_region ?_)))
  refine mv1 rfl rfl ?_
  refine s_rd (r_shr rfl rfl (by decide)) rfl ?_
  refine as1 rfl rfl ?_
  refine b_let (f := iv .u64) (t := 9) rfl fun y14 => ?_
  refine l_nil (n_then (ref_seq (ref_region ?_)))
  refine mv1 rfl rfl ?_
  refine mv1 rfl rfl ?_
  refine s_rd (r_mul rfl rfl) rfl ?_
  refine as1 rfl rfl ?_
  refine b_let (f := iv .u64) (t := 10) rfl fun w05 => ?_
  refine l_nil (n_then (ref_seq (ref_region ?_)))
  refine mv1 rfl rfl ?_
  refine mv1 rfl rfl ?_
  refine s_rd (r_mul rfl rfl) rfl ?_
  refine mv1 rfl rfl ?_
  refine s_rd (r_shr rfl rfl (by decide)) rfl ?_
  refine s_rd (r_add rfl rfl) rfl ?_
  refine as1 rfl rfl ?_
  refine b_let (f := iv .u64) (t := 11) rfl fun t6 => ?_
  refine l_nil (n_then (ref_seq (ref_region ?_)))
  refine mv1 rfl rfl ?_
  refine s_rd (r_and rfl rfl) rfl ?_
  refine as1 rfl rfl ?_
  refine b_let (f := iv .u64) (t := 12) rfl fun w17 => ?_
  refine l_nil (n_then (ref_seq (ref_region ?_)))
  refine mv1 rfl rfl ?_
  refine s_rd (r_shr rfl rfl (by decide)) rfl ?_
  refine as1 rfl rfl ?_
  refine b_let (f := iv .u64) (t := 13) rfl fun w28 => ?_
  refine l_nil (n_then (ref_seq (ref_region ?_)))
  refine mv1 rfl rfl ?_
  refine mv1 rfl rfl ?_
  refine mv1 rfl rfl ?_
  refine s_rd (r_mul rfl rfl) rfl ?_
  refine s_rd (r_add rfl rfl) rfl ?_
  refine as1 rfl rfl ?_
  refine b_let (f := iv .u64) (t := 12) rfl fun w19 => ?_
  refine l_nil (n_then (ref_seq (ref_region ?_)))
  refine mv1 rfl rfl ?_
  refine mv1 rfl rfl ?_
  refine s_rd (r_mul rfl rfl) rfl ?_
  refine mv1 rfl rfl ?_
  refine s_rd (r_add rfl rfl) rfl ?_
  refine mv1 rfl rfl ?_
  refine s_rd (r_shr rfl rfl (by decide)) rfl ?_
  refine s_rd (r_add rfl rfl) rfl ?_
  refine as1 rfl rfl ?_
  refine b_let (f := iv .u64) (t := 4) rfl fun hi10 => ?_
  refine l_nil (n_then (ref_seq (ref_region ?_)))
  refine mv1 rfl rfl ?_
  refine mv1 rfl rfl ?_
  refine s_rd (r_mul rfl rfl) rfl ?_
  refine as1 rfl rfl ?_
  refine b_let (f := iv .u64) (t := 5) rfl fun lo11 => ?_
  refine l_nil (n_then (ref_ret ?_))
  exact fin2 (.inl rfl) () [] rfl trivial rfl (rv_tmp rfl) (rv_tmp rfl)

noncomputable def math_bits_Mul_m (x_0 : Int) (y_1 : Int) : Option (Int × Int) :=
  Option.bind (math_bits_Mul64_m x_0 y_1) fun t1 =>
  some (t1.1, t1.2)

theorem math_bits_Mul_ok [DrawMode] {x_0 : Int} {y_1 : Int} {r : Int × Int} (hm : math_bits_Mul_m x_0 y_1 = some r) :
    FnOk prog 87 [iv .u64 x_0, iv .u64 y_1] [] (fun (x : Unit) => [iv .u64 r.1, iv .u64 r.2]) (fun (x : Unit) => []) := by
  refine fn_ok (fn := Tryz.f87) (N := 30) (res := fun r x => [iv .u64 r.1, iv .u64 r.2]) (Ω1 := fun r x => []) Tryz.func87 rfl rfl hm rfl (fun E hM => ?_)
  unfold math_bits_Mul_m
  refine ref_seq (ref_region ?_)
  refine as1 rfl rfl ?_
  refine as1 rfl rfl ?_
  refine l_nil (n_then (ref_seq ?_))
  refine ref_condF rfl rfl ?_
  refine ref_skip (n_then (ref_seq (ref_region ?_)))
  refine mv1 rfl rfl ?_
  refine mv1 rfl rfl ?_
  refine pull fun t1 h_t1 => ?_
  refine s_st (s_call (ψ := fun (_ : Unit) => tup [iv .u64 t1.1, iv .u64 t1.2]) (args := [.tmp 23, .tmp 24]) Tryz.call125 rfl (math_bits_Mul64_ok h_t1) ⟨arg rfl, arg rfl, trivial⟩ (fun _ _ _ _ h => h)) rfl (fun _ => ?_)
  refine mv1 rfl rfl ?_
  refine s_rd (r_extract rfl rfl) rfl ?_
  refine s_rd (r_extract rfl rfl) rfl ?_
  refine as1 rfl rfl ?_
  refine as1 rfl rfl ?_
  refine l_nil (n_then (ref_seq (ref_region ?_)))
  refine mv1 rfl rfl ?_
  refine mv1 rfl rfl ?_
  refine as1 rfl rfl ?_
  refine as1 rfl rfl ?_
  refine l_nil (n_then (ref_ret ?_))
  exact fin2 (.inl rfl) () [] rfl trivial rfl (rv_tmp rfl) (rv_tmp rfl)

noncomputable def slices_Repeat_int_int_l1  (s17 : Int × (List Int)) : Option (Sum ((List Int)) (Int × (List Int))) :=
  bif decide (s17.1 < (s17.2.length : Int)) then
    Option.bind (slM s17.2 s17.1 (s17.2.length : Int)) fun t20 =>
    Option.bind (slM s17.2 0 s17.1) fun t21 =>
    some (Sum.inr (iadd .i64 s17.1 ((min t21.length t20.length : Nat) : Int), cpO s17.2 s17.1 (s17.2.length : Int) 0 s17.1))
  else
    some (Sum.inl s17.2)

noncomputable def slices_Repeat_int_int_m (x_0 : (List Int)) (count_1 : Int) : Option (List Int) :=
  bif decide (count_1 < 0) then
    none
  else
    Option.bind (math_bits_Mul_m (IntKind.wrap .u64 (x_0.length : Int)) (IntKind.wrap .u64 count_1)) fun t2 =>
    bif decide (t2.1 > 0) then
      none
    else
      bif decide (t2.2 > 9223372036854775807) then
        none
      else
        Option.bind (mkM 8 0 (IntKind.wrap .i64 t2.2)) fun newslice4 =>
        letM (((min x_0.length newslice4.length : Nat) : Int)) fun n6 =>
        Option.bind (loopC (slices_Repeat_int_int_l1) (n6, cpA newslice4 x_0)) fun q22 : (List Int) =>
        some q22

theorem slices_Repeat_int_int_fn [DrawMode] {x_0 : (List Int)} {count_1 : Int} {r : List Int} (hm : slices_Repeat_int_int_m x_0 count_1 = some r) :
    FnOk prog 46 [slv (rI .i64) x_0, iv .i64 count_1] [] (fun (x : (Value × List Nat)) => [pv x.1]) (fun (x : (Value × List Nat)) => [oa (rI .i64) x.1 x.2 r]) := by
  refine fn_ok (X := (Value × List Nat)) (fn := Tryz.f46) (N := 48) (res := fun r x => [pv x.1]) (Ω1 := fun r x => [oa (rI .i64) x.1 x.2 r]) Tryz.func46 rfl rfl hm rfl (fun E hM => ?_)
  unfold slices_Repeat_int_int_m
  refine ref_seq (ref_region ?_)
  refine as1 rfl rfl ?_
  refine l_nil (n_then (ref_seq (ref_seq (ref_region ?_))))
  refine mv1 rfl rfl ?_
  refine s_rd (r_lss rfl rfl) rfl ?_
  refine l_nil (n_then ?_)
  refine ref_cond rfl (fun hb1 => ?_) (fun hb1 => ?_)
  · refine ref_region ?_
    exact pnone
  refine ref_skip (n_then (ref_seq (ref_region ?_)))
  refine mv1 rfl rfl ?_
  refine s_rd (r_len Tryz.underlying22 rfl) rfl ?_
  refine s_rd (r_conv (k' := .u64) rfl rfl rfl) rfl ?_
  refine mv1 rfl rfl ?_
  refine s_rd (r_conv (k' := .u64) rfl rfl rfl) rfl ?_
  refine pull fun t2 h_t2 => ?_
  refine s_st (s_call (ψ := fun (_ : Unit) => tup [iv .u64 t2.1, iv .u64 t2.2]) (args := [.tmp 15, .tmp 17]) Tryz.call87 rfl (math_bits_Mul_ok h_t2) ⟨arg rfl, arg rfl, trivial⟩ (fun _ _ _ _ h => h)) rfl (fun _ => ?_)
  refine mv1 rfl rfl ?_
  refine s_rd (r_extract rfl rfl) rfl ?_
  refine s_rd (r_extract rfl rfl) rfl ?_
  refine as1 rfl rfl ?_
  refine as1 rfl rfl ?_
  refine l_nil (n_then (ref_seq (ref_seq (ref_region ?_))))
  refine mv1 rfl rfl ?_
  refine s_rd (r_gtr rfl rfl) rfl ?_
  refine mv1 rfl rfl ?_
  refine b_split (t := 23) rfl (fun _ => ?_) (fun _ => ?_)
  · refine s_off rfl rfl rfl rfl rfl ?_
    refine s_off rfl rfl rfl rfl rfl ?_
    refine s_rd (r_pickT rfl rfl) rfl ?_
    refine l_nil (n_then ?_)
    refine ref_condT rfl rfl ?_
    refine ref_region ?_
    exact pnone
  refine s_on rfl rfl rfl ?_
  refine mv1 rfl rfl ?_
  refine s_on rfl rfl rfl ?_
  refine s_rd (r_gtr rfl rfl) rfl ?_
  refine s_rd (r_pickF rfl rfl) rfl ?_
  refine l_nil (n_then ?_)
  refine ref_cond rfl (fun hb3 => ?_) (fun hb3 => ?_)
  · refine ref_region ?_
    exact pnone
  refine ref_skip (n_then (ref_seq (ref_region ?_)))
  refine mv1 rfl rfl ?_
  refine s_rd (r_conv (k' := .i64) rfl rfl rfl) rfl ?_
  refine pull fun newslice4 h_newslice4 => ?_
  refine s_st (s_make h_newslice4 Tryz.underlying22 el_rep ze_rep rfl rfl) rfl (fun o5 => ?_)
  refine as1 rfl rfl ?_
  refine l_nil (n_then (ref_seq (ref_region ?_)))
  refine mv1 rfl rfl ?_
  refine mv1 rfl rfl ?_
  refine s_st (s_copyA Tryz.underlying22 el_rep rfl (j := 0) rfl rfl) rfl (fun _ => ?_)
  refine as1 rfl rfl ?_
  refine b_let (f := iv .i64) (t := 8) rfl fun n6 => ?_
  refine l_nil (n_then (ref_seq ?_))
  refine ref_loopB (f := (slices_Repeat_int_int_l1)) (Γl := (fun (s17 : Int × (List Int)) (x18 : Unit) => [(7, pv o5.1), (8, iv .i64 s17.1)])) (Ωl := (fun (s17 : Int × (List Int)) (x18 : Unit) => [oa (rI .i64) o5.1 o5.2 s17.2])) (Γb := (fun (q22 : (List Int)) (y23 : Unit) => [(7, pv o5.1)])) (Ωb := (fun (q22 : (List Int)) (y23 : Unit) => [oa (rI .i64) o5.1 o5.2 q22])) (n6, cpA newslice4 x_0) () (weak [0] ⟨rfl, rfl, trivial⟩ ⟨rfl, trivial⟩) (fun s17 x18 => ?_) (fun q22 y23 => ?_)
  · unfold slices_Repeat_int_int_l1
    refine ref_seq (ref_seq (ref_region ?_))
    refine mv1 rfl rfl ?_
    refine mv1 rfl rfl ?_
    refine s_rd (r_olen Tryz.underlying22 rfl (j := 0) rfl) rfl ?_
    refine s_rd (r_lss rfl rfl) rfl ?_
    refine l_nil (n_then ?_)
    refine ref_cond rfl (fun hb19 => ?_) (fun hb19 => ?_)
    · refine ref_skip (n_then (ref_block ?_))
      refine ref_draw [0, 1, 2, 3, 4, 5, 6, 8] rfl (by kernel_rfl) (fun hok => ?_)
      refine a_rd (i := 0) hok rfl (by kernel_rfl) rfl (r_move rfl) rfl ?_
      refine a_rd (i := 1) hok rfl (by kernel_rfl) rfl (r_move rfl) rfl ?_
      refine a_rd (i := 2) hok rfl (by kernel_rfl) rfl (r_move rfl) rfl ?_
      refine pull fun t20 h_t20 => ?_
      refine a_rd (i := 3) hok rfl (by kernel_rfl) rfl (r_osub h_t20 Tryz.underlying22 el_rep rfl (j := 0) rfl (.of rfl) .dft) rfl ?_
      refine a_rd (i := 4) hok rfl (by kernel_rfl) rfl (r_move rfl) rfl ?_
      refine a_rd (i := 5) hok rfl (by kernel_rfl) rfl (r_move rfl) rfl ?_
      refine pull fun t21 h_t21 => ?_
      refine a_rd (i := 6) hok rfl (by kernel_rfl) rfl (r_osub h_t21 Tryz.underlying22 el_rep rfl (j := 0) rfl .dft (.of rfl)) rfl ?_
      refine a_next hok 7 [] (by kernel_rfl) ?_ trivial
      refine a_st (i := 7) hok rfl rfl (s_copyW h_t20 h_t21 Tryz.underlying22 el_rep rfl (j := 0) rfl rfl) (by intro _ h; cases h; rfl) (fun _ => ⟨trivial, ⟨trivial, ⟨trivial, ⟨trivial, ⟨trivial, ⟨trivial, ⟨trivial, trivial⟩⟩⟩⟩⟩⟩⟩) (fun _ => ?_)
      refine a_rd (i := 8) hok rfl (by kernel_rfl) rfl (r_add rfl rfl) rfl ?_
      refine a_next hok 9 [] (by kernel_rfl) ?_ trivial
      refine a_st (i := 9) hok rfl rfl (St.ofRd (r_assign rfl)) (by intro _ h; cases h; rfl) (fun _ => ⟨trivial, ⟨trivial, ⟨trivial, ⟨trivial, ⟨trivial, ⟨trivial, ⟨trivial, ⟨trivial, trivial⟩⟩⟩⟩⟩⟩⟩⟩) (fun _ => ?_)
      refine a_fin hok (by kernel_rfl) ?_
      refine b_of (nrm [oa (rI .i64) o5.1 o5.2 (cpO s17.2 s17.1 (s17.2.length : Int) 0 s17.1)] rfl) ?_
      refine n_block ?_
      exact goB () (weak [0] ⟨rfl, rfl, trivial⟩ ⟨rfl, trivial⟩)
    refine ref_exit (x_then ?_)
    exact brkB () (weak [0] ⟨rfl, trivial⟩ ⟨rfl, trivial⟩)
  refine n_then (ref_seq (ref_region ?_))
  refine mv1 rfl rfl ?_
  refine as1 rfl rfl ?_
  refine l_nil (n_then (ref_ret ?_))
  exact fin1 (.inl rfl) o5 [0] rfl ⟨rfl, trivial⟩ rfl (rv_tmp rfl)

noncomputable def slices_Repeat_int_int_C : Con := conW4 (P := prog) (.int .i64) slices_Repeat_int_int_m
theorem slices_Repeat_int_int_ok [DrawMode] : ConFn prog 46 slices_Repeat_int_int_C := ⟨Tryz.call46, conW4_ok fun s n r hm => slices_Repeat_int_int_fn hm⟩

noncomputable def cmp_isNaN_int_m (x_0 : Int) : Option (Bool) :=
 some ((x_0 : Int) != x_0)
noncomputable def cmp_isNaN_int_C : Con := ⟨[(.int .i64)], [.bool], fun (a : Int) => cmp_isNaN_int_m a, [(false, [.d 0 0])], [], [(false, [.d 0 0])], [], 0, 0⟩
def cmp_isNaN_int_H : Hints := ⟨[], [], [], [], []⟩
theorem cmp_isNaN_int_ok [DrawMode] : ConFn prog 93 cmp_isNaN_int_C := conFn_of (H := cmp_isNaN_int_H) (fin := []) Tryz.func93 Tryz.call93 (tabL_ok (l := []) trivial) rfl rfl rfl (fun a => by kernel_rfl)

noncomputable def cmp_Compare_int_m (x_0 : Int) (y_1 : Int) : Option (Int) :=
 Option.bind (cmp_isNaN_int_m x_0) fun xNaN1 =>
 Option.bind (cmp_isNaN_int_m y_1) fun yNaN2 =>
 bif xNaN1 then
 bif yNaN2 then
 some 0
 else
 some ((-1))
 else
 bif yNaN2 then
 some 1
 else
 bif decide (x_0 < y_1) then
 some ((-1))
 else
 bif decide (x_0 > y_1) then
 some 1
 else
 some 0
noncomputable def cmp_Compare_int_C : Con := ⟨[(.int .i64), (.int .i64)], [(.int .i64)], fun (a : Int × Int) => cmp_Compare_int_m a.1 a.2, [(false, [.d 0 0]), (false, [.d 1 0])], [], [(false, [.d 0 0])], [], 0, 0⟩
def cmp_Compare_int_H : Hints := ⟨[], [], [], [], []⟩
theorem cmp_Compare_int_ok [DrawMode] : ConFn prog 51 cmp_Compare_int_C := conFn_of (H := cmp_Compare_int_H) (fin := []) Tryz.func51 Tryz.call51 (tabL_ok (l := [(93, cmp_isNaN_int_C)]) ⟨cmp_isNaN_int_ok, trivial⟩) rfl rfl rfl (fun a => by kernel_rfl)

noncomputable def cmp_Or_int_l1 (vals_0 : (List Int)) (s5 : Int) : Option (Sum (Sum (Int) (Unit)) (Int)) :=
 bif decide (s5 < ((vals_0.length : Int))) then
 Option.bind (idxM vals_0 s5) fun t6 =>
 bif (t6 : Int) != 0 then
 some (Sum.inl (Sum.inl t6))
 else
 some (Sum.inr (iadd .i64 s5 1))
 else
 some (Sum.inl (Sum.inr (())))
noncomputable def cmp_Or_int_m (vals_0 : (List Int)) : Option (Int) :=
 Option.bind (loopC (cmp_Or_int_l1 vals_0) 0) (sumK (fun a : Int => some a) fun q7 : Unit =>
 some 0)
noncomputable def cmp_Or_int_C : Con := ⟨[(.sl (.int .i64))], [(.int .i64)], fun (a : (List Int)) => cmp_Or_int_m a, [(false, [.d 0 0])], [], [(false, [.d 0 0])], [], 0, 0⟩
def cmp_Or_int_H : Hints := ⟨[(0, ⟨[], ⟨[(.int .i64)], [(2, none), (3, none), (6, none), (7, none), (8, some (false, [.d 0 0]))], [], 0⟩, [], some ([], ⟨[], [(2, none), (3, none)], [], 0⟩), true, none⟩)], [], [], [], []⟩
theorem cmp_Or_int_ok [DrawMode] : ConFn prog 91 cmp_Or_int_C := conFn_of (H := cmp_Or_int_H) (fin := []) Tryz.func91 Tryz.call91 (tabL_ok (l := []) trivial) rfl rfl rfl (fun a => by kernel_rfl)

noncomputable def graph_compare_m (a_0 : T_api_Pair) (b_1 : T_api_Pair) : Option (Int) :=
 Option.bind (cmp_Compare_int_m a_0.From b_1.From) fun t1 =>
 Option.bind (cmp_Compare_int_m a_0.To b_1.To) fun t2 =>
 Option.bind (cmp_Or_int_m [t1, t2]) fun t3 =>
 some t3
noncomputable def graph_compare_C : Con := ⟨[(.st 1), (.st 1)], [(.int .i64)], fun (a : T_api_Pair × T_api_Pair) => graph_compare_m a.1 a.2, [(true, [.d 0 0, .d 0 1]), (true, [.d 1 0, .d 1 1])], [], [(false, [.d 0 0])], [], 0, 0⟩
def graph_compare_H : Hints := ⟨[], [], [], [], []⟩
theorem graph_compare_ok [DrawMode] : ConFn prog 48 graph_compare_C := conFn_of (H := graph_compare_H) (fin := []) Tryz.func48 Tryz.call48 (tabL_ok (l := [(51, cmp_Compare_int_C), (91, cmp_Or_int_C)]) ⟨cmp_Compare_int_ok, cmp_Or_int_ok, trivial⟩) rfl rfl rfl (fun a => by kernel_rfl)

noncomputable def graph_Validate_l1 (g_0 : T_api_Graph) (s9 : Int) : Option (Sum (Sum (Int) (Unit)) (Int)) :=
 bif decide (s9 < ((g_0.L.length : Int))) then
 Option.bind (idxM g_0.L s9) fun t10 =>
 bif decide ((imin t10.From t10.To) < 0) then
 some (Sum.inl (Sum.inl 1))
 else
 bif decide ((imax t10.From t10.To) ≥ g_0.N) then
 some (Sum.inl (Sum.inl 1))
 else
 bif decide (s9 > 0) then
 Option.bind (idxM g_0.L (isub .i64 s9 1)) fun t11 =>
 Option.bind (graph_compare_m t11 t10) fun t12 =>
 bif decide (t12 ≥ 0) then
 some (Sum.inl (Sum.inl 8))
 else
 some (Sum.inr (iadd .i64 s9 1))
 else
 some (Sum.inr (iadd .i64 s9 1))
 else
 some (Sum.inl (Sum.inr (())))
noncomputable def graph_Validate_m (g_0 : T_api_Graph) : Option (Int) :=
 bif decide (g_0.N < 0) then
 some 1
 else
 bif decide (g_0.N > 40) then
 some 1
 else
 Option.bind (loopC (graph_Validate_l1 g_0) 0) (sumK (fun a : Int => some a) fun q13 : Unit =>
 some 0)
noncomputable def graph_Validate_C : Con := ⟨[(.st 2)], [(.int .i64)], fun (a : T_api_Graph) => graph_Validate_m a, [(true, [.d 0 0, .d 0 1])], [], [(false, [.d 0 0])], [], 0, 0⟩
def graph_Validate_H : Hints := ⟨[(0, ⟨[], ⟨[(.int .i64)], [(1, none), (2, none), (14, none), (15, none), (16, some (false, [.d 0 0]))], [.keep], 0⟩, [], some ([], ⟨[], [(2, none)], [.dead], 0⟩), true, none⟩)], [], [], [], []⟩
theorem graph_Validate_ok [DrawMode] : ConFn prog 16 graph_Validate_C := conFn_of (H := graph_Validate_H) (fin := []) Tryz.func16 Tryz.call16 (tabL_ok (l := [(48, graph_compare_C)]) ⟨graph_compare_ok, trivial⟩) rfl rfl rfl (fun a => by kernel_rfl)

noncomputable def graph_proper_m (g_0 : T_api_Graph) : Option (T_api_Graph) :=
 Option.bind (graph_Validate_m g_0) fun t1 =>
 bif (t1 : Int) != 0 then
 some ((T_api_Graph.mk 0 []))
 else
 some g_0
noncomputable def graph_proper_C : Con := ⟨[(.st 2)], [(.st 2)], fun (a : T_api_Graph) => graph_proper_m a, [(true, [.d 0 0, .d 0 1])], [], [(true, [.d 0 0, .d 0 1])], [], 0, 0⟩
def graph_proper_H : Hints := ⟨[], [], [], [], []⟩
theorem graph_proper_ok [DrawMode] : ConFn prog 88 graph_proper_C := conFn_of (H := graph_proper_H) (fin := []) Tryz.func88 Tryz.call88 (tabL_ok (l := [(16, graph_Validate_C)]) ⟨graph_Validate_ok, trivial⟩) rfl rfl rfl (fun a => by kernel_rfl)

noncomputable def graph_masks_l1 (g_0 : T_api_Graph) (s12 : Int × (List Int)) : Option (Sum ((List Int)) (Int × (List Int))) :=
 bif decide (s12.1 < ((g_0.L.length : Int))) then
 Option.bind (idxM g_0.L s12.1) fun t13 =>
 Option.bind (idxM s12.2 t13.From) fun t14 =>
 Option.bind (ishlM .u64 1 t13.To) fun t15 =>
 Option.bind (idxM s12.2 t13.From) fun t16 =>
 some (Sum.inr ((iadd .i64 s12.1 1, s12.2.set (Int.toNat t13.From) (ior .u64 t14 t15))))
 else
 some (Sum.inl s12.2)
noncomputable def graph_masks_m (g_0 : T_api_Graph) : Option ((List Int)) :=
 Option.bind (mkM 8 0 g_0.N) fun out1 =>
 Option.bind (loopC (graph_masks_l1 g_0) ((0, out1))) fun q17 : (List Int) =>
 some q17
noncomputable def graph_masks_C : Con := ⟨[(.st 2)], [(.sl (.int .u64))], fun (a : T_api_Graph) => graph_masks_m a, [(true, [.d 0 0, .d 0 1])], [], [(false, [.own 0])], [.oa 0 (.d 0 0)], 0, 1⟩
def graph_masks_H : Hints := ⟨[(0, ⟨[], ⟨[(.int .i64), (.sl (.int .u64))], [(2, none), (3, none), (10, none), (11, none), (12, some (false, [.d 0 0]))], [.dead, .data (.d 1 0)], 0⟩, [], some ([], ⟨[(.sl (.int .u64))], [(2, none), (3, none)], [.dead, .data (.d 0 0)], 0⟩), false, none⟩)], [], [], [], []⟩
theorem graph_masks_ok [DrawMode] : ConFn prog 90 graph_masks_C := conFn_of (H := graph_masks_H) (fin := []) Tryz.func90 Tryz.call90 (tabL_ok (l := []) trivial) rfl rfl rfl (fun a => by kernel_rfl)

theorem tzC_ {x r : Int} (h : tzM x = some r) : FnOk prog 94 [iv .u64 x] [] (fun _ : Unit => [iv .i64 r]) (fun _ => []) :=
  tz_fn (g := 0) (fun x hx w hT => Any7.bits_TrailingZeros64 tz29 x hx w hT) (by first | exact .head _ | exact .tail _ (.head _)) h
noncomputable def math_bits_TrailingZeros64_C : Con := ⟨[.int .u64], [.int .i64], tzM, [(false, [.d 0 0])], [], [(false, [.d 0 0])], [], 0, 0⟩
theorem math_bits_TrailingZeros64_ok : ConFn prog 94 math_bits_TrailingZeros64_C := ⟨Tryz.call94, tz_con fun h => tzC_ h⟩

noncomputable def graph_list_l1  (s10 : Int × (List Int)) : Option (Sum ((List Int)) (Int × (List Int))) :=
 bif (s10.1 : Int) != 0 then
 Option.bind (tzM s10.1) fun t11 =>
 Option.bind (appM 8 s10.2 [t11]) fun out12 =>
 some (Sum.inr ((iand .u64 s10.1 (isub .u64 s10.1 1), out12)))
 else
 some (Sum.inl s10.2)
noncomputable def graph_list_m (set__0 : Int) : Option ((List Int)) :=
 Option.bind (loopC graph_list_l1 ((set__0, []))) fun q13 : (List Int) =>
 some q13
noncomputable def graph_list_C : Con := ⟨[(.int .u64)], [(.sl (.int .i64))], fun (a : Int) => graph_list_m a, [(false, [.d 0 0])], [], [(false, [.own 0])], [.oa 0 (.d 0 0)], 0, 1⟩
def graph_list_H : Hints := ⟨[(0, ⟨[.own (.int .i64) (.slot 3 0)], ⟨[(.int .u64), (.sl (.int .i64))], [(0, some (false, [.d 0 0])), (2, none), (3, some (false, [.own 1]))], [.dead, .oaN 0 (.d 1 0)], 1⟩, [], some ([], ⟨[(.sl (.int .i64))], [(2, none), (3, some (false, [.own 1]))], [.dead, .oaN 0 (.d 0 0)], 1⟩), false, none⟩)], [], [], [], []⟩
theorem graph_list_ok : ConFn prog 89 graph_list_C := conFn_of (H := graph_list_H) (fin := []) Tryz.func89 Tryz.call89 (tabL_ok (l := [(94, math_bits_TrailingZeros64_C)]) ⟨math_bits_TrailingZeros64_ok, trivial⟩) rfl rfl rfl (fun a => by kernel_rfl)

noncomputable def graph_Attacked_m (g_0 : T_api_Graph) (i_1 : Int) : Option ((List Int)) :=
 Option.bind (graph_proper_m g_0) fun t1 =>
 bif decide (i_1 < 0) then
 some []
 else
 bif decide (i_1 ≥ t1.N) then
 some []
 else
 Option.bind (graph_masks_m t1) fun t2 =>
 Option.bind (idxM t2 i_1) fun t3 =>
 Option.bind (graph_list_m t3) fun t4 =>
 some t4
noncomputable def graph_Attacked_C : Con := ⟨[(.st 2), (.int .i64)], [(.sl (.int .i64))], fun (a : T_api_Graph × Int) => graph_Attacked_m a.1 a.2, [(true, [.d 0 0, .d 0 1]), (false, [.d 1 0])], [], [(false, [.own 0])], [.oa 0 (.d 0 0)], 0, 1⟩
def graph_Attacked_H : Hints := ⟨[], [], [], [], []⟩
theorem graph_Attacked_ok : ConFn prog 47 graph_Attacked_C := conFn_of (H := graph_Attacked_H) (fin := [.own (.int .i64) (.slot 4 0)]) Tryz.func47 Tryz.call47 (tabL_ok (l := [(88, graph_proper_C), (90, graph_masks_C), (89, graph_list_C)]) ⟨graph_proper_ok, graph_masks_ok, graph_list_ok, trivial⟩) rfl rfl rfl (fun a => by kernel_rfl)

noncomputable def grounded_build_l1 (g_0 : T_api_Graph) (s28 : Int × (List Int)) : Option (Sum ((List Int)) (Int × (List Int))) :=
 bif decide (s28.1 < ((g_0.L.length : Int))) then
 Option.bind (idxM g_0.L s28.1) fun t29 =>
 Option.bind (vidxM 40 s28.2 t29.To) fun t30 =>
 Option.bind (vidxM 40 s28.2 t29.To) fun t31 =>
 some (Sum.inr ((iadd .i64 s28.1 1, s28.2.set (Int.toNat t29.To) (iadd .i64 t30 1))))
 else
 some (Sum.inl s28.2)
noncomputable def grounded_build_l2 (g_0 : T_api_Graph) (q32 : (List Int)) (s53 : Int × (List Int)) : Option (Sum ((List Int)) (Int × (List Int))) :=
 bif decide (s53.1 < g_0.N) then
 Option.bind (vidxM 40 q32 s53.1) fun t54 =>
 bif (t54 : Int) == 0 then
 Option.bind (appM 8 s53.2 [s53.1]) fun queue55 =>
 some (Sum.inr ((iadd .i64 s53.1 1, queue55)))
 else
 some (Sum.inr ((iadd .i64 s53.1 1, s53.2)))
 else
 some (Sum.inl s53.2)
noncomputable def grounded_build_l3 (s469 : Int × (List Int) × (List Int) × (List Int) × (List Int)) (s488 : Int × (List Int) × (List Int)) : Option (Sum ((List Int) × (List Int)) (Int × (List Int) × (List Int))) :=
 bif decide (s488.1 < ((s469.2.2.2.2.length : Int))) then
 Option.bind (idxM s469.2.2.2.2 s488.1) fun t489 =>
 Option.bind (idxM s488.2.1 t489) fun t490 =>
 Option.bind (idxM s488.2.2 t489) fun t491 =>
 some (Sum.inr ((iadd .i64 s488.1 1, s488.2.1.set (Int.toNat t489) 1, s488.2.2.set (Int.toNat t489) s469.1)))
 else
 some (Sum.inl ((s488.2.1, s488.2.2)))
noncomputable def grounded_build_l4 (s725 : Int × (List Int) × (List Int) × (List Int) × (List Int)) (t726 : Int) (t731 : ((List Int))) (s746 : Int × (List Int) × (List Int)) : Option (Sum ((List Int) × (List Int)) (Int × (List Int) × (List Int))) :=
 bif decide (s746.1 < ((t731.length : Int))) then
 Option.bind (idxM t731 s746.1) fun t747 =>
 Option.bind (vidxM 40 s746.2.1 t747) fun t748 =>
 Option.bind (vidxM 40 s746.2.1 t747) fun t749 =>
 Option.bind (vidxM 40 (s746.2.1.set (Int.toNat t747) (isub .i64 t748 1)) t747) fun t750 =>
 bif (t750 : Int) == 0 then
 Option.bind (idxM (s725.2.1.set (Int.toNat t726) 2) t747) fun t751 =>
 bif (t751 : Int) == 3 then
 Option.bind (appM 8 s746.2.2 [t747]) fun next752 =>
 some (Sum.inr ((iadd .i64 s746.1 1, s746.2.1.set (Int.toNat t747) (isub .i64 t748 1), next752)))
 else
 some (Sum.inr ((iadd .i64 s746.1 1, s746.2.1.set (Int.toNat t747) (isub .i64 t748 1), s746.2.2)))
 else
 some (Sum.inr ((iadd .i64 s746.1 1, s746.2.1.set (Int.toNat t747) (isub .i64 t748 1), s746.2.2)))
 else
 some (Sum.inl ((s746.2.1, s746.2.2)))
noncomputable def grounded_build_l5 (g_0 : T_api_Graph) (s469 : Int × (List Int) × (List Int) × (List Int) × (List Int)) (t678 : ((List Int))) (s725 : Int × (List Int) × (List Int) × (List Int) × (List Int)) : Option (Sum ((List Int) × (List Int) × (List Int) × (List Int)) (Int × (List Int) × (List Int) × (List Int) × (List Int))) :=
 bif decide (s725.1 < ((t678.length : Int))) then
 Option.bind (idxM t678 s725.1) fun t726 =>
 Option.bind (idxM s725.2.1 t726) fun t728 =>
 bif (t728 : Int) != 3 then
 some (Sum.inr ((iadd .i64 s725.1 1, s725.2.1, s725.2.2.1, s725.2.2.2.1, s725.2.2.2.2)))
 else
 Option.bind (idxM s725.2.1 t726) fun t729 =>
 Option.bind (idxM s725.2.2.1 t726) fun t730 =>
 Option.bind (graph_Attacked_m g_0 t726) fun t731 =>
 Option.bind (loopC (grounded_build_l4 s725 t726 t731) ((0, s725.2.2.2.1, s725.2.2.2.2))) fun q753 : (List Int) × (List Int) =>
 some (Sum.inr ((iadd .i64 s725.1 1, s725.2.1.set (Int.toNat t726) 2, s725.2.2.1.set (Int.toNat t726) s469.1, q753.1, q753.2)))
 else
 some (Sum.inl ((s725.2.1, s725.2.2.1, s725.2.2.2.1, s725.2.2.2.2)))
noncomputable def grounded_build_l6 (g_0 : T_api_Graph) (s469 : Int × (List Int) × (List Int) × (List Int) × (List Int)) (s676 : Int × (List Int) × (List Int) × (List Int) × (List Int)) : Option (Sum ((List Int) × (List Int) × (List Int) × (List Int)) (Int × (List Int) × (List Int) × (List Int) × (List Int))) :=
 bif decide (s676.1 < ((s469.2.2.2.2.length : Int))) then
 Option.bind (idxM s469.2.2.2.2 s676.1) fun t677 =>
 Option.bind (graph_Attacked_m g_0 t677) fun t678 =>
 Option.bind (loopC (grounded_build_l5 g_0 s469 t678) ((0, s676.2.1, s676.2.2.1, s676.2.2.2.1, s676.2.2.2.2))) fun q754 : (List Int) × (List Int) × (List Int) × (List Int) =>
 some (Sum.inr ((iadd .i64 s676.1 1, q754.1, q754.2.1, q754.2.2.1, q754.2.2.2)))
 else
 some (Sum.inl ((s676.2.1, s676.2.2.1, s676.2.2.2.1, s676.2.2.2.2)))
noncomputable def grounded_build_l7 (g_0 : T_api_Graph) (s469 : Int × (List Int) × (List Int) × (List Int) × (List Int)) : Option (Sum ((List Int) × (List Int)) (Int × (List Int) × (List Int) × (List Int) × (List Int))) :=
 bif decide (((s469.2.2.2.2.length : Int)) > 0) then
 Option.bind (loopC (grounded_build_l3 s469) ((0, s469.2.1, s469.2.2.1))) fun q492 : (List Int) × (List Int) =>
 Option.bind (loopC (grounded_build_l6 g_0 s469) ((0, q492.1, q492.2, s469.2.2.2.1, []))) fun q755 : (List Int) × (List Int) × (List Int) × (List Int) =>
 some (Sum.inr ((iadd .i64 s469.1 1, q755.1, q755.2.1, q755.2.2.1, q755.2.2.2)))
 else
 some (Sum.inl ((s469.2.1, s469.2.2.1)))
noncomputable def grounded_build_m (g_0 : T_api_Graph) : Option ((List Int) × (List Int)) :=
 joinM (fun j9 : (List Int) × (List Int) =>
 Option.bind (loopC (grounded_build_l1 g_0) ((0, List.replicate 40 (0 : Int)))) fun q32 : (List Int) =>
 Option.bind (loopC (grounded_build_l2 g_0 q32) ((0, []))) fun q56 : (List Int) =>
 Option.bind (loopC (grounded_build_l7 g_0) ((1, j9.1, j9.2, q32, q56))) fun q756 : (List Int) × (List Int) =>
 some ((q756.1, q756.2))) fun k8 =>
 meetO (
 meetO (
 Option.bind (slices_Repeat_int_int_m [3] g_0.N) fun labels757 =>
 meetO (
 Option.bind (mkM 8 0 g_0.N) fun ranks758 =>
 k8 ((labels757, ranks758))) (
 Option.bind (mkM 8 0 g_0.N) fun ranks759 =>
 k8 ((labels757, ranks759)))) (
 Option.bind (mkM 8 0 g_0.N) fun ranks760 =>
 Option.bind (slices_Repeat_int_int_m [3] g_0.N) fun labels761 =>
 k8 ((labels761, ranks760)))) (
 Option.bind (mkM 8 0 g_0.N) fun ranks762 =>
 Option.bind (slices_Repeat_int_int_m [3] g_0.N) fun labels763 =>
 k8 ((labels763, ranks762)))
noncomputable def grounded_build_C : Con := ⟨[(.st 2)], [(.sl (.int .i64)), (.sl (.int .i64))], fun (a : T_api_Graph) => grounded_build_m a, [(true, [.d 0 0, .d 0 1])], [], [(false, [.own 0]), (false, [.own 1])], [.oa 0 (.d 0 0), .oa 1 (.d 1 0)], 0, 2⟩
def grounded_build_H : Hints := ⟨[(0, ⟨[], ⟨[(.int .i64), (.vec .i64)], [(1, none), (2, none), (3, none), (4, none), (27, none), (28, none), (29, some (false, [.d 0 0]))], [.keep, .keep, .keep, .data (.d 1 0)], 0⟩, [], some ([], ⟨[(.vec .i64)], [(1, none), (2, none), (3, none), (4, none)], [.keep, .keep, .keep, .data (.d 0 0)], 0⟩), false, none⟩), (2, ⟨[.own (.int .i64) (.slot 7 0)], ⟨[(.int .i64), (.sl (.int .i64))], [(1, none), (2, none), (3, none), (4, none), (7, some (false, [.own 5])), (41, none), (42, some (false, [.d 0 0]))], [.keep, .keep, .keep, .keep, .dead, .oaN 0 (.d 1 0)], 1⟩, [], some ([], ⟨[(.sl (.int .i64))], [(1, none), (2, none), (3, none), (4, none), (7, some (false, [.own 5]))], [.keep, .keep, .keep, .keep, .dead, .oaN 0 (.d 0 0)], 1⟩), false, none⟩), (4, ⟨[], ⟨[(.int .i64), (.sl (.int .i64)), (.sl (.int .i64)), (.vec .i64), (.sl (.int .i64))], [(1, none), (2, none), (3, none), (4, none), (7, some (false, [.own 6])), (9, some (false, [.d 0 0]))], [.keep, .data (.d 1 0), .data (.d 2 0), .data (.d 3 0), .dead, .dead, .oaN 0 (.d 4 0)], 1⟩, [], some ([], ⟨[(.sl (.int .i64)), (.sl (.int .i64))], [(2, none), (3, none)], [.dead, .data (.d 0 0), .data (.d 1 0), .dead, .dead, .dead], 0⟩), false, none⟩), (6, ⟨[], ⟨[(.int .i64), (.sl (.int .i64)), (.sl (.int .i64))], [(1, none), (2, none), (3, none), (4, none), (7, none), (9, none), (59, none), (60, none), (61, some (false, [.d 0 0]))], [.keep, .data (.d 1 0), .data (.d 2 0), .keep, .dead, .dead, .keep], 0⟩, [], some ([], ⟨[(.sl (.int .i64)), (.sl (.int .i64))], [(1, none), (2, none), (3, none), (4, none), (7, none), (9, none)], [.keep, .data (.d 0 0), .data (.d 1 0), .keep, .dead, .dead, .keep], 0⟩), false, none⟩), (8, ⟨[.own (.int .i64) (.slot 12 0)], ⟨[(.int .i64), (.sl (.int .i64)), (.sl (.int .i64)), (.vec .i64), (.sl (.int .i64))], [(1, none), (2, none), (3, none), (4, none), (9, none), (12, some (false, [.own 8])), (73, none), (74, none), (75, some (false, [.d 0 0]))], [.keep, .data (.d 1 0), .data (.d 2 0), .data (.d 3 0), .dead, .dead, .keep, .dead, .oaN 0 (.d 4 0)], 1⟩, [], some ([], ⟨[(.sl (.int .i64)), (.sl (.int .i64)), (.vec .i64), (.sl (.int .i64))], [(1, none), (2, none), (3, none), (4, none), (9, none), (12, some (false, [.own 8]))], [.keep, .data (.d 0 0), .data (.d 1 0), .data (.d 2 0), .dead, .dead, .dead, .dead, .oaN 0 (.d 3 0)], 1⟩), false, none⟩), (10, ⟨[], ⟨[(.int .i64), (.sl (.int .i64)), (.sl (.int .i64)), (.vec .i64), (.sl (.int .i64))], [(1, none), (2, none), (3, none), (4, none), (9, none), (12, some (false, [.own 10])), (73, none), (74, none), (75, none), (81, none), (82, none), (83, some (false, [.d 0 0]))], [.keep, .data (.d 1 0), .data (.d 2 0), .data (.d 3 0), .dead, .dead, .keep, .dead, .dead, .keep, .oaN 0 (.d 4 0)], 1⟩, [], some ([], ⟨[(.sl (.int .i64)), (.sl (.int .i64)), (.vec .i64), (.sl (.int .i64))], [(1, none), (2, none), (3, none), (4, none), (9, none), (12, some (false, [.own 10])), (73, none), (74, none), (75, none)], [.keep, .data (.d 0 0), .data (.d 1 0), .data (.d 2 0), .dead, .dead, .keep, .dead, .dead, .dead, .oaN 0 (.d 3 0)], 1⟩), false, none⟩), (12, ⟨[], ⟨[(.int .i64), (.vec .i64), (.sl (.int .i64))], [(1, none), (2, none), (3, none), (4, none), (9, none), (12, some (false, [.own 12])), (73, none), (74, none), (75, none), (81, none), (82, none), (83, none), (101, none), (102, none), (103, some (false, [.d 0 0]))], [.keep, .keep, .keep, .data (.d 1 0), .dead, .dead, .keep, .dead, .dead, .keep, .dead, .keep, .oaN 0 (.d 2 0)], 1⟩, [], some ([], ⟨[(.vec .i64), (.sl (.int .i64))], [(1, none), (2, none), (3, none), (4, none), (9, none), (12, some (false, [.own 12])), (73, none), (74, none), (75, none), (81, none), (82, none), (83, none)], [.keep, .keep, .keep, .data (.d 0 0), .dead, .dead, .keep, .dead, .dead, .keep, .dead, .dead, .oaN 0 (.d 1 0)], 1⟩), false, none⟩)], [(6, ([], ⟨[(.sl (.int .i64)), (.sl (.int .i64))], [(1, none), (2, some (false, [.own 1])), (3, some (false, [.own 2]))], [.keep, .oaN 0 (.d 0 0), .oaN 1 (.d 1 0)], 2⟩))], [], [], []⟩
theorem grounded_build_ok : ConFn prog 15 grounded_build_C := conFn_of (H := grounded_build_H) (fin := []) Tryz.func15 Tryz.call15 (tabL_ok (l := [(46, slices_Repeat_int_int_C), (47, graph_Attacked_C)]) ⟨slices_Repeat_int_int_ok, graph_Attacked_ok, trivial⟩) rfl rfl rfl (fun a => by kernel_rfl)

noncomputable def grounded_Label_m (g_0 : T_api_Graph) : Option ((List Int)) :=
 Option.bind (grounded_build_m g_0) fun t1 =>
 some t1.1
noncomputable def grounded_Label_C : Con := ⟨[(.st 2)], [(.sl (.int .i64))], fun (a : T_api_Graph) => grounded_Label_m a, [(true, [.d 0 0, .d 0 1])], [], [(false, [.own 0])], [.oa 0 (.d 0 0)], 0, 1⟩
def grounded_Label_H : Hints := ⟨[], [], [], [], []⟩
theorem grounded_Label_ok : ConFn prog 6 grounded_Label_C := conFn_of (H := grounded_Label_H) (fin := []) Tryz.func6 Tryz.call6 (tabL_ok (l := [(15, grounded_build_C)]) ⟨grounded_build_ok, trivial⟩) rfl rfl rfl (fun a => by kernel_rfl)

noncomputable def degree_weighs_1_m (w_0 : Int) : Option (Bool) :=
 bif decide (w_0 < 0) then
 some true
 else
 some (decide (w_0 > 1000))
noncomputable def degree_weighs_1_C : Con := ⟨[(.int .i64)], [.bool], fun (a : Int) => degree_weighs_1_m a, [(false, [.d 0 0])], [], [(false, [.d 0 0])], [], 0, 0⟩
def degree_weighs_1_H : Hints := ⟨[], [], [], [], []⟩
theorem degree_weighs_1_ok [DrawMode] : ConFn prog 50 degree_weighs_1_C := conFn_of (H := degree_weighs_1_H) (fin := []) Tryz.func50 Tryz.call50 (tabL_ok (l := []) trivial) rfl rfl rfl (fun a => by kernel_rfl)

noncomputable def slices_IndexFunc_int_int_l1 (s_0 : (List Int)) (s7 : Int) : Option (Sum (Sum (Int) (Unit)) (Int)) :=
 bif decide (s7 < ((s_0.length : Int))) then
 Option.bind (idxM s_0 s7) fun t8 =>
 Option.bind (degree_weighs_1_m t8) fun t9 =>
 bif t9 then
 some (Sum.inl (Sum.inl s7))
 else
 some (Sum.inr (iadd .i64 s7 1))
 else
 some (Sum.inl (Sum.inr (())))
noncomputable def slices_IndexFunc_int_int_m (s_0 : (List Int)) : Option (Int) :=
 Option.bind (loopC (slices_IndexFunc_int_int_l1 s_0) 0) (sumK (fun a : Int => some a) fun q10 : Unit =>
 some ((-1)))
noncomputable def slices_IndexFunc_int_int_C : Con := ⟨[(.sl (.int .i64))], [(.int .i64)], fun (a : (List Int)) => slices_IndexFunc_int_int_m a, [(false, [.own 0]), (false, [.fn 50 []])], [.oa 0 (.d 0 0)], [(false, [.d 0 0])], [.same], 1, 1⟩
def slices_IndexFunc_int_int_H : Hints := ⟨[(0, ⟨[], ⟨[(.int .i64)], [(0, none), (1, none), (4, none), (7, none), (8, some (false, [.d 0 0]))], [.keep], 0⟩, [], some ([], ⟨[], [(0, none), (1, none), (4, none)], [.keep], 0⟩), true, none⟩)], [], [], [], []⟩
theorem slices_IndexFunc_int_int_ok [DrawMode] : ConFn prog 92 slices_IndexFunc_int_int_C := conFn_of (H := slices_IndexFunc_int_int_H) (fin := []) Tryz.func92 Tryz.call92 (tabL_ok (l := [(50, degree_weighs_1_C)]) ⟨degree_weighs_1_ok, trivial⟩) rfl rfl rfl (fun a => by kernel_rfl)

noncomputable def slices_ContainsFunc_int_int_m (s_0 : (List Int)) : Option (Bool) :=
 Option.bind (slices_IndexFunc_int_int_m s_0) fun t1 =>
 some (decide (t1 ≥ 0))
noncomputable def slices_ContainsFunc_int_int_C : Con := ⟨[(.sl (.int .i64))], [.bool], fun (a : (List Int)) => slices_ContainsFunc_int_int_m a, [(false, [.own 0]), (false, [.fn 50 []])], [.oa 0 (.d 0 0)], [(false, [.d 0 0])], [.same], 1, 1⟩
def slices_ContainsFunc_int_int_H : Hints := ⟨[], [], [], [], []⟩
theorem slices_ContainsFunc_int_int_ok [DrawMode] : ConFn prog 49 slices_ContainsFunc_int_int_C := conFn_of (H := slices_ContainsFunc_int_int_H) (fin := []) Tryz.func49 Tryz.call49 (tabL_ok (l := [(92, slices_IndexFunc_int_int_C)]) ⟨slices_IndexFunc_int_int_ok, trivial⟩) rfl rfl rfl (fun a => by kernel_rfl)

noncomputable def degree_weighs_m (g_0 : T_api_Graph) (weights_1 : (List Int)) : Option (Bool) :=
 bif ((weights_1.length : Int) : Int) == ((g_0.L.length : Int)) then
 Option.bind (slices_ContainsFunc_int_int_m weights_1) fun t1 =>
 some (!t1)
 else
 some false
noncomputable def degree_weighs_C : Con := ⟨[(.st 2), (.sl (.int .i64))], [.bool], fun (a : T_api_Graph × (List Int)) => degree_weighs_m a.1 a.2, [(true, [.d 0 0, .d 0 1]), (false, [.own 0])], [.oa 0 (.d 1 0)], [(false, [.d 0 0])], [.same], 1, 1⟩
def degree_weighs_H : Hints := ⟨[], [], [], [], []⟩
theorem degree_weighs_ok [DrawMode] : ConFn prog 17 degree_weighs_C := conFn_of (H := degree_weighs_H) (fin := []) Tryz.func17 Tryz.call17 (tabL_ok (l := [(49, slices_ContainsFunc_int_int_C)]) ⟨slices_ContainsFunc_int_int_ok, trivial⟩) rfl rfl rfl (fun a => by kernel_rfl)

noncomputable def degree_Budget_1_m (i_0 : Int) (p_1_0 : Int) : Option (Bool) :=
 Option.bind (ishrM .i64 p_1_0 i_0) fun t1 =>
 some ((iand .i64 t1 1 : Int) == 0)
noncomputable def degree_Budget_1_C : Con := ⟨[(.int .i64), (.int .i64)], [.bool], fun (a : Int × Int) => degree_Budget_1_m a.1 a.2, [(false, [.d 0 0]), (false, [.ptr 0])], [.oc 0 [.d 1 0]], [(false, [.d 0 0])], [.same], 1, 1⟩
def degree_Budget_1_H : Hints := ⟨[], [], [], [], []⟩
theorem degree_Budget_1_ok [DrawMode] : ConFn prog 21 degree_Budget_1_C := conFn_of (H := degree_Budget_1_H) (fin := []) Tryz.func21 Tryz.call21 (tabL_ok (l := []) trivial) rfl rfl rfl (fun a => by kernel_rfl)

noncomputable def degree_without_l1 (g_0 : T_api_Graph) (keep_1_0_0 : Int) (s13 : Int × (List T_api_Pair)) : Option (Sum ((List T_api_Pair)) (Int × (List T_api_Pair))) :=
 bif decide (s13.1 < ((g_0.L.length : Int))) then
 Option.bind (idxM g_0.L s13.1) fun t14 =>
 Option.bind (degree_Budget_1_m s13.1 keep_1_0_0) fun t15 =>
 bif t15 then
 Option.bind (appM 16 s13.2 [t14]) fun t16 =>
 some (Sum.inr ((iadd .i64 s13.1 1, t16)))
 else
 some (Sum.inr ((iadd .i64 s13.1 1, s13.2)))
 else
 some (Sum.inl s13.2)
noncomputable def degree_without_m (g_0 : T_api_Graph) (keep_1_0_0 : Int) : Option (T_api_Graph) :=
 Option.bind (loopC (degree_without_l1 g_0 keep_1_0_0) ((0, []))) fun q17 : (List T_api_Pair) =>
 some ((T_api_Graph.mk g_0.N q17))
noncomputable def degree_without_C : Con := ⟨[(.st 2), (.int .i64)], [(.st 2)], fun (a : T_api_Graph × Int) => degree_without_m a.1 a.2, [(true, [.d 0 0, .d 0 1]), (false, [.fn 21 [some 0]])], [.oc 0 [.d 1 0]], [(true, [.d 0 0, .d 0 1])], [.same], 1, 1⟩
def degree_without_H : Hints := ⟨[(0, ⟨[.own (.st 1) (.cell 3 1)], ⟨[(.int .i64), (.sl (.st 1))], [(1, none), (4, none), (5, none), (12, none), (13, none), (14, some (false, [.d 0 0]))], [.keep, .dead, .keep, .cells [none, some (.own 5)], .dead, .oaN 0 (.d 1 0)], 1⟩, [], some ([], ⟨[(.sl (.st 1))], [(1, none), (4, none), (5, none)], [.keep, .dead, .keep, .cells [none, some (.own 5)], .dead, .oaN 0 (.d 0 0)], 1⟩), false, none⟩)], [], [], [], []⟩
theorem degree_without_ok [DrawMode] : ConFn prog 20 degree_without_C := conFn_of (H := degree_without_H) (fin := [.sl (.st 1) (.cell 2 1)]) Tryz.func20 Tryz.call20 (tabL_ok (l := [(21, degree_Budget_1_C)]) ⟨degree_Budget_1_ok, trivial⟩) rfl rfl rfl (fun a => by kernel_rfl)

noncomputable def network_Set_With_m (s_0 : Int) (node_1 : Int) : Option (Int) :=
 Option.bind (ishlM .u64 1 (IntKind.wrap .u64 node_1)) fun t1 =>
 some (ior .u64 s_0 t1)
noncomputable def network_Set_With_C : Con := ⟨[(.int .u64), (.int .i64)], [(.int .u64)], fun (a : Int × Int) => network_Set_With_m a.1 a.2, [(false, [.d 0 0]), (false, [.d 1 0])], [], [(false, [.d 0 0])], [], 0, 0⟩
def network_Set_With_H : Hints := ⟨[], [], [], [], []⟩
theorem network_Set_With_ok [DrawMode] : ConFn prog 27 network_Set_With_C := conFn_of (H := network_Set_With_H) (fin := []) Tryz.func27 Tryz.call27 (tabL_ok (l := []) trivial) rfl rfl rfl (fun a => by kernel_rfl)

noncomputable def network_New_l1 (g_0 : T_api_Graph) (s23 : Int × Int) : Option (Sum (Int) (Int × Int)) :=
 bif decide (s23.1 < g_0.N) then
 Option.bind (network_Set_With_m s23.2 s23.1) fun t24 =>
 some (Sum.inr ((iadd .i64 s23.1 1, t24)))
 else
 some (Sum.inl s23.2)
noncomputable def network_New_l2 (g_0 : T_api_Graph) (s48 : Int × (List Int) × (List Int)) : Option (Sum ((List Int) × (List Int)) (Int × (List Int) × (List Int))) :=
 bif decide (s48.1 < ((g_0.L.length : Int))) then
 Option.bind (idxM g_0.L s48.1) fun t49 =>
 Option.bind (idxM s48.2.1 t49.To) fun t53 =>
 Option.bind (network_Set_With_m t53 t49.From) fun t54 =>
 Option.bind (idxM s48.2.1 t49.To) fun t55 =>
 Option.bind (idxM s48.2.2 t49.From) fun t56 =>
 Option.bind (network_Set_With_m t56 t49.To) fun t57 =>
 Option.bind (idxM s48.2.2 t49.From) fun t58 =>
 some (Sum.inr ((iadd .i64 s48.1 1, s48.2.1.set (Int.toNat t49.To) t54, s48.2.2.set (Int.toNat t49.From) t57)))
 else
 some (Sum.inl ((s48.2.1, s48.2.2)))
noncomputable def network_New_m (g_0 : T_api_Graph) : Option (T_network_Net) :=
 joinM (fun j12 : (List Int) × (List Int) =>
 Option.bind (loopC (network_New_l1 g_0) ((0, 0))) fun q25 : Int =>
 Option.bind (loopC (network_New_l2 g_0) ((0, j12.1, j12.2))) fun q59 : (List Int) × (List Int) =>
 some ((T_network_Net.mk q25 q59.1 q59.2))) fun k11 =>
 meetO (
 Option.bind (mkM 8 0 g_0.N) fun t60 =>
 meetO (
 Option.bind (mkM 8 0 g_0.N) fun t61 =>
 k11 ((t60, t61))) (
 Option.bind (mkM 8 0 g_0.N) fun t62 =>
 k11 ((t60, t62)))) (
 meetO (
 Option.bind (mkM 8 0 g_0.N) fun t63 =>
 meetO (
 Option.bind (mkM 8 0 g_0.N) fun t64 =>
 k11 ((t64, t63))) (
 Option.bind (mkM 8 0 g_0.N) fun t65 =>
 k11 ((t65, t63)))) (
 meetO (
 Option.bind (mkM 8 0 g_0.N) fun t66 =>
 Option.bind (mkM 8 0 g_0.N) fun t67 =>
 k11 ((t66, t67))) (
 Option.bind (mkM 8 0 g_0.N) fun t68 =>
 Option.bind (mkM 8 0 g_0.N) fun t69 =>
 k11 ((t69, t68)))))
noncomputable def network_New_C : Con := ⟨[(.st 2)], [(.st 3)], fun (a : T_api_Graph) => network_New_m a, [(true, [.d 0 0, .d 0 1])], [], [(true, [.d 0 0, .d 0 1, .d 0 2])], [], 0, 0⟩
def network_New_H : Hints := ⟨[(0, ⟨[], ⟨[(.int .i64), (.int .u64)], [(1, none), (2, none), (3, none), (15, none), (16, some (false, [.d 0 0]))], [.keep, .keep, .cells [some (.d 1 0), none, none], .keep, .keep], 0⟩, [], some ([], ⟨[(.int .u64)], [(1, none), (2, none), (3, none)], [.keep, .keep, .cells [some (.d 0 0), none, none], .keep, .keep], 0⟩), false, none⟩), (2, ⟨[], ⟨[(.int .i64), (.sl (.int .u64)), (.sl (.int .u64))], [(2, none), (3, none), (26, none), (27, none), (28, some (false, [.d 0 0]))], [.dead, .keep, .keep, .data (.d 1 0), .data (.d 2 0)], 0⟩, [], some ([], ⟨[(.sl (.int .u64)), (.sl (.int .u64))], [(2, none), (3, none)], [.dead, .keep, .keep, .data (.d 0 0), .data (.d 1 0)], 0⟩), false, none⟩)], [(6, ([], ⟨[(.sl (.int .u64)), (.sl (.int .u64))], [(1, none), (2, none), (3, some (false, [.ptr 2]))], [.keep, .keep, .ocN 0 [.fx (.ci .u64 0), .own 3, .own 4], .oaN 1 (.d 0 0), .oaN 2 (.d 1 0)], 3⟩))], [], [], []⟩
theorem network_New_ok [DrawMode] : ConFn prog 19 network_New_C := conFn_of (H := network_New_H) (fin := [.sl (.int .u64) (.cell 1 1), .sl (.int .u64) (.cell 1 2)]) Tryz.func19 Tryz.call19 (tabL_ok (l := [(27, network_Set_With_C)]) ⟨network_Set_With_ok, trivial⟩) rfl rfl rfl (fun a => by kernel_rfl)

noncomputable def network_Set_List_l1  (s10 : Int × (List Int)) : Option (Sum ((List Int)) (Int × (List Int))) :=
 bif (s10.1 : Int) != 0 then
 Option.bind (tzM s10.1) fun t11 =>
 Option.bind (appM 8 s10.2 [t11]) fun out12 =>
 some (Sum.inr ((iand .u64 s10.1 (isub .u64 s10.1 1), out12)))
 else
 some (Sum.inl s10.2)
noncomputable def network_Set_List_m (s_0 : Int) : Option ((List Int)) :=
 Option.bind (loopC network_Set_List_l1 ((s_0, []))) fun q13 : (List Int) =>
 some q13
noncomputable def network_Set_List_C : Con := ⟨[(.int .u64)], [(.sl (.int .i64))], fun (a : Int) => network_Set_List_m a, [(false, [.d 0 0])], [], [(false, [.own 0])], [.oa 0 (.d 0 0)], 0, 1⟩
def network_Set_List_H : Hints := ⟨[(0, ⟨[.own (.int .i64) (.slot 3 0)], ⟨[(.int .u64), (.sl (.int .i64))], [(0, some (false, [.d 0 0])), (2, none), (3, some (false, [.own 1]))], [.dead, .oaN 0 (.d 1 0)], 1⟩, [], some ([], ⟨[(.sl (.int .i64))], [(2, none), (3, some (false, [.own 1]))], [.dead, .oaN 0 (.d 0 0)], 1⟩), false, none⟩)], [], [], [], []⟩
theorem network_Set_List_ok : ConFn prog 55 network_Set_List_C := conFn_of (H := network_Set_List_H) (fin := []) Tryz.func55 Tryz.call55 (tabL_ok (l := [(94, math_bits_TrailingZeros64_C)]) ⟨math_bits_TrailingZeros64_ok, trivial⟩) rfl rfl rfl (fun a => by kernel_rfl)

noncomputable def network_Net_Hit_l1 (n_0 : T_network_Net) (t1 : ((List Int))) (s8 : Int × Int) : Option (Sum (Int) (Int × Int)) :=
 bif decide (s8.2 < ((t1.length : Int))) then
 Option.bind (idxM t1 s8.2) fun t9 =>
 Option.bind (idxM n_0.Out t9) fun t10 =>
 some (Sum.inr ((ior .u64 s8.1 t10, iadd .i64 s8.2 1)))
 else
 some (Sum.inl s8.1)
noncomputable def network_Net_Hit_m (n_0 : T_network_Net) (s_1 : Int) : Option (Int) :=
 Option.bind (network_Set_List_m s_1) fun t1 =>
 Option.bind (loopC (network_Net_Hit_l1 n_0 t1) ((0, 0))) fun q11 : Int =>
 some q11
noncomputable def network_Net_Hit_C : Con := ⟨[(.st 3), (.int .u64)], [(.int .u64)], fun (a : T_network_Net × Int) => network_Net_Hit_m a.1 a.2, [(true, [.d 0 0, .d 0 1, .d 0 2]), (false, [.d 1 0])], [], [(false, [.d 0 0])], [], 0, 0⟩
def network_Net_Hit_H : Hints := ⟨[(0, ⟨[], ⟨[(.int .u64), (.int .i64)], [(2, none), (4, none), (5, some (false, [.d 0 0])), (9, none), (10, none), (11, some (false, [.d 1 0]))], [.keep, .keep], 0⟩, [], some ([], ⟨[(.int .u64)], [(4, none), (5, some (false, [.d 0 0]))], [.dead, .dead], 0⟩), false, none⟩)], [], [], [], []⟩
theorem network_Net_Hit_ok : ConFn prog 54 network_Net_Hit_C := conFn_of (H := network_Net_Hit_H) (fin := []) Tryz.func54 Tryz.call54 (tabL_ok (l := [(55, network_Set_List_C)]) ⟨network_Set_List_ok, trivial⟩) rfl rfl rfl (fun a => by kernel_rfl)

noncomputable def network_Net_Grounded_l1 (n_0 : T_network_Net) (out77 : (Int)) (t89 : ((List Int))) (s98 : Int × Int) : Option (Sum (Int) (Int × Int)) :=
 bif decide (s98.2 < ((t89.length : Int))) then
 Option.bind (idxM t89 s98.2) fun t99 =>
 Option.bind (idxM n_0.By t99) fun t100 =>
 bif (iandn .u64 t100 out77 : Int) == 0 then
 Option.bind (network_Set_With_m s98.1 t99) fun next101 =>
 some (Sum.inr ((next101, iadd .i64 s98.2 1)))
 else
 some (Sum.inr ((s98.1, iadd .i64 s98.2 1)))
 else
 some (Sum.inl s98.1)
noncomputable def network_Net_Grounded_l2 (n_0 : T_network_Net) (s76 : Int × (List Int)) : Option (Sum ((List Int)) (Int × (List Int))) :=
 Option.bind (network_Net_Hit_m n_0 s76.1) fun out77 =>
 Option.bind (network_Set_List_m n_0.All) fun t89 =>
 Option.bind (loopC (network_Net_Grounded_l1 n_0 out77 t89) ((s76.1, 0))) fun q102 : Int =>
 bif (q102 : Int) == s76.1 then
 some (Sum.inl s76.2)
 else
 Option.bind (appM 8 s76.2 [q102]) fun rounds103 =>
 some (Sum.inr ((q102, rounds103)))
noncomputable def network_Net_Grounded_m (n_0 : T_network_Net) : Option ((List Int)) :=
 Option.bind (loopC (network_Net_Grounded_l2 n_0) ((0, []))) (fun a : (List Int) => some a)
noncomputable def network_Net_Grounded_C : Con := ⟨[(.st 3)], [(.sl (.int .u64))], fun (a : T_network_Net) => network_Net_Grounded_m a, [(true, [.d 0 0, .d 0 1, .d 0 2])], [], [(false, [.own 0])], [.oa 0 (.d 0 0)], 0, 1⟩
def network_Net_Grounded_H : Hints := ⟨[(0, ⟨[.own (.int .u64) (.slot 3 0)], ⟨[(.int .u64), (.sl (.int .u64))], [(1, none), (2, none), (3, some (false, [.own 2])), (4, some (false, [.d 0 0]))], [.keep, .dead, .oaN 0 (.d 1 0)], 1⟩, [], none, true, none⟩), (2, ⟨[], ⟨[(.int .u64), (.int .i64)], [(1, none), (2, none), (3, none), (4, none), (5, none), (6, some (false, [.d 0 0])), (15, none), (16, none), (17, some (false, [.d 1 0]))], [.keep, .dead, .keep, .keep], 0⟩, [], some ([], ⟨[(.int .u64)], [(1, none), (2, none), (3, none), (4, none), (6, some (false, [.d 0 0]))], [.keep, .dead, .keep, .dead], 0⟩), false, none⟩)], [], [], [], []⟩
theorem network_Net_Grounded_ok : ConFn prog 52 network_Net_Grounded_C := conFn_of (H := network_Net_Grounded_H) (fin := []) Tryz.func52 Tryz.call52 (tabL_ok (l := [(54, network_Net_Hit_C), (55, network_Set_List_C), (27, network_Set_With_C)]) ⟨network_Net_Hit_ok, network_Set_List_ok, network_Set_With_ok, trivial⟩) rfl rfl rfl (fun a => by kernel_rfl)

noncomputable def network_Net_In_m (n_0 : T_network_Net) : Option (Int) :=
 Option.bind (network_Net_Grounded_m n_0) fun l1 =>
 bif ((l1.length : Int) : Int) == 0 then
 some 0
 else
 Option.bind (idxM l1 (isub .i64 ((l1.length : Int)) 1)) fun t2 =>
 some t2
noncomputable def network_Net_In_C : Con := ⟨[(.st 3)], [(.int .u64)], fun (a : T_network_Net) => network_Net_In_m a, [(true, [.d 0 0, .d 0 1, .d 0 2])], [], [(false, [.d 0 0])], [], 0, 0⟩
def network_Net_In_H : Hints := ⟨[], [], [], [], []⟩
theorem network_Net_In_ok : ConFn prog 22 network_Net_In_C := conFn_of (H := network_Net_In_H) (fin := []) Tryz.func22 Tryz.call22 (tabL_ok (l := [(52, network_Net_Grounded_C)]) ⟨network_Net_Grounded_ok, trivial⟩) rfl rfl rfl (fun a => by kernel_rfl)

noncomputable def network_Set_Has_m (s_0 : Int) (node_1 : Int) : Option (Bool) :=
 Option.bind (ishrM .u64 s_0 (IntKind.wrap .u64 node_1)) fun t1 =>
 some ((iand .u64 t1 1 : Int) == 1)
noncomputable def network_Set_Has_C : Con := ⟨[(.int .u64), (.int .i64)], [.bool], fun (a : Int × Int) => network_Set_Has_m a.1 a.2, [(false, [.d 0 0]), (false, [.d 1 0])], [], [(false, [.d 0 0])], [], 0, 0⟩
def network_Set_Has_H : Hints := ⟨[], [], [], [], []⟩
theorem network_Set_Has_ok [DrawMode] : ConFn prog 23 network_Set_Has_C := conFn_of (H := network_Set_Has_H) (fin := []) Tryz.func23 Tryz.call23 (tabL_ok (l := []) trivial) rfl rfl rfl (fun a => by kernel_rfl)

noncomputable def slices_Compare_int_int_l1 (s1_0 : (List Int)) (s2_1 : (List Int)) (s19 : Int) : Option (Sum (Sum (Int) (Unit)) (Int)) :=
 bif decide (s19 < ((s1_0.length : Int))) then
 Option.bind (idxM s1_0 s19) fun t20 =>
 bif decide (s19 ≥ ((s2_1.length : Int))) then
 some (Sum.inl (Sum.inl 1))
 else
 Option.bind (idxM s2_1 s19) fun t21 =>
 Option.bind (cmp_Compare_int_m t20 t21) fun c22 =>
 bif (c22 : Int) != 0 then
 some (Sum.inl (Sum.inl c22))
 else
 some (Sum.inr (iadd .i64 s19 1))
 else
 some (Sum.inl (Sum.inr (())))
noncomputable def slices_Compare_int_int_m (s1_0 : (List Int)) (s2_1 : (List Int)) : Option (Int) :=
 Option.bind (loopC (slices_Compare_int_int_l1 s1_0 s2_1) 0) (sumK (fun a : Int => some a) fun q23 : Unit =>
 bif decide (((s1_0.length : Int)) < ((s2_1.length : Int))) then
 some ((-1))
 else
 some 0)
noncomputable def slices_Compare_int_int_C : Con := ⟨[(.sl (.int .i64)), (.sl (.int .i64))], [(.int .i64)], fun (a : (List Int) × (List Int)) => slices_Compare_int_int_m a.1 a.2, [(false, [.own 0]), (false, [.d 1 0])], [.oa 0 (.d 0 0)], [(false, [.d 0 0])], [.same], 1, 1⟩
def slices_Compare_int_int_H : Hints := ⟨[(0, ⟨[], ⟨[(.int .i64)], [(0, none), (1, none), (4, none), (9, none), (10, none), (11, some (false, [.d 0 0]))], [.keep], 0⟩, [], some ([], ⟨[], [(0, none), (1, none), (4, none)], [.keep], 0⟩), true, none⟩)], [], [], [], []⟩
theorem slices_Compare_int_int_ok [DrawMode] : ConFn prog 18 slices_Compare_int_int_C := conFn_of (H := slices_Compare_int_int_H) (fin := []) Tryz.func18 Tryz.call18 (tabL_ok (l := [(51, cmp_Compare_int_C)]) ⟨cmp_Compare_int_ok, trivial⟩) rfl rfl rfl (fun a => by kernel_rfl)

noncomputable def degree_Budget_l1 (weights_1 : (List Int)) (s113 : (Option T_api_Budget) × Int) (s136 : Int × Int × (List Int)) : Option (Sum (Int × (List Int)) (Int × Int × (List Int))) :=
 bif decide (s136.1 < ((weights_1.length : Int))) then
 Option.bind (idxM weights_1 s136.1) fun t137 =>
 Option.bind (ishrM .i64 s113.2 s136.1) fun t138 =>
 bif (iand .i64 t138 1 : Int) == 1 then
 Option.bind (appM 8 s136.2.2 [s136.1]) fun t139 =>
 some (Sum.inr ((iadd .i64 s136.1 1, iadd .i64 s136.2.1 t137, t139)))
 else
 some (Sum.inr ((iadd .i64 s136.1 1, s136.2.1, s136.2.2)))
 else
 some (Sum.inl ((s136.2.1, s136.2.2)))
noncomputable def degree_Budget_l2 (g_0 : T_api_Graph) (weights_1 : (List Int)) (node_2 : Int) (t5 : Int) (s113 : (Option T_api_Budget) × Int) : Option (Sum ((Option T_api_Budget)) ((Option T_api_Budget) × Int)) :=
 bif decide (s113.2 < t5) then
 Option.bind (loopC (degree_Budget_l1 weights_1 s113) ((0, 0, []))) fun q140 : Int × (List Int) =>
 joinM (fun j146 : Unit =>
 Option.bind (degree_without_m g_0 s113.2) fun t147 =>
 Option.bind (network_New_m t147) fun t148 =>
 Option.bind (network_Net_In_m t148) fun t149 =>
 Option.bind (network_Set_Has_m t149 node_2) fun t150 =>
 bif t150 then
 some (Sum.inr ((some ((T_api_Budget.mk q140.1 q140.2)), iadd .i64 s113.2 1)))
 else
 some (Sum.inr ((s113.1, iadd .i64 s113.2 1)))) fun k145 =>
 bif s113.1.isSome then
 Option.bind (s113.1) fun t151 =>
 bif decide (q140.1 > t151.Weight) then
 some (Sum.inr ((s113.1, iadd .i64 s113.2 1)))
 else
 Option.bind (s113.1) fun t152 =>
 bif (q140.1 : Int) == t152.Weight then
 Option.bind (s113.1) fun t153 =>
 Option.bind (slices_Compare_int_int_m q140.2 t153.Dropped) fun t154 =>
 bif decide (t154 ≥ 0) then
 some (Sum.inr ((s113.1, iadd .i64 s113.2 1)))
 else
 k145 (())
 else
 k145 (())
 else
 k145 (())
 else
 some (Sum.inl s113.1)
noncomputable def degree_Budget_m (g_0 : T_api_Graph) (weights_1 : (List Int)) (node_2 : Int) : Option (T_api_Budget × Int) :=
 Option.bind (graph_Validate_m g_0) fun e2 =>
 bif (e2 : Int) != 0 then
 some (((T_api_Budget.mk 0 []), e2))
 else
 bif decide (((g_0.L.length : Int)) > 12) then
 some (((T_api_Budget.mk 0 []), 2))
 else
 Option.bind (degree_weighs_m g_0 weights_1) fun t4 =>
 bif !t4 then
 some (((T_api_Budget.mk 0 []), 1))
 else
 bif decide (node_2 < 0) then
 some (((T_api_Budget.mk 0 []), 1))
 else
 bif decide (node_2 ≥ g_0.N) then
 some (((T_api_Budget.mk 0 []), 1))
 else
 Option.bind (ishlM .i64 1 ((g_0.L.length : Int))) fun t5 =>
 Option.bind (loopC (degree_Budget_l2 g_0 weights_1 node_2 t5) ((none, 0))) fun q155 : (Option T_api_Budget) =>
 Option.bind (q155) fun t156 =>
 some ((t156, 0))
noncomputable def degree_Budget_C : Con := ⟨[(.st 2), (.sl (.int .i64)), (.int .i64)], [(.st 4), (.int .i64)], fun (a : T_api_Graph × (List Int) × Int) => degree_Budget_m a.1 a.2.1 a.2.2, [(true, [.d 0 0, .d 0 1]), (false, [.own 0]), (false, [.d 2 0])], [.oa 0 (.d 1 0)], [(true, [.d 0 0, .d 0 1]), (false, [.d 1 0])], [.same], 1, 1⟩
def degree_Budget_H : Hints := ⟨[(1, ⟨[.op (.st 4) (.slot 9 0)], ⟨[(.op (.st 4)), (.int .i64)], [(1, none), (2, none), (3, none), (6, none), (7, none), (9, some (false, [.d 0 0])), (45, none), (46, some (false, [.d 1 0]))], [.keep, .keep, .keep], 0⟩, [.sl (.int .i64) (.cell 4 1), .op (.st 4) (.slot 9 0)], some ([], ⟨[(.op (.st 4))], [(1, none), (6, none), (7, none), (9, some (false, [.d 0 0]))], [.keep, .dead, .keep], 0⟩), false, none⟩), (3, ⟨[.own (.int .i64) (.cell 4 1)], ⟨[(.int .i64), (.int .i64), (.sl (.int .i64))], [(1, none), (2, none), (3, none), (6, none), (7, none), (9, none), (10, none), (11, none), (45, none), (46, none), (50, none), (51, none), (52, some (false, [.d 0 0]))], [.keep, .keep, .keep, .keep, .cells [some (.d 1 0), some (.own 6)], .dead, .oaN 0 (.d 2 0)], 1⟩, [], some ([], ⟨[(.int .i64), (.sl (.int .i64))], [(1, none), (2, none), (3, none), (6, none), (7, none), (9, none), (10, none), (11, none), (45, none), (46, none)], [.keep, .keep, .keep, .keep, .cells [some (.d 0 0), some (.own 6)], .dead, .oaN 0 (.d 1 0)], 1⟩), false, none⟩)], [(42, ([], ⟨[], [(1, none), (2, none), (3, none), (6, none), (7, none), (9, none), (10, none), (11, none), (45, none), (46, none)], [.keep, .keep, .keep, .keep, .keep, .dead, .keep], 0⟩))], [], [], []⟩
theorem degree_Budget_ok : ConFn prog 7 degree_Budget_C := conFn_of (H := degree_Budget_H) (fin := []) Tryz.func7 Tryz.call7 (tabL_ok (l := [(17, degree_weighs_C), (18, slices_Compare_int_int_C), (16, graph_Validate_C), (20, degree_without_C), (19, network_New_C), (22, network_Net_In_C), (23, network_Set_Has_C)]) ⟨degree_weighs_ok, slices_Compare_int_int_ok, graph_Validate_ok, degree_without_ok, network_New_ok, network_Net_In_ok, network_Set_Has_ok, trivial⟩) rfl rfl rfl (fun a => by kernel_rfl)

noncomputable def keep_In_l1 (l_0 : (List Int)) (x_1 : Int) (s5 : Int) : Option (Sum (Sum (Bool) (Unit)) (Int)) :=
 bif decide (s5 < ((l_0.length : Int))) then
 Option.bind (idxM l_0 s5) fun t6 =>
 bif (t6 : Int) == x_1 then
 some (Sum.inl (Sum.inl true))
 else
 some (Sum.inr (iadd .i64 s5 1))
 else
 some (Sum.inl (Sum.inr (())))
noncomputable def keep_In_m (l_0 : (List Int)) (x_1 : Int) : Option (Bool) :=
 Option.bind (loopC (keep_In_l1 l_0 x_1) 0) (sumK (fun a : Bool => some a) fun q7 : Unit =>
 some false)
noncomputable def keep_In_C : Con := ⟨[(.sl (.int .i64)), (.int .i64)], [.bool], fun (a : (List Int) × Int) => keep_In_m a.1 a.2, [(false, [.d 0 0]), (false, [.d 1 0])], [], [(false, [.d 0 0])], [], 0, 0⟩
def keep_In_H : Hints := ⟨[(0, ⟨[], ⟨[(.int .i64)], [(0, none), (1, none), (4, none), (7, none), (8, some (false, [.d 0 0]))], [], 0⟩, [], some ([], ⟨[], [(4, none)], [], 0⟩), true, none⟩)], [], [], [], []⟩
theorem keep_In_ok [DrawMode] : ConFn prog 8 keep_In_C := conFn_of (H := keep_In_H) (fin := []) Tryz.func8 Tryz.call8 (tabL_ok (l := []) trivial) rfl rfl rfl (fun a => by kernel_rfl)

noncomputable def game_exists_m (game_0 : Int) : Option (Bool) :=
 bif (game_0 : Int) == 1 then
 some true
 else
 some ((game_0 : Int) == 2)
noncomputable def game_exists_C : Con := ⟨[(.int .i64)], [.bool], fun (a : Int) => game_exists_m a, [(false, [.d 0 0])], [], [(false, [.d 0 0])], [], 0, 0⟩
def game_exists_H : Hints := ⟨[], [], [], [], []⟩
theorem game_exists_ok [DrawMode] : ConFn prog 24 game_exists_C := conFn_of (H := game_exists_H) (fin := []) Tryz.func24 Tryz.call24 (tabL_ok (l := []) trivial) rfl rfl rfl (fun a => by kernel_rfl)

noncomputable def game_first_m (s_0 : Int) : Option (Int) :=
 Option.bind (network_Set_List_m s_0) fun t1 =>
 Option.bind (idxM t1 0) fun t2 =>
 some t2
noncomputable def game_first_C : Con := ⟨[(.int .u64)], [(.int .i64)], fun (a : Int) => game_first_m a, [(false, [.d 0 0])], [], [(false, [.d 0 0])], [], 0, 0⟩
def game_first_H : Hints := ⟨[], [], [], [], []⟩
theorem game_first_ok : ConFn prog 30 game_first_C := conFn_of (H := game_first_H) (fin := []) Tryz.func30 Tryz.call30 (tabL_ok (l := [(55, network_Set_List_C)]) ⟨network_Set_List_ok, trivial⟩) rfl rfl rfl (fun a => by kernel_rfl)

noncomputable def game_grounded_1_l1 (x_0 : Int) (p_1_0 : (List Int)) (p_2_1 : (List Int)) (s11 : Int) : Option (Sum (Sum (Int) (Unit)) (Int)) :=
 bif decide (s11 < ((p_1_0.length : Int))) then
 Option.bind (idxM p_1_0 s11) fun t12 =>
 Option.bind (idxM p_2_1 x_0) fun t13 =>
 bif (iand .u64 t13 t12 : Int) != 0 then
 Option.bind (idxM p_2_1 x_0) fun t14 =>
 Option.bind (game_first_m (iand .u64 t14 t12)) fun t15 =>
 some (Sum.inl (Sum.inl t15))
 else
 some (Sum.inr (iadd .i64 s11 1))
 else
 some (Sum.inl (Sum.inr (())))
noncomputable def game_grounded_1_m (x_0 : Int) (p_1_0 : (List Int)) (p_2_0 : Int) (p_2_1 : (List Int)) (p_2_2 : (List Int)) : Option (Int) :=
 Option.bind (loopC (game_grounded_1_l1 x_0 p_1_0 p_2_1) 0) (sumK (fun a : Int => some a) fun q16 : Unit =>
 some x_0)
noncomputable def game_grounded_1_C : Con := ⟨[(.int .i64), (.sl (.int .u64)), (.int .u64), (.sl (.int .u64)), (.sl (.int .u64))], [(.int .i64)], fun (a : Int × (List Int) × Int × (List Int) × (List Int)) => game_grounded_1_m a.1 a.2.1 a.2.2.1 a.2.2.2.1 a.2.2.2.2, [(false, [.d 0 0]), (false, [.ptr 0]), (false, [.ptr 2])], [.oc 0 [.own 1], .oa 1 (.d 1 0), .oc 2 [.d 2 0, .d 3 0, .d 4 0]], [(false, [.d 0 0])], [.same, .same, .same], 3, 3⟩
def game_grounded_1_H : Hints := ⟨[(0, ⟨[], ⟨[(.int .i64)], [(0, none), (1, none), (2, none), (4, none), (7, none), (8, none), (9, some (false, [.d 0 0]))], [.keep, .keep, .keep], 0⟩, [], some ([], ⟨[], [(0, none), (1, none), (2, none), (4, none)], [.keep, .keep, .keep], 0⟩), true, none⟩)], [], [], [], []⟩
theorem game_grounded_1_ok : ConFn prog 53 game_grounded_1_C := conFn_of (H := game_grounded_1_H) (fin := []) Tryz.func53 Tryz.call53 (tabL_ok (l := [(30, game_first_C)]) ⟨game_first_ok, trivial⟩) rfl rfl rfl (fun a => by kernel_rfl)

noncomputable def slices_Index_int_int_l1 (s_0 : (List Int)) (v_1 : Int) (s5 : Int) : Option (Sum (Sum (Int) (Unit)) (Int)) :=
 bif decide (s5 < ((s_0.length : Int))) then
 Option.bind (idxM s_0 s5) fun t6 =>
 bif (v_1 : Int) == t6 then
 some (Sum.inl (Sum.inl s5))
 else
 some (Sum.inr (iadd .i64 s5 1))
 else
 some (Sum.inl (Sum.inr (())))
noncomputable def slices_Index_int_int_m (s_0 : (List Int)) (v_1 : Int) : Option (Int) :=
 Option.bind (loopC (slices_Index_int_int_l1 s_0 v_1) 0) (sumK (fun a : Int => some a) fun q7 : Unit =>
 some ((-1)))
noncomputable def slices_Index_int_int_C : Con := ⟨[(.sl (.int .i64)), (.int .i64)], [(.int .i64)], fun (a : (List Int) × Int) => slices_Index_int_int_m a.1 a.2, [(false, [.own 0]), (false, [.d 1 0])], [.oa 0 (.d 0 0)], [(false, [.d 0 0])], [.same], 1, 1⟩
def slices_Index_int_int_H : Hints := ⟨[(0, ⟨[], ⟨[(.int .i64)], [(0, none), (1, none), (4, none), (7, none), (8, some (false, [.d 0 0]))], [.keep], 0⟩, [], some ([], ⟨[], [(0, none), (4, none)], [.keep], 0⟩), true, none⟩)], [], [], [], []⟩
theorem slices_Index_int_int_ok [DrawMode] : ConFn prog 95 slices_Index_int_int_C := conFn_of (H := slices_Index_int_int_H) (fin := []) Tryz.func95 Tryz.call95 (tabL_ok (l := []) trivial) rfl rfl rfl (fun a => by kernel_rfl)

noncomputable def slices_Contains_int_int_m (s_0 : (List Int)) (v_1 : Int) : Option (Bool) :=
 Option.bind (slices_Index_int_int_m s_0 v_1) fun t1 =>
 some (decide (t1 ≥ 0))
noncomputable def slices_Contains_int_int_C : Con := ⟨[(.sl (.int .i64)), (.int .i64)], [.bool], fun (a : (List Int) × Int) => slices_Contains_int_int_m a.1 a.2, [(false, [.own 0]), (false, [.d 1 0])], [.oa 0 (.d 0 0)], [(false, [.d 0 0])], [.same], 1, 1⟩
def slices_Contains_int_int_H : Hints := ⟨[], [], [], [], []⟩
theorem slices_Contains_int_int_ok [DrawMode] : ConFn prog 56 slices_Contains_int_int_C := conFn_of (H := slices_Contains_int_int_H) (fin := []) Tryz.func56 Tryz.call56 (tabL_ok (l := [(95, slices_Index_int_int_C)]) ⟨slices_Index_int_int_ok, trivial⟩) rfl rfl rfl (fun a => by kernel_rfl)

noncomputable def game_answers_1_m (a_0 : T_api_Reply) (b_1 : T_api_Reply) : Option (Int) :=
 some (isub .i64 a_0.To b_1.To)
noncomputable def game_answers_1_C : Con := ⟨[(.st 5), (.st 5)], [(.int .i64)], fun (a : T_api_Reply × T_api_Reply) => game_answers_1_m a.1 a.2, [(true, [.d 0 0, .d 0 1]), (true, [.d 1 0, .d 1 1])], [], [(false, [.d 0 0])], [], 0, 0⟩
def game_answers_1_H : Hints := ⟨[], [], [], [], []⟩
theorem game_answers_1_ok [DrawMode] : ConFn prog 61 game_answers_1_C := conFn_of (H := game_answers_1_H) (fin := []) Tryz.func61 Tryz.call61 (tabL_ok (l := []) trivial) rfl rfl rfl (fun a => by kernel_rfl)

def enc_T_api_Reply_game_answers_1 (x : T_api_Reply) : List Value := [.int .i64 x.To, .int .i64 x.Node]
theorem enc_T_api_Reply_game_answers_1_t : EncT rT_api_Reply enc_T_api_Reply_game_answers_1 2 where
  size := rfl
  pos := by decide
  agg := rfl
  len := fun x => rfl
  one := fun x v hv => by simp only [enc_T_api_Reply_game_answers_1, List.mem_cons, List.not_mem_nil, or_false] at hv; rcases hv with rfl | rfl <;> rfl
  to := fun x F w cs h => by
    match cs, h with
    | [v0, v1], ⟨h0, h1, _⟩ => cases (show v0 = .int .i64 x.To from h0); cases (show v1 = .int .i64 x.Node from h1); rfl
  of := fun x F w => ⟨rfl, rfl, trivial⟩
theorem slices_SortFunc_api_Reply_api_Reply_ok_ [DrawMode] {s_0 r : List T_api_Reply} (hm : (sortNM game_answers_1_m) s_0 = some r) {h_0 : Value × List Nat} :
    FnOk prog 57 [pv h_0.1, pv (.func (.func 61) #[] #[])] [oa rT_api_Reply h_0.1 h_0.2 s_0] (fun _ : Unit => []) (fun _ : Unit => [oa rT_api_Reply h_0.1 h_0.2 r]) :=
  sort_fnQ enc_T_api_Reply_game_answers_1_t (X := Unit) (fun x y r h => conCmp (t := .st 5) (@game_answers_1_ok strictDraws) h fun _ => rfl)
    (fun enc hk h1 cf hO blk off cap d w hc hH hb hs hT => AnyQ.slices_SortFunc_total sortFR 2 Tryz.isAgg88 Tryz.sizeOf88 enc hk h1 cf hO 61 #[] blk off cap d w (enters_of Tryz.func61 (by kernel_rfl) rfl) hc hH hb hs hT)
    (fun p cap fv w => AnyF.slices_SortFunc_none sortFR p cap fv w) hm
noncomputable def slices_SortFunc_api_Reply_api_Reply_C : Con := conW2 (P := prog) (.st 5) (sortNM game_answers_1_m) [(false, [.fn 61 []])]
theorem slices_SortFunc_api_Reply_api_Reply_ok [DrawMode] : ConFn prog 57 slices_SortFunc_api_Reply_api_Reply_C := ⟨Tryz.call57, conW2F_ok fun s r hm h0 => slices_SortFunc_api_Reply_api_Reply_ok_ hm⟩

noncomputable def game_answers_l1 (pick_2_0_0 : (List Int)) (pick_2_1_0 : Int) (pick_2_1_1 : (List Int)) (pick_2_1_2 : (List Int)) (t97 : ((List Int))) (s116 : Int × Int × (List Int) × (List T_api_Reply)) : Option (Sum (Int × (List Int) × (List T_api_Reply)) (Int × Int × (List Int) × (List T_api_Reply))) :=
 bif decide (s116.2.1 < ((t97.length : Int))) then
 Option.bind (idxM t97 s116.2.1) fun t117 =>
 Option.bind (network_Set_Has_m s116.1 t117) fun t119 =>
 bif t119 then
 some (Sum.inr ((s116.1, iadd .i64 s116.2.1 1, s116.2.2.1, s116.2.2.2)))
 else
 Option.bind (network_Set_With_m s116.1 t117) fun seen120 =>
 Option.bind (game_grounded_1_m t117 pick_2_0_0 pick_2_1_0 pick_2_1_1 pick_2_1_2) fun y121 =>
 Option.bind (appM 16 s116.2.2.2 [(T_api_Reply.mk t117 y121)]) fun out122 =>
 Option.bind (slices_Contains_int_int_m s116.2.2.1 y121) fun t123 =>
 bif !t123 then
 Option.bind (appM 8 s116.2.2.1 [y121]) fun reached124 =>
 some (Sum.inr ((seen120, iadd .i64 s116.2.1 1, reached124, out122)))
 else
 some (Sum.inr ((seen120, iadd .i64 s116.2.1 1, s116.2.2.1, out122)))
 else
 some (Sum.inl ((s116.1, s116.2.2.1, s116.2.2.2)))
noncomputable def game_answers_l2 (n_0 : T_network_Net) (pick_2_0_0 : (List Int)) (pick_2_1_0 : Int) (pick_2_1_1 : (List Int)) (pick_2_1_2 : (List Int)) (s91 : Int × Int × (List Int) × (List T_api_Reply)) : Option (Sum ((List T_api_Reply)) (Int × Int × (List Int) × (List T_api_Reply))) :=
 bif decide (s91.2.1 < ((s91.2.2.1.length : Int))) then
 Option.bind (idxM s91.2.2.1 s91.2.1) fun t95 =>
 Option.bind (idxM n_0.By t95) fun t96 =>
 Option.bind (network_Set_List_m t96) fun t97 =>
 Option.bind (loopC (game_answers_l1 pick_2_0_0 pick_2_1_0 pick_2_1_1 pick_2_1_2 t97) ((s91.1, 0, s91.2.2.1, s91.2.2.2))) fun q125 : Int × (List Int) × (List T_api_Reply) =>
 some (Sum.inr ((q125.1, iadd .i64 s91.2.1 1, q125.2.1, q125.2.2)))
 else
 some (Sum.inl s91.2.2.2)
noncomputable def game_answers_m (n_0 : T_network_Net) (root_1 : Int) (pick_2_0_0 : (List Int)) (pick_2_1_0 : Int) (pick_2_1_1 : (List Int)) (pick_2_1_2 : (List Int)) : Option ((List T_api_Reply)) :=
 Option.bind (loopC (game_answers_l2 n_0 pick_2_0_0 pick_2_1_0 pick_2_1_1 pick_2_1_2) ((0, 0, [root_1], []))) fun q126 : (List T_api_Reply) =>
 Option.bind ((sortNM game_answers_1_m) q126) fun t127 =>
 some t127
noncomputable def game_answers_C : Con := ⟨[(.st 3), (.int .i64), (.sl (.int .u64)), (.int .u64), (.sl (.int .u64)), (.sl (.int .u64))], [(.sl (.st 5))], fun (a : T_network_Net × Int × (List Int) × Int × (List Int) × (List Int)) => game_answers_m a.1 a.2.1 a.2.2.1 a.2.2.2.1 a.2.2.2.2.1 a.2.2.2.2.2, [(true, [.d 0 0, .d 0 1, .d 0 2]), (false, [.d 1 0]), (false, [.fn 53 [some 0, some 2]])], [.oc 0 [.own 1], .oa 1 (.d 2 0), .oc 2 [.d 3 0, .d 4 0, .d 5 0]], [(false, [.own 3])], [.same, .same, .same, .oa 3 (.d 0 0)], 3, 4⟩
def game_answers_H : Hints := ⟨[(0, ⟨[.own (.st 5) (.slot 9 0)], ⟨[(.int .u64), (.int .i64), (.sl (.int .i64)), (.sl (.st 5))], [(2, none), (3, none), (6, none), (7, some (false, [.own 6])), (8, some (false, [.d 0 0])), (9, some (false, [.own 7])), (10, some (false, [.d 1 0]))], [.keep, .keep, .keep, .keep, .dead, .dead, .oaN 0 (.d 2 0), .oaN 1 (.d 3 0)], 2⟩, [], some ([], ⟨[(.sl (.st 5))], [(2, none), (6, none), (9, some (false, [.own 6]))], [.keep, .keep, .keep, .dead, .dead, .dead, .oaN 0 (.d 0 0)], 1⟩), false, none⟩), (2, ⟨[], ⟨[(.int .u64), (.int .i64), (.sl (.int .i64)), (.sl (.st 5))], [(2, none), (3, none), (6, none), (7, some (false, [.own 9])), (8, some (false, [.d 0 0])), (9, some (false, [.own 10])), (10, none), (30, none), (31, none), (32, some (false, [.d 1 0]))], [.keep, .keep, .keep, .keep, .dead, .dead, .dead, .dead, .keep, .oaN 0 (.d 2 0), .oaN 1 (.d 3 0)], 2⟩, [], some ([], ⟨[(.int .u64), (.sl (.int .i64)), (.sl (.st 5))], [(2, none), (3, none), (6, none), (7, some (false, [.own 9])), (8, some (false, [.d 0 0])), (9, some (false, [.own 10])), (10, none)], [.keep, .keep, .keep, .keep, .dead, .dead, .dead, .dead, .dead, .oaN 0 (.d 1 0), .oaN 1 (.d 2 0)], 2⟩), false, none⟩)], [], [15], [], []⟩
theorem game_answers_ok : ConFn prog 28 game_answers_C := conFn_of (H := game_answers_H) (fin := []) Tryz.func28 Tryz.call28 (tabL_ok (l := [(56, slices_Contains_int_int_C), (57, slices_SortFunc_api_Reply_api_Reply_C), (55, network_Set_List_C), (23, network_Set_Has_C), (27, network_Set_With_C), (53, game_grounded_1_C), (61, game_answers_1_C)]) ⟨slices_Contains_int_int_ok, slices_SortFunc_api_Reply_api_Reply_ok, network_Set_List_ok, network_Set_Has_ok, network_Set_With_ok, game_grounded_1_ok, game_answers_1_ok, trivial⟩) rfl rfl rfl (fun a => by kernel_rfl)

noncomputable def game_grounded_2_m (a_0 : T_api_Reply) (b_1 : T_api_Reply) : Option (Int) :=
 some (isub .i64 a_0.To b_1.To)
noncomputable def game_grounded_2_C : Con := ⟨[(.st 5), (.st 5)], [(.int .i64)], fun (a : T_api_Reply × T_api_Reply) => game_grounded_2_m a.1 a.2, [(true, [.d 0 0, .d 0 1]), (true, [.d 1 0, .d 1 1])], [], [(false, [.d 0 0])], [], 0, 0⟩
def game_grounded_2_H : Hints := ⟨[], [], [], [], []⟩
theorem game_grounded_2_ok [DrawMode] : ConFn prog 58 game_grounded_2_C := conFn_of (H := game_grounded_2_H) (fin := []) Tryz.func58 Tryz.call58 (tabL_ok (l := []) trivial) rfl rfl rfl (fun a => by kernel_rfl)

def enc_T_api_Reply_game_grounded_2 (x : T_api_Reply) : List Value := [.int .i64 x.To, .int .i64 x.Node]
theorem enc_T_api_Reply_game_grounded_2_t : EncT rT_api_Reply enc_T_api_Reply_game_grounded_2 2 where
  size := rfl
  pos := by decide
  agg := rfl
  len := fun x => rfl
  one := fun x v hv => by simp only [enc_T_api_Reply_game_grounded_2, List.mem_cons, List.not_mem_nil, or_false] at hv; rcases hv with rfl | rfl <;> rfl
  to := fun x F w cs h => by
    match cs, h with
    | [v0, v1], ⟨h0, h1, _⟩ => cases (show v0 = .int .i64 x.To from h0); cases (show v1 = .int .i64 x.Node from h1); rfl
  of := fun x F w => ⟨rfl, rfl, trivial⟩
theorem slices_SortFunc_api_Reply_api_Reply__ok_ [DrawMode] {s_0 r : List T_api_Reply} (hm : (sortNM game_grounded_2_m) s_0 = some r) {h_0 : Value × List Nat} :
    FnOk prog 57 [pv h_0.1, pv (.func (.func 58) #[] #[])] [oa rT_api_Reply h_0.1 h_0.2 s_0] (fun _ : Unit => []) (fun _ : Unit => [oa rT_api_Reply h_0.1 h_0.2 r]) :=
  sort_fnQ enc_T_api_Reply_game_grounded_2_t (X := Unit) (fun x y r h => conCmp (t := .st 5) (@game_grounded_2_ok strictDraws) h fun _ => rfl)
    (fun enc hk h1 cf hO blk off cap d w hc hH hb hs hT => AnyQ.slices_SortFunc_total sortFR 2 Tryz.isAgg88 Tryz.sizeOf88 enc hk h1 cf hO 58 #[] blk off cap d w (enters_of Tryz.func58 (by kernel_rfl) rfl) hc hH hb hs hT)
    (fun p cap fv w => AnyF.slices_SortFunc_none sortFR p cap fv w) hm
noncomputable def slices_SortFunc_api_Reply_api_Reply__C : Con := conW2 (P := prog) (.st 5) (sortNM game_grounded_2_m) [(false, [.fn 58 []])]
theorem slices_SortFunc_api_Reply_api_Reply__ok [DrawMode] : ConFn prog 57 slices_SortFunc_api_Reply_api_Reply__C := ⟨Tryz.call57, conW2F_ok fun s r hm h0 => slices_SortFunc_api_Reply_api_Reply__ok_ hm⟩

noncomputable def game_grounded_l1 (t83 : ((List Int))) (s92 : Int × (List Int)) : Option (Sum ((List Int)) (Int × (List Int))) :=
 bif decide (s92.1 < ((t83.length : Int))) then
 Option.bind (idxM t83 s92.1) fun t93 =>
 Option.bind (slices_Contains_int_int_m s92.2 t93) fun t94 =>
 bif !t94 then
 Option.bind (appM 8 s92.2 [t93]) fun reached95 =>
 some (Sum.inr ((iadd .i64 s92.1 1, reached95)))
 else
 some (Sum.inr ((iadd .i64 s92.1 1, s92.2)))
 else
 some (Sum.inl s92.2)
noncomputable def game_grounded_l2 (n_0 : T_network_Net) (out9 : (Int)) (s73 : Int × (List Int) × (List T_api_Reply)) : Option (Sum ((List T_api_Reply)) (Int × (List Int) × (List T_api_Reply))) :=
 bif decide (s73.1 < ((s73.2.1.length : Int))) then
 Option.bind (idxM s73.2.1 s73.1) fun t77 =>
 Option.bind (idxM n_0.By t77) fun t78 =>
 Option.bind (game_first_m (iandn .u64 t78 out9)) fun x79 =>
 Option.bind (idxM s73.2.1 s73.1) fun t80 =>
 Option.bind (appM 16 s73.2.2 [(T_api_Reply.mk t80 x79)]) fun replies81 =>
 Option.bind (idxM n_0.By x79) fun t82 =>
 Option.bind (network_Set_List_m t82) fun t83 =>
 Option.bind (loopC (game_grounded_l1 t83) ((0, s73.2.1))) fun q96 : (List Int) =>
 some (Sum.inr ((iadd .i64 s73.1 1, q96, replies81)))
 else
 some (Sum.inl s73.2.2)
noncomputable def game_grounded_m (n_0 : T_network_Net) (root_1 : Int) : Option (Int × (List T_api_Reply)) :=
 Option.bind (network_Net_Grounded_m n_0) fun t1 =>
 joinM (fun j4 : Int =>
 Option.bind (network_Set_Has_m j4 root_1) fun t7 =>
 bif t7 then
 Option.bind (game_answers_m n_0 root_1 t1 n_0.All n_0.By n_0.Out) fun t8 =>
 some ((1, t8))
 else
 Option.bind (network_Net_Hit_m n_0 j4) fun out9 =>
 Option.bind (loopC (game_grounded_l2 n_0 out9) ((0, [root_1], []))) fun q97 : (List T_api_Reply) =>
 Option.bind ((sortNM game_grounded_2_m) q97) fun t98 =>
 some ((2, t98))) fun k3 =>
 bif decide (((t1.length : Int)) > 0) then
 Option.bind (idxM t1 (isub .i64 ((t1.length : Int)) 1)) fun t99 =>
 k3 t99
 else
 k3 0
noncomputable def game_grounded_C : Con := ⟨[(.st 3), (.int .i64)], [(.int .i64), (.sl (.st 5))], fun (a : T_network_Net × Int) => game_grounded_m a.1 a.2, [(true, [.d 0 0, .d 0 1, .d 0 2]), (false, [.d 1 0])], [], [(false, [.d 0 0]), (false, [.own 0])], [.oa 0 (.d 1 0)], 0, 1⟩
def game_grounded_H : Hints := ⟨[(0, ⟨[.own (.st 5) (.slot 10 0)], ⟨[(.int .i64), (.sl (.int .i64)), (.sl (.st 5))], [(2, none), (4, none), (5, none), (8, none), (9, some (false, [.own 5])), (10, some (false, [.own 6])), (11, some (false, [.d 0 0]))], [.keep, .dead, .dead, .dead, .dead, .oaN 0 (.d 1 0), .oaN 1 (.d 2 0)], 2⟩, [], some ([], ⟨[(.sl (.st 5))], [(4, none), (5, none), (10, some (false, [.own 5]))], [.dead, .dead, .dead, .dead, .dead, .oaN 0 (.d 0 0)], 1⟩), false, none⟩), (2, ⟨[], ⟨[(.int .i64), (.sl (.int .i64))], [(2, none), (4, none), (5, none), (8, none), (9, some (false, [.own 8])), (10, none), (11, none), (69, none), (70, none), (71, some (false, [.d 0 0]))], [.keep, .dead, .dead, .dead, .dead, .dead, .keep, .keep, .oaN 0 (.d 1 0)], 1⟩, [], some ([], ⟨[(.sl (.int .i64))], [(2, none), (4, none), (5, none), (8, none), (9, some (false, [.own 8])), (10, none), (11, none)], [.keep, .dead, .dead, .dead, .dead, .dead, .keep, .dead, .oaN 0 (.d 0 0)], 1⟩), false, none⟩)], [(12, ([], ⟨[(.int .u64)], [(1, none), (2, none), (4, none), (5, none), (6, none), (7, some (false, [.d 0 0]))], [.keep, .keep, .keep], 0⟩))], [37], [], []⟩
theorem game_grounded_ok : ConFn prog 25 game_grounded_C := conFn_of (H := game_grounded_H) (fin := []) Tryz.func25 Tryz.call25 (tabL_ok (l := [(56, slices_Contains_int_int_C), (57, slices_SortFunc_api_Reply_api_Reply__C), (52, network_Net_Grounded_C), (23, network_Set_Has_C), (28, game_answers_C), (54, network_Net_Hit_C), (30, game_first_C), (55, network_Set_List_C), (58, game_grounded_2_C)]) ⟨slices_Contains_int_int_ok, slices_SortFunc_api_Reply_api_Reply__ok, network_Net_Grounded_ok, network_Set_Has_ok, game_answers_ok, network_Net_Hit_ok, game_first_ok, network_Set_List_ok, game_grounded_2_ok, trivial⟩) rfl rfl rfl (fun a => by kernel_rfl)

noncomputable def game_search_m (a0 : T_network_Net) (a1 : Int) : Option (Int × Bool) :=
 none
noncomputable def game_search_C : Con := ⟨[(.st 3), (.int .u64)], [(.int .u64), .bool], fun (a : T_network_Net × Int) => game_search_m a.1 a.2, [(true, [.d 0 0, .d 0 1, .d 0 2]), (false, [.d 1 0])], [], [(false, [.d 0 0]), (false, [.d 1 0])], [], 0, 0⟩
theorem game_search_ok [DrawMode] : ConFn prog 26 game_search_C := ⟨Tryz.call26, fun a r h => by cases h⟩

noncomputable def game_Solve_1_m (x_0 : Int) (p_1_0 : Int) (p_1_1 : (List Int)) (p_1_2 : (List Int)) (p_2_0 : Int) : Option (Int) :=
 Option.bind (idxM p_1_1 x_0) fun t1 =>
 Option.bind (game_first_m (iand .u64 t1 p_2_0)) fun t2 =>
 some t2
noncomputable def game_Solve_1_C : Con := ⟨[(.int .i64), (.int .u64), (.sl (.int .u64)), (.sl (.int .u64)), (.int .u64)], [(.int .i64)], fun (a : Int × Int × (List Int) × (List Int) × Int) => game_Solve_1_m a.1 a.2.1 a.2.2.1 a.2.2.2.1 a.2.2.2.2, [(false, [.d 0 0]), (false, [.ptr 0]), (false, [.ptr 1])], [.oc 0 [.d 1 0, .d 2 0, .d 3 0], .oc 1 [.d 4 0]], [(false, [.d 0 0])], [.same, .same], 2, 2⟩
def game_Solve_1_H : Hints := ⟨[], [], [], [], []⟩
theorem game_Solve_1_ok : ConFn prog 29 game_Solve_1_C := conFn_of (H := game_Solve_1_H) (fin := []) Tryz.func29 Tryz.call29 (tabL_ok (l := [(30, game_first_C)]) ⟨game_first_ok, trivial⟩) rfl rfl rfl (fun a => by kernel_rfl)

noncomputable def game_answers_s1_l1 (pick_2_0_0 : Int) (pick_2_0_1 : (List Int)) (pick_2_0_2 : (List Int)) (pick_2_1_0 : Int) (t97 : ((List Int))) (s116 : Int × Int × (List Int) × (List T_api_Reply)) : Option (Sum (Int × (List Int) × (List T_api_Reply)) (Int × Int × (List Int) × (List T_api_Reply))) :=
 bif decide (s116.2.1 < ((t97.length : Int))) then
 Option.bind (idxM t97 s116.2.1) fun t117 =>
 Option.bind (network_Set_Has_m s116.1 t117) fun t119 =>
 bif t119 then
 some (Sum.inr ((s116.1, iadd .i64 s116.2.1 1, s116.2.2.1, s116.2.2.2)))
 else
 Option.bind (network_Set_With_m s116.1 t117) fun seen120 =>
 Option.bind (game_Solve_1_m t117 pick_2_0_0 pick_2_0_1 pick_2_0_2 pick_2_1_0) fun y121 =>
 Option.bind (appM 16 s116.2.2.2 [(T_api_Reply.mk t117 y121)]) fun out122 =>
 Option.bind (slices_Contains_int_int_m s116.2.2.1 y121) fun t123 =>
 bif !t123 then
 Option.bind (appM 8 s116.2.2.1 [y121]) fun reached124 =>
 some (Sum.inr ((seen120, iadd .i64 s116.2.1 1, reached124, out122)))
 else
 some (Sum.inr ((seen120, iadd .i64 s116.2.1 1, s116.2.2.1, out122)))
 else
 some (Sum.inl ((s116.1, s116.2.2.1, s116.2.2.2)))
noncomputable def game_answers_s1_l2 (n_0 : T_network_Net) (pick_2_0_0 : Int) (pick_2_0_1 : (List Int)) (pick_2_0_2 : (List Int)) (pick_2_1_0 : Int) (s91 : Int × Int × (List Int) × (List T_api_Reply)) : Option (Sum ((List T_api_Reply)) (Int × Int × (List Int) × (List T_api_Reply))) :=
 bif decide (s91.2.1 < ((s91.2.2.1.length : Int))) then
 Option.bind (idxM s91.2.2.1 s91.2.1) fun t95 =>
 Option.bind (idxM n_0.By t95) fun t96 =>
 Option.bind (network_Set_List_m t96) fun t97 =>
 Option.bind (loopC (game_answers_s1_l1 pick_2_0_0 pick_2_0_1 pick_2_0_2 pick_2_1_0 t97) ((s91.1, 0, s91.2.2.1, s91.2.2.2))) fun q125 : Int × (List Int) × (List T_api_Reply) =>
 some (Sum.inr ((q125.1, iadd .i64 s91.2.1 1, q125.2.1, q125.2.2)))
 else
 some (Sum.inl s91.2.2.2)
noncomputable def game_answers_s1_m (n_0 : T_network_Net) (root_1 : Int) (pick_2_0_0 : Int) (pick_2_0_1 : (List Int)) (pick_2_0_2 : (List Int)) (pick_2_1_0 : Int) : Option ((List T_api_Reply)) :=
 Option.bind (loopC (game_answers_s1_l2 n_0 pick_2_0_0 pick_2_0_1 pick_2_0_2 pick_2_1_0) ((0, 0, [root_1], []))) fun q126 : (List T_api_Reply) =>
 Option.bind ((sortNM game_answers_1_m) q126) fun t127 =>
 some t127
noncomputable def game_answers_s1_C : Con := ⟨[(.st 3), (.int .i64), (.int .u64), (.sl (.int .u64)), (.sl (.int .u64)), (.int .u64)], [(.sl (.st 5))], fun (a : T_network_Net × Int × Int × (List Int) × (List Int) × Int) => game_answers_s1_m a.1 a.2.1 a.2.2.1 a.2.2.2.1 a.2.2.2.2.1 a.2.2.2.2.2, [(true, [.d 0 0, .d 0 1, .d 0 2]), (false, [.d 1 0]), (false, [.fn 29 [some 0, some 1]])], [.oc 0 [.d 2 0, .d 3 0, .d 4 0], .oc 1 [.d 5 0]], [(false, [.own 2])], [.same, .same, .oa 2 (.d 0 0)], 2, 3⟩
def game_answers_s1_H : Hints := ⟨[(0, ⟨[.own (.st 5) (.slot 9 0)], ⟨[(.int .u64), (.int .i64), (.sl (.int .i64)), (.sl (.st 5))], [(2, none), (3, none), (6, none), (7, some (false, [.own 5])), (8, some (false, [.d 0 0])), (9, some (false, [.own 6])), (10, some (false, [.d 1 0]))], [.keep, .keep, .keep, .dead, .dead, .oaN 0 (.d 2 0), .oaN 1 (.d 3 0)], 2⟩, [], some ([], ⟨[(.sl (.st 5))], [(2, none), (6, none), (9, some (false, [.own 5]))], [.keep, .keep, .dead, .dead, .dead, .oaN 0 (.d 0 0)], 1⟩), false, none⟩), (2, ⟨[], ⟨[(.int .u64), (.int .i64), (.sl (.int .i64)), (.sl (.st 5))], [(2, none), (3, none), (6, none), (7, some (false, [.own 8])), (8, some (false, [.d 0 0])), (9, some (false, [.own 9])), (10, none), (30, none), (31, none), (32, some (false, [.d 1 0]))], [.keep, .keep, .keep, .dead, .dead, .dead, .dead, .keep, .oaN 0 (.d 2 0), .oaN 1 (.d 3 0)], 2⟩, [], some ([], ⟨[(.int .u64), (.sl (.int .i64)), (.sl (.st 5))], [(2, none), (3, none), (6, none), (7, some (false, [.own 8])), (8, some (false, [.d 0 0])), (9, some (false, [.own 9])), (10, none)], [.keep, .keep, .keep, .dead, .dead, .dead, .dead, .dead, .oaN 0 (.d 1 0), .oaN 1 (.d 2 0)], 2⟩), false, none⟩)], [], [15], [], []⟩
theorem game_answers_s1_ok : ConFn prog 28 game_answers_s1_C := conFn_of (H := game_answers_s1_H) (fin := []) Tryz.func28 Tryz.call28 (tabL_ok (l := [(56, slices_Contains_int_int_C), (57, slices_SortFunc_api_Reply_api_Reply_C), (55, network_Set_List_C), (23, network_Set_Has_C), (27, network_Set_With_C), (29, game_Solve_1_C)]) ⟨slices_Contains_int_int_ok, slices_SortFunc_api_Reply_api_Reply_ok, network_Set_List_ok, network_Set_Has_ok, network_Set_With_ok, game_Solve_1_ok, trivial⟩) rfl rfl rfl (fun a => by kernel_rfl)

noncomputable def game_Solve_m (g_0 : T_api_Graph) (game_1 : Int) (root_2 : Int) : Option (T_api_Strategy × Int) :=
 Option.bind (graph_Validate_m g_0) fun e2 =>
 bif (e2 : Int) != 0 then
 some (((T_api_Strategy.mk 0 0 0 []), e2))
 else
 joinM (fun j7 : Unit =>
 Option.bind (network_New_m g_0) fun t8 =>
 bif (game_1 : Int) == 1 then
 Option.bind (game_grounded_m t8 root_2) fun t10 =>
 some (((T_api_Strategy.mk game_1 root_2 t10.1 t10.2), 0))
 else
 joinM (fun j17 : Bool × Int =>
 bif j17.1 then
 Option.bind (game_answers_s1_m t8 root_2 t8.All t8.By t8.Out j17.2) fun t18 =>
 some (((T_api_Strategy.mk game_1 root_2 1 t18), 0))
 else
 some (((T_api_Strategy.mk game_1 root_2 2 []), 0))) fun k16 =>
 meetO (
 Option.bind (network_Set_With_m 0 root_2) fun t19 =>
 meetO (
 Option.bind (game_search_m t8 t19) fun t20 =>
 k16 ((t20.2, t20.1))) (
 Option.bind (game_search_m t8 t19) fun t21 =>
 k16 ((t21.2, t21.1)))) (
 Option.bind (network_Set_With_m 0 root_2) fun t22 =>
 Option.bind (game_search_m t8 t22) fun t23 =>
 k16 ((t23.2, t23.1)))) fun k6 =>
 Option.bind (game_exists_m game_1) fun t24 =>
 bif !t24 then
 some (((T_api_Strategy.mk 0 0 0 []), 4))
 else
 joinM (fun j26 : Bool =>
 bif j26 then
 some (((T_api_Strategy.mk 0 0 0 []), 1))
 else
 bif (game_1 : Int) == 2 then
 bif decide (g_0.N > 10) then
 some (((T_api_Strategy.mk 0 0 0 []), 2))
 else
 k6 (())
 else
 k6 (())) fun k25 =>
 bif decide (root_2 < 0) then
 k25 true
 else
 k25 (decide (root_2 ≥ g_0.N))
noncomputable def game_Solve_C : Con := ⟨[(.st 2), (.int .i64), (.int .i64)], [(.st 6), (.int .i64)], fun (a : T_api_Graph × Int × Int) => game_Solve_m a.1 a.2.1 a.2.2, [(true, [.d 0 0, .d 0 1]), (false, [.d 1 0]), (false, [.d 2 0])], [], [(true, [.d 0 0, .d 0 1, .d 0 2, .d 0 3]), (false, [.d 1 0])], [], 0, 0⟩
def game_Solve_H : Hints := ⟨[], [(22, ([], ⟨[], [(1, none), (2, none), (3, none), (6, none), (7, none)], [.keep, .keep], 0⟩)), (34, ([], ⟨[.bool, (.int .u64)], [(2, none), (6, none), (7, none), (9, none), (10, none), (11, some (false, [.ptr 4])), (12, some (false, [.d 0 0]))], [.dead, .keep, .keep, .keep, .ocN 0 [.d 1 0]], 1⟩)), (16, ([], ⟨[.bool], [(1, none), (2, none), (3, none), (6, none), (7, none), (24, some (false, [.d 0 0]))], [.keep, .keep], 0⟩))], [], [], []⟩
theorem game_Solve_ok : ConFn prog 9 game_Solve_C := conFn_of (H := game_Solve_H) (fin := [.sl (.st 5) (.cell 1 3)]) Tryz.func9 Tryz.call9 (tabL_ok (l := [(16, graph_Validate_C), (24, game_exists_C), (19, network_New_C), (25, game_grounded_C), (27, network_Set_With_C), (26, game_search_C), (28, game_answers_s1_C)]) ⟨graph_Validate_ok, game_exists_ok, network_New_ok, game_grounded_ok, network_Set_With_ok, game_search_ok, game_answers_s1_ok, trivial⟩) rfl rfl rfl (fun a => by kernel_rfl)

noncomputable def verdict_asked_m (g_0 : T_api_Graph) (n_1 : Int) : Option (Int) :=
 Option.bind (graph_Validate_m g_0) fun t1 =>
 bif (t1 : Int) != 0 then
 some 1
 else
 bif decide (n_1 < 0) then
 some 1
 else
 bif decide (n_1 ≥ g_0.N) then
 some 1
 else
 some 0
noncomputable def verdict_asked_C : Con := ⟨[(.st 2), (.int .i64)], [(.int .i64)], fun (a : T_api_Graph × Int) => verdict_asked_m a.1 a.2, [(true, [.d 0 0, .d 0 1]), (false, [.d 1 0])], [], [(false, [.d 0 0])], [], 0, 0⟩
def verdict_asked_H : Hints := ⟨[], [], [], [], []⟩
theorem verdict_asked_ok [DrawMode] : ConFn prog 31 verdict_asked_C := conFn_of (H := verdict_asked_H) (fin := []) Tryz.func31 Tryz.call31 (tabL_ok (l := [(16, graph_Validate_C)]) ⟨graph_Validate_ok, trivial⟩) rfl rfl rfl (fun a => by kernel_rfl)

noncomputable def grounded_Ranks_m (g_0 : T_api_Graph) : Option ((List Int)) :=
 Option.bind (grounded_build_m g_0) fun t1 =>
 some t1.2
noncomputable def grounded_Ranks_C : Con := ⟨[(.st 2)], [(.sl (.int .i64))], fun (a : T_api_Graph) => grounded_Ranks_m a, [(true, [.d 0 0, .d 0 1])], [], [(false, [.own 0])], [.oa 0 (.d 0 0)], 0, 1⟩
def grounded_Ranks_H : Hints := ⟨[], [], [], [], []⟩
theorem grounded_Ranks_ok : ConFn prog 32 grounded_Ranks_C := conFn_of (H := grounded_Ranks_H) (fin := []) Tryz.func32 Tryz.call32 (tabL_ok (l := [(15, grounded_build_C)]) ⟨grounded_build_ok, trivial⟩) rfl rfl rfl (fun a => by kernel_rfl)

noncomputable def verdict_Encode_m (a0 : T_api_Graph) (a1 : Int) (a2 : Int) : Option (Int × (List (List Int)) × Int) :=
 none
noncomputable def verdict_Encode_C : Con := ⟨[(.st 2), (.int .i64), (.int .i64)], [(.int .i64), (.sl (.sl (.int .i64))), (.int .i64)], fun (a : T_api_Graph × Int × Int) => verdict_Encode_m a.1 a.2.1 a.2.2, [(true, [.d 0 0, .d 0 1]), (false, [.d 1 0]), (false, [.d 2 0])], [], [(false, [.d 0 0]), (false, [.d 1 0]), (false, [.d 2 0])], [], 0, 0⟩
theorem verdict_Encode_ok [DrawMode] : ConFn prog 33 verdict_Encode_C := ⟨Tryz.call33, fun a r h => by cases h⟩

noncomputable def proof_Solve_m (a0 : Int) (a1 : (List (List Int))) : Option (T_api_Answer × Int) :=
 none
noncomputable def proof_Solve_C : Con := ⟨[(.int .i64), (.sl (.sl (.int .i64)))], [(.st 8), (.int .i64)], fun (a : Int × (List (List Int))) => proof_Solve_m a.1 a.2, [(false, [.d 0 0]), (false, [.d 1 0])], [], [(true, [.d 0 0, .d 0 1, .d 0 2]), (false, [.d 1 0])], [], 0, 0⟩
theorem proof_Solve_ok [DrawMode] : ConFn prog 34 proof_Solve_C := ⟨Tryz.call34, fun a r h => by cases h⟩

noncomputable def verdict_labels_m (a0 : Int) (a1 : (List Bool)) : Option ((List Int)) :=
 none
noncomputable def verdict_labels_C : Con := ⟨[(.int .i64), (.sl .bool)], [(.sl (.int .i64))], fun (a : Int × (List Bool)) => verdict_labels_m a.1 a.2, [(false, [.d 0 0]), (false, [.d 1 0])], [], [(false, [.d 0 0])], [], 0, 0⟩
theorem verdict_labels_ok [DrawMode] : ConFn prog 35 verdict_labels_C := ⟨Tryz.call35, fun a r h => by cases h⟩

noncomputable def verdict_Decide_m (g_0 : T_api_Graph) (question_1 : Int) (n_2 : Int) : Option (T_api_Verdict × Int) :=
 Option.bind (verdict_asked_m g_0 n_2) fun e2 =>
 bif (e2 : Int) != 0 then
 some (((T_api_Verdict.mk false [] [] []), e2))
 else
 bif (question_1 : Int) == 4 then
 Option.bind (grounded_Label_m g_0) fun l6 =>
 Option.bind (idxM l6 n_2) fun t7 =>
 Option.bind (grounded_Ranks_m g_0) fun t8 =>
 some (((T_api_Verdict.mk ((t7 : Int) == 1) l6 t8 []), 0))
 else
 Option.bind (verdict_Encode_m g_0 question_1 n_2) fun t9 =>
 bif (t9.2.2 : Int) != 0 then
 some (((T_api_Verdict.mk false [] [] []), t9.2.2))
 else
 Option.bind (proof_Solve_m t9.1 t9.2.1) fun t10 =>
 bif (t10.2 : Int) != 0 then
 some (((T_api_Verdict.mk false [] [] []), 2))
 else
 bif t10.1.Sat then
 Option.bind (verdict_labels_m g_0.N t10.1.Model) fun t12 =>
 some (((T_api_Verdict.mk ((question_1 : Int) != 3) t12 [] []), 0))
 else
 some (((T_api_Verdict.mk ((question_1 : Int) == 3) [] [] t10.1.Steps), 0))
noncomputable def verdict_Decide_C : Con := ⟨[(.st 2), (.int .i64), (.int .i64)], [(.st 9), (.int .i64)], fun (a : T_api_Graph × Int × Int) => verdict_Decide_m a.1 a.2.1 a.2.2, [(true, [.d 0 0, .d 0 1]), (false, [.d 1 0]), (false, [.d 2 0])], [], [(true, [.d 0 0, .d 0 1, .d 0 2, .d 0 3]), (false, [.d 1 0])], [], 0, 0⟩
def verdict_Decide_H : Hints := ⟨[], [], [], [], []⟩
theorem verdict_Decide_ok : ConFn prog 10 verdict_Decide_C := conFn_of (H := verdict_Decide_H) (fin := [.sl (.int .i64) (.cell 1 1), .sl (.int .i64) (.cell 1 2)]) Tryz.func10 Tryz.call10 (tabL_ok (l := [(31, verdict_asked_C), (6, grounded_Label_C), (32, grounded_Ranks_C), (33, verdict_Encode_C), (34, proof_Solve_C), (35, verdict_labels_C)]) ⟨verdict_asked_ok, grounded_Label_ok, grounded_Ranks_ok, verdict_Encode_ok, proof_Solve_ok, verdict_labels_ok, trivial⟩) rfl rfl rfl (fun a => by kernel_rfl)

noncomputable def game_Check_1_m (n_0 : Int) (p_1_0 : Int) (p_1_1 : (List T_api_Pair)) : Option (Bool) :=
 bif decide (n_0 ≥ 0) then
 some (decide (n_0 < p_1_0))
 else
 some false
noncomputable def game_Check_1_C : Con := ⟨[(.int .i64), (.int .i64), (.sl (.st 1))], [.bool], fun (a : Int × Int × (List T_api_Pair)) => game_Check_1_m a.1 a.2.1 a.2.2, [(false, [.d 0 0]), (false, [.ptr 0])], [.oc 0 [.d 1 0, .d 2 0]], [(false, [.d 0 0])], [.same], 1, 1⟩
def game_Check_1_H : Hints := ⟨[], [], [], [], []⟩
theorem game_Check_1_ok [DrawMode] : ConFn prog 36 game_Check_1_C := conFn_of (H := game_Check_1_H) (fin := []) Tryz.func36 Tryz.call36 (tabL_ok (l := []) trivial) rfl rfl rfl (fun a => by kernel_rfl)

noncomputable def game_reply_1_m (r_0 : T_api_Reply) (n_1 : Int) : Option (Int) :=
 some (isub .i64 r_0.To n_1)
noncomputable def game_reply_1_C : Con := ⟨[(.st 5), (.int .i64)], [(.int .i64)], fun (a : T_api_Reply × Int) => game_reply_1_m a.1 a.2, [(true, [.d 0 0, .d 0 1]), (false, [.d 1 0])], [], [(false, [.d 0 0])], [], 0, 0⟩
def game_reply_1_H : Hints := ⟨[], [], [], [], []⟩
theorem game_reply_1_ok [DrawMode] : ConFn prog 143 game_reply_1_C := conFn_of (H := game_reply_1_H) (fin := []) Tryz.func143 Tryz.call143 (tabL_ok (l := []) trivial) rfl rfl rfl (fun a => by kernel_rfl)

noncomputable def slices_BinarySearchFunc_api_Reply_api_Reply_int_l1 (x_0 : (List T_api_Reply)) (target_1 : Int) (s15 : Int × Int) : Option (Sum (Int) (Int × Int)) :=
 bif decide (s15.1 < s15.2) then
 Option.bind (idxM x_0 (IntKind.wrap .i64 (ishr .u64 (IntKind.wrap .u64 (iadd .i64 s15.1 s15.2)) 1))) fun t16 =>
 Option.bind (game_reply_1_m t16 target_1) fun t17 =>
 bif decide (t17 < 0) then
 some (Sum.inr ((iadd .i64 (IntKind.wrap .i64 (ishr .u64 (IntKind.wrap .u64 (iadd .i64 s15.1 s15.2)) 1)) 1, s15.2)))
 else
 some (Sum.inr ((s15.1, IntKind.wrap .i64 (ishr .u64 (IntKind.wrap .u64 (iadd .i64 s15.1 s15.2)) 1))))
 else
 some (Sum.inl s15.1)
noncomputable def slices_BinarySearchFunc_api_Reply_api_Reply_int_m (x_0 : (List T_api_Reply)) (target_1 : Int) : Option (Int × Bool) :=
 Option.bind (loopC (slices_BinarySearchFunc_api_Reply_api_Reply_int_l1 x_0 target_1) ((0, (x_0.length : Int)))) fun q18 : Int =>
 bif decide (q18 < ((x_0.length : Int))) then
 Option.bind (idxM x_0 q18) fun t19 =>
 Option.bind (game_reply_1_m t19 target_1) fun t20 =>
 some ((q18, (t20 : Int) == 0))
 else
 some ((q18, false))
noncomputable def slices_BinarySearchFunc_api_Reply_api_Reply_int_C : Con := ⟨[(.sl (.st 5)), (.int .i64)], [(.int .i64), .bool], fun (a : (List T_api_Reply) × Int) => slices_BinarySearchFunc_api_Reply_api_Reply_int_m a.1 a.2, [(false, [.d 0 0]), (false, [.d 1 0]), (false, [.fn 143 []])], [], [(false, [.d 0 0]), (false, [.d 1 0])], [], 0, 0⟩
def slices_BinarySearchFunc_api_Reply_api_Reply_int_H : Hints := ⟨[(0, ⟨[], ⟨[(.int .i64), (.int .i64)], [(0, none), (1, none), (2, none), (6, none), (7, none), (8, none), (9, some (false, [.d 0 0])), (10, some (false, [.d 1 0]))], [], 0⟩, [], some ([], ⟨[(.int .i64)], [(0, none), (1, none), (2, none), (6, none), (7, none), (8, none), (9, some (false, [.d 0 0]))], [], 0⟩), false, none⟩)], [], [], [], []⟩
theorem slices_BinarySearchFunc_api_Reply_api_Reply_int_ok [DrawMode] : ConFn prog 142 slices_BinarySearchFunc_api_Reply_api_Reply_int_C := conFn_of (H := slices_BinarySearchFunc_api_Reply_api_Reply_int_H) (fin := []) Tryz.func142 Tryz.call142 (tabL_ok (l := [(143, game_reply_1_C)]) ⟨game_reply_1_ok, trivial⟩) rfl rfl rfl (fun a => by kernel_rfl)

noncomputable def game_reply_m (s_0 : T_api_Strategy) (to__1 : Int) : Option (Int × Bool) :=
 Option.bind (slices_BinarySearchFunc_api_Reply_api_Reply_int_m s_0.Replies to__1) fun t1 =>
 bif !t1.2 then
 some ((0, false))
 else
 Option.bind (idxM s_0.Replies t1.1) fun t2 =>
 some ((t2.Node, true))
noncomputable def game_reply_C : Con := ⟨[(.st 6), (.int .i64)], [(.int .i64), .bool], fun (a : T_api_Strategy × Int) => game_reply_m a.1 a.2, [(true, [.d 0 0, .d 0 1, .d 0 2, .d 0 3]), (false, [.d 1 0])], [], [(false, [.d 0 0]), (false, [.d 1 0])], [], 0, 0⟩
def game_reply_H : Hints := ⟨[], [], [], [], []⟩
theorem game_reply_ok [DrawMode] : ConFn prog 105 game_reply_C := conFn_of (H := game_reply_H) (fin := []) Tryz.func105 Tryz.call105 (tabL_ok (l := [(142, slices_BinarySearchFunc_api_Reply_api_Reply_int_C)]) ⟨slices_BinarySearchFunc_api_Reply_api_Reply_int_ok, trivial⟩) rfl rfl rfl (fun a => by kernel_rfl)

def game_checker_visit_C0 : Con := ⟨[(.int .u64), (.sl (.int .u64)), (.sl (.int .u64)), (.int .i64), (.int .i64), (.int .i64), (.sl (.st 5)), (.int .u64), (.sl (.int .i64)), (.int .i64)], [.bool, (.sl (.int .i64)), (.int .u64), (.sl (.int .u64)), (.sl (.int .u64)), (.int .i64), (.int .i64), (.int .i64), (.sl (.st 5)), (.int .u64)], fun _ => none, [(false, [.ptr 0]), (false, [.d 9 0])], [.oc 0 [.d 0 0, .d 1 0, .d 2 0, .d 3 0, .d 4 0, .d 5 0, .d 6 0, .d 7 0, .own 1], .oa 1 (.d 8 0)], [(false, [.d 0 0])], [.oc 0 [.d 2 0, .d 3 0, .d 4 0, .d 5 0, .d 6 0, .d 7 0, .d 8 0, .d 9 0, .own 1], .oa 1 (.d 1 0)], 2, 2⟩
noncomputable def game_checker_visit_l1 (game_checker_visit_r : Int → (List Int) → (List Int) → Int → Int → Int → (List T_api_Reply) → Int → (List Int) → Int → Option (Bool × (List Int) × Int × (List Int) × (List Int) × Int × Int × Int × (List T_api_Reply) × Int)) (t34 : ((List Int))) (s59 : Int × Int × (List Int) × (List Int) × Int × Int × Int × (List T_api_Reply) × Int × (List Int)) : Option (Sum (Sum (Bool × (List Int) × Int × (List Int) × (List Int) × Int × Int × Int × (List T_api_Reply) × Int) (Int × (List Int) × (List Int) × Int × Int × Int × (List T_api_Reply) × Int × (List Int))) (Int × Int × (List Int) × (List Int) × Int × Int × Int × (List T_api_Reply) × Int × (List Int))) :=
 bif decide (s59.1 < ((t34.length : Int))) then
 Option.bind (idxM t34 s59.1) fun t60 =>
 Option.bind (game_reply_m ((T_api_Strategy.mk s59.2.2.2.2.1 s59.2.2.2.2.2.1 s59.2.2.2.2.2.2.1 s59.2.2.2.2.2.2.2.1)) t60) fun t61 =>
 bif !t61.2 then
 some (Sum.inl (Sum.inl ((false, s59.2.2.2.2.2.2.2.2.2, s59.2.1, s59.2.2.1, s59.2.2.2.1, s59.2.2.2.2.1, s59.2.2.2.2.2.1, s59.2.2.2.2.2.2.1, s59.2.2.2.2.2.2.2.1, s59.2.2.2.2.2.2.2.2.1))))
 else
 Option.bind (idxM s59.2.2.1 t60) fun t64 =>
 Option.bind (network_Set_Has_m t64 t61.1) fun t65 =>
 bif !t65 then
 some (Sum.inl (Sum.inl ((false, s59.2.2.2.2.2.2.2.2.2, s59.2.1, s59.2.2.1, s59.2.2.2.1, s59.2.2.2.2.1, s59.2.2.2.2.2.1, s59.2.2.2.2.2.2.1, s59.2.2.2.2.2.2.2.1, s59.2.2.2.2.2.2.2.2.1))))
 else
 Option.bind (idxM s59.2.2.2.2.2.2.2.2.2 t61.1) fun t66 =>
 bif (t66 : Int) == 1 then
 bif (s59.2.2.2.2.1 : Int) == 1 then
 some (Sum.inl (Sum.inl ((false, s59.2.2.2.2.2.2.2.2.2, s59.2.1, s59.2.2.1, s59.2.2.2.1, s59.2.2.2.2.1, s59.2.2.2.2.2.1, s59.2.2.2.2.2.2.1, s59.2.2.2.2.2.2.2.1, s59.2.2.2.2.2.2.2.2.1))))
 else
 Option.bind (idxM s59.2.2.2.2.2.2.2.2.2 t61.1) fun t67 =>
 bif (t67 : Int) == 0 then
 Option.bind (game_checker_visit_r s59.2.1 s59.2.2.1 s59.2.2.2.1 s59.2.2.2.2.1 s59.2.2.2.2.2.1 s59.2.2.2.2.2.2.1 s59.2.2.2.2.2.2.2.1 s59.2.2.2.2.2.2.2.2.1 s59.2.2.2.2.2.2.2.2.2 t61.1) fun t68 =>
 bif !t68.1 then
 some (Sum.inl (Sum.inl ((false, t68.2.1, t68.2.2.1, t68.2.2.2.1, t68.2.2.2.2.1, t68.2.2.2.2.2.1, t68.2.2.2.2.2.2.1, t68.2.2.2.2.2.2.2.1, t68.2.2.2.2.2.2.2.2.1, t68.2.2.2.2.2.2.2.2.2))))
 else
 some (Sum.inr ((iadd .i64 s59.1 1, t68.2.2.1, t68.2.2.2.1, t68.2.2.2.2.1, t68.2.2.2.2.2.1, t68.2.2.2.2.2.2.1, t68.2.2.2.2.2.2.2.1, t68.2.2.2.2.2.2.2.2.1, t68.2.2.2.2.2.2.2.2.2, t68.2.1)))
 else
 some (Sum.inr ((iadd .i64 s59.1 1, s59.2.1, s59.2.2.1, s59.2.2.2.1, s59.2.2.2.2.1, s59.2.2.2.2.2.1, s59.2.2.2.2.2.2.1, s59.2.2.2.2.2.2.2.1, s59.2.2.2.2.2.2.2.2.1, s59.2.2.2.2.2.2.2.2.2)))
 else
 Option.bind (idxM s59.2.2.2.2.2.2.2.2.2 t61.1) fun t69 =>
 bif (t69 : Int) == 0 then
 Option.bind (game_checker_visit_r s59.2.1 s59.2.2.1 s59.2.2.2.1 s59.2.2.2.2.1 s59.2.2.2.2.2.1 s59.2.2.2.2.2.2.1 s59.2.2.2.2.2.2.2.1 s59.2.2.2.2.2.2.2.2.1 s59.2.2.2.2.2.2.2.2.2 t61.1) fun t70 =>
 bif !t70.1 then
 some (Sum.inl (Sum.inl ((false, t70.2.1, t70.2.2.1, t70.2.2.2.1, t70.2.2.2.2.1, t70.2.2.2.2.2.1, t70.2.2.2.2.2.2.1, t70.2.2.2.2.2.2.2.1, t70.2.2.2.2.2.2.2.2.1, t70.2.2.2.2.2.2.2.2.2))))
 else
 some (Sum.inr ((iadd .i64 s59.1 1, t70.2.2.1, t70.2.2.2.1, t70.2.2.2.2.1, t70.2.2.2.2.2.1, t70.2.2.2.2.2.2.1, t70.2.2.2.2.2.2.2.1, t70.2.2.2.2.2.2.2.2.1, t70.2.2.2.2.2.2.2.2.2, t70.2.1)))
 else
 some (Sum.inr ((iadd .i64 s59.1 1, s59.2.1, s59.2.2.1, s59.2.2.2.1, s59.2.2.2.2.1, s59.2.2.2.2.2.1, s59.2.2.2.2.2.2.1, s59.2.2.2.2.2.2.2.1, s59.2.2.2.2.2.2.2.2.1, s59.2.2.2.2.2.2.2.2.2)))
 else
 some (Sum.inl (Sum.inr ((s59.2.1, s59.2.2.1, s59.2.2.2.1, s59.2.2.2.2.1, s59.2.2.2.2.2.1, s59.2.2.2.2.2.2.1, s59.2.2.2.2.2.2.2.1, s59.2.2.2.2.2.2.2.2.1, s59.2.2.2.2.2.2.2.2.2))))
noncomputable def game_checker_visit_b (game_checker_visit_r : Int → (List Int) → (List Int) → Int → Int → Int → (List T_api_Reply) → Int → (List Int) → Int → Option (Bool × (List Int) × Int × (List Int) × (List Int) × Int × Int × Int × (List T_api_Reply) × Int)) (c_0_n_All : Int) (c_0_n_By : (List Int)) (c_0_n_Out : (List Int)) (c_0_s_Game : Int) (c_0_s_Root : Int) (c_0_s_By : Int) (c_0_s_Replies : (List T_api_Reply)) (c_0_reached : Int) (c_0_state : (List Int)) (node_1 : Int) : Option (Bool × (List Int) × Int × (List Int) × (List Int) × Int × Int × Int × (List T_api_Reply) × Int) :=
 Option.bind (network_Set_With_m c_0_reached node_1) fun t3 =>
 Option.bind (idxM c_0_state node_1) fun t4 =>
 Option.bind (idxM c_0_n_By node_1) fun t33 =>
 Option.bind (network_Set_List_m t33) fun t34 =>
 Option.bind (loopC (game_checker_visit_l1 game_checker_visit_r t34) ((0, c_0_n_All, c_0_n_By, c_0_n_Out, c_0_s_Game, c_0_s_Root, c_0_s_By, c_0_s_Replies, t3, c_0_state.set (Int.toNat node_1) 1))) (sumK (fun a : Bool × (List Int) × Int × (List Int) × (List Int) × Int × Int × Int × (List T_api_Reply) × Int => some a) fun q71 : Int × (List Int) × (List Int) × Int × Int × Int × (List T_api_Reply) × Int × (List Int) =>
 Option.bind (idxM q71.2.2.2.2.2.2.2.2 node_1) fun t72 =>
 some ((true, q71.2.2.2.2.2.2.2.2.set (Int.toNat node_1) 2, q71.1, q71.2.1, q71.2.2.1, q71.2.2.2.1, q71.2.2.2.2.1, q71.2.2.2.2.2.1, q71.2.2.2.2.2.2.1, q71.2.2.2.2.2.2.2.1)))
noncomputable def game_checker_visit_n (n : Nat) : Int → (List Int) → (List Int) → Int → Int → Int → (List T_api_Reply) → Int → (List Int) → Int → Option (Bool × (List Int) × Int × (List Int) × (List Int) × Int × Int × Int × (List T_api_Reply) × Int) := Nat.rec (fun _ _ _ _ _ _ _ _ _ _ => none) (fun _ f => game_checker_visit_b f) n
noncomputable def game_checker_visit_m (c_0_n_All : Int) (c_0_n_By : (List Int)) (c_0_n_Out : (List Int)) (c_0_s_Game : Int) (c_0_s_Root : Int) (c_0_s_By : Int) (c_0_s_Replies : (List T_api_Reply)) (c_0_reached : Int) (c_0_state : (List Int)) (node_1 : Int) : Option (Bool × (List Int) × Int × (List Int) × (List Int) × Int × Int × Int × (List T_api_Reply) × Int) := limM (fun n (a : Int × (List Int) × (List Int) × Int × Int × Int × (List T_api_Reply) × Int × (List Int) × Int) => game_checker_visit_n n a.1 a.2.1 a.2.2.1 a.2.2.2.1 a.2.2.2.2.1 a.2.2.2.2.2.1 a.2.2.2.2.2.2.1 a.2.2.2.2.2.2.2.1 a.2.2.2.2.2.2.2.2.1 a.2.2.2.2.2.2.2.2.2) (c_0_n_All, c_0_n_By, c_0_n_Out, c_0_s_Game, c_0_s_Root, c_0_s_By, c_0_s_Replies, c_0_reached, c_0_state, node_1)
noncomputable def game_checker_visit_C : Con := game_checker_visit_C0.with (limM fun n (a : Int × (List Int) × (List Int) × Int × Int × Int × (List T_api_Reply) × Int × (List Int) × Int) => game_checker_visit_n n a.1 a.2.1 a.2.2.1 a.2.2.2.1 a.2.2.2.2.1 a.2.2.2.2.2.1 a.2.2.2.2.2.2.1 a.2.2.2.2.2.2.2.1 a.2.2.2.2.2.2.2.2.1 a.2.2.2.2.2.2.2.2.2)
def game_checker_visit_H : Hints := ⟨[(0, ⟨[], ⟨[(.int .i64), (.int .u64), (.sl (.int .u64)), (.sl (.int .u64)), (.int .i64), (.int .i64), (.int .i64), (.sl (.st 5)), (.int .u64), (.sl (.int .i64))], [(0, none), (1, none), (4, none), (32, none), (33, none), (34, some (false, [.d 0 0]))], [.cells [some (.d 1 0), some (.d 2 0), some (.d 3 0), some (.d 4 0), some (.d 5 0), some (.d 6 0), some (.d 7 0), some (.d 8 0), none], .data (.d 9 0), .keep], 0⟩, [], some ([], ⟨[(.int .u64), (.sl (.int .u64)), (.sl (.int .u64)), (.int .i64), (.int .i64), (.int .i64), (.sl (.st 5)), (.int .u64), (.sl (.int .i64))], [(0, none), (1, none), (4, none)], [.cells [some (.d 0 0), some (.d 1 0), some (.d 2 0), some (.d 3 0), some (.d 4 0), some (.d 5 0), some (.d 6 0), some (.d 7 0), none], .data (.d 8 0), .dead], 0⟩), true, none⟩)], [], [], [], []⟩
theorem game_checker_visit_okr {game_checker_visit_r : Int → (List Int) → (List Int) → Int → Int → Int → (List T_api_Reply) → Int → (List Int) → Int → Option (Bool × (List Int) × Int × (List Int) × (List Int) × Int × Int × Int × (List T_api_Reply) × Int)} (h_game_checker_visit_r : ConFn prog 69 (game_checker_visit_C0.with fun (a : Int × (List Int) × (List Int) × Int × Int × Int × (List T_api_Reply) × Int × (List Int) × Int) => game_checker_visit_r a.1 a.2.1 a.2.2.1 a.2.2.2.1 a.2.2.2.2.1 a.2.2.2.2.2.1 a.2.2.2.2.2.2.1 a.2.2.2.2.2.2.2.1 a.2.2.2.2.2.2.2.2.1 a.2.2.2.2.2.2.2.2.2)) : ConFn prog 69 (game_checker_visit_C0.with fun (a : Int × (List Int) × (List Int) × Int × Int × Int × (List T_api_Reply) × Int × (List Int) × Int) => game_checker_visit_b game_checker_visit_r a.1 a.2.1 a.2.2.1 a.2.2.2.1 a.2.2.2.2.1 a.2.2.2.2.2.1 a.2.2.2.2.2.2.1 a.2.2.2.2.2.2.2.1 a.2.2.2.2.2.2.2.2.1 a.2.2.2.2.2.2.2.2.2) := conFn_of (H := game_checker_visit_H) (fin := []) Tryz.func69 Tryz.call69 (tabL_ok (l := [(27, network_Set_With_C), (55, network_Set_List_C), (105, game_reply_C), (23, network_Set_Has_C), (69, (game_checker_visit_C0.with fun (a : Int × (List Int) × (List Int) × Int × Int × Int × (List T_api_Reply) × Int × (List Int) × Int) => game_checker_visit_r a.1 a.2.1 a.2.2.1 a.2.2.2.1 a.2.2.2.2.1 a.2.2.2.2.2.1 a.2.2.2.2.2.2.1 a.2.2.2.2.2.2.2.1 a.2.2.2.2.2.2.2.2.1 a.2.2.2.2.2.2.2.2.2))]) ⟨network_Set_With_ok, network_Set_List_ok, game_reply_ok, network_Set_Has_ok, h_game_checker_visit_r, trivial⟩) rfl rfl rfl (fun a => by kernel_rfl)
theorem game_checker_visit_ok : ConFn prog 69 game_checker_visit_C := conFn_rec (P := prog) (f := 69) (C := game_checker_visit_C0) (m := fun n (a : Int × (List Int) × (List Int) × Int × Int × Int × (List T_api_Reply) × Int × (List Int) × Int) => game_checker_visit_n n a.1 a.2.1 a.2.2.1 a.2.2.2.1 a.2.2.2.2.1 a.2.2.2.2.2.1 a.2.2.2.2.2.2.1 a.2.2.2.2.2.2.2.1 a.2.2.2.2.2.2.2.2.1 a.2.2.2.2.2.2.2.2.2) Tryz.call69 rfl (fun n h => game_checker_visit_okr h)

noncomputable def network_Net_Free_m (n_0 : T_network_Net) (s_1 : Int) : Option (Bool) :=
 Option.bind (network_Net_Hit_m n_0 s_1) fun t1 =>
 some ((iand .u64 t1 s_1 : Int) == 0)
noncomputable def network_Net_Free_C : Con := ⟨[(.st 3), (.int .u64)], [.bool], fun (a : T_network_Net × Int) => network_Net_Free_m a.1 a.2, [(true, [.d 0 0, .d 0 1, .d 0 2]), (false, [.d 1 0])], [], [(false, [.d 0 0])], [], 0, 0⟩
def network_Net_Free_H : Hints := ⟨[], [], [], [], []⟩
theorem network_Net_Free_ok : ConFn prog 59 network_Net_Free_C := conFn_of (H := network_Net_Free_H) (fin := []) Tryz.func59 Tryz.call59 (tabL_ok (l := [(54, network_Net_Hit_C)]) ⟨network_Net_Hit_ok, trivial⟩) rfl rfl rfl (fun a => by kernel_rfl)

def game_checker_resists_C0 : Con := ⟨[(.int .u64), (.sl (.int .u64)), (.sl (.int .u64)), (.int .i64), (.int .i64), (.int .i64), (.sl (.st 5)), (.int .u64), (.sl (.int .i64)), (.int .i64)], [.bool, (.int .u64), (.sl (.int .u64)), (.sl (.int .u64)), (.int .i64), (.int .i64), (.int .i64), (.sl (.st 5)), (.int .u64)], fun _ => none, [(false, [.ptr 0]), (false, [.d 9 0])], [.oc 0 [.d 0 0, .d 1 0, .d 2 0, .d 3 0, .d 4 0, .d 5 0, .d 6 0, .d 7 0, .own 1], .oa 1 (.d 8 0)], [(false, [.d 0 0])], [.oc 0 [.d 1 0, .d 2 0, .d 3 0, .d 4 0, .d 5 0, .d 6 0, .d 7 0, .d 8 0, .own 1], .same], 2, 2⟩
noncomputable def game_checker_resists_l1 (c_0_state : (List Int)) (t8 : ((List Int))) (game_checker_resists_r : Int → (List Int) → (List Int) → Int → Int → Int → (List T_api_Reply) → Int → (List Int) → Int → Option (Bool × Int × (List Int) × (List Int) × Int × Int × Int × (List T_api_Reply) × Int)) (s17 : Int × Int × (List Int) × (List Int) × Int × Int × Int × (List T_api_Reply) × Int) : Option (Sum (Sum (Bool × Int × (List Int) × (List Int) × Int × Int × Int × (List T_api_Reply) × Int) (Int × (List Int) × (List Int) × Int × Int × Int × (List T_api_Reply) × Int)) (Int × Int × (List Int) × (List Int) × Int × Int × Int × (List T_api_Reply) × Int)) :=
 bif decide (s17.1 < ((t8.length : Int))) then
 Option.bind (idxM t8 s17.1) fun t18 =>
 Option.bind (network_Set_Has_m s17.2.2.2.2.2.2.2.2 t18) fun t19 =>
 bif !t19 then
 Option.bind (game_checker_resists_r s17.2.1 s17.2.2.1 s17.2.2.2.1 s17.2.2.2.2.1 s17.2.2.2.2.2.1 s17.2.2.2.2.2.2.1 s17.2.2.2.2.2.2.2.1 s17.2.2.2.2.2.2.2.2 c_0_state t18) fun t20 =>
 bif !t20.1 then
 some (Sum.inl (Sum.inl ((false, t20.2.1, t20.2.2.1, t20.2.2.2.1, t20.2.2.2.2.1, t20.2.2.2.2.2.1, t20.2.2.2.2.2.2.1, t20.2.2.2.2.2.2.2.1, t20.2.2.2.2.2.2.2.2))))
 else
 some (Sum.inr ((iadd .i64 s17.1 1, t20.2.1, t20.2.2.1, t20.2.2.2.1, t20.2.2.2.2.1, t20.2.2.2.2.2.1, t20.2.2.2.2.2.2.1, t20.2.2.2.2.2.2.2.1, t20.2.2.2.2.2.2.2.2)))
 else
 some (Sum.inr ((iadd .i64 s17.1 1, s17.2.1, s17.2.2.1, s17.2.2.2.1, s17.2.2.2.2.1, s17.2.2.2.2.2.1, s17.2.2.2.2.2.2.1, s17.2.2.2.2.2.2.2.1, s17.2.2.2.2.2.2.2.2)))
 else
 some (Sum.inl (Sum.inr ((s17.2.1, s17.2.2.1, s17.2.2.2.1, s17.2.2.2.2.1, s17.2.2.2.2.2.1, s17.2.2.2.2.2.2.1, s17.2.2.2.2.2.2.2.1, s17.2.2.2.2.2.2.2.2))))
noncomputable def game_checker_resists_b (game_checker_resists_r : Int → (List Int) → (List Int) → Int → Int → Int → (List T_api_Reply) → Int → (List Int) → Int → Option (Bool × Int × (List Int) × (List Int) × Int × Int × Int × (List T_api_Reply) × Int)) (c_0_n_All : Int) (c_0_n_By : (List Int)) (c_0_n_Out : (List Int)) (c_0_s_Game : Int) (c_0_s_Root : Int) (c_0_s_By : Int) (c_0_s_Replies : (List T_api_Reply)) (c_0_reached : Int) (c_0_state : (List Int)) (node_1 : Int) : Option (Bool × Int × (List Int) × (List Int) × Int × Int × Int × (List T_api_Reply) × Int) :=
 Option.bind (network_Set_With_m c_0_reached node_1) fun t1 =>
 Option.bind (game_reply_m ((T_api_Strategy.mk c_0_s_Game c_0_s_Root c_0_s_By c_0_s_Replies)) node_1) fun t2 =>
 bif !t2.2 then
 some ((false, c_0_n_All, c_0_n_By, c_0_n_Out, c_0_s_Game, c_0_s_Root, c_0_s_By, c_0_s_Replies, t1))
 else
 Option.bind (idxM c_0_n_By node_1) fun t5 =>
 Option.bind (network_Set_Has_m t5 t2.1) fun t6 =>
 bif !t6 then
 some ((false, c_0_n_All, c_0_n_By, c_0_n_Out, c_0_s_Game, c_0_s_Root, c_0_s_By, c_0_s_Replies, t1))
 else
 Option.bind (idxM c_0_n_By t2.1) fun t7 =>
 Option.bind (network_Set_List_m t7) fun t8 =>
 Option.bind (loopC (game_checker_resists_l1 c_0_state t8 game_checker_resists_r) ((0, c_0_n_All, c_0_n_By, c_0_n_Out, c_0_s_Game, c_0_s_Root, c_0_s_By, c_0_s_Replies, t1))) (sumK (fun a : Bool × Int × (List Int) × (List Int) × Int × Int × Int × (List T_api_Reply) × Int => some a) fun q21 : Int × (List Int) × (List Int) × Int × Int × Int × (List T_api_Reply) × Int =>
 some ((true, q21.1, q21.2.1, q21.2.2.1, q21.2.2.2.1, q21.2.2.2.2.1, q21.2.2.2.2.2.1, q21.2.2.2.2.2.2.1, q21.2.2.2.2.2.2.2)))
noncomputable def game_checker_resists_n (n : Nat) : Int → (List Int) → (List Int) → Int → Int → Int → (List T_api_Reply) → Int → (List Int) → Int → Option (Bool × Int × (List Int) × (List Int) × Int × Int × Int × (List T_api_Reply) × Int) := Nat.rec (fun _ _ _ _ _ _ _ _ _ _ => none) (fun _ f => game_checker_resists_b f) n
noncomputable def game_checker_resists_m (c_0_n_All : Int) (c_0_n_By : (List Int)) (c_0_n_Out : (List Int)) (c_0_s_Game : Int) (c_0_s_Root : Int) (c_0_s_By : Int) (c_0_s_Replies : (List T_api_Reply)) (c_0_reached : Int) (c_0_state : (List Int)) (node_1 : Int) : Option (Bool × Int × (List Int) × (List Int) × Int × Int × Int × (List T_api_Reply) × Int) := limM (fun n (a : Int × (List Int) × (List Int) × Int × Int × Int × (List T_api_Reply) × Int × (List Int) × Int) => game_checker_resists_n n a.1 a.2.1 a.2.2.1 a.2.2.2.1 a.2.2.2.2.1 a.2.2.2.2.2.1 a.2.2.2.2.2.2.1 a.2.2.2.2.2.2.2.1 a.2.2.2.2.2.2.2.2.1 a.2.2.2.2.2.2.2.2.2) (c_0_n_All, c_0_n_By, c_0_n_Out, c_0_s_Game, c_0_s_Root, c_0_s_By, c_0_s_Replies, c_0_reached, c_0_state, node_1)
noncomputable def game_checker_resists_C : Con := game_checker_resists_C0.with (limM fun n (a : Int × (List Int) × (List Int) × Int × Int × Int × (List T_api_Reply) × Int × (List Int) × Int) => game_checker_resists_n n a.1 a.2.1 a.2.2.1 a.2.2.2.1 a.2.2.2.2.1 a.2.2.2.2.2.1 a.2.2.2.2.2.2.1 a.2.2.2.2.2.2.2.1 a.2.2.2.2.2.2.2.2.1 a.2.2.2.2.2.2.2.2.2)
def game_checker_resists_H : Hints := ⟨[(0, ⟨[], ⟨[(.int .i64), (.int .u64), (.sl (.int .u64)), (.sl (.int .u64)), (.int .i64), (.int .i64), (.int .i64), (.sl (.st 5)), (.int .u64)], [(0, none), (4, none), (50, none), (51, none), (52, some (false, [.d 0 0]))], [.cells [some (.d 1 0), some (.d 2 0), some (.d 3 0), some (.d 4 0), some (.d 5 0), some (.d 6 0), some (.d 7 0), some (.d 8 0), none], .keep, .keep], 0⟩, [], some ([], ⟨[(.int .u64), (.sl (.int .u64)), (.sl (.int .u64)), (.int .i64), (.int .i64), (.int .i64), (.sl (.st 5)), (.int .u64)], [(0, none), (4, none)], [.cells [some (.d 0 0), some (.d 1 0), some (.d 2 0), some (.d 3 0), some (.d 4 0), some (.d 5 0), some (.d 6 0), some (.d 7 0), none], .keep, .dead], 0⟩), true, none⟩)], [], [], [], []⟩
theorem game_checker_resists_okr {game_checker_resists_r : Int → (List Int) → (List Int) → Int → Int → Int → (List T_api_Reply) → Int → (List Int) → Int → Option (Bool × Int × (List Int) × (List Int) × Int × Int × Int × (List T_api_Reply) × Int)} (h_game_checker_resists_r : ConFn prog 70 (game_checker_resists_C0.with fun (a : Int × (List Int) × (List Int) × Int × Int × Int × (List T_api_Reply) × Int × (List Int) × Int) => game_checker_resists_r a.1 a.2.1 a.2.2.1 a.2.2.2.1 a.2.2.2.2.1 a.2.2.2.2.2.1 a.2.2.2.2.2.2.1 a.2.2.2.2.2.2.2.1 a.2.2.2.2.2.2.2.2.1 a.2.2.2.2.2.2.2.2.2)) : ConFn prog 70 (game_checker_resists_C0.with fun (a : Int × (List Int) × (List Int) × Int × Int × Int × (List T_api_Reply) × Int × (List Int) × Int) => game_checker_resists_b game_checker_resists_r a.1 a.2.1 a.2.2.1 a.2.2.2.1 a.2.2.2.2.1 a.2.2.2.2.2.1 a.2.2.2.2.2.2.1 a.2.2.2.2.2.2.2.1 a.2.2.2.2.2.2.2.2.1 a.2.2.2.2.2.2.2.2.2) := conFn_of (H := game_checker_resists_H) (fin := []) Tryz.func70 Tryz.call70 (tabL_ok (l := [(27, network_Set_With_C), (105, game_reply_C), (23, network_Set_Has_C), (55, network_Set_List_C), (70, (game_checker_resists_C0.with fun (a : Int × (List Int) × (List Int) × Int × Int × Int × (List T_api_Reply) × Int × (List Int) × Int) => game_checker_resists_r a.1 a.2.1 a.2.2.1 a.2.2.2.1 a.2.2.2.2.1 a.2.2.2.2.2.1 a.2.2.2.2.2.2.1 a.2.2.2.2.2.2.2.1 a.2.2.2.2.2.2.2.2.1 a.2.2.2.2.2.2.2.2.2))]) ⟨network_Set_With_ok, game_reply_ok, network_Set_Has_ok, network_Set_List_ok, h_game_checker_resists_r, trivial⟩) rfl rfl rfl (fun a => by kernel_rfl)
theorem game_checker_resists_ok : ConFn prog 70 game_checker_resists_C := conFn_rec (P := prog) (f := 70) (C := game_checker_resists_C0) (m := fun n (a : Int × (List Int) × (List Int) × Int × Int × Int × (List T_api_Reply) × Int × (List Int) × Int) => game_checker_resists_n n a.1 a.2.1 a.2.2.1 a.2.2.2.1 a.2.2.2.2.1 a.2.2.2.2.2.1 a.2.2.2.2.2.2.1 a.2.2.2.2.2.2.2.1 a.2.2.2.2.2.2.2.2.1 a.2.2.2.2.2.2.2.2.2) Tryz.call70 rfl (fun n h => game_checker_resists_okr h)

noncomputable def math_bits_OnesCount64_m (x_0 : Int) : Option (Int) :=
 some (iand .i64 (IntKind.wrap .i64 (iadd .u64 (iadd .u64 (iadd .u64 (iand .u64 (iadd .u64 (ishr .u64 (iadd .u64 (iand .u64 (ishr .u64 (iadd .u64 (iand .u64 (ishr .u64 x_0 1) 6148914691236517205) (iand .u64 x_0 6148914691236517205)) 2) 3689348814741910323) (iand .u64 (iadd .u64 (iand .u64 (ishr .u64 x_0 1) 6148914691236517205) (iand .u64 x_0 6148914691236517205)) 3689348814741910323)) 4) (iadd .u64 (iand .u64 (ishr .u64 (iadd .u64 (iand .u64 (ishr .u64 x_0 1) 6148914691236517205) (iand .u64 x_0 6148914691236517205)) 2) 3689348814741910323) (iand .u64 (iadd .u64 (iand .u64 (ishr .u64 x_0 1) 6148914691236517205) (iand .u64 x_0 6148914691236517205)) 3689348814741910323))) 1085102592571150095) (ishr .u64 (iand .u64 (iadd .u64 (ishr .u64 (iadd .u64 (iand .u64 (ishr .u64 (iadd .u64 (iand .u64 (ishr .u64 x_0 1) 6148914691236517205) (iand .u64 x_0 6148914691236517205)) 2) 3689348814741910323) (iand .u64 (iadd .u64 (iand .u64 (ishr .u64 x_0 1) 6148914691236517205) (iand .u64 x_0 6148914691236517205)) 3689348814741910323)) 4) (iadd .u64 (iand .u64 (ishr .u64 (iadd .u64 (iand .u64 (ishr .u64 x_0 1) 6148914691236517205) (iand .u64 x_0 6148914691236517205)) 2) 3689348814741910323) (iand .u64 (iadd .u64 (iand .u64 (ishr .u64 x_0 1) 6148914691236517205) (iand .u64 x_0 6148914691236517205)) 3689348814741910323))) 1085102592571150095) 8)) (ishr .u64 (iadd .u64 (iand .u64 (iadd .u64 (ishr .u64 (iadd .u64 (iand .u64 (ishr .u64 (iadd .u64 (iand .u64 (ishr .u64 x_0 1) 6148914691236517205) (iand .u64 x_0 6148914691236517205)) 2) 3689348814741910323) (iand .u64 (iadd .u64 (iand .u64 (ishr .u64 x_0 1) 6148914691236517205) (iand .u64 x_0 6148914691236517205)) 3689348814741910323)) 4) (iadd .u64 (iand .u64 (ishr .u64 (iadd .u64 (iand .u64 (ishr .u64 x_0 1) 6148914691236517205) (iand .u64 x_0 6148914691236517205)) 2) 3689348814741910323) (iand .u64 (iadd .u64 (iand .u64 (ishr .u64 x_0 1) 6148914691236517205) (iand .u64 x_0 6148914691236517205)) 3689348814741910323))) 1085102592571150095) (ishr .u64 (iand .u64 (iadd .u64 (ishr .u64 (iadd .u64 (iand .u64 (ishr .u64 (iadd .u64 (iand .u64 (ishr .u64 x_0 1) 6148914691236517205) (iand .u64 x_0 6148914691236517205)) 2) 3689348814741910323) (iand .u64 (iadd .u64 (iand .u64 (ishr .u64 x_0 1) 6148914691236517205) (iand .u64 x_0 6148914691236517205)) 3689348814741910323)) 4) (iadd .u64 (iand .u64 (ishr .u64 (iadd .u64 (iand .u64 (ishr .u64 x_0 1) 6148914691236517205) (iand .u64 x_0 6148914691236517205)) 2) 3689348814741910323) (iand .u64 (iadd .u64 (iand .u64 (ishr .u64 x_0 1) 6148914691236517205) (iand .u64 x_0 6148914691236517205)) 3689348814741910323))) 1085102592571150095) 8)) 16)) (ishr .u64 (iadd .u64 (iadd .u64 (iand .u64 (iadd .u64 (ishr .u64 (iadd .u64 (iand .u64 (ishr .u64 (iadd .u64 (iand .u64 (ishr .u64 x_0 1) 6148914691236517205) (iand .u64 x_0 6148914691236517205)) 2) 3689348814741910323) (iand .u64 (iadd .u64 (iand .u64 (ishr .u64 x_0 1) 6148914691236517205) (iand .u64 x_0 6148914691236517205)) 3689348814741910323)) 4) (iadd .u64 (iand .u64 (ishr .u64 (iadd .u64 (iand .u64 (ishr .u64 x_0 1) 6148914691236517205) (iand .u64 x_0 6148914691236517205)) 2) 3689348814741910323) (iand .u64 (iadd .u64 (iand .u64 (ishr .u64 x_0 1) 6148914691236517205) (iand .u64 x_0 6148914691236517205)) 3689348814741910323))) 1085102592571150095) (ishr .u64 (iand .u64 (iadd .u64 (ishr .u64 (iadd .u64 (iand .u64 (ishr .u64 (iadd .u64 (iand .u64 (ishr .u64 x_0 1) 6148914691236517205) (iand .u64 x_0 6148914691236517205)) 2) 3689348814741910323) (iand .u64 (iadd .u64 (iand .u64 (ishr .u64 x_0 1) 6148914691236517205) (iand .u64 x_0 6148914691236517205)) 3689348814741910323)) 4) (iadd .u64 (iand .u64 (ishr .u64 (iadd .u64 (iand .u64 (ishr .u64 x_0 1) 6148914691236517205) (iand .u64 x_0 6148914691236517205)) 2) 3689348814741910323) (iand .u64 (iadd .u64 (iand .u64 (ishr .u64 x_0 1) 6148914691236517205) (iand .u64 x_0 6148914691236517205)) 3689348814741910323))) 1085102592571150095) 8)) (ishr .u64 (iadd .u64 (iand .u64 (iadd .u64 (ishr .u64 (iadd .u64 (iand .u64 (ishr .u64 (iadd .u64 (iand .u64 (ishr .u64 x_0 1) 6148914691236517205) (iand .u64 x_0 6148914691236517205)) 2) 3689348814741910323) (iand .u64 (iadd .u64 (iand .u64 (ishr .u64 x_0 1) 6148914691236517205) (iand .u64 x_0 6148914691236517205)) 3689348814741910323)) 4) (iadd .u64 (iand .u64 (ishr .u64 (iadd .u64 (iand .u64 (ishr .u64 x_0 1) 6148914691236517205) (iand .u64 x_0 6148914691236517205)) 2) 3689348814741910323) (iand .u64 (iadd .u64 (iand .u64 (ishr .u64 x_0 1) 6148914691236517205) (iand .u64 x_0 6148914691236517205)) 3689348814741910323))) 1085102592571150095) (ishr .u64 (iand .u64 (iadd .u64 (ishr .u64 (iadd .u64 (iand .u64 (ishr .u64 (iadd .u64 (iand .u64 (ishr .u64 x_0 1) 6148914691236517205) (iand .u64 x_0 6148914691236517205)) 2) 3689348814741910323) (iand .u64 (iadd .u64 (iand .u64 (ishr .u64 x_0 1) 6148914691236517205) (iand .u64 x_0 6148914691236517205)) 3689348814741910323)) 4) (iadd .u64 (iand .u64 (ishr .u64 (iadd .u64 (iand .u64 (ishr .u64 x_0 1) 6148914691236517205) (iand .u64 x_0 6148914691236517205)) 2) 3689348814741910323) (iand .u64 (iadd .u64 (iand .u64 (ishr .u64 x_0 1) 6148914691236517205) (iand .u64 x_0 6148914691236517205)) 3689348814741910323))) 1085102592571150095) 8)) 16)) 32))) 127)
noncomputable def math_bits_OnesCount64_C : Con := ⟨[(.int .u64)], [(.int .i64)], fun (a : Int) => math_bits_OnesCount64_m a, [(false, [.d 0 0])], [], [(false, [.d 0 0])], [], 0, 0⟩
def math_bits_OnesCount64_H : Hints := ⟨[], [], [], [], []⟩
theorem math_bits_OnesCount64_ok [DrawMode] : ConFn prog 106 math_bits_OnesCount64_C := conFn_of (H := math_bits_OnesCount64_H) (fin := []) Tryz.func106 Tryz.call106 (tabL_ok (l := []) trivial) rfl rfl rfl (fun a => by kernel_rfl)

noncomputable def network_Set_Size_m (s_0 : Int) : Option (Int) :=
 Option.bind (math_bits_OnesCount64_m s_0) fun t1 =>
 some t1
noncomputable def network_Set_Size_C : Con := ⟨[(.int .u64)], [(.int .i64)], fun (a : Int) => network_Set_Size_m a, [(false, [.d 0 0])], [], [(false, [.d 0 0])], [], 0, 0⟩
def network_Set_Size_H : Hints := ⟨[], [], [], [], []⟩
theorem network_Set_Size_ok [DrawMode] : ConFn prog 71 network_Set_Size_C := conFn_of (H := network_Set_Size_H) (fin := []) Tryz.func71 Tryz.call71 (tabL_ok (l := [(106, math_bits_OnesCount64_C)]) ⟨math_bits_OnesCount64_ok, trivial⟩) rfl rfl rfl (fun a => by kernel_rfl)

noncomputable def game_checker_wins_m (c_0_n_All : Int) (c_0_n_By : (List Int)) (c_0_n_Out : (List Int)) (c_0_s_Game : Int) (c_0_s_Root : Int) (c_0_s_By : Int) (c_0_s_Replies : (List T_api_Reply)) (c_0_reached : Int) (c_0_state : (List Int)) : Option (Bool × (List Int) × Int × (List Int) × (List Int) × Int × Int × Int × (List T_api_Reply) × Int) :=
 bif (c_0_s_By : Int) == 1 then
 Option.bind (game_checker_visit_m c_0_n_All c_0_n_By c_0_n_Out c_0_s_Game c_0_s_Root c_0_s_By c_0_s_Replies c_0_reached c_0_state c_0_s_Root) fun t5 =>
 bif t5.1 then
 bif (t5.2.2.2.2.2.1 : Int) == 1 then
 some ((true, t5.2.1, t5.2.2.1, t5.2.2.2.1, t5.2.2.2.2.1, t5.2.2.2.2.2.1, t5.2.2.2.2.2.2.1, t5.2.2.2.2.2.2.2.1, t5.2.2.2.2.2.2.2.2.1, t5.2.2.2.2.2.2.2.2.2))
 else
 Option.bind (network_Net_Free_m ((T_network_Net.mk t5.2.2.1 t5.2.2.2.1 t5.2.2.2.2.1)) t5.2.2.2.2.2.2.2.2.2) fun t6 =>
 some ((t6, t5.2.1, t5.2.2.1, t5.2.2.2.1, t5.2.2.2.2.1, t5.2.2.2.2.2.1, t5.2.2.2.2.2.2.1, t5.2.2.2.2.2.2.2.1, t5.2.2.2.2.2.2.2.2.1, t5.2.2.2.2.2.2.2.2.2))
 else
 some ((false, t5.2.1, t5.2.2.1, t5.2.2.2.1, t5.2.2.2.2.1, t5.2.2.2.2.2.1, t5.2.2.2.2.2.2.1, t5.2.2.2.2.2.2.2.1, t5.2.2.2.2.2.2.2.2.1, t5.2.2.2.2.2.2.2.2.2))
 else
 bif (c_0_s_Game : Int) == 1 then
 Option.bind (game_checker_resists_m c_0_n_All c_0_n_By c_0_n_Out c_0_s_Game c_0_s_Root c_0_s_By c_0_s_Replies c_0_reached c_0_state c_0_s_Root) fun t7 =>
 some ((t7.1, c_0_state, t7.2.1, t7.2.2.1, t7.2.2.2.1, t7.2.2.2.2.1, t7.2.2.2.2.2.1, t7.2.2.2.2.2.2.1, t7.2.2.2.2.2.2.2.1, t7.2.2.2.2.2.2.2.2))
 else
 Option.bind (network_Set_Size_m c_0_n_All) fun t8 =>
 bif decide (t8 > 10) then
 some ((false, c_0_state, c_0_n_All, c_0_n_By, c_0_n_Out, c_0_s_Game, c_0_s_Root, c_0_s_By, c_0_s_Replies, c_0_reached))
 else
 bif decide (((c_0_s_Replies.length : Int)) > 0) then
 some ((false, c_0_state, c_0_n_All, c_0_n_By, c_0_n_Out, c_0_s_Game, c_0_s_Root, c_0_s_By, c_0_s_Replies, c_0_reached))
 else
 Option.bind (network_Set_With_m 0 c_0_s_Root) fun t9 =>
 Option.bind (game_search_m ((T_network_Net.mk c_0_n_All c_0_n_By c_0_n_Out)) t9) fun t10 =>
 some ((!t10.2, c_0_state, c_0_n_All, c_0_n_By, c_0_n_Out, c_0_s_Game, c_0_s_Root, c_0_s_By, c_0_s_Replies, c_0_reached))
noncomputable def game_checker_wins_C : Con := ⟨[(.int .u64), (.sl (.int .u64)), (.sl (.int .u64)), (.int .i64), (.int .i64), (.int .i64), (.sl (.st 5)), (.int .u64), (.sl (.int .i64))], [.bool, (.sl (.int .i64)), (.int .u64), (.sl (.int .u64)), (.sl (.int .u64)), (.int .i64), (.int .i64), (.int .i64), (.sl (.st 5)), (.int .u64)], fun (a : Int × (List Int) × (List Int) × Int × Int × Int × (List T_api_Reply) × Int × (List Int)) => game_checker_wins_m a.1 a.2.1 a.2.2.1 a.2.2.2.1 a.2.2.2.2.1 a.2.2.2.2.2.1 a.2.2.2.2.2.2.1 a.2.2.2.2.2.2.2.1 a.2.2.2.2.2.2.2.2, [(false, [.ptr 0])], [.oc 0 [.d 0 0, .d 1 0, .d 2 0, .d 3 0, .d 4 0, .d 5 0, .d 6 0, .d 7 0, .own 1], .oa 1 (.d 8 0)], [(false, [.d 0 0])], [.oc 0 [.d 2 0, .d 3 0, .d 4 0, .d 5 0, .d 6 0, .d 7 0, .d 8 0, .d 9 0, .own 1], .oa 1 (.d 1 0)], 2, 2⟩
def game_checker_wins_H : Hints := ⟨[], [], [], [], []⟩
theorem game_checker_wins_ok : ConFn prog 37 game_checker_wins_C := conFn_of (H := game_checker_wins_H) (fin := []) Tryz.func37 Tryz.call37 (tabL_ok (l := [(69, game_checker_visit_C), (59, network_Net_Free_C), (70, game_checker_resists_C), (71, network_Set_Size_C), (27, network_Set_With_C), (26, game_search_C)]) ⟨game_checker_visit_ok, network_Net_Free_ok, game_checker_resists_ok, network_Set_Size_ok, network_Set_With_ok, game_search_ok, trivial⟩) rfl rfl rfl (fun a => by kernel_rfl)

noncomputable def game_Check_l1 (g_0 : T_api_Graph) (s_1 : T_api_Strategy) (s26 : Int) : Option (Sum (Sum (Int) (Unit)) (Int)) :=
 bif decide (s26 < ((s_1.Replies.length : Int))) then
 Option.bind (idxM s_1.Replies s26) fun t27 =>
 Option.bind (game_Check_1_m t27.To g_0.N g_0.L) fun t28 =>
 bif !t28 then
 some (Sum.inl (Sum.inl 1))
 else
 Option.bind (game_Check_1_m t27.Node g_0.N g_0.L) fun t29 =>
 bif !t29 then
 some (Sum.inl (Sum.inl 1))
 else
 some (Sum.inr (iadd .i64 s26 1))
 else
 some (Sum.inl (Sum.inr (())))
noncomputable def game_Check_l2 (s_1 : T_api_Strategy) (s45 : Int) : Option (Sum (Sum (Int) (Unit)) (Int)) :=
 bif decide (s45 < ((s_1.Replies.length : Int))) then
 Option.bind (idxM s_1.Replies s45) fun t46 =>
 Option.bind (idxM s_1.Replies (isub .i64 s45 1)) fun t47 =>
 bif decide (t46.To ≤ t47.To) then
 some (Sum.inl (Sum.inl 8))
 else
 some (Sum.inr (iadd .i64 s45 1))
 else
 some (Sum.inl (Sum.inr (())))
noncomputable def game_Check_m (g_0 : T_api_Graph) (s_1 : T_api_Strategy) : Option (Int) :=
 Option.bind (graph_Validate_m g_0) fun e2 =>
 bif (e2 : Int) != 0 then
 some e2
 else
 joinM (fun j5 : Unit =>
 Option.bind (game_Check_1_m s_1.Root g_0.N g_0.L) fun t7 =>
 bif !t7 then
 some 1
 else
 Option.bind (loopC (game_Check_l1 g_0 s_1) 0) (sumK (fun a : Int => some a) fun q30 : Unit =>
 Option.bind (loopC (game_Check_l2 s_1) 1) (sumK (fun a : Int => some a) fun q48 : Unit =>
 joinM (fun j54 : Int × (List Int) × (List Int) × Int × Int × Int × (List T_api_Reply) × (List Int) =>
 Option.bind (game_checker_wins_m j54.1 j54.2.1 j54.2.2.1 j54.2.2.2.1 j54.2.2.2.2.1 j54.2.2.2.2.2.1 j54.2.2.2.2.2.2.1 0 j54.2.2.2.2.2.2.2) fun t55 =>
 bif !t55.1 then
 some 11
 else
 some 0) fun k53 =>
 meetO (
 Option.bind (network_New_m g_0) fun t56 =>
 Option.bind (mkM 8 0 g_0.N) fun t57 =>
 k53 ((t56.All, t56.By, t56.Out, s_1.Game, s_1.Root, s_1.By, s_1.Replies, t57))) (
 Option.bind (mkM 8 0 g_0.N) fun t58 =>
 Option.bind (network_New_m g_0) fun t59 =>
 k53 ((t59.All, t59.By, t59.Out, s_1.Game, s_1.Root, s_1.By, s_1.Replies, t58)))))) fun k4 =>
 Option.bind (game_exists_m s_1.Game) fun t60 =>
 bif !t60 then
 some 4
 else
 bif (s_1.By : Int) != 1 then
 bif (s_1.By : Int) != 2 then
 some 4
 else
 k4 (())
 else
 k4 (())
noncomputable def game_Check_C : Con := ⟨[(.st 2), (.st 6)], [(.int .i64)], fun (a : T_api_Graph × T_api_Strategy) => game_Check_m a.1 a.2, [(true, [.d 0 0, .d 0 1]), (true, [.d 1 0, .d 1 1, .d 1 2, .d 1 3])], [], [(false, [.d 0 0])], [], 0, 0⟩
def game_Check_H : Hints := ⟨[(0, ⟨[], ⟨[(.int .i64)], [(2, none), (3, none), (4, none), (6, none), (37, none), (38, none), (39, some (false, [.d 0 0]))], [.keep, .keep], 0⟩, [], some ([], ⟨[], [(2, none), (3, none), (4, none)], [.keep, .keep], 0⟩), true, none⟩), (2, ⟨[], ⟨[(.int .i64)], [(2, none), (3, none), (4, none), (9, some (false, [.d 0 0]))], [.keep, .keep], 0⟩, [], some ([], ⟨[], [(2, none), (3, none), (4, none)], [.keep, .keep], 0⟩), true, none⟩)], [(16, ([], ⟨[], [(2, none), (3, none), (4, none), (6, none)], [.keep, .keep], 0⟩)), (44, ([], ⟨[(.int .u64), (.sl (.int .u64)), (.sl (.int .u64)), (.int .i64), (.int .i64), (.int .i64), (.sl (.st 5)), (.sl (.int .i64))], [(4, none), (10, some (false, [.ptr 2]))], [.dead, .dead, .ocN 0 [.d 0 0, .d 1 0, .d 2 0, .d 3 0, .d 4 0, .d 5 0, .d 6 0, .fx (.ci .u64 0), .own 3], .oaN 1 (.d 7 0)], 2⟩))], [], [], []⟩
theorem game_Check_ok : ConFn prog 11 game_Check_C := conFn_of (H := game_Check_H) (fin := []) Tryz.func11 Tryz.call11 (tabL_ok (l := [(16, graph_Validate_C), (24, game_exists_C), (36, game_Check_1_C), (19, network_New_C), (37, game_checker_wins_C)]) ⟨graph_Validate_ok, game_exists_ok, game_Check_1_ok, network_New_ok, game_checker_wins_ok, trivial⟩) rfl rfl rfl (fun a => by kernel_rfl)

noncomputable def labelling_Valid_1_m (x_0 : Int) : Option (Bool) :=
 bif (x_0 : Int) != 1 then
 bif (x_0 : Int) != 2 then
 some ((x_0 : Int) != 3)
 else
 some false
 else
 some false
noncomputable def labelling_Valid_1_C : Con := ⟨[(.int .i64)], [.bool], fun (a : Int) => labelling_Valid_1_m a, [(false, [.d 0 0])], [], [(false, [.d 0 0])], [], 0, 0⟩
def labelling_Valid_1_H : Hints := ⟨[], [], [], [], []⟩
theorem labelling_Valid_1_ok [DrawMode] : ConFn prog 144 labelling_Valid_1_C := conFn_of (H := labelling_Valid_1_H) (fin := []) Tryz.func144 Tryz.call144 (tabL_ok (l := []) trivial) rfl rfl rfl (fun a => by kernel_rfl)

noncomputable def slices_IndexFunc_int_int_s1_l1 (s_0 : (List Int)) (s7 : Int) : Option (Sum (Sum (Int) (Unit)) (Int)) :=
 bif decide (s7 < ((s_0.length : Int))) then
 Option.bind (idxM s_0 s7) fun t8 =>
 Option.bind (labelling_Valid_1_m t8) fun t9 =>
 bif t9 then
 some (Sum.inl (Sum.inl s7))
 else
 some (Sum.inr (iadd .i64 s7 1))
 else
 some (Sum.inl (Sum.inr (())))
noncomputable def slices_IndexFunc_int_int_s1_m (s_0 : (List Int)) : Option (Int) :=
 Option.bind (loopC (slices_IndexFunc_int_int_s1_l1 s_0) 0) (sumK (fun a : Int => some a) fun q10 : Unit =>
 some ((-1)))
noncomputable def slices_IndexFunc_int_int_s1_C : Con := ⟨[(.sl (.int .i64))], [(.int .i64)], fun (a : (List Int)) => slices_IndexFunc_int_int_s1_m a, [(false, [.d 0 0]), (false, [.fn 144 []])], [], [(false, [.d 0 0])], [], 0, 0⟩
def slices_IndexFunc_int_int_s1_H : Hints := ⟨[(0, ⟨[], ⟨[(.int .i64)], [(0, none), (1, none), (4, none), (7, none), (8, some (false, [.d 0 0]))], [], 0⟩, [], some ([], ⟨[], [(1, none), (4, none)], [], 0⟩), true, none⟩)], [], [], [], []⟩
theorem slices_IndexFunc_int_int_s1_ok [DrawMode] : ConFn prog 92 slices_IndexFunc_int_int_s1_C := conFn_of (H := slices_IndexFunc_int_int_s1_H) (fin := []) Tryz.func92 Tryz.call92 (tabL_ok (l := [(144, labelling_Valid_1_C)]) ⟨labelling_Valid_1_ok, trivial⟩) rfl rfl rfl (fun a => by kernel_rfl)

noncomputable def slices_ContainsFunc_int_int_s1_m (s_0 : (List Int)) : Option (Bool) :=
 Option.bind (slices_IndexFunc_int_int_s1_m s_0) fun t1 =>
 some (decide (t1 ≥ 0))
noncomputable def slices_ContainsFunc_int_int_s1_C : Con := ⟨[(.sl (.int .i64))], [.bool], fun (a : (List Int)) => slices_ContainsFunc_int_int_s1_m a, [(false, [.d 0 0]), (false, [.fn 144 []])], [], [(false, [.d 0 0])], [], 0, 0⟩
def slices_ContainsFunc_int_int_s1_H : Hints := ⟨[], [], [], [], []⟩
theorem slices_ContainsFunc_int_int_s1_ok [DrawMode] : ConFn prog 49 slices_ContainsFunc_int_int_s1_C := conFn_of (H := slices_ContainsFunc_int_int_s1_H) (fin := []) Tryz.func49 Tryz.call49 (tabL_ok (l := [(92, slices_IndexFunc_int_int_s1_C)]) ⟨slices_IndexFunc_int_int_s1_ok, trivial⟩) rfl rfl rfl (fun a => by kernel_rfl)

noncomputable def labelling_Valid_m (g_0 : T_api_Graph) (l_1 : (List Int)) : Option (Bool) :=
 bif ((l_1.length : Int) : Int) == g_0.N then
 Option.bind (slices_ContainsFunc_int_int_s1_m l_1) fun t1 =>
 some (!t1)
 else
 some false
noncomputable def labelling_Valid_C : Con := ⟨[(.st 2), (.sl (.int .i64))], [.bool], fun (a : T_api_Graph × (List Int)) => labelling_Valid_m a.1 a.2, [(true, [.d 0 0, .d 0 1]), (false, [.d 1 0])], [], [(false, [.d 0 0])], [], 0, 0⟩
def labelling_Valid_H : Hints := ⟨[], [], [], [], []⟩
theorem labelling_Valid_ok [DrawMode] : ConFn prog 107 labelling_Valid_C := conFn_of (H := labelling_Valid_H) (fin := []) Tryz.func107 Tryz.call107 (tabL_ok (l := [(49, slices_ContainsFunc_int_int_s1_C)]) ⟨slices_ContainsFunc_int_int_s1_ok, trivial⟩) rfl rfl rfl (fun a => by kernel_rfl)

def enc_T_api_Pair_graph_compare (x : T_api_Pair) : List Value := [.int .i64 x.From, .int .i64 x.To]
theorem enc_T_api_Pair_graph_compare_t : EncT rT_api_Pair enc_T_api_Pair_graph_compare 2 where
  size := rfl
  pos := by decide
  agg := rfl
  len := fun x => rfl
  one := fun x v hv => by simp only [enc_T_api_Pair_graph_compare, List.mem_cons, List.not_mem_nil, or_false] at hv; rcases hv with rfl | rfl <;> rfl
  to := fun x F w cs h => by
    match cs, h with
    | [v0, v1], ⟨h0, h1, _⟩ => cases (show v0 = .int .i64 x.From from h0); cases (show v1 = .int .i64 x.To from h1); rfl
  of := fun x F w => ⟨rfl, rfl, trivial⟩
theorem slices_SortFunc_api_Pair_api_Pair_ok_ [DrawMode] {s_0 r : List T_api_Pair} (hm : (sortFM graph_compare_m) s_0 = some r) {h_0 : Value × List Nat} :
    FnOk prog 151 [pv h_0.1, pv (.func (.func 48) #[] #[])] [oa rT_api_Pair h_0.1 h_0.2 s_0] (fun _ : Unit => []) (fun _ : Unit => [oa rT_api_Pair h_0.1 h_0.2 r]) :=
  sort_fnF enc_T_api_Pair_graph_compare_t (X := Unit) (fun x y r h => conCmp (t := .st 1) (@graph_compare_ok strictDraws) h fun _ => rfl)
    (fun hO blk off cap d w hc hH hb hs hT => AnyQ.slices_SortFunc_total sortFP 2 Tryz.isAgg37 Tryz.sizeOf37 enc_T_api_Pair_graph_compare (fun _ => rfl) enc_T_api_Pair_graph_compare_t.one _ hO 48 #[] blk off cap d w (enters_of Tryz.func48 (by kernel_rfl) rfl) hc hH hb hs hT)
    (fun p cap fv w => AnyF.slices_SortFunc_none sortFP p cap fv w) hm
noncomputable def slices_SortFunc_api_Pair_api_Pair_C : Con := conW2 (P := prog) (.st 1) (sortFM graph_compare_m) [(false, [.fn 48 []])]
theorem slices_SortFunc_api_Pair_api_Pair_ok [DrawMode] : ConFn prog 151 slices_SortFunc_api_Pair_api_Pair_C := ⟨Tryz.call151, conW2F_ok fun s r hm h0 => slices_SortFunc_api_Pair_api_Pair_ok_ hm⟩

noncomputable def graph_Reverse_l1 (t1 : (T_api_Graph)) (s11 : Int × (List T_api_Pair)) : Option (Sum ((List T_api_Pair)) (Int × (List T_api_Pair))) :=
 bif decide (s11.1 < ((t1.L.length : Int))) then
 Option.bind (idxM t1.L s11.1) fun t12 =>
 Option.bind (appM 16 s11.2 [(T_api_Pair.mk t12.To t12.From)]) fun t13 =>
 some (Sum.inr ((iadd .i64 s11.1 1, t13)))
 else
 some (Sum.inl s11.2)
noncomputable def graph_Reverse_m (g_0 : T_api_Graph) : Option (T_api_Graph) :=
 Option.bind (graph_proper_m g_0) fun t1 =>
 Option.bind (loopC (graph_Reverse_l1 t1) ((0, []))) fun q14 : (List T_api_Pair) =>
 Option.bind ((sortFM graph_compare_m) q14) fun t15 =>
 some ((T_api_Graph.mk t1.N t15))
noncomputable def graph_Reverse_C : Con := ⟨[(.st 2)], [(.st 2)], fun (a : T_api_Graph) => graph_Reverse_m a, [(true, [.d 0 0, .d 0 1])], [], [(true, [.d 0 0, .d 0 1])], [], 0, 0⟩
def graph_Reverse_H : Hints := ⟨[(0, ⟨[.own (.st 1) (.cell 2 1)], ⟨[(.int .i64), (.sl (.st 1))], [(2, none), (3, none), (12, none), (13, none), (14, some (false, [.d 0 0]))], [.dead, .keep, .cells [none, some (.own 4)], .dead, .oaN 0 (.d 1 0)], 1⟩, [], some ([], ⟨[(.sl (.st 1))], [(2, none), (3, none)], [.dead, .keep, .cells [none, some (.own 4)], .dead, .oaN 0 (.d 0 0)], 1⟩), false, none⟩)], [], [], [], []⟩
theorem graph_Reverse_ok [DrawMode] : ConFn prog 136 graph_Reverse_C := conFn_of (H := graph_Reverse_H) (fin := [.sl (.st 1) (.cell 1 1)]) Tryz.func136 Tryz.call136 (tabL_ok (l := [(151, slices_SortFunc_api_Pair_api_Pair_C), (88, graph_proper_C), (48, graph_compare_C)]) ⟨slices_SortFunc_api_Pair_api_Pair_ok, graph_proper_ok, graph_compare_ok, trivial⟩) rfl rfl rfl (fun a => by kernel_rfl)

noncomputable def graph_Attackers_m (g_0 : T_api_Graph) (i_1 : Int) : Option ((List Int)) :=
 Option.bind (graph_Reverse_m g_0) fun t1 =>
 Option.bind (graph_Attacked_m t1 i_1) fun t2 =>
 some t2
noncomputable def graph_Attackers_C : Con := ⟨[(.st 2), (.int .i64)], [(.sl (.int .i64))], fun (a : T_api_Graph × Int) => graph_Attackers_m a.1 a.2, [(true, [.d 0 0, .d 0 1]), (false, [.d 1 0])], [], [(false, [.own 0])], [.oa 0 (.d 0 0)], 0, 1⟩
def graph_Attackers_H : Hints := ⟨[], [], [], [], []⟩
theorem graph_Attackers_ok : ConFn prog 98 graph_Attackers_C := conFn_of (H := graph_Attackers_H) (fin := []) Tryz.func98 Tryz.call98 (tabL_ok (l := [(136, graph_Reverse_C), (47, graph_Attacked_C)]) ⟨graph_Reverse_ok, graph_Attacked_ok, trivial⟩) rfl rfl rfl (fun a => by kernel_rfl)

noncomputable def labelling_legal_l1 (l_1 : (List Int)) (attackers1 : ((List Int))) (s16 : Int × Int × Int × Int × Int) : Option (Sum (Int × Int × Int × Int) (Int × Int × Int × Int × Int)) :=
 bif decide (s16.1 < ((attackers1.length : Int))) then
 Option.bind (idxM attackers1 s16.1) fun t17 =>
 Option.bind (idxM l_1 t17) fun t18 =>
 bif (t18 : Int) == 0 then
 bif (t18 : Int) == 0 then
 some (Sum.inr ((iadd .i64 s16.1 1, iadd .i64 s16.2.1 1, s16.2.2.1, s16.2.2.2.1, s16.2.2.2.2)))
 else
 bif (t18 : Int) == 1 then
 some (Sum.inr ((iadd .i64 s16.1 1, s16.2.1, iadd .i64 s16.2.1 1, s16.2.2.2.1, s16.2.2.2.2)))
 else
 bif (t18 : Int) == 2 then
 some (Sum.inr ((iadd .i64 s16.1 1, s16.2.1, s16.2.2.1, iadd .i64 s16.2.1 1, s16.2.2.2.2)))
 else
 bif (t18 : Int) == 3 then
 some (Sum.inr ((iadd .i64 s16.1 1, s16.2.1, s16.2.2.1, s16.2.2.2.1, iadd .i64 s16.2.1 1)))
 else
 none
 else
 bif (t18 : Int) == 1 then
 bif (t18 : Int) == 0 then
 some (Sum.inr ((iadd .i64 s16.1 1, iadd .i64 s16.2.2.1 1, s16.2.2.1, s16.2.2.2.1, s16.2.2.2.2)))
 else
 bif (t18 : Int) == 1 then
 some (Sum.inr ((iadd .i64 s16.1 1, s16.2.1, iadd .i64 s16.2.2.1 1, s16.2.2.2.1, s16.2.2.2.2)))
 else
 bif (t18 : Int) == 2 then
 some (Sum.inr ((iadd .i64 s16.1 1, s16.2.1, s16.2.2.1, iadd .i64 s16.2.2.1 1, s16.2.2.2.2)))
 else
 bif (t18 : Int) == 3 then
 some (Sum.inr ((iadd .i64 s16.1 1, s16.2.1, s16.2.2.1, s16.2.2.2.1, iadd .i64 s16.2.2.1 1)))
 else
 none
 else
 bif (t18 : Int) == 2 then
 bif (t18 : Int) == 0 then
 some (Sum.inr ((iadd .i64 s16.1 1, iadd .i64 s16.2.2.2.1 1, s16.2.2.1, s16.2.2.2.1, s16.2.2.2.2)))
 else
 bif (t18 : Int) == 1 then
 some (Sum.inr ((iadd .i64 s16.1 1, s16.2.1, iadd .i64 s16.2.2.2.1 1, s16.2.2.2.1, s16.2.2.2.2)))
 else
 bif (t18 : Int) == 2 then
 some (Sum.inr ((iadd .i64 s16.1 1, s16.2.1, s16.2.2.1, iadd .i64 s16.2.2.2.1 1, s16.2.2.2.2)))
 else
 bif (t18 : Int) == 3 then
 some (Sum.inr ((iadd .i64 s16.1 1, s16.2.1, s16.2.2.1, s16.2.2.2.1, iadd .i64 s16.2.2.2.1 1)))
 else
 none
 else
 bif (t18 : Int) == 3 then
 bif (t18 : Int) == 0 then
 some (Sum.inr ((iadd .i64 s16.1 1, iadd .i64 s16.2.2.2.2 1, s16.2.2.1, s16.2.2.2.1, s16.2.2.2.2)))
 else
 bif (t18 : Int) == 1 then
 some (Sum.inr ((iadd .i64 s16.1 1, s16.2.1, iadd .i64 s16.2.2.2.2 1, s16.2.2.2.1, s16.2.2.2.2)))
 else
 bif (t18 : Int) == 2 then
 some (Sum.inr ((iadd .i64 s16.1 1, s16.2.1, s16.2.2.1, iadd .i64 s16.2.2.2.2 1, s16.2.2.2.2)))
 else
 bif (t18 : Int) == 3 then
 some (Sum.inr ((iadd .i64 s16.1 1, s16.2.1, s16.2.2.1, s16.2.2.2.1, iadd .i64 s16.2.2.2.2 1)))
 else
 none
 else
 none
 else
 some (Sum.inl ((s16.2.1, s16.2.2.1, s16.2.2.2.1, s16.2.2.2.2)))
noncomputable def labelling_legal_m (g_0 : T_api_Graph) (l_1 : (List Int)) (i_2 : Int) : Option (Bool) :=
 Option.bind (graph_Attackers_m g_0 i_2) fun attackers1 =>
 Option.bind (loopC (labelling_legal_l1 l_1 attackers1) ((0, 0, 0, 0, 0))) fun q19 : Int × Int × Int × Int =>
 Option.bind (idxM l_1 i_2) fun t21 =>
 bif (t21 : Int) == 1 then
 some ((q19.2.2.1 : Int) == ((attackers1.length : Int)))
 else
 bif (t21 : Int) == 2 then
 some (decide (q19.2.1 > 0))
 else
 bif decide (q19.2.2.1 < ((attackers1.length : Int))) then
 some ((q19.2.1 : Int) == 0)
 else
 some false
noncomputable def labelling_legal_C : Con := ⟨[(.st 2), (.sl (.int .i64)), (.int .i64)], [.bool], fun (a : T_api_Graph × (List Int) × Int) => labelling_legal_m a.1 a.2.1 a.2.2, [(true, [.d 0 0, .d 0 1]), (false, [.d 1 0]), (false, [.d 2 0])], [], [(false, [.d 0 0])], [], 0, 0⟩
def labelling_legal_H : Hints := ⟨[(0, ⟨[], ⟨[(.int .i64), (.int .i64), (.int .i64), (.int .i64), (.int .i64)], [(1, none), (2, none), (6, none), (7, none), (8, none), (14, none), (15, none), (16, some (false, [.d 0 0]))], [.dead, .keep, .cells [some (.d 1 0), some (.d 2 0), some (.d 3 0), some (.d 4 0)]], 0⟩, [], some ([], ⟨[(.int .i64), (.int .i64), (.int .i64), (.int .i64)], [(1, none), (2, none), (6, none), (7, none), (8, none)], [.dead, .keep, .cells [some (.d 0 0), some (.d 1 0), some (.d 2 0), some (.d 3 0)]], 0⟩), false, none⟩)], [], [], [], []⟩
theorem labelling_legal_ok : ConFn prog 166 labelling_legal_C := conFn_of (H := labelling_legal_H) (fin := []) Tryz.func166 Tryz.call166 (tabL_ok (l := [(98, graph_Attackers_C)]) ⟨graph_Attackers_ok, trivial⟩) rfl rfl rfl (fun a => by kernel_rfl)

noncomputable def labelling_Illegal_l1 (g_0 : T_api_Graph) (l_1 : (List Int)) (s12 : Int × (List Int)) : Option (Sum ((List Int)) (Int × (List Int))) :=
 bif decide (s12.1 < ((l_1.length : Int))) then
 Option.bind (labelling_legal_m g_0 l_1 s12.1) fun t13 =>
 bif !t13 then
 Option.bind (appM 8 s12.2 [s12.1]) fun out14 =>
 some (Sum.inr ((iadd .i64 s12.1 1, out14)))
 else
 some (Sum.inr ((iadd .i64 s12.1 1, s12.2)))
 else
 some (Sum.inl s12.2)
noncomputable def labelling_Illegal_m (g_0 : T_api_Graph) (l_1 : (List Int)) : Option ((List Int)) :=
 Option.bind (labelling_Valid_m g_0 l_1) fun t2 =>
 bif !t2 then
 some []
 else
 Option.bind (loopC (labelling_Illegal_l1 g_0 l_1) ((0, []))) fun q15 : (List Int) =>
 some q15
noncomputable def labelling_Illegal_C : Con := ⟨[(.st 2), (.sl (.int .i64))], [(.sl (.int .i64))], fun (a : T_api_Graph × (List Int)) => labelling_Illegal_m a.1 a.2, [(true, [.d 0 0, .d 0 1]), (false, [.d 1 0])], [], [(false, [.own 0])], [.oa 0 (.d 0 0)], 0, 1⟩
def labelling_Illegal_H : Hints := ⟨[(0, ⟨[.own (.int .i64) (.slot 5 0)], ⟨[(.int .i64), (.sl (.int .i64))], [(1, none), (2, none), (4, none), (5, some (false, [.own 2])), (12, none), (13, some (false, [.d 0 0]))], [.keep, .dead, .oaN 0 (.d 1 0)], 1⟩, [], some ([], ⟨[(.sl (.int .i64))], [(4, none), (5, some (false, [.own 2]))], [.dead, .dead, .oaN 0 (.d 0 0)], 1⟩), false, none⟩)], [], [], [], []⟩
theorem labelling_Illegal_ok : ConFn prog 145 labelling_Illegal_C := conFn_of (H := labelling_Illegal_H) (fin := [.own (.int .i64) (.slot 4 0)]) Tryz.func145 Tryz.call145 (tabL_ok (l := [(107, labelling_Valid_C), (166, labelling_legal_C)]) ⟨labelling_Valid_ok, labelling_legal_ok, trivial⟩) rfl rfl rfl (fun a => by kernel_rfl)

noncomputable def labelling_IsComplete_m (g_0 : T_api_Graph) (l_1 : (List Int)) : Option (Bool) :=
 Option.bind (labelling_Valid_m g_0 l_1) fun t1 =>
 bif t1 then
 Option.bind (labelling_Illegal_m g_0 l_1) fun t2 =>
 some (((t2.length : Int) : Int) == 0)
 else
 some false
noncomputable def labelling_IsComplete_C : Con := ⟨[(.st 2), (.sl (.int .i64))], [.bool], fun (a : T_api_Graph × (List Int)) => labelling_IsComplete_m a.1 a.2, [(true, [.d 0 0, .d 0 1]), (false, [.d 1 0])], [], [(false, [.d 0 0])], [], 0, 0⟩
def labelling_IsComplete_H : Hints := ⟨[], [], [], [], []⟩
theorem labelling_IsComplete_ok : ConFn prog 108 labelling_IsComplete_C := conFn_of (H := labelling_IsComplete_H) (fin := []) Tryz.func108 Tryz.call108 (tabL_ok (l := [(107, labelling_Valid_C), (145, labelling_Illegal_C)]) ⟨labelling_Valid_ok, labelling_Illegal_ok, trivial⟩) rfl rfl rfl (fun a => by kernel_rfl)

noncomputable def grounded_proved_1_m (k_0 : Int) (p_1_0 : (List Int)) (p_2_0 : Int) : Option (Bool) :=
 Option.bind (idxM p_1_0 k_0) fun t1 =>
 Option.bind (idxM p_1_0 p_2_0) fun t2 =>
 some (decide (t1 ≥ t2))
noncomputable def grounded_proved_1_C : Con := ⟨[(.int .i64), (.sl (.int .i64)), (.int .i64)], [.bool], fun (a : Int × (List Int) × Int) => grounded_proved_1_m a.1 a.2.1 a.2.2, [(false, [.d 0 0]), (false, [.ptr 0]), (false, [.ptr 1])], [.oc 0 [.d 1 0], .oc 1 [.d 2 0]], [(false, [.d 0 0])], [.same, .same], 2, 2⟩
def grounded_proved_1_H : Hints := ⟨[], [], [], [], []⟩
theorem grounded_proved_1_ok [DrawMode] : ConFn prog 146 grounded_proved_1_C := conFn_of (H := grounded_proved_1_H) (fin := []) Tryz.func146 Tryz.call146 (tabL_ok (l := []) trivial) rfl rfl rfl (fun a => by kernel_rfl)

noncomputable def slices_IndexFunc_int_int_s2_l1 (s_0 : (List Int)) (f_1_0_0 : (List Int)) (f_1_1_0 : Int) (s7 : Int) : Option (Sum (Sum (Int) (Unit)) (Int)) :=
 bif decide (s7 < ((s_0.length : Int))) then
 Option.bind (idxM s_0 s7) fun t8 =>
 Option.bind (grounded_proved_1_m t8 f_1_0_0 f_1_1_0) fun t9 =>
 bif t9 then
 some (Sum.inl (Sum.inl s7))
 else
 some (Sum.inr (iadd .i64 s7 1))
 else
 some (Sum.inl (Sum.inr (())))
noncomputable def slices_IndexFunc_int_int_s2_m (s_0 : (List Int)) (f_1_0_0 : (List Int)) (f_1_1_0 : Int) : Option (Int) :=
 Option.bind (loopC (slices_IndexFunc_int_int_s2_l1 s_0 f_1_0_0 f_1_1_0) 0) (sumK (fun a : Int => some a) fun q10 : Unit =>
 some ((-1)))
noncomputable def slices_IndexFunc_int_int_s2_C : Con := ⟨[(.sl (.int .i64)), (.sl (.int .i64)), (.int .i64)], [(.int .i64)], fun (a : (List Int) × (List Int) × Int) => slices_IndexFunc_int_int_s2_m a.1 a.2.1 a.2.2, [(false, [.own 0]), (false, [.fn 146 [some 1, some 2]])], [.oa 0 (.d 0 0), .oc 1 [.d 1 0], .oc 2 [.d 2 0]], [(false, [.d 0 0])], [.same, .same, .same], 3, 3⟩
def slices_IndexFunc_int_int_s2_H : Hints := ⟨[(0, ⟨[], ⟨[(.int .i64)], [(0, none), (1, none), (4, none), (7, none), (8, some (false, [.d 0 0]))], [.keep, .keep, .keep], 0⟩, [], some ([], ⟨[], [(0, none), (1, none), (4, none)], [.keep, .keep, .keep], 0⟩), true, none⟩)], [], [], [], []⟩
theorem slices_IndexFunc_int_int_s2_ok [DrawMode] : ConFn prog 92 slices_IndexFunc_int_int_s2_C := conFn_of (H := slices_IndexFunc_int_int_s2_H) (fin := []) Tryz.func92 Tryz.call92 (tabL_ok (l := [(146, grounded_proved_1_C)]) ⟨grounded_proved_1_ok, trivial⟩) rfl rfl rfl (fun a => by kernel_rfl)

noncomputable def slices_ContainsFunc_int_int_s2_m (s_0 : (List Int)) (f_1_0_0 : (List Int)) (f_1_1_0 : Int) : Option (Bool) :=
 Option.bind (slices_IndexFunc_int_int_s2_m s_0 f_1_0_0 f_1_1_0) fun t1 =>
 some (decide (t1 ≥ 0))
noncomputable def slices_ContainsFunc_int_int_s2_C : Con := ⟨[(.sl (.int .i64)), (.sl (.int .i64)), (.int .i64)], [.bool], fun (a : (List Int) × (List Int) × Int) => slices_ContainsFunc_int_int_s2_m a.1 a.2.1 a.2.2, [(false, [.own 0]), (false, [.fn 146 [some 1, some 2]])], [.oa 0 (.d 0 0), .oc 1 [.d 1 0], .oc 2 [.d 2 0]], [(false, [.d 0 0])], [.same, .same, .same], 3, 3⟩
def slices_ContainsFunc_int_int_s2_H : Hints := ⟨[], [], [], [], []⟩
theorem slices_ContainsFunc_int_int_s2_ok [DrawMode] : ConFn prog 49 slices_ContainsFunc_int_int_s2_C := conFn_of (H := slices_ContainsFunc_int_int_s2_H) (fin := []) Tryz.func49 Tryz.call49 (tabL_ok (l := [(92, slices_IndexFunc_int_int_s2_C)]) ⟨slices_IndexFunc_int_int_s2_ok, trivial⟩) rfl rfl rfl (fun a => by kernel_rfl)

noncomputable def grounded_proved_2_m (k_0 : Int) (p_1_0 : (List Int)) (p_2_0 : (List Int)) (p_3_0 : Int) : Option (Bool) :=
 Option.bind (idxM p_1_0 k_0) fun t1 =>
 bif (t1 : Int) == 1 then
 Option.bind (idxM p_2_0 k_0) fun t2 =>
 bif decide (t2 ≥ 1) then
 Option.bind (idxM p_2_0 k_0) fun t3 =>
 Option.bind (idxM p_2_0 p_3_0) fun t4 =>
 some (decide (t3 ≤ t4))
 else
 some false
 else
 some false
noncomputable def grounded_proved_2_C : Con := ⟨[(.int .i64), (.sl (.int .i64)), (.sl (.int .i64)), (.int .i64)], [.bool], fun (a : Int × (List Int) × (List Int) × Int) => grounded_proved_2_m a.1 a.2.1 a.2.2.1 a.2.2.2, [(false, [.d 0 0]), (false, [.ptr 0]), (false, [.ptr 1]), (false, [.ptr 2])], [.oc 0 [.d 1 0], .oc 1 [.d 2 0], .oc 2 [.d 3 0]], [(false, [.d 0 0])], [.same, .same, .same], 3, 3⟩
def grounded_proved_2_H : Hints := ⟨[], [], [], [], []⟩
theorem grounded_proved_2_ok [DrawMode] : ConFn prog 147 grounded_proved_2_C := conFn_of (H := grounded_proved_2_H) (fin := []) Tryz.func147 Tryz.call147 (tabL_ok (l := []) trivial) rfl rfl rfl (fun a => by kernel_rfl)

noncomputable def slices_IndexFunc_int_int_s3_l1 (s_0 : (List Int)) (f_1_0_0 : (List Int)) (f_1_1_0 : (List Int)) (f_1_2_0 : Int) (s7 : Int) : Option (Sum (Sum (Int) (Unit)) (Int)) :=
 bif decide (s7 < ((s_0.length : Int))) then
 Option.bind (idxM s_0 s7) fun t8 =>
 Option.bind (grounded_proved_2_m t8 f_1_0_0 f_1_1_0 f_1_2_0) fun t9 =>
 bif t9 then
 some (Sum.inl (Sum.inl s7))
 else
 some (Sum.inr (iadd .i64 s7 1))
 else
 some (Sum.inl (Sum.inr (())))
noncomputable def slices_IndexFunc_int_int_s3_m (s_0 : (List Int)) (f_1_0_0 : (List Int)) (f_1_1_0 : (List Int)) (f_1_2_0 : Int) : Option (Int) :=
 Option.bind (loopC (slices_IndexFunc_int_int_s3_l1 s_0 f_1_0_0 f_1_1_0 f_1_2_0) 0) (sumK (fun a : Int => some a) fun q10 : Unit =>
 some ((-1)))
noncomputable def slices_IndexFunc_int_int_s3_C : Con := ⟨[(.sl (.int .i64)), (.sl (.int .i64)), (.sl (.int .i64)), (.int .i64)], [(.int .i64)], fun (a : (List Int) × (List Int) × (List Int) × Int) => slices_IndexFunc_int_int_s3_m a.1 a.2.1 a.2.2.1 a.2.2.2, [(false, [.own 0]), (false, [.fn 147 [some 1, some 2, some 3]])], [.oa 0 (.d 0 0), .oc 1 [.d 1 0], .oc 2 [.d 2 0], .oc 3 [.d 3 0]], [(false, [.d 0 0])], [.same, .same, .same, .same], 4, 4⟩
def slices_IndexFunc_int_int_s3_H : Hints := ⟨[(0, ⟨[], ⟨[(.int .i64)], [(0, none), (1, none), (4, none), (7, none), (8, some (false, [.d 0 0]))], [.keep, .keep, .keep, .keep], 0⟩, [], some ([], ⟨[], [(0, none), (1, none), (4, none)], [.keep, .keep, .keep, .keep], 0⟩), true, none⟩)], [], [], [], []⟩
theorem slices_IndexFunc_int_int_s3_ok [DrawMode] : ConFn prog 92 slices_IndexFunc_int_int_s3_C := conFn_of (H := slices_IndexFunc_int_int_s3_H) (fin := []) Tryz.func92 Tryz.call92 (tabL_ok (l := [(147, grounded_proved_2_C)]) ⟨grounded_proved_2_ok, trivial⟩) rfl rfl rfl (fun a => by kernel_rfl)

noncomputable def slices_ContainsFunc_int_int_s3_m (s_0 : (List Int)) (f_1_0_0 : (List Int)) (f_1_1_0 : (List Int)) (f_1_2_0 : Int) : Option (Bool) :=
 Option.bind (slices_IndexFunc_int_int_s3_m s_0 f_1_0_0 f_1_1_0 f_1_2_0) fun t1 =>
 some (decide (t1 ≥ 0))
noncomputable def slices_ContainsFunc_int_int_s3_C : Con := ⟨[(.sl (.int .i64)), (.sl (.int .i64)), (.sl (.int .i64)), (.int .i64)], [.bool], fun (a : (List Int) × (List Int) × (List Int) × Int) => slices_ContainsFunc_int_int_s3_m a.1 a.2.1 a.2.2.1 a.2.2.2, [(false, [.own 0]), (false, [.fn 147 [some 1, some 2, some 3]])], [.oa 0 (.d 0 0), .oc 1 [.d 1 0], .oc 2 [.d 2 0], .oc 3 [.d 3 0]], [(false, [.d 0 0])], [.same, .same, .same, .same], 4, 4⟩
def slices_ContainsFunc_int_int_s3_H : Hints := ⟨[], [], [], [], []⟩
theorem slices_ContainsFunc_int_int_s3_ok [DrawMode] : ConFn prog 49 slices_ContainsFunc_int_int_s3_C := conFn_of (H := slices_ContainsFunc_int_int_s3_H) (fin := []) Tryz.func49 Tryz.call49 (tabL_ok (l := [(92, slices_IndexFunc_int_int_s3_C)]) ⟨slices_IndexFunc_int_int_s3_ok, trivial⟩) rfl rfl rfl (fun a => by kernel_rfl)

noncomputable def grounded_proved_m (g_0 : T_api_Graph) (labels_1 : (List Int)) (ranks_2 : (List Int)) (i_3 : Int) : Option (Bool) :=
 Option.bind (graph_Attackers_m g_0 i_3) fun attackers1 =>
 Option.bind (idxM labels_1 i_3) fun t2 =>
 bif (t2 : Int) == 1 then
 Option.bind (idxM ranks_2 i_3) fun t3 =>
 bif decide (t3 ≥ 1) then
 Option.bind (slices_ContainsFunc_int_int_s2_m attackers1 ranks_2 i_3) fun t4 =>
 some (!t4)
 else
 some false
 else
 bif (t2 : Int) == 2 then
 Option.bind (slices_ContainsFunc_int_int_s3_m attackers1 labels_1 ranks_2 i_3) fun t5 =>
 some t5
 else
 some true
noncomputable def grounded_proved_C : Con := ⟨[(.st 2), (.sl (.int .i64)), (.sl (.int .i64)), (.int .i64)], [.bool], fun (a : T_api_Graph × (List Int) × (List Int) × Int) => grounded_proved_m a.1 a.2.1 a.2.2.1 a.2.2.2, [(true, [.d 0 0, .d 0 1]), (false, [.d 1 0]), (false, [.d 2 0]), (false, [.d 3 0])], [], [(false, [.d 0 0])], [], 0, 0⟩
def grounded_proved_H : Hints := ⟨[], [], [], [], []⟩
theorem grounded_proved_ok : ConFn prog 109 grounded_proved_C := conFn_of (H := grounded_proved_H) (fin := []) Tryz.func109 Tryz.call109 (tabL_ok (l := [(49, slices_ContainsFunc_int_int_s2_C), (49, slices_ContainsFunc_int_int_s3_C), (98, graph_Attackers_C)]) ⟨slices_ContainsFunc_int_int_s2_ok, slices_ContainsFunc_int_int_s3_ok, graph_Attackers_ok, trivial⟩) rfl rfl rfl (fun a => by kernel_rfl)

noncomputable def grounded_Check_l1 (g_0 : T_api_Graph) (labels_1 : (List Int)) (ranks_2 : (List Int)) (s16 : Int) : Option (Sum (Sum (Int) (Unit)) (Int)) :=
 bif decide (s16 < g_0.N) then
 Option.bind (grounded_proved_m g_0 labels_1 ranks_2 s16) fun t17 =>
 bif !t17 then
 some (Sum.inl (Sum.inl 11))
 else
 some (Sum.inr (iadd .i64 s16 1))
 else
 some (Sum.inl (Sum.inr (())))
noncomputable def grounded_Check_m (g_0 : T_api_Graph) (labels_1 : (List Int)) (ranks_2 : (List Int)) : Option (Int) :=
 Option.bind (graph_Validate_m g_0) fun t7 =>
 bif (t7 : Int) != 0 then
 some 1
 else
 joinM (fun j10 : Bool =>
 bif j10 then
 some 4
 else
 Option.bind (labelling_IsComplete_m g_0 labels_1) fun t11 =>
 bif !t11 then
 some 7
 else
 Option.bind (loopC (grounded_Check_l1 g_0 labels_1 ranks_2) 0) (sumK (fun a : Int => some a) fun q18 : Unit =>
 some 0)) fun k9 =>
 Option.bind (labelling_Valid_m g_0 labels_1) fun t19 =>
 bif !t19 then
 k9 true
 else
 k9 (((ranks_2.length : Int) : Int) != g_0.N)
noncomputable def grounded_Check_C : Con := ⟨[(.st 2), (.sl (.int .i64)), (.sl (.int .i64))], [(.int .i64)], fun (a : T_api_Graph × (List Int) × (List Int)) => grounded_Check_m a.1 a.2.1 a.2.2, [(true, [.d 0 0, .d 0 1]), (false, [.d 1 0]), (false, [.d 2 0])], [], [(false, [.d 0 0])], [], 0, 0⟩
def grounded_Check_H : Hints := ⟨[(1, ⟨[], ⟨[(.int .i64)], [(1, none), (2, none), (3, none), (6, none), (30, none), (31, some (false, [.d 0 0]))], [.keep], 0⟩, [], some ([], ⟨[], [(6, none)], [.dead], 0⟩), true, none⟩)], [(10, ([], ⟨[.bool], [(1, none), (2, none), (3, none), (6, none), (12, some (false, [.d 0 0]))], [.keep], 0⟩))], [], [], []⟩
theorem grounded_Check_ok : ConFn prog 72 grounded_Check_C := conFn_of (H := grounded_Check_H) (fin := []) Tryz.func72 Tryz.call72 (tabL_ok (l := [(16, graph_Validate_C), (107, labelling_Valid_C), (108, labelling_IsComplete_C), (109, grounded_proved_C)]) ⟨graph_Validate_ok, labelling_Valid_ok, labelling_IsComplete_ok, grounded_proved_ok, trivial⟩) rfl rfl rfl (fun a => by kernel_rfl)

noncomputable def verdict_ranked_m (g_0 : T_api_Graph) (p_1 : Int) (n_2 : Int) (v_3 : T_api_Verdict) : Option (Int) :=
 bif decide (((v_3.Steps.length : Int)) > 0) then
 some 4
 else
 Option.bind (grounded_Check_m g_0 v_3.Labels v_3.Ranks) fun t1 =>
 bif (t1 : Int) != 0 then
 some 11
 else
 Option.bind (idxM v_3.Labels n_2) fun t2 =>
 bif !(v_3.Holds == ((t2 : Int) == 1)) then
 some 11
 else
 some 0
noncomputable def verdict_ranked_C : Con := ⟨[(.st 2), (.int .i64), (.int .i64), (.st 9)], [(.int .i64)], fun (a : T_api_Graph × Int × Int × T_api_Verdict) => verdict_ranked_m a.1 a.2.1 a.2.2.1 a.2.2.2, [(true, [.d 0 0, .d 0 1]), (false, [.d 1 0]), (false, [.d 2 0]), (true, [.d 3 0, .d 3 1, .d 3 2, .d 3 3])], [], [(false, [.d 0 0])], [], 0, 0⟩
def verdict_ranked_H : Hints := ⟨[], [], [], [], []⟩
theorem verdict_ranked_ok : ConFn prog 38 verdict_ranked_C := conFn_of (H := verdict_ranked_H) (fin := []) Tryz.func38 Tryz.call38 (tabL_ok (l := [(72, grounded_Check_C)]) ⟨grounded_Check_ok, trivial⟩) rfl rfl rfl (fun a => by kernel_rfl)

noncomputable def verdict_labelled_m (a0 : T_api_Graph) (a1 : Int) (a2 : Int) (a3 : T_api_Verdict) : Option (Int) :=
 none
noncomputable def verdict_labelled_C : Con := ⟨[(.st 2), (.int .i64), (.int .i64), (.st 9)], [(.int .i64)], fun (a : T_api_Graph × Int × Int × T_api_Verdict) => verdict_labelled_m a.1 a.2.1 a.2.2.1 a.2.2.2, [(true, [.d 0 0, .d 0 1]), (false, [.d 1 0]), (false, [.d 2 0]), (true, [.d 3 0, .d 3 1, .d 3 2, .d 3 3])], [], [(false, [.d 0 0])], [], 0, 0⟩
theorem verdict_labelled_ok [DrawMode] : ConFn prog 40 verdict_labelled_C := ⟨Tryz.call40, fun a r h => by cases h⟩

noncomputable def verdict_refuted_m (a0 : T_api_Graph) (a1 : Int) (a2 : Int) (a3 : T_api_Verdict) : Option (Int) :=
 none
noncomputable def verdict_refuted_C : Con := ⟨[(.st 2), (.int .i64), (.int .i64), (.st 9)], [(.int .i64)], fun (a : T_api_Graph × Int × Int × T_api_Verdict) => verdict_refuted_m a.1 a.2.1 a.2.2.1 a.2.2.2, [(true, [.d 0 0, .d 0 1]), (false, [.d 1 0]), (false, [.d 2 0]), (true, [.d 3 0, .d 3 1, .d 3 2, .d 3 3])], [], [(false, [.d 0 0])], [], 0, 0⟩
theorem verdict_refuted_ok [DrawMode] : ConFn prog 39 verdict_refuted_C := ⟨Tryz.call39, fun a r h => by cases h⟩

noncomputable def verdict_Check_m (g_0 : T_api_Graph) (question_1 : Int) (n_2 : Int) (v_3 : T_api_Verdict) : Option (Int) :=
 Option.bind (verdict_asked_m g_0 n_2) fun e2 =>
 bif (e2 : Int) != 0 then
 some e2
 else
 bif (question_1 : Int) == 4 then
 Option.bind (verdict_ranked_m g_0 question_1 n_2 v_3) fun t3 =>
 some t3
 else
 joinM (fun j5 : Bool =>
 bif j5 then
 bif v_3.Holds == ((question_1 : Int) != 3) then
 Option.bind (verdict_labelled_m g_0 question_1 n_2 v_3) fun t6 =>
 some t6
 else
 Option.bind (verdict_refuted_m g_0 question_1 n_2 v_3) fun t7 =>
 some t7
 else
 some 4) fun k4 =>
 bif (question_1 : Int) == 1 then
 k4 ((question_1 : Int) == 1)
 else
 bif (question_1 : Int) == 2 then
 k4 ((question_1 : Int) == 2)
 else
 k4 ((question_1 : Int) == 3)
noncomputable def verdict_Check_C : Con := ⟨[(.st 2), (.int .i64), (.int .i64), (.st 9)], [(.int .i64)], fun (a : T_api_Graph × Int × Int × T_api_Verdict) => verdict_Check_m a.1 a.2.1 a.2.2.1 a.2.2.2, [(true, [.d 0 0, .d 0 1]), (false, [.d 1 0]), (false, [.d 2 0]), (true, [.d 3 0, .d 3 1, .d 3 2, .d 3 3])], [], [(false, [.d 0 0])], [], 0, 0⟩
def verdict_Check_H : Hints := ⟨[], [(26, ([], ⟨[.bool], [(1, none), (2, none), (4, none), (7, none), (8, none), (20, some (false, [.d 0 0]))], [.keep, .keep], 0⟩))], [], [], []⟩
theorem verdict_Check_ok : ConFn prog 12 verdict_Check_C := conFn_of (H := verdict_Check_H) (fin := []) Tryz.func12 Tryz.call12 (tabL_ok (l := [(31, verdict_asked_C), (38, verdict_ranked_C), (40, verdict_labelled_C), (39, verdict_refuted_C)]) ⟨verdict_asked_ok, verdict_ranked_ok, verdict_labelled_ok, verdict_refuted_ok, trivial⟩) rfl rfl rfl (fun a => by kernel_rfl)

noncomputable def network_Ascending_l1 (l_0 : (List Int)) (nodes_1 : Int) (s7 : Int) : Option (Sum (Sum (Bool) (Unit)) (Int)) :=
 bif decide (s7 < ((l_0.length : Int))) then
 Option.bind (idxM l_0 s7) fun t8 =>
 bif decide (t8 < 0) then
 some (Sum.inl (Sum.inl false))
 else
 bif decide (t8 ≥ nodes_1) then
 some (Sum.inl (Sum.inl false))
 else
 bif decide (s7 > 0) then
 Option.bind (idxM l_0 (isub .i64 s7 1)) fun t9 =>
 bif decide (t8 ≤ t9) then
 some (Sum.inl (Sum.inl false))
 else
 some (Sum.inr (iadd .i64 s7 1))
 else
 some (Sum.inr (iadd .i64 s7 1))
 else
 some (Sum.inl (Sum.inr (())))
noncomputable def network_Ascending_m (l_0 : (List Int)) (nodes_1 : Int) : Option (Bool) :=
 Option.bind (loopC (network_Ascending_l1 l_0 nodes_1) 0) (sumK (fun a : Bool => some a) fun q10 : Unit =>
 some true)
noncomputable def network_Ascending_C : Con := ⟨[(.sl (.int .i64)), (.int .i64)], [.bool], fun (a : (List Int) × Int) => network_Ascending_m a.1 a.2, [(false, [.d 0 0]), (false, [.d 1 0])], [], [(false, [.d 0 0])], [], 0, 0⟩
def network_Ascending_H : Hints := ⟨[(0, ⟨[], ⟨[(.int .i64)], [(0, none), (1, none), (4, none), (7, none), (8, none), (9, some (false, [.d 0 0]))], [], 0⟩, [], some ([], ⟨[], [(4, none)], [], 0⟩), true, none⟩)], [], [], [], []⟩
theorem network_Ascending_ok [DrawMode] : ConFn prog 113 network_Ascending_C := conFn_of (H := network_Ascending_H) (fin := []) Tryz.func113 Tryz.call113 (tabL_ok (l := []) trivial) rfl rfl rfl (fun a => by kernel_rfl)

noncomputable def enforce_arguments_m (g_0 : T_api_Graph) (s_1 : (List Int)) (kind_2 : Int) : Option (Int) :=
 Option.bind (graph_Validate_m g_0) fun e2 =>
 bif (e2 : Int) != 0 then
 some e2
 else
 joinM (fun j4 : Bool =>
 bif j4 then
 some 4
 else
 Option.bind (network_Ascending_m s_1 g_0.N) fun t5 =>
 bif !t5 then
 some 1
 else
 some 0) fun k3 =>
 bif (kind_2 : Int) != 1 then
 k3 ((kind_2 : Int) != 2)
 else
 k3 false
noncomputable def enforce_arguments_C : Con := ⟨[(.st 2), (.sl (.int .i64)), (.int .i64)], [(.int .i64)], fun (a : T_api_Graph × (List Int) × Int) => enforce_arguments_m a.1 a.2.1 a.2.2, [(true, [.d 0 0, .d 0 1]), (false, [.d 1 0]), (false, [.d 2 0])], [], [(false, [.d 0 0])], [], 0, 0⟩
def enforce_arguments_H : Hints := ⟨[], [(12, ([], ⟨[.bool], [(1, none), (3, none), (6, none), (13, some (false, [.d 0 0]))], [.keep], 0⟩))], [], [], []⟩
theorem enforce_arguments_ok [DrawMode] : ConFn prog 75 enforce_arguments_C := conFn_of (H := enforce_arguments_H) (fin := []) Tryz.func75 Tryz.call75 (tabL_ok (l := [(16, graph_Validate_C), (113, network_Ascending_C)]) ⟨graph_Validate_ok, network_Ascending_ok, trivial⟩) rfl rfl rfl (fun a => by kernel_rfl)

noncomputable def enforce_hopeless_m (g_0 : T_api_Graph) (s_1 : (List Int)) (kind_2 : Int) : Option (Bool) :=
 bif ((s_1.length : Int) : Int) == 0 then
 bif (kind_2 : Int) == 2 then
 some (decide (g_0.N > 0))
 else
 some false
 else
 some false
noncomputable def enforce_hopeless_C : Con := ⟨[(.st 2), (.sl (.int .i64)), (.int .i64)], [.bool], fun (a : T_api_Graph × (List Int) × Int) => enforce_hopeless_m a.1 a.2.1 a.2.2, [(true, [.d 0 0, .d 0 1]), (false, [.d 1 0]), (false, [.d 2 0])], [], [(false, [.d 0 0])], [], 0, 0⟩
def enforce_hopeless_H : Hints := ⟨[], [], [], [], []⟩
theorem enforce_hopeless_ok [DrawMode] : ConFn prog 76 enforce_hopeless_C := conFn_of (H := enforce_hopeless_H) (fin := []) Tryz.func76 Tryz.call76 (tabL_ok (l := []) trivial) rfl rfl rfl (fun a => by kernel_rfl)

noncomputable def network_Of_l1 (l_0 : (List Int)) (s7 : Int × Int) : Option (Sum (Int) (Int × Int)) :=
 bif decide (s7.2 < ((l_0.length : Int))) then
 Option.bind (idxM l_0 s7.2) fun t8 =>
 Option.bind (network_Set_With_m s7.1 t8) fun s9 =>
 some (Sum.inr ((s9, iadd .i64 s7.2 1)))
 else
 some (Sum.inl s7.1)
noncomputable def network_Of_m (l_0 : (List Int)) : Option (Int) :=
 Option.bind (loopC (network_Of_l1 l_0) ((0, 0))) fun q10 : Int =>
 some q10
noncomputable def network_Of_C : Con := ⟨[(.sl (.int .i64))], [(.int .u64)], fun (a : (List Int)) => network_Of_m a, [(false, [.d 0 0])], [], [(false, [.d 0 0])], [], 0, 0⟩
def network_Of_H : Hints := ⟨[(0, ⟨[], ⟨[(.int .u64), (.int .i64)], [(2, none), (3, some (false, [.d 0 0])), (6, none), (7, none), (8, some (false, [.d 1 0]))], [], 0⟩, [], some ([], ⟨[(.int .u64)], [(2, none), (3, some (false, [.d 0 0]))], [], 0⟩), false, none⟩)], [], [], [], []⟩
theorem network_Of_ok [DrawMode] : ConFn prog 85 network_Of_C := conFn_of (H := network_Of_H) (fin := []) Tryz.func85 Tryz.call85 (tabL_ok (l := [(27, network_Set_With_C)]) ⟨network_Set_With_ok, trivial⟩) rfl rfl rfl (fun a => by kernel_rfl)

noncomputable def slices_Clone_int_int_m (d_0 : List Int) : Option (List Int) := appM 8 [] d_0
theorem el_slices_Clone_int_int : ElT prog 3 (rI .i64) 8 := elT_ok (P := prog) (c := (.int .i64)) (by kernel_rfl)
theorem slices_Clone_int_int_fn [DrawMode] {d_0 r : List Int} (hm : slices_Clone_int_int_m d_0 = some r) : FnOk prog 114 [slv (rI .i64) d_0] [] (fun (x : Value × List Nat) => [pv x.1]) (fun (x : Value × List Nat) => [oa (rI .i64) x.1 x.2 r]) := by
  have hm' : appM 8 [] d_0 = some r := hm
  have hr : r = d_0 := by have := (appM_some hm').2; simpa using this
  subst hr
  refine fn_ok (X := Value × List Nat) (fn := Tryz.f114) (N := 8) (m := some ()) (r := ()) (res := fun _ x => [pv x.1]) (Ω1 := fun _ x => [oa (rI .i64) x.1 x.2 r]) Tryz.func114 rfl rfl rfl rfl (fun E hM => ?_)
  refine ref_seq ?_
  refine ref_region ?_
  refine s_rd (r_assign rfl) rfl ?_
  refine l_nil ?_
  refine n_then ?_
  refine ref_seq ?_
  refine ref_seq ?_
  refine ref_region ?_
  refine s_rd (r_move rfl) rfl ?_
  refine s_st (s_isnil Tryz.underlying22 rfl) rfl (fun b => ?_)
  refine l_nil ?_
  refine n_then ?_
  refine ref_condE (b := b.1) rfl (fun hb => ?_) (fun hb => ?_)
  · refine ref_seq ?_
    refine ref_region ?_
    refine s_rd (r_assign rfl) rfl ?_
    refine l_nil ?_
    refine n_then ?_
    refine ref_ret ?_
    refine r_then ?_
    have hd := b.2 hb
    subst hd
    refine b_of (own_nil (rI .i64)) ?_
    exact fin1 (.inl rfl) (.slice none 0 0, []) [0] rfl ⟨rfl, trivial⟩ rfl (rv_tmp rfl)
  · refine ref_skip ?_
    refine n_then ?_
    refine ref_seq ?_
    refine ref_region ?_
    refine s_st (s_bsliceO (xs := []) (ds := []) Tryz.underlying22 el_slices_Clone_int_int rfl (Nat.le_of_ble_eq_true rfl) trivial) rfl (fun o => ?_)
    refine s_rd (r_move rfl) rfl ?_
    refine s_st (s_append hm' Tryz.underlying22 el_slices_Clone_int_int rfl (j := 0) rfl rfl) rfl (fun o2 => ?_)
    refine s_rd (r_assign rfl) rfl ?_
    refine l_nil ?_
    refine n_then ?_
    refine ref_ret ?_
    exact fin1 (.inl rfl) o2 [0] rfl ⟨rfl, trivial⟩ rfl (rv_tmp rfl)
noncomputable def slices_Clone_int_int_C : Con := conW3 (P := prog) (.int .i64) slices_Clone_int_int_m
theorem slices_Clone_int_int_ok [DrawMode] : ConFn prog 114 slices_Clone_int_int_C := ⟨Tryz.call114, conW3_ok fun s r hm => slices_Clone_int_int_fn hm⟩

noncomputable def enforce_compare_m (a_0 : T_api_Pair) (b_1 : T_api_Pair) : Option (Int) :=
 Option.bind (cmp_Compare_int_m a_0.From b_1.From) fun t1 =>
 Option.bind (cmp_Compare_int_m a_0.To b_1.To) fun t2 =>
 Option.bind (cmp_Or_int_m [t1, t2]) fun t3 =>
 some t3
noncomputable def enforce_compare_C : Con := ⟨[(.st 1), (.st 1)], [(.int .i64)], fun (a : T_api_Pair × T_api_Pair) => enforce_compare_m a.1 a.2, [(true, [.d 0 0, .d 0 1]), (true, [.d 1 0, .d 1 1])], [], [(false, [.d 0 0])], [], 0, 0⟩
def enforce_compare_H : Hints := ⟨[], [], [], [], []⟩
theorem enforce_compare_ok [DrawMode] : ConFn prog 152 enforce_compare_C := conFn_of (H := enforce_compare_H) (fin := []) Tryz.func152 Tryz.call152 (tabL_ok (l := [(51, cmp_Compare_int_C), (91, cmp_Or_int_C)]) ⟨cmp_Compare_int_ok, cmp_Or_int_ok, trivial⟩) rfl rfl rfl (fun a => by kernel_rfl)

def enc_T_api_Pair_enforce_compare (x : T_api_Pair) : List Value := [.int .i64 x.From, .int .i64 x.To]
theorem enc_T_api_Pair_enforce_compare_t : EncT rT_api_Pair enc_T_api_Pair_enforce_compare 2 where
  size := rfl
  pos := by decide
  agg := rfl
  len := fun x => rfl
  one := fun x v hv => by simp only [enc_T_api_Pair_enforce_compare, List.mem_cons, List.not_mem_nil, or_false] at hv; rcases hv with rfl | rfl <;> rfl
  to := fun x F w cs h => by
    match cs, h with
    | [v0, v1], ⟨h0, h1, _⟩ => cases (show v0 = .int .i64 x.From from h0); cases (show v1 = .int .i64 x.To from h1); rfl
  of := fun x F w => ⟨rfl, rfl, trivial⟩
theorem slices_SortFunc_api_Pair_api_Pair__ok_ [DrawMode] {s_0 r : List T_api_Pair} (hm : (sortFM enforce_compare_m) s_0 = some r) {h_0 : Value × List Nat} :
    FnOk prog 151 [pv h_0.1, pv (.func (.func 152) #[] #[])] [oa rT_api_Pair h_0.1 h_0.2 s_0] (fun _ : Unit => []) (fun _ : Unit => [oa rT_api_Pair h_0.1 h_0.2 r]) :=
  sort_fnF enc_T_api_Pair_enforce_compare_t (X := Unit) (fun x y r h => conCmp (t := .st 1) (@enforce_compare_ok strictDraws) h fun _ => rfl)
    (fun hO blk off cap d w hc hH hb hs hT => AnyQ.slices_SortFunc_total sortFP 2 Tryz.isAgg37 Tryz.sizeOf37 enc_T_api_Pair_enforce_compare (fun _ => rfl) enc_T_api_Pair_enforce_compare_t.one _ hO 152 #[] blk off cap d w (enters_of Tryz.func152 (by kernel_rfl) rfl) hc hH hb hs hT)
    (fun p cap fv w => AnyF.slices_SortFunc_none sortFP p cap fv w) hm
noncomputable def slices_SortFunc_api_Pair_api_Pair__C : Con := conW2 (P := prog) (.st 1) (sortFM enforce_compare_m) [(false, [.fn 152 []])]
theorem slices_SortFunc_api_Pair_api_Pair__ok [DrawMode] : ConFn prog 151 slices_SortFunc_api_Pair_api_Pair__C := ⟨Tryz.call151, conW2F_ok fun s r hm h0 => slices_SortFunc_api_Pair_api_Pair__ok_ hm⟩

noncomputable def enforce_duties_l1 (g_0 : T_api_Graph) (j7 : Int × Int × (List Int) × (List Int)) (s64 : Int × (List (List T_api_Pair))) : Option (Sum ((List (List T_api_Pair))) (Int × (List (List T_api_Pair)))) :=
 bif decide (s64.1 < ((g_0.L.length : Int))) then
 Option.bind (idxM g_0.L s64.1) fun t65 =>
 joinM (fun j69 : Bool =>
 bif j69 then
 Option.bind (appM 24 s64.2 ([[t65]])) fun out70 =>
 some (Sum.inr ((iadd .i64 s64.1 1, out70)))
 else
 some (Sum.inr ((iadd .i64 s64.1 1, s64.2)))) fun k68 =>
 Option.bind (network_Set_Has_m j7.1 t65.From) fun t71 =>
 bif t71 then
 Option.bind (network_Set_Has_m j7.1 t65.To) fun t72 =>
 k68 t72
 else
 k68 false
 else
 some (Sum.inl s64.2)
noncomputable def enforce_duties_l2 (s_1 : (List Int)) (s165 : Int × (List (List T_api_Pair))) (s191 : Int × (List T_api_Pair)) : Option (Sum ((List T_api_Pair)) (Int × (List T_api_Pair))) :=
 bif decide (s191.1 < ((s_1.length : Int))) then
 Option.bind (idxM s_1 s191.1) fun t192 =>
 Option.bind (appM 16 s191.2 [(T_api_Pair.mk t192 s165.1)]) fun l193 =>
 some (Sum.inr ((iadd .i64 s191.1 1, l193)))
 else
 some (Sum.inl s191.2)
noncomputable def enforce_duties_l3 (s165 : Int × (List (List T_api_Pair))) (t196 : ((List Int))) (s203 : Int × (List T_api_Pair)) : Option (Sum ((List T_api_Pair)) (Int × (List T_api_Pair))) :=
 bif decide (s203.1 < ((t196.length : Int))) then
 Option.bind (idxM t196 s203.1) fun t204 =>
 Option.bind (appM 16 s203.2 [(T_api_Pair.mk s165.1 t204)]) fun l205 =>
 some (Sum.inr ((iadd .i64 s203.1 1, l205)))
 else
 some (Sum.inl s203.2)
noncomputable def enforce_duties_l4 (g_0 : T_api_Graph) (s_1 : (List Int)) (kind_2 : Int) (j7 : Int × Int × (List Int) × (List Int)) (hit74 : (Int)) (s165 : Int × (List (List T_api_Pair))) : Option (Sum ((List (List T_api_Pair))) (Int × (List (List T_api_Pair)))) :=
 bif decide (s165.1 < g_0.N) then
 joinM (fun j170 : Int × Int × Bool × Int × Bool × Bool × Bool =>
 Option.bind (loopC (enforce_duties_l2 s_1 s165) ((0, []))) fun q194 : (List T_api_Pair) =>
 bif (kind_2 : Int) == 1 then
 Option.bind (idxM j7.2.2.2 s165.1) fun t195 =>
 Option.bind (network_Set_List_m (iand .u64 t195 j7.1)) fun t196 =>
 Option.bind (loopC (enforce_duties_l3 s165 t196) ((0, q194))) fun q206 : (List T_api_Pair) =>
 Option.bind ((sortFM enforce_compare_m) q206) fun t207 =>
 Option.bind (appM 24 s165.2 [t207]) fun out208 =>
 some (Sum.inr ((iadd .i64 s165.1 1, out208)))
 else
 Option.bind ((sortFM enforce_compare_m) q194) fun t209 =>
 Option.bind (appM 24 s165.2 [t209]) fun out210 =>
 some (Sum.inr ((iadd .i64 s165.1 1, out210)))) fun k169 =>
 Option.bind (network_Set_Has_m j7.1 s165.1) fun t211 =>
 bif t211 then
 some (Sum.inr ((iadd .i64 s165.1 1, s165.2)))
 else
 Option.bind (network_Set_Has_m hit74 s165.1) fun t212 =>
 bif t212 then
 some (Sum.inr ((iadd .i64 s165.1 1, s165.2)))
 else
 bif (kind_2 : Int) == 1 then
 Option.bind (idxM j7.2.2.2 s165.1) fun t213 =>
 bif (iand .u64 t213 j7.1 : Int) == 0 then
 some (Sum.inr ((iadd .i64 s165.1 1, s165.2)))
 else
 k169 ((hit74, s165.1, t212, kind_2, (kind_2 : Int) == 1, true, (iand .u64 t213 j7.1 : Int) == 0))
 else
 k169 ((hit74, s165.1, t212, kind_2, (kind_2 : Int) == 1, false, false))
 else
 some (Sum.inl s165.2)
noncomputable def enforce_duties_m (g_0 : T_api_Graph) (s_1 : (List Int)) (kind_2 : Int) : Option ((List (List T_api_Pair))) :=
 joinM (fun j7 : Int × Int × (List Int) × (List Int) =>
 Option.bind (loopC (enforce_duties_l1 g_0 j7) ((0, []))) fun q73 : (List (List T_api_Pair)) =>
 Option.bind (network_Net_Hit_m ((T_network_Net.mk j7.2.1 j7.2.2.1 j7.2.2.2)) j7.1) fun hit74 =>
 Option.bind (loopC (enforce_duties_l4 g_0 s_1 kind_2 j7 hit74) ((0, q73))) fun q214 : (List (List T_api_Pair)) =>
 some q214) fun k6 =>
 meetO (
 Option.bind (network_Of_m s_1) fun in_215 =>
 meetO (
 Option.bind (network_New_m g_0) fun t216 =>
 k6 ((in_215, t216.All, t216.By, t216.Out))) (
 Option.bind (network_New_m g_0) fun t217 =>
 k6 ((in_215, t217.All, t217.By, t217.Out)))) (
 Option.bind (network_Of_m s_1) fun in_218 =>
 Option.bind (network_New_m g_0) fun t219 =>
 k6 ((in_218, t219.All, t219.By, t219.Out)))
noncomputable def enforce_duties_C : Con := ⟨[(.st 2), (.sl (.int .i64)), (.int .i64)], [(.sl (.sl (.st 1)))], fun (a : T_api_Graph × (List Int) × Int) => enforce_duties_m a.1 a.2.1 a.2.2, [(true, [.d 0 0, .d 0 1]), (false, [.d 1 0]), (false, [.d 2 0])], [], [(false, [.own 0])], [.oa 0 (.d 0 0)], 0, 1⟩
def enforce_duties_H : Hints := ⟨[(0, ⟨[.own (.sl (.st 1)) (.slot 9 0)], ⟨[(.int .i64), (.sl (.sl (.st 1)))], [(1, none), (2, none), (3, none), (6, none), (7, none), (8, none), (9, some (false, [.own 3])), (24, none), (25, none), (26, some (false, [.d 0 0]))], [.keep, .keep, .dead, .oaN 0 (.d 1 0)], 1⟩, [], some ([], ⟨[(.sl (.sl (.st 1)))], [(1, none), (2, none), (3, none), (6, none), (7, none), (8, none), (9, some (false, [.own 3]))], [.keep, .keep, .dead, .oaN 0 (.d 0 0)], 1⟩), false, none⟩), (2, ⟨[], ⟨[(.int .i64), (.sl (.sl (.st 1)))], [(1, none), (2, none), (6, none), (7, none), (8, none), (9, some (false, [.own 4])), (12, none), (50, none), (51, some (false, [.d 0 0]))], [.dead, .keep, .dead, .dead, .oaN 0 (.d 1 0)], 1⟩, [], some ([], ⟨[(.sl (.sl (.st 1)))], [(6, none), (9, some (false, [.own 4]))], [.dead, .dead, .dead, .dead, .oaN 0 (.d 0 0)], 1⟩), false, none⟩), (4, ⟨[.own (.st 1) (.slot 14 0)], ⟨[(.int .i64), (.sl (.st 1))], [(1, none), (2, none), (6, none), (7, none), (8, none), (9, none), (12, none), (13, none), (14, some (false, [.own 6])), (50, none), (51, none), (58, none), (59, none), (60, none), (63, none), (64, none), (65, none), (74, none), (76, none), (77, none), (78, some (false, [.d 0 0]))], [.dead, .keep, .dead, .dead, .keep, .dead, .oaN 0 (.d 1 0)], 1⟩, [], some ([], ⟨[(.sl (.st 1))], [(1, none), (2, none), (6, none), (7, none), (8, none), (9, none), (12, none), (13, none), (14, some (false, [.own 6])), (50, none), (51, none), (58, none), (59, none), (60, none), (63, none), (64, none), (65, none), (74, none)], [.dead, .keep, .dead, .dead, .keep, .dead, .oaN 0 (.d 0 0)], 1⟩), false, none⟩), (6, ⟨[], ⟨[(.int .i64), (.sl (.st 1))], [(1, none), (2, none), (6, none), (7, none), (8, none), (9, none), (12, none), (13, none), (14, some (false, [.own 8])), (50, none), (51, none), (58, none), (59, none), (60, none), (63, none), (64, none), (65, none), (74, none), (98, none), (99, none), (100, some (false, [.d 0 0]))], [.dead, .keep, .dead, .dead, .keep, .dead, .dead, .keep, .oaN 0 (.d 1 0)], 1⟩, [], some ([], ⟨[(.sl (.st 1))], [(1, none), (2, none), (6, none), (7, none), (8, none), (9, none), (12, none), (14, some (false, [.own 8])), (50, none), (51, none), (58, none), (59, none), (60, none), (63, none), (64, none), (65, none), (74, none)], [.dead, .keep, .dead, .dead, .keep, .dead, .dead, .dead, .oaN 0 (.d 0 0)], 1⟩), false, none⟩)], [(6, ([], ⟨[(.int .u64), (.int .u64), (.sl (.int .u64)), (.sl (.int .u64))], [(1, none), (2, none), (3, none), (6, none), (7, some (false, [.d 0 0])), (8, some (false, [.ptr 1]))], [.keep, .ocN 0 [.d 1 0, .d 2 0, .d 3 0]], 1⟩)), (16, ([], ⟨[.bool], [(1, none), (2, none), (3, none), (6, none), (7, none), (8, none), (9, none), (11, none), (24, none), (25, none), (26, none), (39, some (false, [.d 0 0]))], [.keep, .keep, .dead, .keep, .keep], 0⟩)), (30, ([], ⟨[(.int .u64), (.int .i64), .bool, (.int .i64), .bool, .bool, .bool], [(1, none), (2, none), (6, none), (7, none), (8, none), (9, none), (12, none), (13, none), (50, none), (51, none), (58, some (false, [.d 0 0])), (59, some (false, [.d 1 0])), (60, some (false, [.d 2 0])), (63, some (false, [.d 3 0])), (64, some (false, [.d 4 0])), (65, some (false, [.d 5 0])), (74, some (false, [.d 6 0]))], [.dead, .keep, .dead, .dead, .keep], 0⟩))], [], [], []⟩
theorem enforce_duties_ok : ConFn prog 115 enforce_duties_C := conFn_of (H := enforce_duties_H) (fin := []) Tryz.func115 Tryz.call115 (tabL_ok (l := [(151, slices_SortFunc_api_Pair_api_Pair__C), (85, network_Of_C), (19, network_New_C), (23, network_Set_Has_C), (54, network_Net_Hit_C), (55, network_Set_List_C), (152, enforce_compare_C)]) ⟨slices_SortFunc_api_Pair_api_Pair__ok, network_Of_ok, network_New_ok, network_Set_Has_ok, network_Net_Hit_ok, network_Set_List_ok, enforce_compare_ok, trivial⟩) rfl rfl rfl (fun a => by kernel_rfl)

noncomputable def enforce_strict_l1 (s_1 : (List Int)) (in_1 : (Int)) (j8 : (List Int) × (List (List T_api_Pair))) (s81 : Int × (List T_api_Pair)) : Option (Sum ((List T_api_Pair)) (Int × (List T_api_Pair))) :=
 bif decide (s81.1 < ((j8.2.length : Int))) then
 Option.bind (idxM j8.2 s81.1) fun t82 =>
 Option.bind (idxM t82 0) fun t83 =>
 joinM (fun j94 : Int × Int =>
 Option.bind (appM 16 s81.2 [(T_api_Pair.mk j94.1 j94.2)]) fun t95 =>
 some (Sum.inr ((iadd .i64 s81.1 1, t95)))) fun k93 =>
 joinM (fun j99 : Bool =>
 bif j99 then
 Option.bind (network_Set_Has_m in_1 t83.To) fun t100 =>
 bif t100 then
 Option.bind (idxM s_1 0) fun t101 =>
 k93 ((t101, t83.From))
 else
 Option.bind (idxM s_1 0) fun t102 =>
 k93 ((t102, t83.To))
 else
 k93 ((t83.From, t83.To))) fun k98 =>
 Option.bind (network_Set_Has_m in_1 t83.From) fun t103 =>
 bif !t103 then
 k98 true
 else
 Option.bind (network_Set_Has_m in_1 t83.To) fun t104 =>
 k98 (!t104)
 else
 some (Sum.inl s81.2)
noncomputable def enforce_strict_m (g_0 : T_api_Graph) (s_1 : (List Int)) (kind_2 : Int) : Option (T_api_Enforcement) :=
 Option.bind (network_Of_m s_1) fun in_1 =>
 joinM (fun j8 : (List Int) × (List (List T_api_Pair)) =>
 Option.bind (loopC (enforce_strict_l1 s_1 in_1 j8) ((0, []))) fun q105 : (List T_api_Pair) =>
 some ((T_api_Enforcement.mk j8.1 q105 j8.2))) fun k7 =>
 meetO (
 Option.bind (slices_Clone_int_int_m s_1) fun t106 =>
 meetO (
 Option.bind (enforce_duties_m g_0 s_1 kind_2) fun t107 =>
 k7 ((t106, t107))) (
 Option.bind (enforce_duties_m g_0 s_1 kind_2) fun t108 =>
 k7 ((t106, t108)))) (
 Option.bind (slices_Clone_int_int_m s_1) fun t109 =>
 Option.bind (enforce_duties_m g_0 s_1 kind_2) fun t110 =>
 k7 ((t109, t110)))
noncomputable def enforce_strict_C : Con := ⟨[(.st 2), (.sl (.int .i64)), (.int .i64)], [(.st 10)], fun (a : T_api_Graph × (List Int) × Int) => enforce_strict_m a.1 a.2.1 a.2.2, [(true, [.d 0 0, .d 0 1]), (false, [.d 1 0]), (false, [.d 2 0])], [], [(true, [.d 0 0, .d 0 1, .d 0 2])], [], 0, 0⟩
def enforce_strict_H : Hints := ⟨[(0, ⟨[.own (.st 1) (.cell 2 1)], ⟨[(.int .i64), (.sl (.st 1))], [(1, none), (6, none), (7, none), (8, none), (23, none), (24, none), (25, some (false, [.d 0 0]))], [.dead, .keep, .cells [none, some (.own 6), none], .keep, .keep, .dead, .oaN 0 (.d 1 0)], 1⟩, [], some ([], ⟨[(.sl (.st 1))], [(6, none), (8, none)], [.dead, .keep, .cells [none, some (.own 6), none], .keep, .keep, .dead, .oaN 0 (.d 0 0)], 1⟩), false, none⟩)], [(8, ([], ⟨[(.sl (.int .i64)), (.sl (.sl (.st 1)))], [(1, none), (6, none), (7, none), (8, some (false, [.ptr 2]))], [.dead, .keep, .ocN 0 [.own 3, .nl, .own 4], .oaN 1 (.d 0 0), .oaN 2 (.d 1 0)], 3⟩)), (26, ([], ⟨[(.int .i64), (.int .i64)], [(1, none), (6, none), (7, none), (8, none), (11, none), (23, none), (24, none), (25, none)], [.dead, .keep, .keep, .keep, .keep, .dead, .keep, .cells [some (.d 0 0), some (.d 1 0)]], 0⟩)), (18, ([], ⟨[.bool], [(1, none), (6, none), (7, none), (8, none), (11, none), (23, none), (24, none), (25, none), (43, some (false, [.d 0 0]))], [.dead, .keep, .keep, .keep, .keep, .dead, .keep, .keep], 0⟩))], [], [], []⟩
theorem enforce_strict_ok : ConFn prog 77 enforce_strict_C := conFn_of (H := enforce_strict_H) (fin := [.sl (.int .i64) (.cell 1 0), .sl (.st 1) (.cell 1 1), .sl (.sl (.st 1)) (.cell 1 2)]) Tryz.func77 Tryz.call77 (tabL_ok (l := [(85, network_Of_C), (114, slices_Clone_int_int_C), (115, enforce_duties_C), (23, network_Set_Has_C)]) ⟨network_Of_ok, slices_Clone_int_int_ok, enforce_duties_ok, network_Set_Has_ok, trivial⟩) rfl rfl rfl (fun a => by kernel_rfl)

noncomputable def enforce_Strict_m (g_0 : T_api_Graph) (s_1 : (List Int)) (kind_2 : Int) : Option (T_api_Enforcement × Int) :=
 Option.bind (enforce_arguments_m g_0 s_1 kind_2) fun e2 =>
 bif (e2 : Int) != 0 then
 some (((T_api_Enforcement.mk [] [] []), e2))
 else
 Option.bind (enforce_hopeless_m g_0 s_1 kind_2) fun t3 =>
 bif t3 then
 some (((T_api_Enforcement.mk [] [] []), 9))
 else
 Option.bind (enforce_strict_m g_0 s_1 kind_2) fun t4 =>
 some ((t4, 0))
noncomputable def enforce_Strict_C : Con := ⟨[(.st 2), (.sl (.int .i64)), (.int .i64)], [(.st 10), (.int .i64)], fun (a : T_api_Graph × (List Int) × Int) => enforce_Strict_m a.1 a.2.1 a.2.2, [(true, [.d 0 0, .d 0 1]), (false, [.d 1 0]), (false, [.d 2 0])], [], [(true, [.d 0 0, .d 0 1, .d 0 2]), (false, [.d 1 0])], [], 0, 0⟩
def enforce_Strict_H : Hints := ⟨[], [], [], [], []⟩
theorem enforce_Strict_ok : ConFn prog 41 enforce_Strict_C := conFn_of (H := enforce_Strict_H) (fin := []) Tryz.func41 Tryz.call41 (tabL_ok (l := [(75, enforce_arguments_C), (76, enforce_hopeless_C), (77, enforce_strict_C)]) ⟨enforce_arguments_ok, enforce_hopeless_ok, enforce_strict_ok, trivial⟩) rfl rfl rfl (fun a => by kernel_rfl)

noncomputable def network_Question_m (q_0 : Int) : Option (Bool) :=
 bif decide (q_0 ≥ 1) then
 some (decide (q_0 ≤ 4))
 else
 some false
noncomputable def network_Question_C : Con := ⟨[(.int .i64)], [.bool], fun (a : Int) => network_Question_m a, [(false, [.d 0 0])], [], [(false, [.d 0 0])], [], 0, 0⟩
def network_Question_H : Hints := ⟨[], [], [], [], []⟩
theorem network_Question_ok [DrawMode] : ConFn prog 78 network_Question_C := conFn_of (H := network_Question_H) (fin := []) Tryz.func78 Tryz.call78 (tabL_ok (l := []) trivial) rfl rfl rfl (fun a => by kernel_rfl)

noncomputable def network_Net_Attackers_l1 (n_0 : T_network_Net) (t1 : ((List Int))) (s8 : Int × Int) : Option (Sum (Int) (Int × Int)) :=
 bif decide (s8.2 < ((t1.length : Int))) then
 Option.bind (idxM t1 s8.2) fun t9 =>
 Option.bind (idxM n_0.By t9) fun t10 =>
 some (Sum.inr ((ior .u64 s8.1 t10, iadd .i64 s8.2 1)))
 else
 some (Sum.inl s8.1)
noncomputable def network_Net_Attackers_m (n_0 : T_network_Net) (s_1 : Int) : Option (Int) :=
 Option.bind (network_Set_List_m s_1) fun t1 =>
 Option.bind (loopC (network_Net_Attackers_l1 n_0 t1) ((0, 0))) fun q11 : Int =>
 some q11
noncomputable def network_Net_Attackers_C : Con := ⟨[(.st 3), (.int .u64)], [(.int .u64)], fun (a : T_network_Net × Int) => network_Net_Attackers_m a.1 a.2, [(true, [.d 0 0, .d 0 1, .d 0 2]), (false, [.d 1 0])], [], [(false, [.d 0 0])], [], 0, 0⟩
def network_Net_Attackers_H : Hints := ⟨[(0, ⟨[], ⟨[(.int .u64), (.int .i64)], [(2, none), (4, none), (5, some (false, [.d 0 0])), (9, none), (10, none), (11, some (false, [.d 1 0]))], [.keep, .keep], 0⟩, [], some ([], ⟨[(.int .u64)], [(4, none), (5, some (false, [.d 0 0]))], [.dead, .dead], 0⟩), false, none⟩)], [], [], [], []⟩
theorem network_Net_Attackers_ok : ConFn prog 60 network_Net_Attackers_C := conFn_of (H := network_Net_Attackers_H) (fin := []) Tryz.func60 Tryz.call60 (tabL_ok (l := [(55, network_Set_List_C)]) ⟨network_Set_List_ok, trivial⟩) rfl rfl rfl (fun a => by kernel_rfl)

noncomputable def network_Net_Admissible_m (n_0 : T_network_Net) (s_1 : Int) : Option (Bool) :=
 Option.bind (network_Net_Free_m n_0 s_1) fun t1 =>
 bif t1 then
 Option.bind (network_Net_Attackers_m n_0 s_1) fun t2 =>
 Option.bind (network_Net_Hit_m n_0 s_1) fun t3 =>
 some ((iandn .u64 t2 t3 : Int) == 0)
 else
 some false
noncomputable def network_Net_Admissible_C : Con := ⟨[(.st 3), (.int .u64)], [.bool], fun (a : T_network_Net × Int) => network_Net_Admissible_m a.1 a.2, [(true, [.d 0 0, .d 0 1, .d 0 2]), (false, [.d 1 0])], [], [(false, [.d 0 0])], [], 0, 0⟩
def network_Net_Admissible_H : Hints := ⟨[], [], [], [], []⟩
theorem network_Net_Admissible_ok : ConFn prog 118 network_Net_Admissible_C := conFn_of (H := network_Net_Admissible_H) (fin := []) Tryz.func118 Tryz.call118 (tabL_ok (l := [(59, network_Net_Free_C), (60, network_Net_Attackers_C), (54, network_Net_Hit_C)]) ⟨network_Net_Free_ok, network_Net_Attackers_ok, network_Net_Hit_ok, trivial⟩) rfl rfl rfl (fun a => by kernel_rfl)

noncomputable def network_Net_Stable_m (n_0 : T_network_Net) (s_1 : Int) : Option (Bool) :=
 Option.bind (network_Net_Free_m n_0 s_1) fun t1 =>
 bif t1 then
 Option.bind (network_Net_Hit_m n_0 s_1) fun t2 =>
 some ((iandn .u64 (iandn .u64 n_0.All s_1) t2 : Int) == 0)
 else
 some false
noncomputable def network_Net_Stable_C : Con := ⟨[(.st 3), (.int .u64)], [.bool], fun (a : T_network_Net × Int) => network_Net_Stable_m a.1 a.2, [(true, [.d 0 0, .d 0 1, .d 0 2]), (false, [.d 1 0])], [], [(false, [.d 0 0])], [], 0, 0⟩
def network_Net_Stable_H : Hints := ⟨[], [], [], [], []⟩
theorem network_Net_Stable_ok : ConFn prog 119 network_Net_Stable_C := conFn_of (H := network_Net_Stable_H) (fin := []) Tryz.func119 Tryz.call119 (tabL_ok (l := [(59, network_Net_Free_C), (54, network_Net_Hit_C)]) ⟨network_Net_Free_ok, network_Net_Hit_ok, trivial⟩) rfl rfl rfl (fun a => by kernel_rfl)

noncomputable def network_Net_Answer_1_m (s_0 : Int) (p_1_0 : Int) (p_2_0 : Int) (p_2_1 : (List Int)) (p_2_2 : (List Int)) (p_3_0 : Int) (p_4_0 : Bool) (p_5_0 : Bool) : Option (Bool × Bool) :=
 joinM (fun j5 : Bool =>
 joinM (fun j8 : Bool =>
 bif j8 then
 some ((false, !p_4_0))
 else
 some ((true, p_5_0))) fun k7 =>
 bif j5 then
 Option.bind (network_Set_Has_m s_0 p_3_0) fun t9 =>
 k7 (!(t9 == p_4_0))
 else
 k7 false) fun k4 =>
 bif (p_1_0 : Int) == 1 then
 Option.bind (network_Net_Admissible_m ((T_network_Net.mk p_2_0 p_2_1 p_2_2)) s_0) fun t10 =>
 bif t10 then
 k4 true
 else
 bif (p_1_0 : Int) != 1 then
 Option.bind (network_Net_Stable_m ((T_network_Net.mk p_2_0 p_2_1 p_2_2)) s_0) fun t11 =>
 k4 t11
 else
 k4 false
 else
 bif (p_1_0 : Int) != 1 then
 Option.bind (network_Net_Stable_m ((T_network_Net.mk p_2_0 p_2_1 p_2_2)) s_0) fun t12 =>
 k4 t12
 else
 k4 false
noncomputable def network_Net_Answer_1_C : Con := ⟨[(.int .u64), (.int .i64), (.int .u64), (.sl (.int .u64)), (.sl (.int .u64)), (.int .i64), .bool, .bool], [.bool, .bool], fun (a : Int × Int × Int × (List Int) × (List Int) × Int × Bool × Bool) => network_Net_Answer_1_m a.1 a.2.1 a.2.2.1 a.2.2.2.1 a.2.2.2.2.1 a.2.2.2.2.2.1 a.2.2.2.2.2.2.1 a.2.2.2.2.2.2.2, [(false, [.d 0 0]), (false, [.ptr 0]), (false, [.ptr 1]), (false, [.ptr 2]), (false, [.ptr 3]), (false, [.ptr 4])], [.oc 0 [.d 1 0], .oc 1 [.d 2 0, .d 3 0, .d 4 0], .oc 2 [.d 5 0], .oc 3 [.d 6 0], .oc 4 [.d 7 0]], [(false, [.d 0 0])], [.same, .same, .same, .same, .oc 4 [.d 1 0]], 5, 5⟩
def network_Net_Answer_1_H : Hints := ⟨[], [(6, ([], ⟨[.bool], [(0, none), (1, none), (2, none), (3, none), (4, none), (5, none), (7, none), (8, some (false, [.d 0 0]))], [.keep, .keep, .keep, .keep, .keep], 0⟩)), (8, ([], ⟨[.bool], [(1, none), (2, none), (3, none), (4, none), (5, none), (7, none), (32, some (false, [.d 0 0]))], [.keep, .keep, .keep, .keep, .keep], 0⟩))], [], [], []⟩
theorem network_Net_Answer_1_ok : ConFn prog 117 network_Net_Answer_1_C := conFn_of (H := network_Net_Answer_1_H) (fin := []) Tryz.func117 Tryz.call117 (tabL_ok (l := [(118, network_Net_Admissible_C), (119, network_Net_Stable_C), (23, network_Set_Has_C)]) ⟨network_Net_Admissible_ok, network_Net_Stable_ok, network_Set_Has_ok, trivial⟩) rfl rfl rfl (fun a => by kernel_rfl)

noncomputable def network_subsets_l1 (s_0 : Int) (each_1_0_0 : Int) (each_1_1_0 : Int) (each_1_1_1 : (List Int)) (each_1_1_2 : (List Int)) (each_1_2_0 : Int) (each_1_3_0 : Bool) (s5 : Int × Bool) : Option (Sum (Bool) (Int × Bool)) :=
 Option.bind (network_Net_Answer_1_m s5.1 each_1_0_0 each_1_1_0 each_1_1_1 each_1_1_2 each_1_2_0 each_1_3_0 s5.2) fun t6 =>
 bif !t6.1 then
 some (Sum.inl t6.2)
 else
 bif (s5.1 : Int) == 0 then
 some (Sum.inl t6.2)
 else
 some (Sum.inr ((iand .u64 (isub .u64 s5.1 1) s_0, t6.2)))
noncomputable def network_subsets_m (s_0 : Int) (each_1_0_0 : Int) (each_1_1_0 : Int) (each_1_1_1 : (List Int)) (each_1_1_2 : (List Int)) (each_1_2_0 : Int) (each_1_3_0 : Bool) (each_1_4_0 : Bool) : Option (Bool) :=
 Option.bind (loopC (network_subsets_l1 s_0 each_1_0_0 each_1_1_0 each_1_1_1 each_1_1_2 each_1_2_0 each_1_3_0) ((s_0, each_1_4_0))) (fun a : Bool => some a)
noncomputable def network_subsets_C : Con := ⟨[(.int .u64), (.int .i64), (.int .u64), (.sl (.int .u64)), (.sl (.int .u64)), (.int .i64), .bool, .bool], [.bool], fun (a : Int × Int × Int × (List Int) × (List Int) × Int × Bool × Bool) => network_subsets_m a.1 a.2.1 a.2.2.1 a.2.2.2.1 a.2.2.2.2.1 a.2.2.2.2.2.1 a.2.2.2.2.2.2.1 a.2.2.2.2.2.2.2, [(false, [.d 0 0]), (false, [.fn 117 [some 0, some 1, some 2, some 3, some 4]])], [.oc 0 [.d 1 0], .oc 1 [.d 2 0, .d 3 0, .d 4 0], .oc 2 [.d 5 0], .oc 3 [.d 6 0], .oc 4 [.d 7 0]], [], [.same, .same, .same, .same, .oc 4 [.d 0 0]], 5, 5⟩
def network_subsets_H : Hints := ⟨[(0, ⟨[], ⟨[(.int .u64), .bool], [(0, none), (1, none), (4, some (false, [.d 0 0]))], [.keep, .keep, .keep, .keep, .cells [some (.d 1 0)]], 0⟩, [], none, true, none⟩)], [], [], [], []⟩
theorem network_subsets_ok : ConFn prog 116 network_subsets_C := conFn_of (H := network_subsets_H) (fin := []) Tryz.func116 Tryz.call116 (tabL_ok (l := [(117, network_Net_Answer_1_C)]) ⟨network_Net_Answer_1_ok, trivial⟩) rfl rfl rfl (fun a => by kernel_rfl)

noncomputable def network_Net_Answer_m (n_0 : T_network_Net) (question_1 : Int) (node_2 : Int) : Option (Bool) :=
 bif (question_1 : Int) == 4 then
 Option.bind (network_Net_In_m n_0) fun t3 =>
 Option.bind (network_Set_Has_m t3 node_2) fun t4 =>
 some t4
 else
 Option.bind (network_subsets_m n_0.All question_1 n_0.All n_0.By n_0.Out node_2 ((question_1 : Int) == 3) ((question_1 : Int) == 3)) fun t5 =>
 some t5
noncomputable def network_Net_Answer_C : Con := ⟨[(.st 3), (.int .i64), (.int .i64)], [.bool], fun (a : T_network_Net × Int × Int) => network_Net_Answer_m a.1 a.2.1 a.2.2, [(true, [.d 0 0, .d 0 1, .d 0 2]), (false, [.d 1 0]), (false, [.d 2 0])], [], [(false, [.d 0 0])], [], 0, 0⟩
def network_Net_Answer_H : Hints := ⟨[], [], [], [], []⟩
theorem network_Net_Answer_ok : ConFn prog 79 network_Net_Answer_C := conFn_of (H := network_Net_Answer_H) (fin := []) Tryz.func79 Tryz.call79 (tabL_ok (l := [(22, network_Net_In_C), (23, network_Set_Has_C), (116, network_subsets_C)]) ⟨network_Net_In_ok, network_Set_Has_ok, network_subsets_ok, trivial⟩) rfl rfl rfl (fun a => by kernel_rfl)

noncomputable def explain_Removals_1_m (x_0 : Int) (p_1_0 : Int) : Option (Bool) :=
 some ((x_0 : Int) == p_1_0)
noncomputable def explain_Removals_1_C : Con := ⟨[(.int .i64), (.int .i64)], [.bool], fun (a : Int × Int) => explain_Removals_1_m a.1 a.2, [(false, [.d 0 0]), (false, [.ptr 0])], [.oc 0 [.d 1 0]], [(false, [.d 0 0])], [.same], 1, 1⟩
def explain_Removals_1_H : Hints := ⟨[], [], [], [], []⟩
theorem explain_Removals_1_ok [DrawMode] : ConFn prog 81 explain_Removals_1_C := conFn_of (H := explain_Removals_1_H) (fin := []) Tryz.func81 Tryz.call81 (tabL_ok (l := []) trivial) rfl rfl rfl (fun a => by kernel_rfl)

noncomputable def slices_IndexFunc_int_int_s4_l1 (s_0 : (List Int)) (f_1_0_0 : Int) (s7 : Int) : Option (Sum (Sum (Int) (Unit)) (Int)) :=
 bif decide (s7 < ((s_0.length : Int))) then
 Option.bind (idxM s_0 s7) fun t8 =>
 Option.bind (explain_Removals_1_m t8 f_1_0_0) fun t9 =>
 bif t9 then
 some (Sum.inl (Sum.inl s7))
 else
 some (Sum.inr (iadd .i64 s7 1))
 else
 some (Sum.inl (Sum.inr (())))
noncomputable def slices_IndexFunc_int_int_s4_m (s_0 : (List Int)) (f_1_0_0 : Int) : Option (Int) :=
 Option.bind (loopC (slices_IndexFunc_int_int_s4_l1 s_0 f_1_0_0) 0) (sumK (fun a : Int => some a) fun q10 : Unit =>
 some ((-1)))
noncomputable def slices_IndexFunc_int_int_s4_C : Con := ⟨[(.sl (.int .i64)), (.int .i64)], [(.int .i64)], fun (a : (List Int) × Int) => slices_IndexFunc_int_int_s4_m a.1 a.2, [(false, [.own 0]), (false, [.fn 81 [some 1]])], [.oa 0 (.d 0 0), .oc 1 [.d 1 0]], [(false, [.d 0 0])], [.same, .same], 2, 2⟩
def slices_IndexFunc_int_int_s4_H : Hints := ⟨[(0, ⟨[], ⟨[(.int .i64)], [(0, none), (1, none), (4, none), (7, none), (8, some (false, [.d 0 0]))], [.keep, .keep], 0⟩, [], some ([], ⟨[], [(0, none), (1, none), (4, none)], [.keep, .keep], 0⟩), true, none⟩)], [], [], [], []⟩
theorem slices_IndexFunc_int_int_s4_ok [DrawMode] : ConFn prog 92 slices_IndexFunc_int_int_s4_C := conFn_of (H := slices_IndexFunc_int_int_s4_H) (fin := []) Tryz.func92 Tryz.call92 (tabL_ok (l := [(81, explain_Removals_1_C)]) ⟨explain_Removals_1_ok, trivial⟩) rfl rfl rfl (fun a => by kernel_rfl)

noncomputable def slices_DeleteFunc_int_int_l1 (del_1_0_0 : Int) (s10 : Int × Int × (List Int)) : Option (Sum (Int × (List Int)) (Int × Int × (List Int))) :=
 bif decide (s10.2.1 < ((s10.2.2.length : Int))) then
 Option.bind (idxM s10.2.2 s10.2.1) fun t11 =>
 Option.bind (explain_Removals_1_m t11 del_1_0_0) fun t12 =>
 bif !t12 then
 Option.bind (idxM s10.2.2 s10.1) fun t13 =>
 some (Sum.inr ((iadd .i64 s10.1 1, iadd .i64 s10.2.1 1, s10.2.2.set (Int.toNat s10.1) t11)))
 else
 some (Sum.inr ((s10.1, iadd .i64 s10.2.1 1, s10.2.2)))
 else
 some (Sum.inl ((s10.1, s10.2.2)))
noncomputable def slices_DeleteFunc_int_int_m (s_0 : (List Int)) (del_1_0_0 : Int) : Option ((List Int)) :=
 Option.bind (slices_IndexFunc_int_int_s4_m s_0 del_1_0_0) fun i1 =>
 bif (i1 : Int) == ((-1)) then
 some s_0
 else
 Option.bind (loopC (slices_DeleteFunc_int_int_l1 del_1_0_0) ((i1, iadd .i64 i1 1, s_0))) fun q14 : Int × (List Int) =>
 Option.bind (slM q14.2 q14.1 q14.2.length) fun t15 =>
 Option.bind (slM q14.2 q14.1 q14.2.length) fun t16 =>
 Option.bind (slM (q14.2.take (Int.toNat q14.1) ++ List.replicate (Int.toNat q14.2.length - Int.toNat q14.1) 0 ++ q14.2.drop (Int.toNat q14.2.length)) 0 q14.1) fun t17 =>
 some t17
noncomputable def slices_DeleteFunc_int_int_C : Con := ⟨[(.sl (.int .i64)), (.int .i64)], [(.sl (.int .i64))], fun (a : (List Int) × Int) => slices_DeleteFunc_int_int_m a.1 a.2, [(false, [.own 0]), (false, [.fn 81 [some 1]])], [.oa 0 (.d 0 0), .oc 1 [.d 1 0]], [(false, [.d 0 0])], [.dead, .same], 2, 2⟩
def slices_DeleteFunc_int_int_H : Hints := ⟨[(0, ⟨[], ⟨[(.int .i64), (.int .i64), (.sl (.int .i64))], [(0, none), (1, none), (4, none), (5, some (false, [.d 0 0])), (6, some (false, [.d 1 0]))], [.data (.d 2 0), .keep], 0⟩, [], some ([], ⟨[(.int .i64), (.sl (.int .i64))], [(0, none), (1, none), (4, none), (5, some (false, [.d 0 0]))], [.data (.d 1 0), .keep], 0⟩), false, none⟩)], [], [38], [38], []⟩
theorem slices_DeleteFunc_int_int_ok [DrawMode] : ConFn prog 80 slices_DeleteFunc_int_int_C := conFn_of (H := slices_DeleteFunc_int_int_H) (fin := [.sl (.int .i64) (.slot 4 0)]) Tryz.func80 Tryz.call80 (tabL_ok (l := [(92, slices_IndexFunc_int_int_s4_C), (81, explain_Removals_1_C)]) ⟨slices_IndexFunc_int_int_s4_ok, explain_Removals_1_ok, trivial⟩) rfl rfl rfl (fun a => by kernel_rfl)

noncomputable def network_Net_Within_l1 (n_0 : T_network_Net) (s_1 : Int) (j12 : Int × (List Int) × (List Int)) (s25 : Int × (List Int) × (List Int)) : Option (Sum ((List Int) × (List Int)) (Int × (List Int) × (List Int))) :=
 bif decide (s25.1 < ((n_0.By.length : Int))) then
 Option.bind (network_Set_Has_m j12.1 s25.1) fun t26 =>
 bif t26 then
 Option.bind (idxM n_0.By s25.1) fun t27 =>
 Option.bind (idxM n_0.Out s25.1) fun t28 =>
 Option.bind (idxM s25.2.1 s25.1) fun t29 =>
 Option.bind (idxM s25.2.2 s25.1) fun t30 =>
 some (Sum.inr ((iadd .i64 s25.1 1, s25.2.1.set (Int.toNat s25.1) (iand .u64 t27 s_1), s25.2.2.set (Int.toNat s25.1) (iand .u64 t28 s_1))))
 else
 some (Sum.inr ((iadd .i64 s25.1 1, s25.2.1, s25.2.2)))
 else
 some (Sum.inl ((s25.2.1, s25.2.2)))
noncomputable def network_Net_Within_m (n_0 : T_network_Net) (s_1 : Int) : Option (T_network_Net) :=
 joinM (fun j12 : Int × (List Int) × (List Int) =>
 Option.bind (loopC (network_Net_Within_l1 n_0 s_1 j12) ((0, j12.2.1, j12.2.2))) fun q31 : (List Int) × (List Int) =>
 some ((T_network_Net.mk j12.1 q31.1 q31.2))) fun k11 =>
 meetO (
 Option.bind (mkM 8 0 ((n_0.By.length : Int))) fun t32 =>
 meetO (
 Option.bind (mkM 8 0 ((n_0.By.length : Int))) fun t33 =>
 k11 ((iand .u64 n_0.All s_1, t32, t33))) (
 Option.bind (mkM 8 0 ((n_0.By.length : Int))) fun t34 =>
 k11 ((iand .u64 n_0.All s_1, t32, t34)))) (
 meetO (
 Option.bind (mkM 8 0 ((n_0.By.length : Int))) fun t35 =>
 meetO (
 Option.bind (mkM 8 0 ((n_0.By.length : Int))) fun t36 =>
 k11 ((iand .u64 n_0.All s_1, t36, t35))) (
 Option.bind (mkM 8 0 ((n_0.By.length : Int))) fun t37 =>
 k11 ((iand .u64 n_0.All s_1, t37, t35)))) (
 meetO (
 Option.bind (mkM 8 0 ((n_0.By.length : Int))) fun t38 =>
 Option.bind (mkM 8 0 ((n_0.By.length : Int))) fun t39 =>
 k11 ((iand .u64 n_0.All s_1, t38, t39))) (
 Option.bind (mkM 8 0 ((n_0.By.length : Int))) fun t40 =>
 Option.bind (mkM 8 0 ((n_0.By.length : Int))) fun t41 =>
 k11 ((iand .u64 n_0.All s_1, t41, t40)))))
noncomputable def network_Net_Within_C : Con := ⟨[(.st 3), (.int .u64)], [(.st 3)], fun (a : T_network_Net × Int) => network_Net_Within_m a.1 a.2, [(true, [.d 0 0, .d 0 1, .d 0 2]), (false, [.d 1 0])], [], [(true, [.d 0 0, .d 0 1, .d 0 2])], [], 0, 0⟩
def network_Net_Within_H : Hints := ⟨[(0, ⟨[], ⟨[(.int .i64), (.sl (.int .u64)), (.sl (.int .u64))], [(1, none), (2, none), (4, none), (5, none), (22, none), (23, some (false, [.d 0 0]))], [.keep, .keep, .keep, .data (.d 1 0), .data (.d 2 0)], 0⟩, [], some ([], ⟨[(.sl (.int .u64)), (.sl (.int .u64))], [(4, none), (5, none)], [.dead, .keep, .keep, .data (.d 0 0), .data (.d 1 0)], 0⟩), false, none⟩)], [(6, ([], ⟨[(.int .u64), (.sl (.int .u64)), (.sl (.int .u64))], [(1, none), (2, none), (4, none), (5, some (false, [.ptr 2]))], [.keep, .keep, .ocN 0 [.d 0 0, .own 3, .own 4], .oaN 1 (.d 1 0), .oaN 2 (.d 2 0)], 3⟩))], [], [], []⟩
theorem network_Net_Within_ok [DrawMode] : ConFn prog 84 network_Net_Within_C := conFn_of (H := network_Net_Within_H) (fin := [.sl (.int .u64) (.cell 1 1), .sl (.int .u64) (.cell 1 2)]) Tryz.func84 Tryz.call84 (tabL_ok (l := [(23, network_Set_Has_C)]) ⟨network_Set_Has_ok, trivial⟩) rfl rfl rfl (fun a => by kernel_rfl)

noncomputable def explain_Removals_2_s1_m (s_0 : (List Int)) (p_1_0 : Int) (p_1_1 : (List Int)) (p_1_2 : (List Int)) (p_2_0 : Int) (p_3_0 : Int) (p_4_0 : Bool) : Option (Bool) :=
 Option.bind (network_Of_m s_0) fun t1 =>
 Option.bind (network_Net_Within_m ((T_network_Net.mk p_1_0 p_1_1 p_1_2)) (iandn .u64 p_1_0 t1)) fun t2 =>
 Option.bind (network_Net_Answer_m t2 p_2_0 p_3_0) fun t3 =>
 some (!(t3 == p_4_0))
noncomputable def explain_Removals_2_s1_C : Con := ⟨[(.sl (.int .i64)), (.int .u64), (.sl (.int .u64)), (.sl (.int .u64)), (.int .i64), (.int .i64), .bool], [.bool], fun (a : (List Int) × Int × (List Int) × (List Int) × Int × Int × Bool) => explain_Removals_2_s1_m a.1 a.2.1 a.2.2.1 a.2.2.2.1 a.2.2.2.2.1 a.2.2.2.2.2.1 a.2.2.2.2.2.2, [(false, [.d 0 0]), (false, [.ptr 0]), (false, [.ptr 1]), (false, [.ptr 2]), (false, [.ptr 3])], [.oc 0 [.d 1 0, .d 2 0, .d 3 0], .oc 1 [.d 4 0], .oc 2 [.d 5 0], .oc 3 [.d 6 0]], [(false, [.d 0 0])], [.same, .same, .same, .same], 4, 4⟩
def explain_Removals_2_s1_H : Hints := ⟨[], [], [], [], []⟩
theorem explain_Removals_2_s1_ok : ConFn prog 83 explain_Removals_2_s1_C := conFn_of (H := explain_Removals_2_s1_H) (fin := []) Tryz.func83 Tryz.call83 (tabL_ok (l := [(85, network_Of_C), (84, network_Net_Within_C), (79, network_Net_Answer_C)]) ⟨network_Of_ok, network_Net_Within_ok, network_Net_Answer_ok, trivial⟩) rfl rfl rfl (fun a => by kernel_rfl)

noncomputable def explain_least_1_s1_m (s_0 : (List Int)) (p_1_0 : (List (List Int))) (p_2_0_0_0 : Int) (p_2_0_0_1 : (List Int)) (p_2_0_0_2 : (List Int)) (p_2_0_1_0 : Int) (p_2_0_2_0 : Int) (p_2_0_3_0 : Bool) : Option ((List (List Int))) :=
 joinM (fun j5 : Unit =>
 bif decide (((p_1_0.length : Int)) > 0) then
 Option.bind (idxM p_1_0 0) fun t6 =>
 bif decide (((s_0.length : Int)) < ((t6.length : Int))) then
 Option.bind (appM 24 [] [s_0]) fun t7 =>
 some t7
 else
 Option.bind (appM 24 p_1_0 [s_0]) fun t8 =>
 some t8
 else
 Option.bind (appM 24 p_1_0 [s_0]) fun t9 =>
 some t9) fun k4 =>
 bif decide (((p_1_0.length : Int)) > 0) then
 Option.bind (idxM p_1_0 0) fun t10 =>
 bif decide (((s_0.length : Int)) > ((t10.length : Int))) then
 some p_1_0
 else
 Option.bind (explain_Removals_2_s1_m s_0 p_2_0_0_0 p_2_0_0_1 p_2_0_0_2 p_2_0_1_0 p_2_0_2_0 p_2_0_3_0) fun t11 =>
 bif !t11 then
 some p_1_0
 else
 k4 (())
 else
 Option.bind (explain_Removals_2_s1_m s_0 p_2_0_0_0 p_2_0_0_1 p_2_0_0_2 p_2_0_1_0 p_2_0_2_0 p_2_0_3_0) fun t12 =>
 bif !t12 then
 some p_1_0
 else
 k4 (())
noncomputable def explain_least_1_s1_C : Con := ⟨[(.sl (.int .i64)), (.sl (.sl (.int .i64))), (.int .u64), (.sl (.int .u64)), (.sl (.int .u64)), (.int .i64), (.int .i64), .bool], [(.sl (.sl (.int .i64)))], fun (a : (List Int) × (List (List Int)) × Int × (List Int) × (List Int) × Int × Int × Bool) => explain_least_1_s1_m a.1 a.2.1 a.2.2.1 a.2.2.2.1 a.2.2.2.2.1 a.2.2.2.2.2.1 a.2.2.2.2.2.2.1 a.2.2.2.2.2.2.2, [(false, [.d 0 0]), (false, [.ptr 0]), (false, [.ptr 2])], [.oc 0 [.own 1], .oa 1 (.d 1 0), .oc 2 [.fn 83 [some 3, some 4, some 5, some 6]], .oc 3 [.d 2 0, .d 3 0, .d 4 0], .oc 4 [.d 5 0], .oc 5 [.d 6 0], .oc 6 [.d 7 0]], [], [.oc 0 [.own 7], .dead, .same, .same, .same, .same, .same, .oa 7 (.d 0 0)], 7, 8⟩
def explain_least_1_s1_H : Hints := ⟨[], [(4, ([], ⟨[], [(0, none), (1, none), (2, none)], [.keep, .keep, .keep, .keep, .keep, .keep, .keep], 0⟩))], [], [], []⟩
theorem explain_least_1_s1_ok : ConFn prog 121 explain_least_1_s1_C := conFn_of (H := explain_least_1_s1_H) (fin := []) Tryz.func121 Tryz.call121 (tabL_ok (l := [(83, explain_Removals_2_s1_C)]) ⟨explain_Removals_2_s1_ok, trivial⟩) rfl rfl rfl (fun a => by kernel_rfl)

noncomputable def explain_all_l1 (l_0 : (List Int)) (s30 : Int × (List (List Int))) (s41 : Int × (List Int)) : Option (Sum ((List Int)) (Int × (List Int))) :=
 bif decide (s41.1 < ((l_0.length : Int))) then
 Option.bind (idxM l_0 s41.1) fun t42 =>
 Option.bind (ishrM .i64 s30.1 s41.1) fun t43 =>
 bif (iand .i64 t43 1 : Int) == 1 then
 Option.bind (appM 8 s41.2 [t42]) fun s44 =>
 some (Sum.inr ((iadd .i64 s41.1 1, s44)))
 else
 some (Sum.inr ((iadd .i64 s41.1 1, s41.2)))
 else
 some (Sum.inl s41.2)
noncomputable def explain_all_l2 (l_0 : (List Int)) (each_1_1_0_0_0 : Int) (each_1_1_0_0_1 : (List Int)) (each_1_1_0_0_2 : (List Int)) (each_1_1_0_1_0 : Int) (each_1_1_0_2_0 : Int) (each_1_1_0_3_0 : Bool) (t1 : Int) (s30 : Int × (List (List Int))) : Option (Sum ((List (List Int))) (Int × (List (List Int)))) :=
 bif decide (s30.1 < t1) then
 Option.bind (loopC (explain_all_l1 l_0 s30) ((0, []))) fun q45 : (List Int) =>
 Option.bind (explain_least_1_s1_m q45 s30.2 each_1_1_0_0_0 each_1_1_0_0_1 each_1_1_0_0_2 each_1_1_0_1_0 each_1_1_0_2_0 each_1_1_0_3_0) fun t46 =>
 some (Sum.inr ((iadd .i64 s30.1 1, t46)))
 else
 some (Sum.inl s30.2)
noncomputable def explain_all_m (l_0 : (List Int)) (each_1_1_0_0_0 : Int) (each_1_1_0_0_1 : (List Int)) (each_1_1_0_0_2 : (List Int)) (each_1_1_0_1_0 : Int) (each_1_1_0_2_0 : Int) (each_1_1_0_3_0 : Bool) : Option ((List (List Int))) :=
 Option.bind (ishlM .i64 1 ((l_0.length : Int))) fun t1 =>
 Option.bind (loopC (explain_all_l2 l_0 each_1_1_0_0_0 each_1_1_0_0_1 each_1_1_0_0_2 each_1_1_0_1_0 each_1_1_0_2_0 each_1_1_0_3_0 t1) ((0, []))) fun q47 : (List (List Int)) =>
 some q47
noncomputable def explain_all_C : Con := ⟨[(.sl (.int .i64)), (.int .u64), (.sl (.int .u64)), (.sl (.int .u64)), (.int .i64), (.int .i64), .bool], [(.sl (.sl (.int .i64)))], fun (a : (List Int) × Int × (List Int) × (List Int) × Int × Int × Bool) => explain_all_m a.1 a.2.1 a.2.2.1 a.2.2.2.1 a.2.2.2.2.1 a.2.2.2.2.2.1 a.2.2.2.2.2.2, [(false, [.d 0 0]), (false, [.fn 121 [some 0, some 1]])], [.oc 0 [.nl], .oc 1 [.fn 83 [some 2, some 3, some 4, some 5]], .oc 2 [.d 1 0, .d 2 0, .d 3 0], .oc 3 [.d 4 0], .oc 4 [.d 5 0], .oc 5 [.d 6 0]], [], [.oc 0 [.own 6], .same, .same, .same, .same, .same, .oa 6 (.d 0 0)], 6, 7⟩
def explain_all_H : Hints := ⟨[(0, ⟨[.own (.sl (.int .i64)) (.cell 0 0)], ⟨[(.int .i64), (.sl (.sl (.int .i64)))], [(0, none), (1, none), (10, none), (11, some (false, [.d 0 0]))], [.cells [some (.own 7)], .keep, .keep, .keep, .keep, .keep, .dead, .oaN 0 (.d 1 0)], 1⟩, [], some ([], ⟨[(.sl (.sl (.int .i64)))], [(1, none)], [.cells [some (.own 7)], .keep, .keep, .keep, .keep, .keep, .dead, .oaN 0 (.d 0 0)], 1⟩), false, none⟩), (2, ⟨[.own (.int .i64) (.slot 5 0)], ⟨[(.int .i64), (.sl (.int .i64))], [(0, none), (1, none), (4, none), (5, some (false, [.own 9])), (10, none), (11, none), (14, none), (15, none), (16, some (false, [.d 0 0]))], [.keep, .keep, .keep, .keep, .keep, .keep, .dead, .keep, .dead, .oaN 0 (.d 1 0)], 1⟩, [], some ([], ⟨[(.sl (.int .i64))], [(0, none), (1, none), (5, some (false, [.own 9])), (10, none), (11, none)], [.keep, .keep, .keep, .keep, .keep, .keep, .dead, .keep, .dead, .oaN 0 (.d 0 0)], 1⟩), false, none⟩)], [], [], [], []⟩
theorem explain_all_ok : ConFn prog 120 explain_all_C := conFn_of (H := explain_all_H) (fin := []) Tryz.func120 Tryz.call120 (tabL_ok (l := [(121, explain_least_1_s1_C)]) ⟨explain_least_1_s1_ok, trivial⟩) rfl rfl rfl (fun a => by kernel_rfl)

noncomputable def slices_Compare_int_int_s1_l1 (s1_0 : (List Int)) (s2_1 : (List Int)) (s19 : Int) : Option (Sum (Sum (Int) (Unit)) (Int)) :=
 bif decide (s19 < ((s1_0.length : Int))) then
 Option.bind (idxM s1_0 s19) fun t20 =>
 bif decide (s19 ≥ ((s2_1.length : Int))) then
 some (Sum.inl (Sum.inl 1))
 else
 Option.bind (idxM s2_1 s19) fun t21 =>
 Option.bind (cmp_Compare_int_m t20 t21) fun c22 =>
 bif (c22 : Int) != 0 then
 some (Sum.inl (Sum.inl c22))
 else
 some (Sum.inr (iadd .i64 s19 1))
 else
 some (Sum.inl (Sum.inr (())))
noncomputable def slices_Compare_int_int_s1_m (s1_0 : (List Int)) (s2_1 : (List Int)) : Option (Int) :=
 Option.bind (loopC (slices_Compare_int_int_s1_l1 s1_0 s2_1) 0) (sumK (fun a : Int => some a) fun q23 : Unit =>
 bif decide (((s1_0.length : Int)) < ((s2_1.length : Int))) then
 some ((-1))
 else
 some 0)
noncomputable def slices_Compare_int_int_s1_C : Con := ⟨[(.sl (.int .i64)), (.sl (.int .i64))], [(.int .i64)], fun (a : (List Int) × (List Int)) => slices_Compare_int_int_s1_m a.1 a.2, [(false, [.d 0 0]), (false, [.d 1 0])], [], [(false, [.d 0 0])], [], 0, 0⟩
def slices_Compare_int_int_s1_H : Hints := ⟨[(0, ⟨[], ⟨[(.int .i64)], [(0, none), (1, none), (4, none), (9, none), (10, none), (11, some (false, [.d 0 0]))], [], 0⟩, [], some ([], ⟨[], [(0, none), (1, none), (4, none)], [], 0⟩), true, none⟩)], [], [], [], []⟩
theorem slices_Compare_int_int_s1_ok [DrawMode] : ConFn prog 18 slices_Compare_int_int_s1_C := conFn_of (H := slices_Compare_int_int_s1_H) (fin := []) Tryz.func18 Tryz.call18 (tabL_ok (l := [(51, cmp_Compare_int_C)]) ⟨cmp_Compare_int_ok, trivial⟩) rfl rfl rfl (fun a => by kernel_rfl)

noncomputable def explain_least_2_m (a_0 : (List Int)) (b_1 : (List Int)) : Option (Int) :=
 Option.bind (slices_Compare_int_int_s1_m a_0 b_1) fun t1 =>
 some t1
noncomputable def explain_least_2_C : Con := ⟨[(.sl (.int .i64)), (.sl (.int .i64))], [(.int .i64)], fun (a : (List Int) × (List Int)) => explain_least_2_m a.1 a.2, [(false, [.d 0 0]), (false, [.d 1 0])], [], [(false, [.d 0 0])], [], 0, 0⟩
def explain_least_2_H : Hints := ⟨[], [], [], [], []⟩
theorem explain_least_2_ok [DrawMode] : ConFn prog 123 explain_least_2_C := conFn_of (H := explain_least_2_H) (fin := []) Tryz.func123 Tryz.call123 (tabL_ok (l := [(18, slices_Compare_int_int_s1_C)]) ⟨slices_Compare_int_int_s1_ok, trivial⟩) rfl rfl rfl (fun a => by kernel_rfl)

theorem slices_SortFunc_int_int_ok_ [DrawMode] {s_0 r : (List (List Int))} (hm : (sortNM explain_least_2_m) s_0 = some r) {h_0 : Value × List Nat} :
    FnOk prog 122 [pv h_0.1, pv (.func (.func 123) #[] #[])] [oa (rSl (rI .i64)) h_0.1 h_0.2 s_0] (fun _ : Unit => []) (fun _ : Unit => [oa (rSl (rI .i64)) h_0.1 h_0.2 r]) :=
  sort_fnN rfl rfl (X := Unit) (fun x y r h => conCmp (t := (.sl (.int .i64))) (@explain_least_2_ok strictDraws) h fun _ => rfl)
    (fun enc h1 cf hO blk off cap d w hc hH hb hs hT => Any.slices_SortFunc_total sortFL enc h1 cf hO 123 #[] blk off cap d w (enters_of Tryz.func123 (by kernel_rfl) rfl) hc hH hb hs hT)
    (fun p cap fv w => AnyF.slices_SortFunc_none { sortFL with } p cap fv w) hm
noncomputable def slices_SortFunc_int_int_C : Con := conW2 (P := prog) (.sl (.int .i64)) (sortNM explain_least_2_m) [(false, [.fn 123 []])]
theorem slices_SortFunc_int_int_ok [DrawMode] : ConFn prog 122 slices_SortFunc_int_int_C := ⟨Tryz.call122, conW2F_ok fun s r hm h0 => slices_SortFunc_int_int_ok_ hm⟩

noncomputable def explain_least_m (l_0 : (List Int)) (is_1_0_0 : Int) (is_1_0_1 : (List Int)) (is_1_0_2 : (List Int)) (is_1_1_0 : Int) (is_1_2_0 : Int) (is_1_3_0 : Bool) : Option ((List (List Int))) :=
 Option.bind (explain_all_m l_0 is_1_0_0 is_1_0_1 is_1_0_2 is_1_1_0 is_1_2_0 is_1_3_0) fun t1 =>
 Option.bind ((sortNM explain_least_2_m) t1) fun t2 =>
 some t2
noncomputable def explain_least_C : Con := ⟨[(.sl (.int .i64)), (.int .u64), (.sl (.int .u64)), (.sl (.int .u64)), (.int .i64), (.int .i64), .bool], [(.sl (.sl (.int .i64)))], fun (a : (List Int) × Int × (List Int) × (List Int) × Int × Int × Bool) => explain_least_m a.1 a.2.1 a.2.2.1 a.2.2.2.1 a.2.2.2.2.1 a.2.2.2.2.2.1 a.2.2.2.2.2.2, [(false, [.d 0 0]), (false, [.fn 83 [some 0, some 1, some 2, some 3]])], [.oc 0 [.d 1 0, .d 2 0, .d 3 0], .oc 1 [.d 4 0], .oc 2 [.d 5 0], .oc 3 [.d 6 0]], [(false, [.own 4])], [.same, .same, .same, .same, .oa 4 (.d 0 0)], 4, 5⟩
def explain_least_H : Hints := ⟨[], [], [], [], []⟩
theorem explain_least_ok : ConFn prog 82 explain_least_C := conFn_of (H := explain_least_H) (fin := []) Tryz.func82 Tryz.call82 (tabL_ok (l := [(122, slices_SortFunc_int_int_C), (120, explain_all_C), (123, explain_least_2_C)]) ⟨slices_SortFunc_int_int_ok, explain_all_ok, explain_least_2_ok, trivial⟩) rfl rfl rfl (fun a => by kernel_rfl)

noncomputable def explain_Removals_m (g_0 : T_api_Graph) (question_1 : Int) (node_2 : Int) : Option (Int × (List (List Int))) :=
 Option.bind (graph_Validate_m g_0) fun e2 =>
 bif (e2 : Int) != 0 then
 some ((e2, []))
 else
 Option.bind (network_Question_m question_1) fun t6 =>
 bif !t6 then
 some ((4, []))
 else
 joinM (fun j8 : Bool =>
 bif j8 then
 some ((1, []))
 else
 bif decide (g_0.N > 10) then
 some ((2, []))
 else
 Option.bind (network_New_m g_0) fun t9 =>
 Option.bind (network_Net_Answer_m t9 question_1 node_2) fun t10 =>
 Option.bind (network_Set_List_m t9.All) fun t11 =>
 Option.bind (slices_DeleteFunc_int_int_m t11 node_2) fun others12 =>
 Option.bind (explain_least_m others12 t9.All t9.By t9.Out question_1 node_2 t10) fun out13 =>
 bif ((out13.length : Int) : Int) == 0 then
 some ((9, []))
 else
 some ((0, out13))) fun k7 =>
 bif decide (node_2 < 0) then
 k7 true
 else
 k7 (decide (node_2 ≥ g_0.N))
noncomputable def explain_Removals_C : Con := ⟨[(.st 2), (.int .i64), (.int .i64)], [(.int .i64), (.sl (.sl (.int .i64)))], fun (a : T_api_Graph × Int × Int) => explain_Removals_m a.1 a.2.1 a.2.2, [(true, [.d 0 0, .d 0 1]), (false, [.d 1 0]), (false, [.d 2 0])], [], [(false, [.own 0]), (false, [.d 0 0])], [.oa 0 (.d 1 0)], 0, 1⟩
def explain_Removals_H : Hints := ⟨[], [(16, ([], ⟨[.bool], [(3, none), (4, none), (5, none), (6, none), (7, none), (22, some (false, [.d 0 0]))], [.keep, .keep, .keep], 0⟩))], [], [], []⟩
theorem explain_Removals_ok : ConFn prog 42 explain_Removals_C := conFn_of (H := explain_Removals_H) (fin := [.own (.sl (.int .i64)) (.slot 6 0)]) Tryz.func42 Tryz.call42 (tabL_ok (l := [(80, slices_DeleteFunc_int_int_C), (16, graph_Validate_C), (78, network_Question_C), (19, network_New_C), (79, network_Net_Answer_C), (55, network_Set_List_C), (82, explain_least_C)]) ⟨slices_DeleteFunc_int_int_ok, graph_Validate_ok, network_Question_ok, network_New_ok, network_Net_Answer_ok, network_Set_List_ok, explain_least_ok, trivial⟩) rfl rfl rfl (fun a => by kernel_rfl)

noncomputable def keep_Ints_l1 (a_0 : (List Int)) (b_1 : (List Int)) (s7 : Int) : Option (Sum (Sum (Bool) (Unit)) (Int)) :=
 bif decide (s7 < ((a_0.length : Int))) then
 Option.bind (idxM a_0 s7) fun t8 =>
 Option.bind (idxM b_1 s7) fun t9 =>
 bif (t8 : Int) != t9 then
 some (Sum.inl (Sum.inl false))
 else
 some (Sum.inr (iadd .i64 s7 1))
 else
 some (Sum.inl (Sum.inr (())))
noncomputable def keep_Ints_m (a_0 : (List Int)) (b_1 : (List Int)) : Option (Bool) :=
 bif ((a_0.length : Int) : Int) != ((b_1.length : Int)) then
 some false
 else
 Option.bind (loopC (keep_Ints_l1 a_0 b_1) 0) (sumK (fun a : Bool => some a) fun q10 : Unit =>
 some true)
noncomputable def keep_Ints_C : Con := ⟨[(.sl (.int .i64)), (.sl (.int .i64))], [.bool], fun (a : (List Int) × (List Int)) => keep_Ints_m a.1 a.2, [(false, [.d 0 0]), (false, [.d 1 0])], [], [(false, [.d 0 0])], [], 0, 0⟩
def keep_Ints_H : Hints := ⟨[(0, ⟨[], ⟨[(.int .i64)], [(0, none), (1, none), (4, none), (12, none), (13, some (false, [.d 0 0]))], [], 0⟩, [], some ([], ⟨[], [(4, none)], [], 0⟩), true, none⟩)], [], [], [], []⟩
theorem keep_Ints_ok [DrawMode] : ConFn prog 86 keep_Ints_C := conFn_of (H := keep_Ints_H) (fin := []) Tryz.func86 Tryz.call86 (tabL_ok (l := []) trivial) rfl rfl rfl (fun a => by kernel_rfl)

noncomputable def keep_Lists_l1 (a_0 : (List (List Int))) (b_1 : (List (List Int))) (s9 : Int) : Option (Sum (Sum (Bool) (Unit)) (Int)) :=
 bif decide (s9 < ((a_0.length : Int))) then
 Option.bind (idxM a_0 s9) fun t10 =>
 Option.bind (idxM b_1 s9) fun t11 =>
 Option.bind (keep_Ints_m t10 t11) fun t12 =>
 bif !t12 then
 some (Sum.inl (Sum.inl false))
 else
 some (Sum.inr (iadd .i64 s9 1))
 else
 some (Sum.inl (Sum.inr (())))
noncomputable def keep_Lists_m (a_0 : (List (List Int))) (b_1 : (List (List Int))) : Option (Bool) :=
 bif ((a_0.length : Int) : Int) != ((b_1.length : Int)) then
 some false
 else
 Option.bind (loopC (keep_Lists_l1 a_0 b_1) 0) (sumK (fun a : Bool => some a) fun q13 : Unit =>
 some true)
noncomputable def keep_Lists_C : Con := ⟨[(.sl (.sl (.int .i64))), (.sl (.sl (.int .i64)))], [.bool], fun (a : (List (List Int)) × (List (List Int))) => keep_Lists_m a.1 a.2, [(false, [.own 0]), (false, [.d 1 0])], [.oa 0 (.d 0 0)], [(false, [.d 0 0])], [.same], 1, 1⟩
def keep_Lists_H : Hints := ⟨[(0, ⟨[], ⟨[(.int .i64)], [(0, none), (1, none), (4, none), (12, none), (13, some (false, [.d 0 0]))], [.keep], 0⟩, [], some ([], ⟨[], [(0, none), (4, none)], [.keep], 0⟩), true, none⟩)], [], [], [], []⟩
theorem keep_Lists_ok [DrawMode] : ConFn prog 43 keep_Lists_C := conFn_of (H := keep_Lists_H) (fin := []) Tryz.func43 Tryz.call43 (tabL_ok (l := [(86, keep_Ints_C)]) ⟨keep_Ints_ok, trivial⟩) rfl rfl rfl (fun a => by kernel_rfl)

noncomputable def top_awake25_m  : Option (Bool) :=
 Option.bind (enforce_Strict_m ((T_api_Graph.mk 2 [(T_api_Pair.mk 0 1)])) [1] 1) fun t1 =>
 Option.bind (explain_Removals_m ((T_api_Graph.mk 2 [(T_api_Pair.mk 0 1)])) 4 1) fun t2 =>
 bif (t1.2 : Int) == 0 then
 bif ((t1.1.Changes.length : Int) : Int) == 1 then
 bif (t2.1 : Int) == 0 then
 Option.bind (keep_Lists_m t2.2 ([[0]])) fun t3 =>
 some t3
 else
 some false
 else
 some false
 else
 some false
noncomputable def top_awake25_C : Con := ⟨[], [.bool], fun (a : Unit) => top_awake25_m, [], [], [(false, [.d 0 0])], [], 0, 0⟩
def top_awake25_H : Hints := ⟨[], [], [], [], []⟩
theorem top_awake25_ok : ConFn prog 13 top_awake25_C := conFn_of (H := top_awake25_H) (fin := []) Tryz.func13 Tryz.call13 (tabL_ok (l := [(43, keep_Lists_C), (41, enforce_Strict_C), (42, explain_Removals_C)]) ⟨keep_Lists_ok, enforce_Strict_ok, explain_Removals_ok, trivial⟩) rfl rfl rfl (fun a => by kernel_rfl)

noncomputable def top_TopPrices_l1 (j5 : (List T_api_Pair)) (s20 : Int × (List Int)) : Option (Sum ((List Int)) (Int × (List Int))) :=
 bif decide (s20.1 < ((j5.length : Int))) then
 Option.bind (appM 8 s20.2 [1]) fun weights21 =>
 some (Sum.inr ((iadd .i64 s20.1 1, weights21)))
 else
 some (Sum.inl s20.2)
noncomputable def top_TopPrices_l2 (j5 : (List T_api_Pair)) (t97 : (T_api_Budget × Int)) (s126 : Int × (List T_api_Pair)) : Option (Sum ((List T_api_Pair)) (Int × (List T_api_Pair))) :=
 bif decide (s126.1 < ((j5.length : Int))) then
 Option.bind (keep_In_m t97.1.Dropped s126.1) fun t127 =>
 bif !t127 then
 Option.bind (idxM j5 s126.1) fun t128 =>
 Option.bind (appM 16 s126.2 [t128]) fun pairs129 =>
 some (Sum.inr ((iadd .i64 s126.1 1, pairs129)))
 else
 some (Sum.inr ((iadd .i64 s126.1 1, s126.2)))
 else
 some (Sum.inl s126.2)
noncomputable def top_TopPrices_l3 (t2 : (T_api_Graph × T_deliberationkeep_Src)) (j5 : (List T_api_Pair)) (q22 : (List Int)) (labels23 : ((List Int))) (s96 : Int) : Option (Sum (Sum (Bool) (Unit)) (Int)) :=
 bif decide (s96 < t2.1.N) then
 Option.bind (degree_Budget_m ((T_api_Graph.mk t2.1.N j5)) q22 s96) fun t97 =>
 bif (t97.2 : Int) != 0 then
 some (Sum.inl (Sum.inl false))
 else
 Option.bind (idxM labels23 s96) fun t99 =>
 bif !(((t97.1.Weight : Int) == 0) == ((t99 : Int) == 1)) then
 some (Sum.inl (Sum.inl false))
 else
 bif ((t97.1.Dropped.length : Int) : Int) != t97.1.Weight then
 some (Sum.inl (Sum.inl false))
 else
 Option.bind (loopC (top_TopPrices_l2 j5 t97) ((0, []))) fun q130 : (List T_api_Pair) =>
 Option.bind (game_Solve_m ((T_api_Graph.mk t2.1.N q130)) 1 s96) fun t131 =>
 Option.bind (verdict_Decide_m ((T_api_Graph.mk t2.1.N q130)) 4 s96) fun t132 =>
 bif (t131.2 : Int) != 0 then
 some (Sum.inl (Sum.inl false))
 else
 bif (t131.1.By : Int) != 1 then
 some (Sum.inl (Sum.inl false))
 else
 Option.bind (game_Check_m ((T_api_Graph.mk t2.1.N q130)) t131.1) fun t133 =>
 bif (t133 : Int) != 0 then
 some (Sum.inl (Sum.inl false))
 else
 bif (t132.2 : Int) != 0 then
 some (Sum.inl (Sum.inl false))
 else
 bif !t132.1.Holds then
 some (Sum.inl (Sum.inl false))
 else
 Option.bind (verdict_Check_m ((T_api_Graph.mk t2.1.N q130)) 4 s96 t132.1) fun t134 =>
 bif (t134 : Int) != 0 then
 some (Sum.inl (Sum.inl false))
 else
 some (Sum.inr (iadd .i64 s96 1))
 else
 some (Sum.inl (Sum.inr (())))
noncomputable def top_TopPrices_m (l_0 : (List Int)) : Option (Bool) :=
 Option.bind (keep_New_m l_0) fun s1 =>
 Option.bind (keep_Src_Graph_m ((T_deliberationkeep_Src.mk s1.1 s1.2)) 6) fun t2 =>
 joinM (fun j5 : (List T_api_Pair) =>
 Option.bind (loopC (top_TopPrices_l1 j5) ((0, []))) fun q22 : (List Int) =>
 Option.bind (grounded_Label_m ((T_api_Graph.mk t2.1.N j5))) fun labels23 =>
 bif ((labels23.length : Int) : Int) != t2.1.N then
 some false
 else
 Option.bind (loopC (top_TopPrices_l3 t2 j5 q22 labels23) 0) (sumK (fun a : Bool => some a) fun q135 : Unit =>
 Option.bind (top_awake25_m) fun t136 =>
 some t136)) fun k4 =>
 bif decide (((t2.1.L.length : Int)) > 12) then
 Option.bind (slM t2.1.L 0 12) fun t137 =>
 k4 t137
 else
 k4 t2.1.L
noncomputable def top_TopPrices_C : Con := ⟨[(.sl (.int .i64))], [.bool], fun (a : (List Int)) => top_TopPrices_m a, [(false, [.d 0 0])], [], [(false, [.d 0 0])], [], 0, 0⟩
def top_TopPrices_H : Hints := ⟨[(0, ⟨[.own (.int .i64) (.slot 5 0)], ⟨[(.int .i64), (.sl (.int .i64))], [(2, none), (4, none), (5, some (false, [.own 3])), (31, none), (32, some (false, [.d 0 0]))], [.dead, .keep, .dead, .oaN 0 (.d 1 0)], 1⟩, [], some ([], ⟨[(.sl (.int .i64))], [(2, none), (4, none), (5, some (false, [.own 3]))], [.dead, .keep, .dead, .oaN 0 (.d 0 0)], 1⟩), false, none⟩), (2, ⟨[], ⟨[(.int .i64)], [(2, none), (4, none), (5, none), (6, none), (7, some (false, [.d 0 0]))], [.dead, .keep, .dead, .keep, .keep], 0⟩, [], some ([], ⟨[], [(2, none)], [.dead, .dead, .dead, .dead, .dead], 0⟩), true, none⟩), (4, ⟨[.own (.st 1) (.slot 10 0)], ⟨[(.int .i64), (.sl (.st 1))], [(2, none), (4, none), (5, none), (6, none), (7, none), (8, none), (10, some (false, [.own 7])), (61, none), (62, none), (63, none), (64, none), (65, none), (67, none), (68, none), (69, none), (72, none), (73, none), (74, none), (75, none), (76, none), (77, none), (81, none), (82, some (false, [.d 0 0]))], [.dead, .keep, .dead, .keep, .keep, .keep, .dead, .oaN 0 (.d 1 0)], 1⟩, [], some ([], ⟨[(.sl (.st 1))], [(2, none), (4, none), (5, none), (6, none), (7, none), (10, some (false, [.own 7])), (61, none), (62, none), (63, none), (64, none), (65, none), (67, none), (68, none), (69, none), (72, none), (73, none), (74, none), (75, none), (76, none), (77, none)], [.dead, .keep, .dead, .keep, .keep, .keep, .dead, .oaN 0 (.d 0 0)], 1⟩), false, none⟩)], [(12, ([], ⟨[(.sl (.st 1))], [(2, none), (4, none)], [.dead, .cells [none, some (.d 0 0)]], 0⟩))], [], [], []⟩
theorem top_TopPrices_ok : ConFn prog 3 top_TopPrices_C := conFn_of (H := top_TopPrices_H) (fin := []) Tryz.func3 Tryz.call3 (tabL_ok (l := [(7, degree_Budget_C), (4, keep_New_C), (5, keep_Src_Graph_C), (6, grounded_Label_C), (8, keep_In_C), (9, game_Solve_C), (10, verdict_Decide_C), (11, game_Check_C), (12, verdict_Check_C), (13, top_awake25_C)]) ⟨degree_Budget_ok, keep_New_ok, keep_Src_Graph_ok, grounded_Label_ok, keep_In_ok, game_Solve_ok, verdict_Decide_ok, game_Check_ok, verdict_Check_ok, top_awake25_ok, trivial⟩) rfl rfl rfl (fun a => by kernel_rfl)

end Go.Dc
