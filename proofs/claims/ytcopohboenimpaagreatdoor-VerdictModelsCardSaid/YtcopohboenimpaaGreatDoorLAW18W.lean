/- Part LAW18.W of a proof: lemmas. -/
import Derived.Test.YtcopohboenimpaaGreatDoorDcCpt
import Derived.Test.YtcopohboenimpaaGreatDoorProg
import Derived.Test.YtcopohboenimpaaGreatDoorLAW18Key
set_option linter.unusedVariables false
set_option linter.unusedSectionVars false
set_option maxRecDepth 100000
set_option maxHeartbeats 4000000
namespace Go.Dc
open Go.Proofs
open Go.Proofs.Tryz (prog)
open Go.RowKit Go.Sort Go.Shelf
instance chMode : DrawMode := ⟨False, [(0, tzCells), (1, (Lib.pow10Tab.map fun z => Value.int .u64 z).toArray)]⟩
structure T_api_Pair where
  From : Int
  To : Int
  deriving DecidableEq, Inhabited
def rT_api_Pair : Rep T_api_Pair := rSt [⟨(rI .i64), T_api_Pair.From⟩, ⟨(rI .i64), T_api_Pair.To⟩]
structure T_api_Graph where
  N : Int
  L : (List T_api_Pair)
  deriving DecidableEq, Inhabited
def rT_api_Graph : Rep T_api_Graph := rSt [⟨(rI .i64), T_api_Graph.N⟩, ⟨(rSl rT_api_Pair), T_api_Graph.L⟩]
structure T_deliberationkeep_Src where
  L : (List Int)
  At : Int
  deriving DecidableEq, Inhabited
def rT_deliberationkeep_Src : Rep T_deliberationkeep_Src := rSt [⟨(rSl (rI .i64)), T_deliberationkeep_Src.L⟩, ⟨(rI .i64), T_deliberationkeep_Src.At⟩]
structure T_api_Step where
  Left : Int
  Right : Int
  Pivot : Int
  deriving DecidableEq, Inhabited
def rT_api_Step : Rep T_api_Step := rSt [⟨(rI .i64), T_api_Step.Left⟩, ⟨(rI .i64), T_api_Step.Right⟩, ⟨(rI .i64), T_api_Step.Pivot⟩]
structure T_api_Answer where
  Sat : Bool
  Model : (List Bool)
  Steps : (List T_api_Step)
  deriving DecidableEq, Inhabited
def rT_api_Answer : Rep T_api_Answer := rSt [⟨rB, T_api_Answer.Sat⟩, ⟨(rSl rB), T_api_Answer.Model⟩, ⟨(rSl rT_api_Step), T_api_Answer.Steps⟩]
structure T_api_Verdict where
  Holds : Bool
  Labels : (List Int)
  Ranks : (List Int)
  Steps : (List T_api_Step)
  deriving DecidableEq, Inhabited
def rT_api_Verdict : Rep T_api_Verdict := rSt [⟨rB, T_api_Verdict.Holds⟩, ⟨(rSl (rI .i64)), T_api_Verdict.Labels⟩, ⟨(rSl (rI .i64)), T_api_Verdict.Ranks⟩, ⟨(rSl rT_api_Step), T_api_Verdict.Steps⟩]
def den_ : Nat → Type
  | 0 => T_api_Pair
  | 1 => T_api_Graph
  | 2 => T_deliberationkeep_Src
  | 3 => T_api_Step
  | 4 => T_api_Answer
  | 5 => T_api_Verdict
  | _ + 6 => Unit
instance tabS : SDen := ⟨den_⟩
def rep_ : (n : Nat) → Rep (den_ n)
  | 0 => rT_api_Pair
  | 1 => rT_api_Graph
  | 2 => rT_deliberationkeep_Src
  | 3 => rT_api_Step
  | 4 => rT_api_Answer
  | 5 => rT_api_Verdict
  | _ + 6 => rSt []
theorem agg_ : ∀ n, (rep_ n).agg = true
  | 0 => rfl
  | 1 => rfl
  | 2 => rfl
  | 3 => rfl
  | 4 => rfl
  | 5 => rfl
  | _ + 6 => rfl
instance tabR : SRep := { tabS with rep := rep_, agg := agg_ }
def split_0 (x : T_api_Pair) : List Dyn := [⟨(.int .i64), x.From⟩, ⟨(.int .i64), x.To⟩]
def join_0 (l : List Dyn) : Option T_api_Pair := match l with
  | [D0, D1] => (D0.as (.int .i64)).bind fun a0 => (D1.as (.int .i64)).bind fun a1 => some (T_api_Pair.mk a0 a1)
  | _ => none
theorem join_0_ok {l : List Dyn} {x : T_api_Pair} (h : join_0 l = some x) : split_0 x = l := by
  unfold join_0 at h
  split at h
  · obtain ⟨a0, h0, h⟩ := Option.bind_eq_some_iff.1 h
    obtain ⟨a1, h1, h⟩ := Option.bind_eq_some_iff.1 h
    cases h
    rw [Dyn.as_ok h0, Dyn.as_ok h1]
    rfl
  · cases h
def split_1 (x : T_api_Graph) : List Dyn := [⟨(.int .i64), x.N⟩, ⟨(.sl (.st 0)), x.L⟩]
def join_1 (l : List Dyn) : Option T_api_Graph := match l with
  | [D0, D1] => (D0.as (.int .i64)).bind fun a0 => (D1.as (.sl (.st 0))).bind fun a1 => some (T_api_Graph.mk a0 a1)
  | _ => none
theorem join_1_ok {l : List Dyn} {x : T_api_Graph} (h : join_1 l = some x) : split_1 x = l := by
  unfold join_1 at h
  split at h
  · obtain ⟨a0, h0, h⟩ := Option.bind_eq_some_iff.1 h
    obtain ⟨a1, h1, h⟩ := Option.bind_eq_some_iff.1 h
    cases h
    rw [Dyn.as_ok h0, Dyn.as_ok h1]
    rfl
  · cases h
def split_2 (x : T_deliberationkeep_Src) : List Dyn := [⟨(.sl (.int .i64)), x.L⟩, ⟨(.int .i64), x.At⟩]
def join_2 (l : List Dyn) : Option T_deliberationkeep_Src := match l with
  | [D0, D1] => (D0.as (.sl (.int .i64))).bind fun a0 => (D1.as (.int .i64)).bind fun a1 => some (T_deliberationkeep_Src.mk a0 a1)
  | _ => none
theorem join_2_ok {l : List Dyn} {x : T_deliberationkeep_Src} (h : join_2 l = some x) : split_2 x = l := by
  unfold join_2 at h
  split at h
  · obtain ⟨a0, h0, h⟩ := Option.bind_eq_some_iff.1 h
    obtain ⟨a1, h1, h⟩ := Option.bind_eq_some_iff.1 h
    cases h
    rw [Dyn.as_ok h0, Dyn.as_ok h1]
    rfl
  · cases h
def split_3 (x : T_api_Step) : List Dyn := [⟨(.int .i64), x.Left⟩, ⟨(.int .i64), x.Right⟩, ⟨(.int .i64), x.Pivot⟩]
def join_3 (l : List Dyn) : Option T_api_Step := match l with
  | [D0, D1, D2] => (D0.as (.int .i64)).bind fun a0 => (D1.as (.int .i64)).bind fun a1 => (D2.as (.int .i64)).bind fun a2 => some (T_api_Step.mk a0 a1 a2)
  | _ => none
theorem join_3_ok {l : List Dyn} {x : T_api_Step} (h : join_3 l = some x) : split_3 x = l := by
  unfold join_3 at h
  split at h
  · obtain ⟨a0, h0, h⟩ := Option.bind_eq_some_iff.1 h
    obtain ⟨a1, h1, h⟩ := Option.bind_eq_some_iff.1 h
    obtain ⟨a2, h2, h⟩ := Option.bind_eq_some_iff.1 h
    cases h
    rw [Dyn.as_ok h0, Dyn.as_ok h1, Dyn.as_ok h2]
    rfl
  · cases h
def split_4 (x : T_api_Answer) : List Dyn := [⟨.bool, x.Sat⟩, ⟨(.sl .bool), x.Model⟩, ⟨(.sl (.st 3)), x.Steps⟩]
def join_4 (l : List Dyn) : Option T_api_Answer := match l with
  | [D0, D1, D2] => (D0.as .bool).bind fun a0 => (D1.as (.sl .bool)).bind fun a1 => (D2.as (.sl (.st 3))).bind fun a2 => some (T_api_Answer.mk a0 a1 a2)
  | _ => none
theorem join_4_ok {l : List Dyn} {x : T_api_Answer} (h : join_4 l = some x) : split_4 x = l := by
  unfold join_4 at h
  split at h
  · obtain ⟨a0, h0, h⟩ := Option.bind_eq_some_iff.1 h
    obtain ⟨a1, h1, h⟩ := Option.bind_eq_some_iff.1 h
    obtain ⟨a2, h2, h⟩ := Option.bind_eq_some_iff.1 h
    cases h
    rw [Dyn.as_ok h0, Dyn.as_ok h1, Dyn.as_ok h2]
    rfl
  · cases h
def split_5 (x : T_api_Verdict) : List Dyn := [⟨.bool, x.Holds⟩, ⟨(.sl (.int .i64)), x.Labels⟩, ⟨(.sl (.int .i64)), x.Ranks⟩, ⟨(.sl (.st 3)), x.Steps⟩]
def join_5 (l : List Dyn) : Option T_api_Verdict := match l with
  | [D0, D1, D2, D3] => (D0.as .bool).bind fun a0 => (D1.as (.sl (.int .i64))).bind fun a1 => (D2.as (.sl (.int .i64))).bind fun a2 => (D3.as (.sl (.st 3))).bind fun a3 => some (T_api_Verdict.mk a0 a1 a2 a3)
  | _ => none
theorem join_5_ok {l : List Dyn} {x : T_api_Verdict} (h : join_5 l = some x) : split_5 x = l := by
  unfold join_5 at h
  split at h
  · obtain ⟨a0, h0, h⟩ := Option.bind_eq_some_iff.1 h
    obtain ⟨a1, h1, h⟩ := Option.bind_eq_some_iff.1 h
    obtain ⟨a2, h2, h⟩ := Option.bind_eq_some_iff.1 h
    obtain ⟨a3, h3, h⟩ := Option.bind_eq_some_iff.1 h
    cases h
    rw [Dyn.as_ok h0, Dyn.as_ok h1, Dyn.as_ok h2, Dyn.as_ok h3]
    rfl
  · cases h
def splitT : (n : Nat) → den_ n → List Dyn
  | 0, x => split_0 x
  | 1, x => split_1 x
  | 2, x => split_2 x
  | 3, x => split_3 x
  | 4, x => split_4 x
  | 5, x => split_5 x
  | _ + 6, _ => []
def joinT : (n : Nat) → List Dyn → Option (den_ n)
  | 0, l => join_0 l
  | 1, l => join_1 l
  | 2, l => join_2 l
  | 3, l => join_3 l
  | 4, l => join_4 l
  | 5, l => join_5 l
  | _ + 6, _ => none
def ftsT : Nat → List Ty
  | 0 => [(.int .i64), (.int .i64)]
  | 1 => [(.int .i64), (.sl (.st 0))]
  | 2 => [(.sl (.int .i64)), (.int .i64)]
  | 3 => [(.int .i64), (.int .i64), (.int .i64)]
  | 4 => [.bool, (.sl .bool), (.sl (.st 3))]
  | 5 => [.bool, (.sl (.int .i64)), (.sl (.int .i64)), (.sl (.st 3))]
  | _ + 6 => []
def fldT : (n f : Nat) → den_ n → Option (Nat × Dyn)
  | 0, 0, x => some (0, ⟨(.int .i64), x.From⟩)
  | 0, 1, x => some (1, ⟨(.int .i64), x.To⟩)
  | 0, _ + 2, _ => none
  | 1, 0, x => some (0, ⟨(.int .i64), x.N⟩)
  | 1, 1, x => some (1, ⟨(.sl (.st 0)), x.L⟩)
  | 1, _ + 2, _ => none
  | 2, 0, x => some (0, ⟨(.sl (.int .i64)), x.L⟩)
  | 2, 1, x => some (1, ⟨(.int .i64), x.At⟩)
  | 2, _ + 2, _ => none
  | 3, 0, x => some (0, ⟨(.int .i64), x.Left⟩)
  | 3, 1, x => some (1, ⟨(.int .i64), x.Right⟩)
  | 3, 2, x => some (2, ⟨(.int .i64), x.Pivot⟩)
  | 3, _ + 3, _ => none
  | 4, 0, x => some (0, ⟨.bool, x.Sat⟩)
  | 4, 1, x => some (1, ⟨(.sl .bool), x.Model⟩)
  | 4, 2, x => some (2, ⟨(.sl (.st 3)), x.Steps⟩)
  | 4, _ + 3, _ => none
  | 5, 0, x => some (0, ⟨.bool, x.Holds⟩)
  | 5, 1, x => some (1, ⟨(.sl (.int .i64)), x.Labels⟩)
  | 5, 2, x => some (2, ⟨(.sl (.int .i64)), x.Ranks⟩)
  | 5, 3, x => some (3, ⟨(.sl (.st 3)), x.Steps⟩)
  | 5, _ + 4, _ => none
  | _ + 6, _, _ => none
theorem fldT_ok : ∀ (n f : Nat) (x : den_ n) (off : Nat) (D : Dyn), fldT n f x = some (off, D) → (((rep_ n).cp x).drop off).take D.t.rep.size = D.t.rep.cp D.d ∧ off + D.t.rep.size ≤ (rep_ n).size
  | 0, 0, x, _, _, h => by cases h; exact ⟨rfl, Nat.le_of_ble_eq_true rfl⟩
  | 0, 1, x, _, _, h => by cases h; exact ⟨rfl, Nat.le_of_ble_eq_true rfl⟩
  | 0, _ + 2, x, _, _, h => by cases h
  | 1, 0, x, _, _, h => by cases h; exact ⟨rfl, Nat.le_of_ble_eq_true rfl⟩
  | 1, 1, x, _, _, h => by cases h; exact ⟨rfl, Nat.le_of_ble_eq_true rfl⟩
  | 1, _ + 2, x, _, _, h => by cases h
  | 2, 0, x, _, _, h => by cases h; exact ⟨rfl, Nat.le_of_ble_eq_true rfl⟩
  | 2, 1, x, _, _, h => by cases h; exact ⟨rfl, Nat.le_of_ble_eq_true rfl⟩
  | 2, _ + 2, x, _, _, h => by cases h
  | 3, 0, x, _, _, h => by cases h; exact ⟨rfl, Nat.le_of_ble_eq_true rfl⟩
  | 3, 1, x, _, _, h => by cases h; exact ⟨rfl, Nat.le_of_ble_eq_true rfl⟩
  | 3, 2, x, _, _, h => by cases h; exact ⟨rfl, Nat.le_of_ble_eq_true rfl⟩
  | 3, _ + 3, x, _, _, h => by cases h
  | 4, 0, x, _, _, h => by cases h; exact ⟨rfl, Nat.le_of_ble_eq_true rfl⟩
  | 4, 1, x, _, _, h => by cases h; exact ⟨rfl, Nat.le_of_ble_eq_true rfl⟩
  | 4, 2, x, _, _, h => by cases h; exact ⟨rfl, Nat.le_of_ble_eq_true rfl⟩
  | 4, _ + 3, x, _, _, h => by cases h
  | 5, 0, x, _, _, h => by cases h; exact ⟨rfl, Nat.le_of_ble_eq_true rfl⟩
  | 5, 1, x, _, _, h => by cases h; exact ⟨rfl, Nat.le_of_ble_eq_true rfl⟩
  | 5, 2, x, _, _, h => by cases h; exact ⟨rfl, Nat.le_of_ble_eq_true rfl⟩
  | 5, 3, x, _, _, h => by cases h; exact ⟨rfl, Nat.le_of_ble_eq_true rfl⟩
  | 5, _ + 4, x, _, _, h => by cases h
  | _ + 6, _, x, _, _, h => by cases h
def deqT : (n : Nat) → DecidableEq (den_ n)
  | 0 => inferInstanceAs (DecidableEq T_api_Pair)
  | 1 => inferInstanceAs (DecidableEq T_api_Graph)
  | 2 => inferInstanceAs (DecidableEq T_deliberationkeep_Src)
  | 3 => inferInstanceAs (DecidableEq T_api_Step)
  | 4 => inferInstanceAs (DecidableEq T_api_Answer)
  | 5 => inferInstanceAs (DecidableEq T_api_Verdict)
  | _ + 6 => inferInstanceAs (DecidableEq Unit)
theorem split_okT : ∀ (n : Nat) (x : den_ n), (rep_ n).cp x = (splitT n x).map Dyn.rp
  | 0, x => rfl
  | 1, x => rfl
  | 2, x => rfl
  | 3, x => rfl
  | 4, x => rfl
  | 5, x => rfl
  | _ + 6, x => rfl
theorem split_oneT : ∀ (n : Nat) (x : den_ n), ∀ D ∈ splitT n x, D.t.one = true
  | 0, x, D, h => all_at (l := split_0 x) rfl h
  | 1, x, D, h => all_at (l := split_1 x) rfl h
  | 2, x, D, h => all_at (l := split_2 x) rfl h
  | 3, x, D, h => all_at (l := split_3 x) rfl h
  | 4, x, D, h => all_at (l := split_4 x) rfl h
  | 5, x, D, h => all_at (l := split_5 x) rfl h
  | _ + 6, x, D, h => by cases h
theorem join_okT : ∀ (n : Nat) (l : List Dyn) (x : den_ n), joinT n l = some x → splitT n x = l
  | 0, l, x, h => join_0_ok h
  | 1, l, x, h => join_1_ok h
  | 2, l, x, h => join_2_ok h
  | 3, l, x, h => join_3_ok h
  | 4, l, x, h => join_4_ok h
  | 5, l, x, h => join_5_ok h
  | _ + 6, l, x, h => by cases h
def eqsT : Nat → Nat → Bool
  | _, _ => false
theorem eqs_okT [DrawMode] : ∀ t n, eqsT t n = true → letI := deqT n; EqT prog t (rep_ n) := fun t n h => by
  unfold eqsT at h
  split at h
  · cases h
instance tabP : PTab prog := { tabR with
  code := lkC [(23, 1), (24, 1), (45, 5), (46, 5), (58, 2), (59, 2), (60, 0), (61, 0), (75, 4), (76, 4), (95, 3), (96, 3)], split := splitT, split_ok := split_okT, split_one := split_oneT, join := joinT, join_ok' := join_okT, fts := ftsT, fld := fldT, fld_ok := fldT_ok, deq := deqT, eqs := eqsT, eqs_ok := eqs_okT }
noncomputable def keep_New_m (l_0 : (List Int)) : Option ((List Int) × Int) :=
 Option.bind (slM l_0 0 (imin ((l_0.length : Int)) 2000)) fun t1 =>
 some ((t1, 0))
noncomputable def keep_New_C : Con := ⟨[(.sl (.int .i64))], [(.sl (.int .i64)), (.int .i64)], fun (a : (List Int)) => keep_New_m a, [(false, [.d 0 0])], [], [(false, [.ptr 0])], [.oc 0 [.d 0 0, .d 1 0]], 0, 1⟩
def keep_New_H : Hints := ⟨[], [], [], [], []⟩
theorem keep_New_ok [DrawMode] : ConFn prog 8 keep_New_C := conFn_of (H := keep_New_H) (fin := []) Tryz.func8 Tryz.call8 (tabL_ok (l := []) trivial) rfl rfl rfl (fun a => by kernel_rfl)

noncomputable def keep_Src_Raw_m (s_0 : T_deliberationkeep_Src) : Option (Int × T_deliberationkeep_Src) :=
 bif decide (s_0.At ≥ ((s_0.L.length : Int))) then
 some ((0, s_0))
 else
 Option.bind (idxM s_0.L (isub .i64 (iadd .i64 s_0.At 1) 1)) fun t1 =>
 some ((t1, (T_deliberationkeep_Src.mk s_0.L (iadd .i64 s_0.At 1))))
noncomputable def keep_Src_Raw_C : Con := ⟨[(.st 2)], [(.int .i64), (.st 2)], fun (a : T_deliberationkeep_Src) => keep_Src_Raw_m a, [(false, [.ptr 0])], [.oc 0 [.d 0 0, .d 0 1]], [(false, [.d 0 0])], [.oc 0 [.d 1 0, .d 1 1]], 1, 1⟩
def keep_Src_Raw_H : Hints := ⟨[], [], [], [], []⟩
theorem keep_Src_Raw_ok [DrawMode] : ConFn prog 33 keep_Src_Raw_C := conFn_of (H := keep_Src_Raw_H) (fin := []) Tryz.func33 Tryz.call33 (tabL_ok (l := []) trivial) rfl rfl rfl (fun a => by kernel_rfl)

noncomputable def keep_Mod_m (x_0 : Int) (n_1 : Int) : Option (Int) :=
 bif decide (n_1 < 1) then
 some 0
 else
 Option.bind (iremM .i64 x_0 n_1) fun x1 =>
 bif decide (x1 < 0) then
 some (iadd .i64 x1 n_1)
 else
 some x1
noncomputable def keep_Mod_C : Con := ⟨[(.int .i64), (.int .i64)], [(.int .i64)], fun (a : Int × Int) => keep_Mod_m a.1 a.2, [(false, [.d 0 0]), (false, [.d 1 0])], [], [(false, [.d 0 0])], [], 0, 0⟩
def keep_Mod_H : Hints := ⟨[], [], [], [], []⟩
theorem keep_Mod_ok [DrawMode] : ConFn prog 32 keep_Mod_C := conFn_of (H := keep_Mod_H) (fin := []) Tryz.func32 Tryz.call32 (tabL_ok (l := []) trivial) rfl rfl rfl (fun a => by kernel_rfl)

noncomputable def keep_Src_N_m (s_0 : T_deliberationkeep_Src) (n_1 : Int) : Option (Int × T_deliberationkeep_Src) :=
 Option.bind (keep_Src_Raw_m s_0) fun t1 =>
 Option.bind (keep_Mod_m t1.1 n_1) fun t2 =>
 some ((t2, t1.2))
noncomputable def keep_Src_N_C : Con := ⟨[(.st 2), (.int .i64)], [(.int .i64), (.st 2)], fun (a : T_deliberationkeep_Src × Int) => keep_Src_N_m a.1 a.2, [(false, [.ptr 0]), (false, [.d 1 0])], [.oc 0 [.d 0 0, .d 0 1]], [(false, [.d 0 0])], [.oc 0 [.d 1 0, .d 1 1]], 1, 1⟩
def keep_Src_N_H : Hints := ⟨[], [], [], [], []⟩
theorem keep_Src_N_ok [DrawMode] : ConFn prog 11 keep_Src_N_C := conFn_of (H := keep_Src_N_H) (fin := []) Tryz.func11 Tryz.call11 (tabL_ok (l := [(33, keep_Src_Raw_C), (32, keep_Mod_C)]) ⟨keep_Src_Raw_ok, keep_Mod_ok, trivial⟩) rfl rfl rfl (fun a => by kernel_rfl)

noncomputable def keep_Src_Graph_l1 (t1 : (Int × T_deliberationkeep_Src)) (t2 : (Int × T_deliberationkeep_Src)) (s47 : Int × (List Int) × Int × (List T_api_Pair)) (s58 : Int × (List Int) × Int × (List T_api_Pair)) : Option (Sum ((List Int) × Int × (List T_api_Pair)) (Int × (List Int) × Int × (List T_api_Pair))) :=
 bif decide (s58.1 < t1.1) then
 Option.bind (keep_Src_N_m ((T_deliberationkeep_Src.mk s58.2.1 s58.2.2.1)) 12) fun k59 =>
 joinM (fun j61 : Bool =>
 bif j61 then
 Option.bind (appM 16 s58.2.2.2 [(T_api_Pair.mk s47.1 s58.1)]) fun t62 =>
 some (Sum.inr ((iadd .i64 s58.1 1, k59.2.L, k59.2.At, t62)))
 else
 some (Sum.inr ((iadd .i64 s58.1 1, k59.2.L, k59.2.At, s58.2.2.2)))) fun k60 =>
 bif decide (k59.1 < (iadd .i64 1 t2.1)) then
 bif (s47.1 : Int) != s58.1 then
 k60 true
 else
 k60 ((k59.1 : Int) == 0)
 else
 k60 false
 else
 some (Sum.inl ((s58.2.1, s58.2.2.1, s58.2.2.2)))
noncomputable def keep_Src_Graph_l2 (t1 : (Int × T_deliberationkeep_Src)) (t2 : (Int × T_deliberationkeep_Src)) (s47 : Int × (List Int) × Int × (List T_api_Pair)) : Option (Sum ((List Int) × Int × (List T_api_Pair)) (Int × (List Int) × Int × (List T_api_Pair))) :=
 bif decide (s47.1 < t1.1) then
 Option.bind (loopC (keep_Src_Graph_l1 t1 t2 s47) ((0, s47.2.1, s47.2.2.1, s47.2.2.2))) fun q63 : (List Int) × Int × (List T_api_Pair) =>
 some (Sum.inr ((iadd .i64 s47.1 1, q63.1, q63.2.1, q63.2.2)))
 else
 some (Sum.inl ((s47.2.1, s47.2.2.1, s47.2.2.2)))
noncomputable def keep_Src_Graph_m (s_0 : T_deliberationkeep_Src) (n_1 : Int) : Option (T_api_Graph × T_deliberationkeep_Src) :=
 Option.bind (keep_Src_N_m s_0 (iadd .i64 n_1 1)) fun t1 =>
 Option.bind (keep_Src_N_m t1.2 6) fun t2 =>
 Option.bind (loopC (keep_Src_Graph_l2 t1 t2) ((0, t2.2.L, t2.2.At, []))) fun q64 : (List Int) × Int × (List T_api_Pair) =>
 some (((T_api_Graph.mk t1.1 q64.2.2), (T_deliberationkeep_Src.mk q64.1 q64.2.1)))
noncomputable def keep_Src_Graph_C : Con := ⟨[(.st 2), (.int .i64)], [(.st 1), (.st 2)], fun (a : T_deliberationkeep_Src × Int) => keep_Src_Graph_m a.1 a.2, [(false, [.ptr 0]), (false, [.d 1 0])], [.oc 0 [.d 0 0, .d 0 1]], [(true, [.d 0 0, .d 0 1])], [.oc 0 [.d 1 0, .d 1 1]], 1, 1⟩
def keep_Src_Graph_H : Hints := ⟨[(0, ⟨[.own (.st 0) (.cell 2 1)], ⟨[(.int .i64), (.sl (.int .i64)), (.int .i64), (.sl (.st 0))], [(0, none), (4, none), (5, none), (6, none), (7, some (false, [.d 0 0]))], [.cells [some (.d 1 0), some (.d 2 0)], .keep, .cells [none, some (.own 4)], .dead, .oaN 0 (.d 3 0)], 1⟩, [], some ([], ⟨[(.sl (.int .i64)), (.int .i64), (.sl (.st 0))], [(0, none), (4, none), (5, none)], [.cells [some (.d 0 0), some (.d 1 0)], .keep, .cells [none, some (.own 4)], .dead, .oaN 0 (.d 2 0)], 1⟩), false, none⟩), (2, ⟨[], ⟨[(.int .i64), (.sl (.int .i64)), (.int .i64), (.sl (.st 0))], [(0, none), (4, none), (5, none), (6, none), (7, none), (8, some (false, [.d 0 0]))], [.cells [some (.d 1 0), some (.d 2 0)], .keep, .cells [none, some (.own 5)], .dead, .dead, .oaN 0 (.d 3 0)], 1⟩, [], some ([], ⟨[(.sl (.int .i64)), (.int .i64), (.sl (.st 0))], [(0, none), (4, none), (5, none), (6, none), (7, none)], [.cells [some (.d 0 0), some (.d 1 0)], .keep, .cells [none, some (.own 5)], .dead, .dead, .oaN 0 (.d 2 0)], 1⟩), false, none⟩)], [(24, ([], ⟨[.bool], [(0, none), (4, none), (5, none), (6, none), (7, none), (8, none), (43, some (false, [.d 0 0]))], [.keep, .keep, .keep, .dead, .dead, .keep], 0⟩))], [], [], []⟩
theorem keep_Src_Graph_ok [DrawMode] : ConFn prog 9 keep_Src_Graph_C := conFn_of (H := keep_Src_Graph_H) (fin := [.sl (.st 0) (.cell 1 1)]) Tryz.func9 Tryz.call9 (tabL_ok (l := [(11, keep_Src_N_C)]) ⟨keep_Src_N_ok, trivial⟩) rfl rfl rfl (fun a => by kernel_rfl)

noncomputable def cmp_isNaN_int_m (x_0 : Int) : Option (Bool) :=
 some ((x_0 : Int) != x_0)
noncomputable def cmp_isNaN_int_C : Con := ⟨[(.int .i64)], [.bool], fun (a : Int) => cmp_isNaN_int_m a, [(false, [.d 0 0])], [], [(false, [.d 0 0])], [], 0, 0⟩
def cmp_isNaN_int_H : Hints := ⟨[], [], [], [], []⟩
theorem cmp_isNaN_int_ok [DrawMode] : ConFn prog 125 cmp_isNaN_int_C := conFn_of (H := cmp_isNaN_int_H) (fin := []) Tryz.func125 Tryz.call125 (tabL_ok (l := []) trivial) rfl rfl rfl (fun a => by kernel_rfl)

noncomputable def cmp_Compare_int_m (x_0 : Int) (y_1 : Int) : Option (Int) :=
 Option.bind (cmp_isNaN_int_m x_0) fun xNaN1 =>
 Option.bind (cmp_isNaN_int_m y_1) fun yNaN2 =>
 bif xNaN1 then
 bif yNaN2 then
 some 0
 else
 some ((-1))
 else
 bif yNaN2 then
 some 1
 else
 bif decide (x_0 < y_1) then
 some ((-1))
 else
 bif decide (x_0 > y_1) then
 some 1
 else
 some 0
noncomputable def cmp_Compare_int_C : Con := ⟨[(.int .i64), (.int .i64)], [(.int .i64)], fun (a : Int × Int) => cmp_Compare_int_m a.1 a.2, [(false, [.d 0 0]), (false, [.d 1 0])], [], [(false, [.d 0 0])], [], 0, 0⟩
def cmp_Compare_int_H : Hints := ⟨[], [], [], [], []⟩
theorem cmp_Compare_int_ok [DrawMode] : ConFn prog 108 cmp_Compare_int_C := conFn_of (H := cmp_Compare_int_H) (fin := []) Tryz.func108 Tryz.call108 (tabL_ok (l := [(125, cmp_isNaN_int_C)]) ⟨cmp_isNaN_int_ok, trivial⟩) rfl rfl rfl (fun a => by kernel_rfl)

noncomputable def cmp_Or_int_l1 (vals_0 : (List Int)) (s5 : Int) : Option (Sum (Sum (Int) (Unit)) (Int)) :=
 bif decide (s5 < ((vals_0.length : Int))) then
 Option.bind (idxM vals_0 s5) fun t6 =>
 bif (t6 : Int) != 0 then
 some (Sum.inl (Sum.inl t6))
 else
 some (Sum.inr (iadd .i64 s5 1))
 else
 some (Sum.inl (Sum.inr (())))
noncomputable def cmp_Or_int_m (vals_0 : (List Int)) : Option (Int) :=
 Option.bind (loopC (cmp_Or_int_l1 vals_0) 0) (sumK (fun a : Int => some a) fun q7 : Unit =>
 some 0)
noncomputable def cmp_Or_int_C : Con := ⟨[(.sl (.int .i64))], [(.int .i64)], fun (a : (List Int)) => cmp_Or_int_m a, [(false, [.d 0 0])], [], [(false, [.d 0 0])], [], 0, 0⟩
def cmp_Or_int_H : Hints := ⟨[(0, ⟨[], ⟨[(.int .i64)], [(2, none), (3, none), (6, none), (7, none), (8, some (false, [.d 0 0]))], [], 0⟩, [], some ([], ⟨[], [(2, none), (3, none)], [], 0⟩), true, none⟩)], [], [], [], []⟩
theorem cmp_Or_int_ok [DrawMode] : ConFn prog 107 cmp_Or_int_C := conFn_of (H := cmp_Or_int_H) (fin := []) Tryz.func107 Tryz.call107 (tabL_ok (l := []) trivial) rfl rfl rfl (fun a => by kernel_rfl)

noncomputable def graph_compare_m (a_0 : T_api_Pair) (b_1 : T_api_Pair) : Option (Int) :=
 Option.bind (cmp_Compare_int_m a_0.From b_1.From) fun t1 =>
 Option.bind (cmp_Compare_int_m a_0.To b_1.To) fun t2 =>
 Option.bind (cmp_Or_int_m [t1, t2]) fun t3 =>
 some t3
noncomputable def graph_compare_C : Con := ⟨[(.st 0), (.st 0)], [(.int .i64)], fun (a : T_api_Pair × T_api_Pair) => graph_compare_m a.1 a.2, [(true, [.d 0 0, .d 0 1]), (true, [.d 1 0, .d 1 1])], [], [(false, [.d 0 0])], [], 0, 0⟩
def graph_compare_H : Hints := ⟨[], [], [], [], []⟩
theorem graph_compare_ok [DrawMode] : ConFn prog 90 graph_compare_C := conFn_of (H := graph_compare_H) (fin := []) Tryz.func90 Tryz.call90 (tabL_ok (l := [(108, cmp_Compare_int_C), (107, cmp_Or_int_C)]) ⟨cmp_Compare_int_ok, cmp_Or_int_ok, trivial⟩) rfl rfl rfl (fun a => by kernel_rfl)

noncomputable def graph_Validate_l1 (g_0 : T_api_Graph) (s9 : Int) : Option (Sum (Sum (Int) (Unit)) (Int)) :=
 bif decide (s9 < ((g_0.L.length : Int))) then
 Option.bind (idxM g_0.L s9) fun t10 =>
 bif decide ((imin t10.From t10.To) < 0) then
 some (Sum.inl (Sum.inl 1))
 else
 bif decide ((imax t10.From t10.To) ≥ g_0.N) then
 some (Sum.inl (Sum.inl 1))
 else
 bif decide (s9 > 0) then
 Option.bind (idxM g_0.L (isub .i64 s9 1)) fun t11 =>
 Option.bind (graph_compare_m t11 t10) fun t12 =>
 bif decide (t12 ≥ 0) then
 some (Sum.inl (Sum.inl 8))
 else
 some (Sum.inr (iadd .i64 s9 1))
 else
 some (Sum.inr (iadd .i64 s9 1))
 else
 some (Sum.inl (Sum.inr (())))
noncomputable def graph_Validate_m (g_0 : T_api_Graph) : Option (Int) :=
 bif decide (g_0.N < 0) then
 some 1
 else
 bif decide (g_0.N > 40) then
 some 1
 else
 Option.bind (loopC (graph_Validate_l1 g_0) 0) (sumK (fun a : Int => some a) fun q13 : Unit =>
 some 0)
noncomputable def graph_Validate_C : Con := ⟨[(.st 1)], [(.int .i64)], fun (a : T_api_Graph) => graph_Validate_m a, [(true, [.d 0 0, .d 0 1])], [], [(false, [.d 0 0])], [], 0, 0⟩
def graph_Validate_H : Hints := ⟨[(0, ⟨[], ⟨[(.int .i64)], [(1, none), (2, none), (14, none), (15, none), (16, some (false, [.d 0 0]))], [.keep], 0⟩, [], some ([], ⟨[], [(2, none)], [.dead], 0⟩), true, none⟩)], [], [], [], []⟩
theorem graph_Validate_ok [DrawMode] : ConFn prog 65 graph_Validate_C := conFn_of (H := graph_Validate_H) (fin := []) Tryz.func65 Tryz.call65 (tabL_ok (l := [(90, graph_compare_C)]) ⟨graph_compare_ok, trivial⟩) rfl rfl rfl (fun a => by kernel_rfl)

noncomputable def verdict_asked_m (g_0 : T_api_Graph) (n_1 : Int) : Option (Int) :=
 Option.bind (graph_Validate_m g_0) fun t1 =>
 bif (t1 : Int) != 0 then
 some 1
 else
 bif decide (n_1 < 0) then
 some 1
 else
 bif decide (n_1 ≥ g_0.N) then
 some 1
 else
 some 0
noncomputable def verdict_asked_C : Con := ⟨[(.st 1), (.int .i64)], [(.int .i64)], fun (a : T_api_Graph × Int) => verdict_asked_m a.1 a.2, [(true, [.d 0 0, .d 0 1]), (false, [.d 1 0])], [], [(false, [.d 0 0])], [], 0, 0⟩
def verdict_asked_H : Hints := ⟨[], [], [], [], []⟩
theorem verdict_asked_ok [DrawMode] : ConFn prog 34 verdict_asked_C := conFn_of (H := verdict_asked_H) (fin := []) Tryz.func34 Tryz.call34 (tabL_ok (l := [(65, graph_Validate_C)]) ⟨graph_Validate_ok, trivial⟩) rfl rfl rfl (fun a => by kernel_rfl)

noncomputable def verdict_encoder_in_m (x_0_n : Int) (i_1 : Int) : Option (Int) :=
 some (iadd .i64 i_1 1)
noncomputable def verdict_encoder_in_C : Con := ⟨[(.int .i64), (.int .i64)], [(.int .i64)], fun (a : Int × Int) => verdict_encoder_in_m a.1 a.2, [(false, [.ptr 0]), (false, [.d 1 0])], [.oc 0 [.d 0 0, .nl]], [(false, [.d 0 0])], [.same], 1, 1⟩
def verdict_encoder_in_H : Hints := ⟨[], [], [], [], []⟩
theorem verdict_encoder_in_ok [DrawMode] : ConFn prog 35 verdict_encoder_in_C := conFn_of (H := verdict_encoder_in_H) (fin := []) Tryz.func35 Tryz.call35 (tabL_ok (l := []) trivial) rfl rfl rfl (fun a => by kernel_rfl)

noncomputable def graph_proper_m (g_0 : T_api_Graph) : Option (T_api_Graph) :=
 Option.bind (graph_Validate_m g_0) fun t1 =>
 bif (t1 : Int) != 0 then
 some ((T_api_Graph.mk 0 []))
 else
 some g_0
noncomputable def graph_proper_C : Con := ⟨[(.st 1)], [(.st 1)], fun (a : T_api_Graph) => graph_proper_m a, [(true, [.d 0 0, .d 0 1])], [], [(true, [.d 0 0, .d 0 1])], [], 0, 0⟩
def graph_proper_H : Hints := ⟨[], [], [], [], []⟩
theorem graph_proper_ok [DrawMode] : ConFn prog 109 graph_proper_C := conFn_of (H := graph_proper_H) (fin := []) Tryz.func109 Tryz.call109 (tabL_ok (l := [(65, graph_Validate_C)]) ⟨graph_Validate_ok, trivial⟩) rfl rfl rfl (fun a => by kernel_rfl)

def enc_T_api_Pair (x : T_api_Pair) : List Value := [.int .i64 x.From, .int .i64 x.To]
theorem enc_T_api_Pair_t : EncT rT_api_Pair enc_T_api_Pair 2 where
  size := rfl
  pos := by decide
  agg := rfl
  len := fun x => rfl
  one := fun x v hv => by simp only [enc_T_api_Pair, List.mem_cons, List.not_mem_nil, or_false] at hv; rcases hv with rfl | rfl <;> rfl
  to := fun x F w cs h => by
    match cs, h with
    | [v0, v1], ⟨h0, h1, _⟩ => cases (show v0 = .int .i64 x.From from h0); cases (show v1 = .int .i64 x.To from h1); rfl
  of := fun x F w => ⟨rfl, rfl, trivial⟩
theorem slices_SortFunc_api_Pair_api_Pair_ok_ [DrawMode] {s_0 r : List T_api_Pair} (hm : (sortFM graph_compare_m) s_0 = some r) {h_0 : Value × List Nat} :
    FnOk prog 112 [pv h_0.1, pv (.func (.func 90) #[] #[])] [oa rT_api_Pair h_0.1 h_0.2 s_0] (fun _ : Unit => []) (fun _ : Unit => [oa rT_api_Pair h_0.1 h_0.2 r]) :=
  sort_fnF enc_T_api_Pair_t (X := Unit) (fun x y r h => conCmp (t := .st 0) (@graph_compare_ok strictDraws) h fun _ => rfl)
    (fun hO blk off cap d w hc hH hb hs hT => AnyQ.slices_SortFunc_total sortFP 2 Tryz.isAgg61 Tryz.sizeOf61 enc_T_api_Pair (fun _ => rfl) enc_T_api_Pair_t.one _ hO 90 #[] blk off cap d w (enters_of Tryz.func90 (by kernel_rfl) rfl) hc hH hb hs hT)
    (fun p cap fv w => AnyF.slices_SortFunc_none sortFP p cap fv w) hm
noncomputable def slices_SortFunc_api_Pair_api_Pair_C : Con := conW2 (P := prog) (.st 0) (sortFM graph_compare_m) [(false, [.fn 90 []])]
theorem slices_SortFunc_api_Pair_api_Pair_ok [DrawMode] : ConFn prog 112 slices_SortFunc_api_Pair_api_Pair_C := ⟨Tryz.call112, conW2F_ok fun s r hm h0 => slices_SortFunc_api_Pair_api_Pair_ok_ hm⟩

noncomputable def graph_Reverse_l1 (t1 : (T_api_Graph)) (s11 : Int × (List T_api_Pair)) : Option (Sum ((List T_api_Pair)) (Int × (List T_api_Pair))) :=
 bif decide (s11.1 < ((t1.L.length : Int))) then
 Option.bind (idxM t1.L s11.1) fun t12 =>
 Option.bind (appM 16 s11.2 [(T_api_Pair.mk t12.To t12.From)]) fun t13 =>
 some (Sum.inr ((iadd .i64 s11.1 1, t13)))
 else
 some (Sum.inl s11.2)
noncomputable def graph_Reverse_m (g_0 : T_api_Graph) : Option (T_api_Graph) :=
 Option.bind (graph_proper_m g_0) fun t1 =>
 Option.bind (loopC (graph_Reverse_l1 t1) ((0, []))) fun q14 : (List T_api_Pair) =>
 Option.bind ((sortFM graph_compare_m) q14) fun t15 =>
 some ((T_api_Graph.mk t1.N t15))
noncomputable def graph_Reverse_C : Con := ⟨[(.st 1)], [(.st 1)], fun (a : T_api_Graph) => graph_Reverse_m a, [(true, [.d 0 0, .d 0 1])], [], [(true, [.d 0 0, .d 0 1])], [], 0, 0⟩
def graph_Reverse_H : Hints := ⟨[(0, ⟨[.own (.st 0) (.cell 2 1)], ⟨[(.int .i64), (.sl (.st 0))], [(2, none), (3, none), (12, none), (13, none), (14, some (false, [.d 0 0]))], [.dead, .keep, .cells [none, some (.own 4)], .dead, .oaN 0 (.d 1 0)], 1⟩, [], some ([], ⟨[(.sl (.st 0))], [(2, none), (3, none)], [.dead, .keep, .cells [none, some (.own 4)], .dead, .oaN 0 (.d 0 0)], 1⟩), false, none⟩)], [], [], [], []⟩
theorem graph_Reverse_ok [DrawMode] : ConFn prog 92 graph_Reverse_C := conFn_of (H := graph_Reverse_H) (fin := [.sl (.st 0) (.cell 1 1)]) Tryz.func92 Tryz.call92 (tabL_ok (l := [(112, slices_SortFunc_api_Pair_api_Pair_C), (109, graph_proper_C), (90, graph_compare_C)]) ⟨slices_SortFunc_api_Pair_api_Pair_ok, graph_proper_ok, graph_compare_ok, trivial⟩) rfl rfl rfl (fun a => by kernel_rfl)

noncomputable def graph_masks_l1 (g_0 : T_api_Graph) (s12 : Int × (List Int)) : Option (Sum ((List Int)) (Int × (List Int))) :=
 bif decide (s12.1 < ((g_0.L.length : Int))) then
 Option.bind (idxM g_0.L s12.1) fun t13 =>
 Option.bind (idxM s12.2 t13.From) fun t14 =>
 Option.bind (ishlM .u64 1 t13.To) fun t15 =>
 Option.bind (idxM s12.2 t13.From) fun t16 =>
 some (Sum.inr ((iadd .i64 s12.1 1, s12.2.set (Int.toNat t13.From) (ior .u64 t14 t15))))
 else
 some (Sum.inl s12.2)
noncomputable def graph_masks_m (g_0 : T_api_Graph) : Option ((List Int)) :=
 Option.bind (mkM 8 0 g_0.N) fun out1 =>
 Option.bind (loopC (graph_masks_l1 g_0) ((0, out1))) fun q17 : (List Int) =>
 some q17
noncomputable def graph_masks_C : Con := ⟨[(.st 1)], [(.sl (.int .u64))], fun (a : T_api_Graph) => graph_masks_m a, [(true, [.d 0 0, .d 0 1])], [], [(false, [.own 0])], [.oa 0 (.d 0 0)], 0, 1⟩
def graph_masks_H : Hints := ⟨[(0, ⟨[], ⟨[(.int .i64), (.sl (.int .u64))], [(2, none), (3, none), (10, none), (11, none), (12, some (false, [.d 0 0]))], [.dead, .data (.d 1 0)], 0⟩, [], some ([], ⟨[(.sl (.int .u64))], [(2, none), (3, none)], [.dead, .data (.d 0 0)], 0⟩), false, none⟩)], [], [], [], []⟩
theorem graph_masks_ok [DrawMode] : ConFn prog 111 graph_masks_C := conFn_of (H := graph_masks_H) (fin := []) Tryz.func111 Tryz.call111 (tabL_ok (l := []) trivial) rfl rfl rfl (fun a => by kernel_rfl)

theorem tzC_ {x r : Int} (h : tzM x = some r) : FnOk prog 126 [iv .u64 x] [] (fun _ : Unit => [iv .i64 r]) (fun _ => []) :=
  tz_fn (g := 0) (fun x hx w hT => Any7.bits_TrailingZeros64 tz29 x hx w hT) (by first | exact .head _ | exact .tail _ (.head _)) h
noncomputable def math_bits_TrailingZeros64_C : Con := ⟨[.int .u64], [.int .i64], tzM, [(false, [.d 0 0])], [], [(false, [.d 0 0])], [], 0, 0⟩
theorem math_bits_TrailingZeros64_ok : ConFn prog 126 math_bits_TrailingZeros64_C := ⟨Tryz.call126, tz_con fun h => tzC_ h⟩

noncomputable def graph_list_l1  (s10 : Int × (List Int)) : Option (Sum ((List Int)) (Int × (List Int))) :=
 bif (s10.1 : Int) != 0 then
 Option.bind (tzM s10.1) fun t11 =>
 Option.bind (appM 8 s10.2 [t11]) fun out12 =>
 some (Sum.inr ((iand .u64 s10.1 (isub .u64 s10.1 1), out12)))
 else
 some (Sum.inl s10.2)
noncomputable def graph_list_m (set__0 : Int) : Option ((List Int)) :=
 Option.bind (loopC graph_list_l1 ((set__0, []))) fun q13 : (List Int) =>
 some q13
noncomputable def graph_list_C : Con := ⟨[(.int .u64)], [(.sl (.int .i64))], fun (a : Int) => graph_list_m a, [(false, [.d 0 0])], [], [(false, [.own 0])], [.oa 0 (.d 0 0)], 0, 1⟩
def graph_list_H : Hints := ⟨[(0, ⟨[.own (.int .i64) (.slot 3 0)], ⟨[(.int .u64), (.sl (.int .i64))], [(0, some (false, [.d 0 0])), (2, none), (3, some (false, [.own 1]))], [.dead, .oaN 0 (.d 1 0)], 1⟩, [], some ([], ⟨[(.sl (.int .i64))], [(2, none), (3, some (false, [.own 1]))], [.dead, .oaN 0 (.d 0 0)], 1⟩), false, none⟩)], [], [], [], []⟩
theorem graph_list_ok : ConFn prog 110 graph_list_C := conFn_of (H := graph_list_H) (fin := []) Tryz.func110 Tryz.call110 (tabL_ok (l := [(126, math_bits_TrailingZeros64_C)]) ⟨math_bits_TrailingZeros64_ok, trivial⟩) rfl rfl rfl (fun a => by kernel_rfl)

noncomputable def graph_Attacked_m (g_0 : T_api_Graph) (i_1 : Int) : Option ((List Int)) :=
 Option.bind (graph_proper_m g_0) fun t1 =>
 bif decide (i_1 < 0) then
 some []
 else
 bif decide (i_1 ≥ t1.N) then
 some []
 else
 Option.bind (graph_masks_m t1) fun t2 =>
 Option.bind (idxM t2 i_1) fun t3 =>
 Option.bind (graph_list_m t3) fun t4 =>
 some t4
noncomputable def graph_Attacked_C : Con := ⟨[(.st 1), (.int .i64)], [(.sl (.int .i64))], fun (a : T_api_Graph × Int) => graph_Attacked_m a.1 a.2, [(true, [.d 0 0, .d 0 1]), (false, [.d 1 0])], [], [(false, [.own 0])], [.oa 0 (.d 0 0)], 0, 1⟩
def graph_Attacked_H : Hints := ⟨[], [], [], [], []⟩
theorem graph_Attacked_ok : ConFn prog 91 graph_Attacked_C := conFn_of (H := graph_Attacked_H) (fin := [.own (.int .i64) (.slot 4 0)]) Tryz.func91 Tryz.call91 (tabL_ok (l := [(109, graph_proper_C), (111, graph_masks_C), (110, graph_list_C)]) ⟨graph_proper_ok, graph_masks_ok, graph_list_ok, trivial⟩) rfl rfl rfl (fun a => by kernel_rfl)

noncomputable def graph_Attackers_m (g_0 : T_api_Graph) (i_1 : Int) : Option ((List Int)) :=
 Option.bind (graph_Reverse_m g_0) fun t1 =>
 Option.bind (graph_Attacked_m t1 i_1) fun t2 =>
 some t2
noncomputable def graph_Attackers_C : Con := ⟨[(.st 1), (.int .i64)], [(.sl (.int .i64))], fun (a : T_api_Graph × Int) => graph_Attackers_m a.1 a.2, [(true, [.d 0 0, .d 0 1]), (false, [.d 1 0])], [], [(false, [.own 0])], [.oa 0 (.d 0 0)], 0, 1⟩
def graph_Attackers_H : Hints := ⟨[], [], [], [], []⟩
theorem graph_Attackers_ok : ConFn prog 66 graph_Attackers_C := conFn_of (H := graph_Attackers_H) (fin := []) Tryz.func66 Tryz.call66 (tabL_ok (l := [(92, graph_Reverse_C), (91, graph_Attacked_C)]) ⟨graph_Reverse_ok, graph_Attacked_ok, trivial⟩) rfl rfl rfl (fun a => by kernel_rfl)

noncomputable def verdict_encoder_out_m (x_0_n : Int) (i_1 : Int) : Option (Int) :=
 some (iadd .i64 (iadd .i64 x_0_n i_1) 1)
noncomputable def verdict_encoder_out_C : Con := ⟨[(.int .i64), (.int .i64)], [(.int .i64)], fun (a : Int × Int) => verdict_encoder_out_m a.1 a.2, [(false, [.ptr 0]), (false, [.d 1 0])], [.oc 0 [.d 0 0, .nl]], [(false, [.d 0 0])], [.same], 1, 1⟩
def verdict_encoder_out_H : Hints := ⟨[], [], [], [], []⟩
theorem verdict_encoder_out_ok [DrawMode] : ConFn prog 67 verdict_encoder_out_C := conFn_of (H := verdict_encoder_out_H) (fin := []) Tryz.func67 Tryz.call67 (tabL_ok (l := []) trivial) rfl rfl rfl (fun a => by kernel_rfl)

noncomputable def verdict_encoder_add_m (x_0_n : Int) (c_1 : (List Int)) : Option (Int × (List (List Int))) :=
 Option.bind (appM 24 [] [c_1]) fun t1 =>
 some ((x_0_n, t1))
noncomputable def verdict_encoder_add_C : Con := ⟨[(.int .i64), (.sl (.int .i64))], [(.int .i64), (.sl (.sl (.int .i64)))], fun (a : Int × (List Int)) => verdict_encoder_add_m a.1 a.2, [(false, [.ptr 0]), (false, [.d 1 0])], [.oc 0 [.d 0 0, .nl]], [], [.oc 0 [.d 0 0, .own 1], .oa 1 (.d 1 0)], 1, 2⟩
def verdict_encoder_add_H : Hints := ⟨[], [], [], [], []⟩
theorem verdict_encoder_add_ok [DrawMode] : ConFn prog 37 verdict_encoder_add_C := conFn_of (H := verdict_encoder_add_H) (fin := []) Tryz.func37 Tryz.call37 (tabL_ok (l := []) trivial) rfl rfl rfl (fun a => by kernel_rfl)

noncomputable def verdict_encoder_in_s1_m (x_0_n : Int) (x_0_l : (List (List Int))) (i_1 : Int) : Option (Int) :=
 some (iadd .i64 i_1 1)
noncomputable def verdict_encoder_in_s1_C : Con := ⟨[(.int .i64), (.sl (.sl (.int .i64))), (.int .i64)], [(.int .i64)], fun (a : Int × (List (List Int)) × Int) => verdict_encoder_in_s1_m a.1 a.2.1 a.2.2, [(false, [.ptr 0]), (false, [.d 2 0])], [.oc 0 [.d 0 0, .own 1], .oa 1 (.d 1 0)], [(false, [.d 0 0])], [.same, .same], 2, 2⟩
def verdict_encoder_in_s1_H : Hints := ⟨[], [], [], [], []⟩
theorem verdict_encoder_in_s1_ok [DrawMode] : ConFn prog 35 verdict_encoder_in_s1_C := conFn_of (H := verdict_encoder_in_s1_H) (fin := []) Tryz.func35 Tryz.call35 (tabL_ok (l := []) trivial) rfl rfl rfl (fun a => by kernel_rfl)

noncomputable def verdict_encoder_out_s1_m (x_0_n : Int) (x_0_l : (List (List Int))) (i_1 : Int) : Option (Int) :=
 some (iadd .i64 (iadd .i64 x_0_n i_1) 1)
noncomputable def verdict_encoder_out_s1_C : Con := ⟨[(.int .i64), (.sl (.sl (.int .i64))), (.int .i64)], [(.int .i64)], fun (a : Int × (List (List Int)) × Int) => verdict_encoder_out_s1_m a.1 a.2.1 a.2.2, [(false, [.ptr 0]), (false, [.d 2 0])], [.oc 0 [.d 0 0, .own 1], .oa 1 (.d 1 0)], [(false, [.d 0 0])], [.same, .same], 2, 2⟩
def verdict_encoder_out_s1_H : Hints := ⟨[], [], [], [], []⟩
theorem verdict_encoder_out_s1_ok [DrawMode] : ConFn prog 67 verdict_encoder_out_s1_C := conFn_of (H := verdict_encoder_out_s1_H) (fin := []) Tryz.func67 Tryz.call67 (tabL_ok (l := []) trivial) rfl rfl rfl (fun a => by kernel_rfl)

noncomputable def verdict_encoder_add_s1_m (x_0_n : Int) (x_0_l : (List (List Int))) (c_1 : (List Int)) : Option (Int × (List (List Int))) :=
 Option.bind (appM 24 x_0_l [c_1]) fun t1 =>
 some ((x_0_n, t1))
noncomputable def verdict_encoder_add_s1_C : Con := ⟨[(.int .i64), (.sl (.sl (.int .i64))), (.sl (.int .i64))], [(.int .i64), (.sl (.sl (.int .i64)))], fun (a : Int × (List (List Int)) × (List Int)) => verdict_encoder_add_s1_m a.1 a.2.1 a.2.2, [(false, [.ptr 0]), (false, [.d 2 0])], [.oc 0 [.d 0 0, .own 1], .oa 1 (.d 1 0)], [], [.oc 0 [.d 0 0, .own 2], .dead, .oa 2 (.d 1 0)], 2, 3⟩
def verdict_encoder_add_s1_H : Hints := ⟨[], [], [], [], []⟩
theorem verdict_encoder_add_s1_ok [DrawMode] : ConFn prog 37 verdict_encoder_add_s1_C := conFn_of (H := verdict_encoder_add_s1_H) (fin := []) Tryz.func37 Tryz.call37 (tabL_ok (l := []) trivial) rfl rfl rfl (fun a => by kernel_rfl)

noncomputable def verdict_encoder_node_l1 (i_2 : Int) (attackers1 : ((List Int))) (s44 : Int × Int × (List Int) × (List Int) × (List (List Int))) : Option (Sum (Int × (List Int) × (List Int) × (List (List Int))) (Int × Int × (List Int) × (List Int) × (List (List Int)))) :=
 bif decide (s44.1 < ((attackers1.length : Int))) then
 Option.bind (idxM attackers1 s44.1) fun t45 =>
 Option.bind (verdict_encoder_in_s1_m s44.2.1 s44.2.2.2.2 i_2) fun t46 =>
 Option.bind (verdict_encoder_out_s1_m s44.2.1 s44.2.2.2.2 t45) fun t47 =>
 Option.bind (verdict_encoder_add_s1_m s44.2.1 s44.2.2.2.2 [ineg .i64 t46, t47]) fun t48 =>
 Option.bind (verdict_encoder_out_s1_m t48.1 t48.2 t45) fun t49 =>
 Option.bind (appM 8 s44.2.2.1 [ineg .i64 t49]) fun accepted50 =>
 Option.bind (verdict_encoder_in_s1_m t48.1 t48.2 t45) fun t51 =>
 Option.bind (appM 8 s44.2.2.2.1 [t51]) fun rejected52 =>
 some (Sum.inr ((iadd .i64 s44.1 1, t48.1, accepted50, rejected52, t48.2)))
 else
 some (Sum.inl ((s44.2.1, s44.2.2.1, s44.2.2.2.1, s44.2.2.2.2)))
noncomputable def verdict_encoder_node_l2 (i_2 : Int) (attackers1 : ((List Int))) (s77 : Int × Int × (List (List Int))) : Option (Sum (Int × (List (List Int))) (Int × Int × (List (List Int)))) :=
 bif decide (s77.1 < ((attackers1.length : Int))) then
 Option.bind (idxM attackers1 s77.1) fun t78 =>
 Option.bind (verdict_encoder_in_s1_m s77.2.1 s77.2.2 t78) fun t79 =>
 Option.bind (verdict_encoder_out_s1_m s77.2.1 s77.2.2 i_2) fun t80 =>
 Option.bind (verdict_encoder_add_s1_m s77.2.1 s77.2.2 [ineg .i64 t79, t80]) fun t81 =>
 some (Sum.inr ((iadd .i64 s77.1 1, t81.1, t81.2)))
 else
 some (Sum.inl ((s77.2.1, s77.2.2)))
noncomputable def verdict_encoder_node_m (x_0_n : Int) (g_1 : T_api_Graph) (i_2 : Int) (stable_3 : Bool) : Option (Int × (List (List Int))) :=
 Option.bind (graph_Attackers_m g_1 i_2) fun attackers1 =>
 Option.bind (verdict_encoder_in_m x_0_n i_2) fun t2 =>
 Option.bind (verdict_encoder_out_m x_0_n i_2) fun t3 =>
 Option.bind (verdict_encoder_add_m x_0_n [ineg .i64 t2, ineg .i64 t3]) fun t4 =>
 Option.bind (verdict_encoder_in_s1_m t4.1 t4.2 i_2) fun t5 =>
 Option.bind (loopC (verdict_encoder_node_l1 i_2 attackers1) ((0, t4.1, [t5], [], t4.2))) fun q53 : Int × (List Int) × (List Int) × (List (List Int)) =>
 Option.bind (verdict_encoder_add_s1_m q53.1 q53.2.2.2 q53.2.1) fun t54 =>
 Option.bind (loopC (verdict_encoder_node_l2 i_2 attackers1) ((0, t54.1, t54.2))) fun q82 : Int × (List (List Int)) =>
 Option.bind (verdict_encoder_out_s1_m q82.1 q82.2 i_2) fun t83 =>
 Option.bind (appM 8 q53.2.2.1 [ineg .i64 t83]) fun t84 =>
 Option.bind (verdict_encoder_add_s1_m q82.1 q82.2 t84) fun t85 =>
 bif stable_3 then
 Option.bind (verdict_encoder_in_s1_m t85.1 t85.2 i_2) fun t86 =>
 Option.bind (verdict_encoder_out_s1_m t85.1 t85.2 i_2) fun t87 =>
 Option.bind (verdict_encoder_add_s1_m t85.1 t85.2 [t86, t87]) fun t88 =>
 some ((t88.1, t88.2))
 else
 some ((t85.1, t85.2))
noncomputable def verdict_encoder_node_C : Con := ⟨[(.int .i64), (.st 1), (.int .i64), .bool], [(.int .i64), (.sl (.sl (.int .i64)))], fun (a : Int × T_api_Graph × Int × Bool) => verdict_encoder_node_m a.1 a.2.1 a.2.2.1 a.2.2.2, [(false, [.ptr 0]), (true, [.d 1 0, .d 1 1]), (false, [.d 2 0]), (false, [.d 3 0])], [.oc 0 [.d 0 0, .nl]], [], [.oc 0 [.d 0 0, .own 1], .oa 1 (.d 1 0)], 1, 2⟩
def verdict_encoder_node_H : Hints := ⟨[(0, ⟨[], ⟨[(.int .i64), (.int .i64), (.sl (.int .i64)), (.sl (.int .i64)), (.sl (.sl (.int .i64)))], [(0, none), (2, none), (3, none), (8, none), (9, some (false, [.own 6])), (10, some (false, [.own 7])), (34, none), (35, none), (36, some (false, [.d 0 0]))], [.cells [some (.d 1 0), some (.own 8)], .dead, .keep, .dead, .dead, .dead, .oaN 0 (.d 2 0), .oaN 1 (.d 3 0), .oaN 2 (.d 4 0)], 3⟩, [], some ([], ⟨[(.int .i64), (.sl (.int .i64)), (.sl (.int .i64)), (.sl (.sl (.int .i64)))], [(0, none), (2, none), (3, none), (8, none), (9, some (false, [.own 6])), (10, some (false, [.own 7]))], [.cells [some (.d 0 0), some (.own 8)], .dead, .keep, .dead, .dead, .dead, .oaN 0 (.d 1 0), .oaN 1 (.d 2 0), .oaN 2 (.d 3 0)], 3⟩), false, none⟩), (2, ⟨[], ⟨[(.int .i64), (.int .i64), (.sl (.sl (.int .i64)))], [(0, none), (2, none), (3, none), (10, none), (67, none), (68, none), (69, some (false, [.d 0 0]))], [.cells [some (.d 1 0), some (.own 10)], .dead, .keep, .dead, .dead, .dead, .dead, .keep, .dead, .dead, .oaN 0 (.d 2 0)], 1⟩, [], some ([], ⟨[(.int .i64), (.sl (.sl (.int .i64)))], [(0, none), (2, none), (3, none), (10, none)], [.cells [some (.d 0 0), some (.own 10)], .dead, .dead, .dead, .dead, .dead, .dead, .keep, .dead, .dead, .oaN 0 (.d 1 0)], 1⟩), false, none⟩)], [], [32, 33], [], []⟩
theorem verdict_encoder_node_ok : ConFn prog 36 verdict_encoder_node_C := conFn_of (H := verdict_encoder_node_H) (fin := []) Tryz.func36 Tryz.call36 (tabL_ok (l := [(66, graph_Attackers_C), (35, verdict_encoder_in_C), (67, verdict_encoder_out_C), (37, verdict_encoder_add_C), (35, verdict_encoder_in_s1_C), (67, verdict_encoder_out_s1_C), (37, verdict_encoder_add_s1_C)]) ⟨graph_Attackers_ok, verdict_encoder_in_ok, verdict_encoder_out_ok, verdict_encoder_add_ok, verdict_encoder_in_s1_ok, verdict_encoder_out_s1_ok, verdict_encoder_add_s1_ok, trivial⟩) rfl rfl rfl (fun a => by kernel_rfl)

noncomputable def verdict_encoder_node_s1_l1 (i_2 : Int) (attackers1 : ((List Int))) (s44 : Int × Int × (List Int) × (List Int) × (List (List Int))) : Option (Sum (Int × (List Int) × (List Int) × (List (List Int))) (Int × Int × (List Int) × (List Int) × (List (List Int)))) :=
 bif decide (s44.1 < ((attackers1.length : Int))) then
 Option.bind (idxM attackers1 s44.1) fun t45 =>
 Option.bind (verdict_encoder_in_s1_m s44.2.1 s44.2.2.2.2 i_2) fun t46 =>
 Option.bind (verdict_encoder_out_s1_m s44.2.1 s44.2.2.2.2 t45) fun t47 =>
 Option.bind (verdict_encoder_add_s1_m s44.2.1 s44.2.2.2.2 [ineg .i64 t46, t47]) fun t48 =>
 Option.bind (verdict_encoder_out_s1_m t48.1 t48.2 t45) fun t49 =>
 Option.bind (appM 8 s44.2.2.1 [ineg .i64 t49]) fun accepted50 =>
 Option.bind (verdict_encoder_in_s1_m t48.1 t48.2 t45) fun t51 =>
 Option.bind (appM 8 s44.2.2.2.1 [t51]) fun rejected52 =>
 some (Sum.inr ((iadd .i64 s44.1 1, t48.1, accepted50, rejected52, t48.2)))
 else
 some (Sum.inl ((s44.2.1, s44.2.2.1, s44.2.2.2.1, s44.2.2.2.2)))
noncomputable def verdict_encoder_node_s1_l2 (i_2 : Int) (attackers1 : ((List Int))) (s77 : Int × Int × (List (List Int))) : Option (Sum (Int × (List (List Int))) (Int × Int × (List (List Int)))) :=
 bif decide (s77.1 < ((attackers1.length : Int))) then
 Option.bind (idxM attackers1 s77.1) fun t78 =>
 Option.bind (verdict_encoder_in_s1_m s77.2.1 s77.2.2 t78) fun t79 =>
 Option.bind (verdict_encoder_out_s1_m s77.2.1 s77.2.2 i_2) fun t80 =>
 Option.bind (verdict_encoder_add_s1_m s77.2.1 s77.2.2 [ineg .i64 t79, t80]) fun t81 =>
 some (Sum.inr ((iadd .i64 s77.1 1, t81.1, t81.2)))
 else
 some (Sum.inl ((s77.2.1, s77.2.2)))
noncomputable def verdict_encoder_node_s1_m (x_0_n : Int) (x_0_l : (List (List Int))) (g_1 : T_api_Graph) (i_2 : Int) (stable_3 : Bool) : Option (Int × (List (List Int))) :=
 Option.bind (graph_Attackers_m g_1 i_2) fun attackers1 =>
 Option.bind (verdict_encoder_in_s1_m x_0_n x_0_l i_2) fun t2 =>
 Option.bind (verdict_encoder_out_s1_m x_0_n x_0_l i_2) fun t3 =>
 Option.bind (verdict_encoder_add_s1_m x_0_n x_0_l [ineg .i64 t2, ineg .i64 t3]) fun t4 =>
 Option.bind (verdict_encoder_in_s1_m t4.1 t4.2 i_2) fun t5 =>
 Option.bind (loopC (verdict_encoder_node_s1_l1 i_2 attackers1) ((0, t4.1, [t5], [], t4.2))) fun q53 : Int × (List Int) × (List Int) × (List (List Int)) =>
 Option.bind (verdict_encoder_add_s1_m q53.1 q53.2.2.2 q53.2.1) fun t54 =>
 Option.bind (loopC (verdict_encoder_node_s1_l2 i_2 attackers1) ((0, t54.1, t54.2))) fun q82 : Int × (List (List Int)) =>
 Option.bind (verdict_encoder_out_s1_m q82.1 q82.2 i_2) fun t83 =>
 Option.bind (appM 8 q53.2.2.1 [ineg .i64 t83]) fun t84 =>
 Option.bind (verdict_encoder_add_s1_m q82.1 q82.2 t84) fun t85 =>
 bif stable_3 then
 Option.bind (verdict_encoder_in_s1_m t85.1 t85.2 i_2) fun t86 =>
 Option.bind (verdict_encoder_out_s1_m t85.1 t85.2 i_2) fun t87 =>
 Option.bind (verdict_encoder_add_s1_m t85.1 t85.2 [t86, t87]) fun t88 =>
 some ((t88.1, t88.2))
 else
 some ((t85.1, t85.2))
noncomputable def verdict_encoder_node_s1_C : Con := ⟨[(.int .i64), (.sl (.sl (.int .i64))), (.st 1), (.int .i64), .bool], [(.int .i64), (.sl (.sl (.int .i64)))], fun (a : Int × (List (List Int)) × T_api_Graph × Int × Bool) => verdict_encoder_node_s1_m a.1 a.2.1 a.2.2.1 a.2.2.2.1 a.2.2.2.2, [(false, [.ptr 0]), (true, [.d 2 0, .d 2 1]), (false, [.d 3 0]), (false, [.d 4 0])], [.oc 0 [.d 0 0, .own 1], .oa 1 (.d 1 0)], [], [.oc 0 [.d 0 0, .own 2], .dead, .oa 2 (.d 1 0)], 2, 3⟩
def verdict_encoder_node_s1_H : Hints := ⟨[(0, ⟨[], ⟨[(.int .i64), (.int .i64), (.sl (.int .i64)), (.sl (.int .i64)), (.sl (.sl (.int .i64)))], [(0, none), (2, none), (3, none), (8, none), (9, some (false, [.own 7])), (10, some (false, [.own 8])), (34, none), (35, none), (36, some (false, [.d 0 0]))], [.cells [some (.d 1 0), some (.own 9)], .dead, .dead, .keep, .dead, .dead, .dead, .oaN 0 (.d 2 0), .oaN 1 (.d 3 0), .oaN 2 (.d 4 0)], 3⟩, [], some ([], ⟨[(.int .i64), (.sl (.int .i64)), (.sl (.int .i64)), (.sl (.sl (.int .i64)))], [(0, none), (2, none), (3, none), (8, none), (9, some (false, [.own 7])), (10, some (false, [.own 8]))], [.cells [some (.d 0 0), some (.own 9)], .dead, .dead, .keep, .dead, .dead, .dead, .oaN 0 (.d 1 0), .oaN 1 (.d 2 0), .oaN 2 (.d 3 0)], 3⟩), false, none⟩), (2, ⟨[], ⟨[(.int .i64), (.int .i64), (.sl (.sl (.int .i64)))], [(0, none), (2, none), (3, none), (10, none), (67, none), (68, none), (69, some (false, [.d 0 0]))], [.cells [some (.d 1 0), some (.own 11)], .dead, .dead, .keep, .dead, .dead, .dead, .dead, .keep, .dead, .dead, .oaN 0 (.d 2 0)], 1⟩, [], some ([], ⟨[(.int .i64), (.sl (.sl (.int .i64)))], [(0, none), (2, none), (3, none), (10, none)], [.cells [some (.d 0 0), some (.own 11)], .dead, .dead, .dead, .dead, .dead, .dead, .dead, .keep, .dead, .dead, .oaN 0 (.d 1 0)], 1⟩), false, none⟩)], [], [32, 33], [], []⟩
theorem verdict_encoder_node_s1_ok : ConFn prog 36 verdict_encoder_node_s1_C := conFn_of (H := verdict_encoder_node_s1_H) (fin := []) Tryz.func36 Tryz.call36 (tabL_ok (l := [(66, graph_Attackers_C), (35, verdict_encoder_in_s1_C), (67, verdict_encoder_out_s1_C), (37, verdict_encoder_add_s1_C)]) ⟨graph_Attackers_ok, verdict_encoder_in_s1_ok, verdict_encoder_out_s1_ok, verdict_encoder_add_s1_ok, trivial⟩) rfl rfl rfl (fun a => by kernel_rfl)

noncomputable def verdict_Encode_l1 (g_0 : T_api_Graph) (question_1 : Int) (s22 : Int × Int × (List (List Int))) : Option (Sum (Int × (List (List Int))) (Int × Int × (List (List Int)))) :=
 bif decide (s22.1 < g_0.N) then
 Option.bind (verdict_encoder_node_s1_m s22.2.1 s22.2.2 g_0 s22.1 ((question_1 : Int) != 1)) fun t23 =>
 some (Sum.inr ((iadd .i64 s22.1 1, t23.1, t23.2)))
 else
 some (Sum.inl ((s22.2.1, s22.2.2)))
noncomputable def verdict_Encode_m (g_0 : T_api_Graph) (question_1 : Int) (n_2 : Int) : Option (Int × Int × (List (List Int))) :=
 Option.bind (verdict_asked_m g_0 n_2) fun e2 =>
 bif (e2 : Int) != 0 then
 some ((0, e2, []))
 else
 Option.bind (verdict_encoder_in_m g_0.N n_2) fun last3 =>
 joinM (fun j7 : Int =>
 Option.bind (loopC (verdict_Encode_l1 g_0 question_1) ((0, g_0.N, []))) fun q24 : Int × (List (List Int)) =>
 Option.bind (verdict_encoder_add_s1_m q24.1 q24.2 [j7]) fun t25 =>
 some ((imul .i64 2 g_0.N, 0, t25.2))) fun k6 =>
 joinM (fun j27 : Bool =>
 bif j27 then
 k6 last3
 else
 bif (question_1 : Int) == 3 then
 k6 (ineg .i64 last3)
 else
 some ((0, 4, []))) fun k26 =>
 bif (question_1 : Int) == 1 then
 k26 ((question_1 : Int) == 1)
 else
 k26 ((question_1 : Int) == 2)
noncomputable def verdict_Encode_C : Con := ⟨[(.st 1), (.int .i64), (.int .i64)], [(.int .i64), (.int .i64), (.sl (.sl (.int .i64)))], fun (a : T_api_Graph × Int × Int) => verdict_Encode_m a.1 a.2.1 a.2.2, [(true, [.d 0 0, .d 0 1]), (false, [.d 1 0]), (false, [.d 2 0])], [], [(false, [.d 0 0]), (false, [.own 0]), (false, [.d 1 0])], [.oa 0 (.d 2 0)], 0, 1⟩
def verdict_Encode_H : Hints := ⟨[(1, ⟨[.own (.sl (.int .i64)) (.cell 1 1)], ⟨[(.int .i64), (.int .i64), (.sl (.sl (.int .i64)))], [(1, none), (3, none), (6, none), (7, none), (8, none), (10, none), (11, none), (35, none), (36, some (false, [.d 0 0]))], [.keep, .cells [some (.d 1 0), some (.own 3)], .dead, .oaN 0 (.d 2 0)], 1⟩, [], some ([], ⟨[(.int .i64), (.sl (.sl (.int .i64)))], [(3, none), (6, none), (7, none), (8, none), (10, none), (11, none)], [.keep, .cells [some (.d 0 0), some (.own 3)], .dead, .oaN 0 (.d 1 0)], 1⟩), false, none⟩)], [(26, ([], ⟨[(.int .i64)], [(1, none), (3, none), (6, none), (7, none), (8, none), (10, none), (11, some (false, [.d 0 0]))], [.keep, .keep], 0⟩)), (22, ([], ⟨[.bool], [(1, none), (3, none), (6, none), (7, none), (8, none), (10, none), (11, none), (26, none), (27, some (false, [.d 0 0]))], [.keep, .keep], 0⟩))], [], [], []⟩
theorem verdict_Encode_ok : ConFn prog 12 verdict_Encode_C := conFn_of (H := verdict_Encode_H) (fin := [.own (.sl (.int .i64)) (.slot 7 0)]) Tryz.func12 Tryz.call12 (tabL_ok (l := [(34, verdict_asked_C), (35, verdict_encoder_in_C), (36, verdict_encoder_node_C), (36, verdict_encoder_node_s1_C), (37, verdict_encoder_add_s1_C)]) ⟨verdict_asked_ok, verdict_encoder_in_ok, verdict_encoder_node_ok, verdict_encoder_node_s1_ok, verdict_encoder_add_s1_ok, trivial⟩) rfl rfl rfl (fun a => by kernel_rfl)

noncomputable def ref10_Validate_l1 (g_0 : T_api_Graph) (s11 : Int) : Option (Sum (Sum (Int) (Unit)) (Int)) :=
 bif decide (s11 < ((g_0.L.length : Int))) then
 Option.bind (idxM g_0.L s11) fun t12 =>
 bif decide (t12.From < 0) then
 some (Sum.inl (Sum.inl 1))
 else
 bif decide (t12.From ≥ g_0.N) then
 some (Sum.inl (Sum.inl 1))
 else
 bif decide (t12.To < 0) then
 some (Sum.inl (Sum.inl 1))
 else
 bif decide (t12.To ≥ g_0.N) then
 some (Sum.inl (Sum.inl 1))
 else
 bif decide (s11 > 0) then
 Option.bind (idxM g_0.L (isub .i64 s11 1)) fun t13 =>
 bif decide (t13.From > t12.From) then
 some (Sum.inl (Sum.inl 8))
 else
 Option.bind (idxM g_0.L (isub .i64 s11 1)) fun t14 =>
 bif (t14.From : Int) == t12.From then
 Option.bind (idxM g_0.L (isub .i64 s11 1)) fun t15 =>
 bif decide (t15.To ≥ t12.To) then
 some (Sum.inl (Sum.inl 8))
 else
 some (Sum.inr (iadd .i64 s11 1))
 else
 some (Sum.inr (iadd .i64 s11 1))
 else
 some (Sum.inr (iadd .i64 s11 1))
 else
 some (Sum.inl (Sum.inr (())))
noncomputable def ref10_Validate_m (g_0 : T_api_Graph) : Option (Int) :=
 bif decide (g_0.N < 0) then
 some 1
 else
 bif decide (g_0.N > 40) then
 some 1
 else
 Option.bind (loopC (ref10_Validate_l1 g_0) 0) (sumK (fun a : Int => some a) fun q16 : Unit =>
 some 0)
noncomputable def ref10_Validate_C : Con := ⟨[(.st 1)], [(.int .i64)], fun (a : T_api_Graph) => ref10_Validate_m a, [(true, [.d 0 0, .d 0 1])], [], [(false, [.d 0 0])], [], 0, 0⟩
def ref10_Validate_H : Hints := ⟨[(0, ⟨[], ⟨[(.int .i64)], [(1, none), (2, none), (3, some (false, [.d 0 0]))], [.keep], 0⟩, [], some ([], ⟨[], [(2, none)], [.dead], 0⟩), true, none⟩)], [], [], [], []⟩
theorem ref10_Validate_ok [DrawMode] : ConFn prog 38 ref10_Validate_C := conFn_of (H := ref10_Validate_H) (fin := []) Tryz.func38 Tryz.call38 (tabL_ok (l := []) trivial) rfl rfl rfl (fun a => by kernel_rfl)

noncomputable def ref10_Valid_m (g_0 : T_api_Graph) : Option (T_api_Graph) :=
 Option.bind (ref10_Validate_m g_0) fun t1 =>
 bif (t1 : Int) != 0 then
 some ((T_api_Graph.mk 0 []))
 else
 some g_0
noncomputable def ref10_Valid_C : Con := ⟨[(.st 1)], [(.st 1)], fun (a : T_api_Graph) => ref10_Valid_m a, [(true, [.d 0 0, .d 0 1])], [], [(true, [.d 0 0, .d 0 1])], [], 0, 0⟩
def ref10_Valid_H : Hints := ⟨[], [], [], [], []⟩
theorem ref10_Valid_ok [DrawMode] : ConFn prog 68 ref10_Valid_C := conFn_of (H := ref10_Valid_H) (fin := []) Tryz.func68 Tryz.call68 (tabL_ok (l := [(38, ref10_Validate_C)]) ⟨ref10_Validate_ok, trivial⟩) rfl rfl rfl (fun a => by kernel_rfl)

noncomputable def ref10_Attackers_l1 (i_1 : Int) (t1 : (T_api_Graph)) (s14 : Int × (List Int)) : Option (Sum ((List Int)) (Int × (List Int))) :=
 bif decide (s14.1 < ((t1.L.length : Int))) then
 Option.bind (idxM t1.L s14.1) fun t15 =>
 bif (t15.To : Int) == i_1 then
 Option.bind (idxM t1.L s14.1) fun t16 =>
 Option.bind (appM 8 s14.2 [t16.From]) fun out17 =>
 some (Sum.inr ((iadd .i64 s14.1 1, out17)))
 else
 some (Sum.inr ((iadd .i64 s14.1 1, s14.2)))
 else
 some (Sum.inl s14.2)
noncomputable def ref10_Attackers_m (g_0 : T_api_Graph) (i_1 : Int) : Option ((List Int)) :=
 Option.bind (ref10_Valid_m g_0) fun t1 =>
 Option.bind (loopC (ref10_Attackers_l1 i_1 t1) ((0, []))) fun q18 : (List Int) =>
 some q18
noncomputable def ref10_Attackers_C : Con := ⟨[(.st 1), (.int .i64)], [(.sl (.int .i64))], fun (a : T_api_Graph × Int) => ref10_Attackers_m a.1 a.2, [(true, [.d 0 0, .d 0 1]), (false, [.d 1 0])], [], [(false, [.own 0])], [.oa 0 (.d 0 0)], 0, 1⟩
def ref10_Attackers_H : Hints := ⟨[(0, ⟨[.own (.int .i64) (.slot 5 0)], ⟨[(.int .i64), (.sl (.int .i64))], [(1, none), (2, none), (4, none), (5, some (false, [.own 2])), (6, some (false, [.d 0 0]))], [.keep, .dead, .oaN 0 (.d 1 0)], 1⟩, [], some ([], ⟨[(.sl (.int .i64))], [(4, none), (5, some (false, [.own 2]))], [.dead, .dead, .oaN 0 (.d 0 0)], 1⟩), false, none⟩)], [], [], [], []⟩
theorem ref10_Attackers_ok [DrawMode] : ConFn prog 39 ref10_Attackers_C := conFn_of (H := ref10_Attackers_H) (fin := []) Tryz.func39 Tryz.call39 (tabL_ok (l := [(68, ref10_Valid_C)]) ⟨ref10_Valid_ok, trivial⟩) rfl rfl rfl (fun a => by kernel_rfl)

noncomputable def keep_Ints_l1 (a_0 : (List Int)) (b_1 : (List Int)) (s7 : Int) : Option (Sum (Sum (Bool) (Unit)) (Int)) :=
 bif decide (s7 < ((a_0.length : Int))) then
 Option.bind (idxM a_0 s7) fun t8 =>
 Option.bind (idxM b_1 s7) fun t9 =>
 bif (t8 : Int) != t9 then
 some (Sum.inl (Sum.inl false))
 else
 some (Sum.inr (iadd .i64 s7 1))
 else
 some (Sum.inl (Sum.inr (())))
noncomputable def keep_Ints_m (a_0 : (List Int)) (b_1 : (List Int)) : Option (Bool) :=
 bif ((a_0.length : Int) : Int) != ((b_1.length : Int)) then
 some false
 else
 Option.bind (loopC (keep_Ints_l1 a_0 b_1) 0) (sumK (fun a : Bool => some a) fun q10 : Unit =>
 some true)
noncomputable def keep_Ints_C : Con := ⟨[(.sl (.int .i64)), (.sl (.int .i64))], [.bool], fun (a : (List Int) × (List Int)) => keep_Ints_m a.1 a.2, [(false, [.d 0 0]), (false, [.d 1 0])], [], [(false, [.d 0 0])], [], 0, 0⟩
def keep_Ints_H : Hints := ⟨[(0, ⟨[], ⟨[(.int .i64)], [(0, none), (1, none), (4, none), (12, none), (13, some (false, [.d 0 0]))], [], 0⟩, [], some ([], ⟨[], [(4, none)], [], 0⟩), true, none⟩)], [], [], [], []⟩
theorem keep_Ints_ok [DrawMode] : ConFn prog 21 keep_Ints_C := conFn_of (H := keep_Ints_H) (fin := []) Tryz.func21 Tryz.call21 (tabL_ok (l := []) trivial) rfl rfl rfl (fun a => by kernel_rfl)

theorem el_rep : ElT prog 3 (rI .i64) 8 := ⟨⟨_, Tryz.type3, rfl, rfl, _, rfl, rfl⟩, Tryz.isAgg3, by decide, by decide⟩
theorem ze_rep : ZeroT prog 3 (rI .i64) 0 := ⟨_, _, Tryz.type3, rfl, fun _ _ => ⟨rfl, trivial⟩⟩
noncomputable def math_bits_Mul64_m (x_0 : Int) (y_1 : Int) : Option (Int × Int) :=
  letM (iand .u64 x_0 4294967295) fun x01 =>
  letM (ishr .u64 x_0 32) fun x12 =>
  letM (iand .u64 y_1 4294967295) fun y03 =>
  letM (ishr .u64 y_1 32) fun y14 =>
  letM (imul .u64 x01 y03) fun w05 =>
  letM (iadd .u64 (imul .u64 x12 y03) (ishr .u64 w05 32)) fun t6 =>
  letM (iand .u64 t6 4294967295) fun w17 =>
  letM (ishr .u64 t6 32) fun w28 =>
  letM (iadd .u64 w17 (imul .u64 x01 y14)) fun w19 =>
  letM (iadd .u64 (iadd .u64 (imul .u64 x12 y14) w28) (ishr .u64 w19 32)) fun hi10 =>
  letM (imul .u64 x_0 y_1) fun lo11 =>
  some (hi10, lo11)

theorem math_bits_Mul64_ok [DrawMode] {x_0 : Int} {y_1 : Int} {r : Int × Int} (hm : math_bits_Mul64_m x_0 y_1 = some r) :
    FnOk prog 130 [iv .u64 x_0, iv .u64 y_1] [] (fun (x : Unit) => [iv .u64 r.1, iv .u64 r.2]) (fun (x : Unit) => []) := by
  refine fn_ok (fn := Tryz.f130) (N := 51) (res := fun r x => [iv .u64 r.1, iv .u64 r.2]) (Ω1 := fun r x => []) Tryz.func130 rfl rfl hm rfl (fun E hM => ?_)
  unfold math_bits_Mul64_m
  refine ref_seq (ref_region ?_)
  refine as1 rfl rfl ?_
  refine as1 rfl rfl ?_
  refine l_nil (n_then (ref_seq (ref_region ?_)))
  refine mv1 rfl rfl ?_
  refine s_rd (r_and rfl rfl) rfl ?_
  refine as1 rfl rfl ?_
  refine b_let (f := iv .u64) (t := 6) rfl fun x01 => ?_
  refine l_nil (n_then (ref_seq (ref_region ?_)))
  refine mv1 rfl rfl ?_
  refine s_rd (r_shr rfl rfl (by decide)) rfl ?_
  refine as1 rfl rfl ?_
  refine b_let (f := iv .u64) (t := 7) rfl fun x12 => ?_
  refine l_nil (n_then (ref_seq (ref_region ?_)))
  refine mv1 rfl rfl ?_
  refine s_rd (r_and rfl rfl) rfl ?_
  refine as1 rfl rfl ?_
  refine b_let (f := iv .u64) (t := 8) rfl fun y03 => ?_
  refine l_nil (n_then (ref_seq (ref_region ?_)))
  refine mv1 rfl rfl ?_
  refine s_rd (r_shr rfl rfl (by decide)) rfl ?_
  refine as1 rfl rfl ?_
  refine b_let (f := iv .u64) (t := 9) rfl fun y14 => ?_
  refine l_nil (n_then (ref_seq (ref_region ?_)))
  refine mv1 rfl rfl ?_
  refine mv1 rfl rfl ?_
  refine s_rd (r_mul rfl rfl) rfl ?_
  refine as1 rfl rfl ?_
  refine b_let (f := iv .u64) (t := 10) rfl fun w05 => ?_
  refine l_nil (n_then (ref_seq (ref_region ?_)))
  refine mv1 rfl rfl ?_
  refine mv1 rfl rfl ?_
  refine s_rd (r_mul rfl rfl) rfl ?_
  refine mv1 rfl rfl ?_
  refine s_rd (r_shr rfl rfl (by decide)) rfl ?_
  refine s_rd (r_add rfl rfl) rfl ?_
  refine as1 rfl rfl ?_
  refine b_let (f := iv .u64) (t := 11) rfl fun t6 => ?_
  refine l_nil (n_then (ref_seq (ref_region ?_)))
  refine mv1 rfl rfl ?_
  refine s_rd (r_and rfl rfl) rfl ?_
  refine as1 rfl rfl ?_
  refine b_let (f := iv .u64) (t := 12) rfl fun w17 => ?_
  refine l_nil (n_then (ref_seq (ref_region ?_)))
  refine mv1 rfl rfl ?_
  refine s_rd (r_shr rfl rfl (by decide)) rfl ?_
  refine as1 rfl rfl ?_
  refine b_let (f := iv .u64) (t := 13) rfl fun w28 => ?_
  refine l_nil (n_then (ref_seq (ref_region ?_)))
  refine mv1 rfl rfl ?_
  refine mv1 rfl rfl ?_
  refine mv1 rfl rfl ?_
  refine s_rd (r_mul rfl rfl) rfl ?_
  refine s_rd (r_add rfl rfl) rfl ?_
  refine as1 rfl rfl ?_
  refine b_let (f := iv .u64) (t := 12) rfl fun w19 => ?_
  refine l_nil (n_then (ref_seq (ref_region ?_)))
  refine mv1 rfl rfl ?_
  refine mv1 rfl rfl ?_
  refine s_rd (r_mul rfl rfl) rfl ?_
  refine mv1 rfl rfl ?_
  refine s_rd (r_add rfl rfl) rfl ?_
  refine mv1 rfl rfl ?_
  refine s_rd (r_shr rfl rfl (by decide)) rfl ?_
  refine s_rd (r_add rfl rfl) rfl ?_
  refine as1 rfl rfl ?_
  refine b_let (f := iv .u64) (t := 4) rfl fun hi10 => ?_
  refine l_nil (n_then (ref_seq (ref_region ?_)))
  refine mv1 rfl rfl ?_
  refine mv1 rfl rfl ?_
  refine s_rd (r_mul rfl rfl) rfl ?_
  refine as1 rfl rfl ?_
  refine b_let (f := iv .u64) (t := 5) rfl fun lo11 => ?_
  refine l_nil (n_then (ref_ret ?_))
  exact fin2 (.inl rfl) () [] rfl trivial rfl (rv_tmp rfl) (rv_tmp rfl)

noncomputable def math_bits_Mul_m (x_0 : Int) (y_1 : Int) : Option (Int × Int) :=
  Option.bind (math_bits_Mul64_m x_0 y_1) fun t1 =>
  some (t1.1, t1.2)

theorem math_bits_Mul_ok [DrawMode] {x_0 : Int} {y_1 : Int} {r : Int × Int} (hm : math_bits_Mul_m x_0 y_1 = some r) :
    FnOk prog 113 [iv .u64 x_0, iv .u64 y_1] [] (fun (x : Unit) => [iv .u64 r.1, iv .u64 r.2]) (fun (x : Unit) => []) := by
  refine fn_ok (fn := Tryz.f113) (N := 30) (res := fun r x => [iv .u64 r.1, iv .u64 r.2]) (Ω1 := fun r x => []) Tryz.func113 rfl rfl hm rfl (fun E hM => ?_)
  unfold math_bits_Mul_m
  refine ref_seq (ref_region ?_)
  refine as1 rfl rfl ?_
  refine as1 rfl rfl ?_
  refine l_nil (n_then (ref_seq ?_))
  refine ref_condF rfl rfl ?_
  refine ref_skip (n_then (ref_seq (ref_region ?_)))
  refine mv1 rfl rfl ?_
  refine mv1 rfl rfl ?_
  refine pull fun t1 h_t1 => ?_
  refine s_st (s_call (ψ := fun (_ : Unit) => tup [iv .u64 t1.1, iv .u64 t1.2]) (args := [.tmp 23, .tmp 24]) Tryz.call130 rfl (math_bits_Mul64_ok h_t1) ⟨arg rfl, arg rfl, trivial⟩ (fun _ _ _ _ h => h)) rfl (fun _ => ?_)
  refine mv1 rfl rfl ?_
  refine s_rd (r_extract rfl rfl) rfl ?_
  refine s_rd (r_extract rfl rfl) rfl ?_
  refine as1 rfl rfl ?_
  refine as1 rfl rfl ?_
  refine l_nil (n_then (ref_seq (ref_region ?_)))
  refine mv1 rfl rfl ?_
  refine mv1 rfl rfl ?_
  refine as1 rfl rfl ?_
  refine as1 rfl rfl ?_
  refine l_nil (n_then (ref_ret ?_))
  exact fin2 (.inl rfl) () [] rfl trivial rfl (rv_tmp rfl) (rv_tmp rfl)

noncomputable def slices_Repeat_int_int_l1  (s17 : Int × (List Int)) : Option (Sum ((List Int)) (Int × (List Int))) :=
  bif decide (s17.1 < (s17.2.length : Int)) then
    Option.bind (slM s17.2 s17.1 (s17.2.length : Int)) fun t20 =>
    Option.bind (slM s17.2 0 s17.1) fun t21 =>
    some (Sum.inr (iadd .i64 s17.1 ((min t21.length t20.length : Nat) : Int), cpO s17.2 s17.1 (s17.2.length : Int) 0 s17.1))
  else
    some (Sum.inl s17.2)

noncomputable def slices_Repeat_int_int_m (x_0 : (List Int)) (count_1 : Int) : Option (List Int) :=
  bif decide (count_1 < 0) then
    none
  else
    Option.bind (math_bits_Mul_m (IntKind.wrap .u64 (x_0.length : Int)) (IntKind.wrap .u64 count_1)) fun t2 =>
    bif decide (t2.1 > 0) then
      none
    else
      bif decide (t2.2 > 9223372036854775807) then
        none
      else
        Option.bind (mkM 8 0 (IntKind.wrap .i64 t2.2)) fun newslice4 =>
        letM (((min x_0.length newslice4.length : Nat) : Int)) fun n6 =>
        Option.bind (loopC (slices_Repeat_int_int_l1) (n6, cpA newslice4 x_0)) fun q22 : (List Int) =>
        some q22

theorem slices_Repeat_int_int_fn [DrawMode] {x_0 : (List Int)} {count_1 : Int} {r : List Int} (hm : slices_Repeat_int_int_m x_0 count_1 = some r) :
    FnOk prog 94 [slv (rI .i64) x_0, iv .i64 count_1] [] (fun (x : (Value × List Nat)) => [pv x.1]) (fun (x : (Value × List Nat)) => [oa (rI .i64) x.1 x.2 r]) := by
  refine fn_ok (X := (Value × List Nat)) (fn := Tryz.f94) (N := 48) (res := fun r x => [pv x.1]) (Ω1 := fun r x => [oa (rI .i64) x.1 x.2 r]) Tryz.func94 rfl rfl hm rfl (fun E hM => ?_)
  unfold slices_Repeat_int_int_m
  refine ref_seq (ref_region ?_)
  refine as1 rfl rfl ?_
  refine l_nil (n_then (ref_seq (ref_seq (ref_region ?_))))
  refine mv1 rfl rfl ?_
  refine s_rd (r_lss rfl rfl) rfl ?_
  refine l_nil (n_then ?_)
  refine ref_cond rfl (fun hb1 => ?_) (fun hb1 => ?_)
  · refine ref_region ?_
    exact pnone
  refine ref_skip (n_then (ref_seq (ref_region ?_)))
  refine mv1 rfl rfl ?_
  refine s_rd (r_len Tryz.underlying25 rfl) rfl ?_
  refine s_rd (r_conv (k' := .u64) rfl rfl rfl) rfl ?_
  refine mv1 rfl rfl ?_
  refine s_rd (r_conv (k' := .u64) rfl rfl rfl) rfl ?_
  refine pull fun t2 h_t2 => ?_
  refine s_st (s_call (ψ := fun (_ : Unit) => tup [iv .u64 t2.1, iv .u64 t2.2]) (args := [.tmp 15, .tmp 17]) Tryz.call113 rfl (math_bits_Mul_ok h_t2) ⟨arg rfl, arg rfl, trivial⟩ (fun _ _ _ _ h => h)) rfl (fun _ => ?_)
  refine mv1 rfl rfl ?_
  refine s_rd (r_extract rfl rfl) rfl ?_
  refine s_rd (r_extract rfl rfl) rfl ?_
  refine as1 rfl rfl ?_
  refine as1 rfl rfl ?_
  refine l_nil (n_then (ref_seq (ref_seq (ref_region ?_))))
  refine mv1 rfl rfl ?_
  refine s_rd (r_gtr rfl rfl) rfl ?_
  refine mv1 rfl rfl ?_
  refine b_split (t := 23) rfl (fun _ => ?_) (fun _ => ?_)
  · refine s_off rfl rfl rfl rfl rfl ?_
    refine s_off rfl rfl rfl rfl rfl ?_
    refine s_rd (r_pickT rfl rfl) rfl ?_
    refine l_nil (n_then ?_)
    refine ref_condT rfl rfl ?_
    refine ref_region ?_
    exact pnone
  refine s_on rfl rfl rfl ?_
  refine mv1 rfl rfl ?_
  refine s_on rfl rfl rfl ?_
  refine s_rd (r_gtr rfl rfl) rfl ?_
  refine s_rd (r_pickF rfl rfl) rfl ?_
  refine l_nil (n_then ?_)
  refine ref_cond rfl (fun hb3 => ?_) (fun hb3 => ?_)
  · refine ref_region ?_
    exact pnone
  refine ref_skip (n_then (ref_seq (ref_region ?_)))
  refine mv1 rfl rfl ?_
  refine s_rd (r_conv (k' := .i64) rfl rfl rfl) rfl ?_
  refine pull fun newslice4 h_newslice4 => ?_
  refine s_st (s_make h_newslice4 Tryz.underlying25 el_rep ze_rep rfl rfl) rfl (fun o5 => ?_)
  refine as1 rfl rfl ?_
  refine l_nil (n_then (ref_seq (ref_region ?_)))
  refine mv1 rfl rfl ?_
  refine mv1 rfl rfl ?_
  refine s_st (s_copyA Tryz.underlying25 el_rep rfl (j := 0) rfl rfl) rfl (fun _ => ?_)
  refine as1 rfl rfl ?_
  refine b_let (f := iv .i64) (t := 8) rfl fun n6 => ?_
  refine l_nil (n_then (ref_seq ?_))
  refine ref_loopB (f := (slices_Repeat_int_int_l1)) (Γl := (fun (s17 : Int × (List Int)) (x18 : Unit) => [(7, pv o5.1), (8, iv .i64 s17.1)])) (Ωl := (fun (s17 : Int × (List Int)) (x18 : Unit) => [oa (rI .i64) o5.1 o5.2 s17.2])) (Γb := (fun (q22 : (List Int)) (y23 : Unit) => [(7, pv o5.1)])) (Ωb := (fun (q22 : (List Int)) (y23 : Unit) => [oa (rI .i64) o5.1 o5.2 q22])) (n6, cpA newslice4 x_0) () (weak [0] ⟨rfl, rfl, trivial⟩ ⟨rfl, trivial⟩) (fun s17 x18 => ?_) (fun q22 y23 => ?_)
  · unfold slices_Repeat_int_int_l1
    refine ref_seq (ref_seq (ref_region ?_))
    refine mv1 rfl rfl ?_
    refine mv1 rfl rfl ?_
    refine s_rd (r_olen Tryz.underlying25 rfl (j := 0) rfl) rfl ?_
    refine s_rd (r_lss rfl rfl) rfl ?_
    refine l_nil (n_then ?_)
    refine ref_cond rfl (fun hb19 => ?_) (fun hb19 => ?_)
    · refine ref_skip (n_then (ref_block ?_))
      refine ref_draw [0, 1, 2, 3, 4, 5, 6, 8] rfl (by kernel_rfl) (fun hok => ?_)
      refine a_rd (i := 0) hok rfl (by kernel_rfl) rfl (r_move rfl) rfl ?_
      refine a_rd (i := 1) hok rfl (by kernel_rfl) rfl (r_move rfl) rfl ?_
      refine a_rd (i := 2) hok rfl (by kernel_rfl) rfl (r_move rfl) rfl ?_
      refine pull fun t20 h_t20 => ?_
      refine a_rd (i := 3) hok rfl (by kernel_rfl) rfl (r_osub h_t20 Tryz.underlying25 el_rep rfl (j := 0) rfl (.of rfl) .dft) rfl ?_
      refine a_rd (i := 4) hok rfl (by kernel_rfl) rfl (r_move rfl) rfl ?_
      refine a_rd (i := 5) hok rfl (by kernel_rfl) rfl (r_move rfl) rfl ?_
      refine pull fun t21 h_t21 => ?_
      refine a_rd (i := 6) hok rfl (by kernel_rfl) rfl (r_osub h_t21 Tryz.underlying25 el_rep rfl (j := 0) rfl .dft (.of rfl)) rfl ?_
      refine a_next hok 7 [] (by kernel_rfl) ?_ trivial
      refine a_st (i := 7) hok rfl rfl (s_copyW h_t20 h_t21 Tryz.underlying25 el_rep rfl (j := 0) rfl rfl) (by intro _ h; cases h; rfl) (fun _ => ⟨trivial, ⟨trivial, ⟨trivial, ⟨trivial, ⟨trivial, ⟨trivial, ⟨trivial, trivial⟩⟩⟩⟩⟩⟩⟩) (fun _ => ?_)
      refine a_rd (i := 8) hok rfl (by kernel_rfl) rfl (r_add rfl rfl) rfl ?_
      refine a_next hok 9 [] (by kernel_rfl) ?_ trivial
      refine a_st (i := 9) hok rfl rfl (St.ofRd (r_assign rfl)) (by intro _ h; cases h; rfl) (fun _ => ⟨trivial, ⟨trivial, ⟨trivial, ⟨trivial, ⟨trivial, ⟨trivial, ⟨trivial, ⟨trivial, trivial⟩⟩⟩⟩⟩⟩⟩⟩) (fun _ => ?_)
      refine a_fin hok (by kernel_rfl) ?_
      refine b_of (nrm [oa (rI .i64) o5.1 o5.2 (cpO s17.2 s17.1 (s17.2.length : Int) 0 s17.1)] rfl) ?_
      refine n_block ?_
      exact goB () (weak [0] ⟨rfl, rfl, trivial⟩ ⟨rfl, trivial⟩)
    refine ref_exit (x_then ?_)
    exact brkB () (weak [0] ⟨rfl, trivial⟩ ⟨rfl, trivial⟩)
  refine n_then (ref_seq (ref_region ?_))
  refine mv1 rfl rfl ?_
  refine as1 rfl rfl ?_
  refine l_nil (n_then (ref_ret ?_))
  exact fin1 (.inl rfl) o5 [0] rfl ⟨rfl, trivial⟩ rfl (rv_tmp rfl)

noncomputable def slices_Repeat_int_int_C : Con := conW4 (P := prog) (.int .i64) slices_Repeat_int_int_m
theorem slices_Repeat_int_int_ok [DrawMode] : ConFn prog 94 slices_Repeat_int_int_C := ⟨Tryz.call94, conW4_ok fun s n r hm => slices_Repeat_int_int_fn hm⟩

noncomputable def grounded_build_l1 (g_0 : T_api_Graph) (s28 : Int × (List Int)) : Option (Sum ((List Int)) (Int × (List Int))) :=
 bif decide (s28.1 < ((g_0.L.length : Int))) then
 Option.bind (idxM g_0.L s28.1) fun t29 =>
 Option.bind (vidxM 40 s28.2 t29.To) fun t30 =>
 Option.bind (vidxM 40 s28.2 t29.To) fun t31 =>
 some (Sum.inr ((iadd .i64 s28.1 1, s28.2.set (Int.toNat t29.To) (iadd .i64 t30 1))))
 else
 some (Sum.inl s28.2)
noncomputable def grounded_build_l2 (g_0 : T_api_Graph) (q32 : (List Int)) (s53 : Int × (List Int)) : Option (Sum ((List Int)) (Int × (List Int))) :=
 bif decide (s53.1 < g_0.N) then
 Option.bind (vidxM 40 q32 s53.1) fun t54 =>
 bif (t54 : Int) == 0 then
 Option.bind (appM 8 s53.2 [s53.1]) fun queue55 =>
 some (Sum.inr ((iadd .i64 s53.1 1, queue55)))
 else
 some (Sum.inr ((iadd .i64 s53.1 1, s53.2)))
 else
 some (Sum.inl s53.2)
noncomputable def grounded_build_l3 (s469 : Int × (List Int) × (List Int) × (List Int) × (List Int)) (s488 : Int × (List Int) × (List Int)) : Option (Sum ((List Int) × (List Int)) (Int × (List Int) × (List Int))) :=
 bif decide (s488.1 < ((s469.2.2.2.2.length : Int))) then
 Option.bind (idxM s469.2.2.2.2 s488.1) fun t489 =>
 Option.bind (idxM s488.2.1 t489) fun t490 =>
 Option.bind (idxM s488.2.2 t489) fun t491 =>
 some (Sum.inr ((iadd .i64 s488.1 1, s488.2.1.set (Int.toNat t489) 1, s488.2.2.set (Int.toNat t489) s469.1)))
 else
 some (Sum.inl ((s488.2.1, s488.2.2)))
noncomputable def grounded_build_l4 (s725 : Int × (List Int) × (List Int) × (List Int) × (List Int)) (t726 : Int) (t731 : ((List Int))) (s746 : Int × (List Int) × (List Int)) : Option (Sum ((List Int) × (List Int)) (Int × (List Int) × (List Int))) :=
 bif decide (s746.1 < ((t731.length : Int))) then
 Option.bind (idxM t731 s746.1) fun t747 =>
 Option.bind (vidxM 40 s746.2.1 t747) fun t748 =>
 Option.bind (vidxM 40 s746.2.1 t747) fun t749 =>
 Option.bind (vidxM 40 (s746.2.1.set (Int.toNat t747) (isub .i64 t748 1)) t747) fun t750 =>
 bif (t750 : Int) == 0 then
 Option.bind (idxM (s725.2.1.set (Int.toNat t726) 2) t747) fun t751 =>
 bif (t751 : Int) == 3 then
 Option.bind (appM 8 s746.2.2 [t747]) fun next752 =>
 some (Sum.inr ((iadd .i64 s746.1 1, s746.2.1.set (Int.toNat t747) (isub .i64 t748 1), next752)))
 else
 some (Sum.inr ((iadd .i64 s746.1 1, s746.2.1.set (Int.toNat t747) (isub .i64 t748 1), s746.2.2)))
 else
 some (Sum.inr ((iadd .i64 s746.1 1, s746.2.1.set (Int.toNat t747) (isub .i64 t748 1), s746.2.2)))
 else
 some (Sum.inl ((s746.2.1, s746.2.2)))
noncomputable def grounded_build_l5 (g_0 : T_api_Graph) (s469 : Int × (List Int) × (List Int) × (List Int) × (List Int)) (t678 : ((List Int))) (s725 : Int × (List Int) × (List Int) × (List Int) × (List Int)) : Option (Sum ((List Int) × (List Int) × (List Int) × (List Int)) (Int × (List Int) × (List Int) × (List Int) × (List Int))) :=
 bif decide (s725.1 < ((t678.length : Int))) then
 Option.bind (idxM t678 s725.1) fun t726 =>
 Option.bind (idxM s725.2.1 t726) fun t728 =>
 bif (t728 : Int) != 3 then
 some (Sum.inr ((iadd .i64 s725.1 1, s725.2.1, s725.2.2.1, s725.2.2.2.1, s725.2.2.2.2)))
 else
 Option.bind (idxM s725.2.1 t726) fun t729 =>
 Option.bind (idxM s725.2.2.1 t726) fun t730 =>
 Option.bind (graph_Attacked_m g_0 t726) fun t731 =>
 Option.bind (loopC (grounded_build_l4 s725 t726 t731) ((0, s725.2.2.2.1, s725.2.2.2.2))) fun q753 : (List Int) × (List Int) =>
 some (Sum.inr ((iadd .i64 s725.1 1, s725.2.1.set (Int.toNat t726) 2, s725.2.2.1.set (Int.toNat t726) s469.1, q753.1, q753.2)))
 else
 some (Sum.inl ((s725.2.1, s725.2.2.1, s725.2.2.2.1, s725.2.2.2.2)))
noncomputable def grounded_build_l6 (g_0 : T_api_Graph) (s469 : Int × (List Int) × (List Int) × (List Int) × (List Int)) (s676 : Int × (List Int) × (List Int) × (List Int) × (List Int)) : Option (Sum ((List Int) × (List Int) × (List Int) × (List Int)) (Int × (List Int) × (List Int) × (List Int) × (List Int))) :=
 bif decide (s676.1 < ((s469.2.2.2.2.length : Int))) then
 Option.bind (idxM s469.2.2.2.2 s676.1) fun t677 =>
 Option.bind (graph_Attacked_m g_0 t677) fun t678 =>
 Option.bind (loopC (grounded_build_l5 g_0 s469 t678) ((0, s676.2.1, s676.2.2.1, s676.2.2.2.1, s676.2.2.2.2))) fun q754 : (List Int) × (List Int) × (List Int) × (List Int) =>
 some (Sum.inr ((iadd .i64 s676.1 1, q754.1, q754.2.1, q754.2.2.1, q754.2.2.2)))
 else
 some (Sum.inl ((s676.2.1, s676.2.2.1, s676.2.2.2.1, s676.2.2.2.2)))
noncomputable def grounded_build_l7 (g_0 : T_api_Graph) (s469 : Int × (List Int) × (List Int) × (List Int) × (List Int)) : Option (Sum ((List Int) × (List Int)) (Int × (List Int) × (List Int) × (List Int) × (List Int))) :=
 bif decide (((s469.2.2.2.2.length : Int)) > 0) then
 Option.bind (loopC (grounded_build_l3 s469) ((0, s469.2.1, s469.2.2.1))) fun q492 : (List Int) × (List Int) =>
 Option.bind (loopC (grounded_build_l6 g_0 s469) ((0, q492.1, q492.2, s469.2.2.2.1, []))) fun q755 : (List Int) × (List Int) × (List Int) × (List Int) =>
 some (Sum.inr ((iadd .i64 s469.1 1, q755.1, q755.2.1, q755.2.2.1, q755.2.2.2)))
 else
 some (Sum.inl ((s469.2.1, s469.2.2.1)))
noncomputable def grounded_build_m (g_0 : T_api_Graph) : Option ((List Int) × (List Int)) :=
 joinM (fun j9 : (List Int) × (List Int) =>
 Option.bind (loopC (grounded_build_l1 g_0) ((0, List.replicate 40 (0 : Int)))) fun q32 : (List Int) =>
 Option.bind (loopC (grounded_build_l2 g_0 q32) ((0, []))) fun q56 : (List Int) =>
 Option.bind (loopC (grounded_build_l7 g_0) ((1, j9.1, j9.2, q32, q56))) fun q756 : (List Int) × (List Int) =>
 some ((q756.1, q756.2))) fun k8 =>
 meetO (
 meetO (
 Option.bind (slices_Repeat_int_int_m [3] g_0.N) fun labels757 =>
 meetO (
 Option.bind (mkM 8 0 g_0.N) fun ranks758 =>
 k8 ((labels757, ranks758))) (
 Option.bind (mkM 8 0 g_0.N) fun ranks759 =>
 k8 ((labels757, ranks759)))) (
 Option.bind (mkM 8 0 g_0.N) fun ranks760 =>
 Option.bind (slices_Repeat_int_int_m [3] g_0.N) fun labels761 =>
 k8 ((labels761, ranks760)))) (
 Option.bind (mkM 8 0 g_0.N) fun ranks762 =>
 Option.bind (slices_Repeat_int_int_m [3] g_0.N) fun labels763 =>
 k8 ((labels763, ranks762)))
noncomputable def grounded_build_C : Con := ⟨[(.st 1)], [(.sl (.int .i64)), (.sl (.int .i64))], fun (a : T_api_Graph) => grounded_build_m a, [(true, [.d 0 0, .d 0 1])], [], [(false, [.own 0]), (false, [.own 1])], [.oa 0 (.d 0 0), .oa 1 (.d 1 0)], 0, 2⟩
def grounded_build_H : Hints := ⟨[(0, ⟨[], ⟨[(.int .i64), (.vec .i64)], [(1, none), (2, none), (3, none), (4, none), (27, none), (28, none), (29, some (false, [.d 0 0]))], [.keep, .keep, .keep, .data (.d 1 0)], 0⟩, [], some ([], ⟨[(.vec .i64)], [(1, none), (2, none), (3, none), (4, none)], [.keep, .keep, .keep, .data (.d 0 0)], 0⟩), false, none⟩), (2, ⟨[.own (.int .i64) (.slot 7 0)], ⟨[(.int .i64), (.sl (.int .i64))], [(1, none), (2, none), (3, none), (4, none), (7, some (false, [.own 5])), (41, none), (42, some (false, [.d 0 0]))], [.keep, .keep, .keep, .keep, .dead, .oaN 0 (.d 1 0)], 1⟩, [], some ([], ⟨[(.sl (.int .i64))], [(1, none), (2, none), (3, none), (4, none), (7, some (false, [.own 5]))], [.keep, .keep, .keep, .keep, .dead, .oaN 0 (.d 0 0)], 1⟩), false, none⟩), (4, ⟨[], ⟨[(.int .i64), (.sl (.int .i64)), (.sl (.int .i64)), (.vec .i64), (.sl (.int .i64))], [(1, none), (2, none), (3, none), (4, none), (7, some (false, [.own 6])), (9, some (false, [.d 0 0]))], [.keep, .data (.d 1 0), .data (.d 2 0), .data (.d 3 0), .dead, .dead, .oaN 0 (.d 4 0)], 1⟩, [], some ([], ⟨[(.sl (.int .i64)), (.sl (.int .i64))], [(2, none), (3, none)], [.dead, .data (.d 0 0), .data (.d 1 0), .dead, .dead, .dead], 0⟩), false, none⟩), (6, ⟨[], ⟨[(.int .i64), (.sl (.int .i64)), (.sl (.int .i64))], [(1, none), (2, none), (3, none), (4, none), (7, none), (9, none), (59, none), (60, none), (61, some (false, [.d 0 0]))], [.keep, .data (.d 1 0), .data (.d 2 0), .keep, .dead, .dead, .keep], 0⟩, [], some ([], ⟨[(.sl (.int .i64)), (.sl (.int .i64))], [(1, none), (2, none), (3, none), (4, none), (7, none), (9, none)], [.keep, .data (.d 0 0), .data (.d 1 0), .keep, .dead, .dead, .keep], 0⟩), false, none⟩), (8, ⟨[.own (.int .i64) (.slot 12 0)], ⟨[(.int .i64), (.sl (.int .i64)), (.sl (.int .i64)), (.vec .i64), (.sl (.int .i64))], [(1, none), (2, none), (3, none), (4, none), (9, none), (12, some (false, [.own 8])), (73, none), (74, none), (75, some (false, [.d 0 0]))], [.keep, .data (.d 1 0), .data (.d 2 0), .data (.d 3 0), .dead, .dead, .keep, .dead, .oaN 0 (.d 4 0)], 1⟩, [], some ([], ⟨[(.sl (.int .i64)), (.sl (.int .i64)), (.vec .i64), (.sl (.int .i64))], [(1, none), (2, none), (3, none), (4, none), (9, none), (12, some (false, [.own 8]))], [.keep, .data (.d 0 0), .data (.d 1 0), .data (.d 2 0), .dead, .dead, .dead, .dead, .oaN 0 (.d 3 0)], 1⟩), false, none⟩), (10, ⟨[], ⟨[(.int .i64), (.sl (.int .i64)), (.sl (.int .i64)), (.vec .i64), (.sl (.int .i64))], [(1, none), (2, none), (3, none), (4, none), (9, none), (12, some (false, [.own 10])), (73, none), (74, none), (75, none), (81, none), (82, none), (83, some (false, [.d 0 0]))], [.keep, .data (.d 1 0), .data (.d 2 0), .data (.d 3 0), .dead, .dead, .keep, .dead, .dead, .keep, .oaN 0 (.d 4 0)], 1⟩, [], some ([], ⟨[(.sl (.int .i64)), (.sl (.int .i64)), (.vec .i64), (.sl (.int .i64))], [(1, none), (2, none), (3, none), (4, none), (9, none), (12, some (false, [.own 10])), (73, none), (74, none), (75, none)], [.keep, .data (.d 0 0), .data (.d 1 0), .data (.d 2 0), .dead, .dead, .keep, .dead, .dead, .dead, .oaN 0 (.d 3 0)], 1⟩), false, none⟩), (12, ⟨[], ⟨[(.int .i64), (.vec .i64), (.sl (.int .i64))], [(1, none), (2, none), (3, none), (4, none), (9, none), (12, some (false, [.own 12])), (73, none), (74, none), (75, none), (81, none), (82, none), (83, none), (101, none), (102, none), (103, some (false, [.d 0 0]))], [.keep, .keep, .keep, .data (.d 1 0), .dead, .dead, .keep, .dead, .dead, .keep, .dead, .keep, .oaN 0 (.d 2 0)], 1⟩, [], some ([], ⟨[(.vec .i64), (.sl (.int .i64))], [(1, none), (2, none), (3, none), (4, none), (9, none), (12, some (false, [.own 12])), (73, none), (74, none), (75, none), (81, none), (82, none), (83, none)], [.keep, .keep, .keep, .data (.d 0 0), .dead, .dead, .keep, .dead, .dead, .keep, .dead, .dead, .oaN 0 (.d 1 0)], 1⟩), false, none⟩)], [(6, ([], ⟨[(.sl (.int .i64)), (.sl (.int .i64))], [(1, none), (2, some (false, [.own 1])), (3, some (false, [.own 2]))], [.keep, .oaN 0 (.d 0 0), .oaN 1 (.d 1 0)], 2⟩))], [], [], []⟩
theorem grounded_build_ok : ConFn prog 71 grounded_build_C := conFn_of (H := grounded_build_H) (fin := []) Tryz.func71 Tryz.call71 (tabL_ok (l := [(94, slices_Repeat_int_int_C), (91, graph_Attacked_C)]) ⟨slices_Repeat_int_int_ok, graph_Attacked_ok, trivial⟩) rfl rfl rfl (fun a => by kernel_rfl)

noncomputable def grounded_Label_m (g_0 : T_api_Graph) : Option ((List Int)) :=
 Option.bind (grounded_build_m g_0) fun t1 =>
 some t1.1
noncomputable def grounded_Label_C : Con := ⟨[(.st 1)], [(.sl (.int .i64))], fun (a : T_api_Graph) => grounded_Label_m a, [(true, [.d 0 0, .d 0 1])], [], [(false, [.own 0])], [.oa 0 (.d 0 0)], 0, 1⟩
def grounded_Label_H : Hints := ⟨[], [], [], [], []⟩
theorem grounded_Label_ok : ConFn prog 44 grounded_Label_C := conFn_of (H := grounded_Label_H) (fin := []) Tryz.func44 Tryz.call44 (tabL_ok (l := [(71, grounded_build_C)]) ⟨grounded_build_ok, trivial⟩) rfl rfl rfl (fun a => by kernel_rfl)

noncomputable def grounded_Ranks_m (g_0 : T_api_Graph) : Option ((List Int)) :=
 Option.bind (grounded_build_m g_0) fun t1 =>
 some t1.2
noncomputable def grounded_Ranks_C : Con := ⟨[(.st 1)], [(.sl (.int .i64))], fun (a : T_api_Graph) => grounded_Ranks_m a, [(true, [.d 0 0, .d 0 1])], [], [(false, [.own 0])], [.oa 0 (.d 0 0)], 0, 1⟩
def grounded_Ranks_H : Hints := ⟨[], [], [], [], []⟩
theorem grounded_Ranks_ok : ConFn prog 45 grounded_Ranks_C := conFn_of (H := grounded_Ranks_H) (fin := []) Tryz.func45 Tryz.call45 (tabL_ok (l := [(71, grounded_build_C)]) ⟨grounded_build_ok, trivial⟩) rfl rfl rfl (fun a => by kernel_rfl)

noncomputable def proof_abs_m (x_0 : Int) : Option (Int) :=
 some (imax x_0 (ineg .i64 x_0))
noncomputable def proof_abs_C : Con := ⟨[(.int .i64)], [(.int .i64)], fun (a : Int) => proof_abs_m a, [(false, [.d 0 0])], [], [(false, [.d 0 0])], [], 0, 0⟩
def proof_abs_H : Hints := ⟨[], [], [], [], []⟩
theorem proof_abs_ok [DrawMode] : ConFn prog 114 proof_abs_C := conFn_of (H := proof_abs_H) (fin := []) Tryz.func114 Tryz.call114 (tabL_ok (l := []) trivial) rfl rfl rfl (fun a => by kernel_rfl)

noncomputable def proof_clause_l1 (n_0 : Int) (c_1 : (List Int)) (s11 : Int) : Option (Sum (Sum (Int) (Unit)) (Int)) :=
 bif decide (s11 < ((c_1.length : Int))) then
 Option.bind (idxM c_1 s11) fun t12 =>
 bif (t12 : Int) == 0 then
 some (Sum.inl (Sum.inl 1))
 else
 bif decide (t12 < (ineg .i64 n_0)) then
 some (Sum.inl (Sum.inl 1))
 else
 bif decide (t12 > n_0) then
 some (Sum.inl (Sum.inl 1))
 else
 some (Sum.inr (iadd .i64 s11 1))
 else
 some (Sum.inl (Sum.inr (())))
noncomputable def proof_clause_l2 (c_1 : (List Int)) (s24 : Int) : Option (Sum (Sum (Int) (Unit)) (Int)) :=
 bif decide (s24 < ((c_1.length : Int))) then
 Option.bind (idxM c_1 (isub .i64 s24 1)) fun t25 =>
 Option.bind (idxM c_1 s24) fun t26 =>
 Option.bind (proof_abs_m t25) fun t27 =>
 Option.bind (proof_abs_m t26) fun t28 =>
 bif decide (t27 ≥ t28) then
 some (Sum.inl (Sum.inl 8))
 else
 some (Sum.inr (iadd .i64 s24 1))
 else
 some (Sum.inl (Sum.inr (())))
noncomputable def proof_clause_m (n_0 : Int) (c_1 : (List Int)) : Option (Int) :=
 bif decide (((c_1.length : Int)) > 50) then
 some 2
 else
 Option.bind (loopC (proof_clause_l1 n_0 c_1) 0) (sumK (fun a : Int => some a) fun q13 : Unit =>
 Option.bind (loopC (proof_clause_l2 c_1) 1) (sumK (fun a : Int => some a) fun q29 : Unit =>
 some 0))
noncomputable def proof_clause_C : Con := ⟨[(.int .i64), (.sl (.int .i64))], [(.int .i64)], fun (a : Int × (List Int)) => proof_clause_m a.1 a.2, [(false, [.d 0 0]), (false, [.d 1 0])], [], [(false, [.d 0 0])], [], 0, 0⟩
def proof_clause_H : Hints := ⟨[(0, ⟨[], ⟨[(.int .i64)], [(0, none), (1, none), (4, none), (11, none), (12, none), (13, some (false, [.d 0 0]))], [], 0⟩, [], some ([], ⟨[], [(1, none), (4, none)], [], 0⟩), true, none⟩), (2, ⟨[], ⟨[(.int .i64)], [(1, none), (4, none), (7, some (false, [.d 0 0]))], [], 0⟩, [], some ([], ⟨[], [(4, none)], [], 0⟩), true, none⟩)], [], [], [], []⟩
theorem proof_clause_ok [DrawMode] : ConFn prog 95 proof_clause_C := conFn_of (H := proof_clause_H) (fin := []) Tryz.func95 Tryz.call95 (tabL_ok (l := [(114, proof_abs_C)]) ⟨proof_abs_ok, trivial⟩) rfl rfl rfl (fun a => by kernel_rfl)

noncomputable def slices_Clone_int_int_m (d_0 : List (List Int)) : Option (List (List Int)) := appM 24 [] d_0
theorem el_slices_Clone_int_int : ElT prog 25 (rSl (rI .i64)) 24 := elT_ok (P := prog) (c := (.sl (.int .i64))) (by kernel_rfl)
theorem slices_Clone_int_int_fn [DrawMode] {d_0 r : List (List Int)} (hm : slices_Clone_int_int_m d_0 = some r) : FnOk prog 73 [slv (rSl (rI .i64)) d_0] [] (fun (x : Value × List Nat) => [pv x.1]) (fun (x : Value × List Nat) => [oa (rSl (rI .i64)) x.1 x.2 r]) := by
  have hm' : appM 24 [] d_0 = some r := hm
  have hr : r = d_0 := by have := (appM_some hm').2; simpa using this
  subst hr
  refine fn_ok (X := Value × List Nat) (fn := Tryz.f73) (N := 8) (m := some ()) (r := ()) (res := fun _ x => [pv x.1]) (Ω1 := fun _ x => [oa (rSl (rI .i64)) x.1 x.2 r]) Tryz.func73 rfl rfl rfl rfl (fun E hM => ?_)
  refine ref_seq ?_
  refine ref_region ?_
  refine s_rd (r_assign rfl) rfl ?_
  refine l_nil ?_
  refine n_then ?_
  refine ref_seq ?_
  refine ref_seq ?_
  refine ref_region ?_
  refine s_rd (r_move rfl) rfl ?_
  refine s_st (s_isnil Tryz.underlying32 rfl) rfl (fun b => ?_)
  refine l_nil ?_
  refine n_then ?_
  refine ref_condE (b := b.1) rfl (fun hb => ?_) (fun hb => ?_)
  · refine ref_seq ?_
    refine ref_region ?_
    refine s_rd (r_assign rfl) rfl ?_
    refine l_nil ?_
    refine n_then ?_
    refine ref_ret ?_
    refine r_then ?_
    have hd := b.2 hb
    subst hd
    refine b_of (own_nil (rSl (rI .i64))) ?_
    exact fin1 (.inl rfl) (.slice none 0 0, []) [0] rfl ⟨rfl, trivial⟩ rfl (rv_tmp rfl)
  · refine ref_skip ?_
    refine n_then ?_
    refine ref_seq ?_
    refine ref_region ?_
    refine s_st (s_bsliceO (xs := []) (ds := []) Tryz.underlying32 el_slices_Clone_int_int rfl (Nat.le_of_ble_eq_true rfl) trivial) rfl (fun o => ?_)
    refine s_rd (r_move rfl) rfl ?_
    refine s_st (s_append hm' Tryz.underlying32 el_slices_Clone_int_int rfl (j := 0) rfl rfl) rfl (fun o2 => ?_)
    refine s_rd (r_assign rfl) rfl ?_
    refine l_nil ?_
    refine n_then ?_
    refine ref_ret ?_
    exact fin1 (.inl rfl) o2 [0] rfl ⟨rfl, trivial⟩ rfl (rv_tmp rfl)
noncomputable def slices_Clone_int_int_C : Con := conW3 (P := prog) (.sl (.int .i64)) slices_Clone_int_int_m
theorem slices_Clone_int_int_ok [DrawMode] : ConFn prog 73 slices_Clone_int_int_C := ⟨Tryz.call73, conW3_ok fun s r hm => slices_Clone_int_int_fn hm⟩

noncomputable def proof_search_value_m (s_0_values : (List Int)) (s_0_clauses : (List (List Int))) (s_0_known : (List (ByteArray × Int))) (s_0_steps : (List T_api_Step)) (s_0_nodes : Int) (s_0_stop : Bool) (x_1 : Int) : Option (Int) :=
 bif decide (x_1 > 0) then
 Option.bind (idxM s_0_values (isub .i64 x_1 1)) fun t2 =>
 some t2
 else
 Option.bind (idxM s_0_values (isub .i64 (ineg .i64 x_1) 1)) fun t3 =>
 some (ineg .i64 t3)
noncomputable def proof_search_value_C : Con := ⟨[(.sl (.int .i64)), (.sl (.sl (.int .i64))), (.mp .str (.int .i64)), (.sl (.st 3)), (.int .i64), .bool, (.int .i64)], [(.int .i64)], fun (a : (List Int) × (List (List Int)) × (List (ByteArray × Int)) × (List T_api_Step) × Int × Bool × Int) => proof_search_value_m a.1 a.2.1 a.2.2.1 a.2.2.2.1 a.2.2.2.2.1 a.2.2.2.2.2.1 a.2.2.2.2.2.2, [(false, [.ptr 0]), (false, [.d 6 0])], [.oc 0 [.own 1, .own 2, .mp 3, .own 4, .d 4 0, .d 5 0], .oa 1 (.d 0 0), .oa 2 (.d 1 0), .oa 3 (.d 2 0), .oa 4 (.d 3 0)], [(false, [.d 0 0])], [.same, .same, .same, .same, .same], 5, 5⟩
def proof_search_value_H : Hints := ⟨[], [], [], [], []⟩
theorem proof_search_value_ok [DrawMode] : ConFn prog 115 proof_search_value_C := conFn_of (H := proof_search_value_H) (fin := []) Tryz.func115 Tryz.call115 (tabL_ok (l := []) trivial) rfl rfl rfl (fun a => by kernel_rfl)

noncomputable def proof_search_look_l1 (s_0_values : (List Int)) (s_0_clauses : (List (List Int))) (s_0_known : (List (ByteArray × Int))) (s_0_steps : (List T_api_Step)) (s_0_nodes : Int) (s_0_stop : Bool) (t58 : (List Int)) (s82 : Int × Int) : Option (Sum (Sum (Sum (Int × Int) (Unit)) (Int)) (Int × Int)) :=
 bif decide (s82.2 < ((t58.length : Int))) then
 Option.bind (idxM t58 s82.2) fun t83 =>
 Option.bind (proof_search_value_m s_0_values s_0_clauses s_0_known s_0_steps s_0_nodes s_0_stop t83) fun v84 =>
 joinM (fun j86 : Bool =>
 bif j86 then
 some (Sum.inl (Sum.inl (Sum.inr (()))))
 else
 bif (v84 : Int) == 0 then
 some (Sum.inr ((t83, iadd .i64 s82.2 1)))
 else
 some (Sum.inr ((s82.1, iadd .i64 s82.2 1)))) fun k85 =>
 bif decide (v84 > 0) then
 k85 (decide (v84 > 0))
 else
 bif (v84 : Int) == 0 then
 k85 ((s82.1 : Int) != 0)
 else
 k85 false
 else
 some (Sum.inl (Sum.inr s82.1))
noncomputable def proof_search_look_l2 (s_0_values : (List Int)) (s_0_clauses : (List (List Int))) (s_0_known : (List (ByteArray × Int))) (s_0_steps : (List T_api_Step)) (s_0_nodes : Int) (s_0_stop : Bool) (s57 : Int × Int × Int) : Option (Sum (Sum (Int × Int) (Int × Int)) (Int × Int × Int)) :=
 bif decide (s57.2.2 < ((s_0_clauses.length : Int))) then
 Option.bind (idxM s_0_clauses s57.2.2) fun t58 =>
 Option.bind (loopC (proof_search_look_l1 s_0_values s_0_clauses s_0_known s_0_steps s_0_nodes s_0_stop t58) ((0, 0))) (sumK (sumK (fun a : Int × Int => some (Sum.inl (Sum.inl a))) fun o87 : Unit =>
 some (Sum.inr ((s57.1, s57.2.1, iadd .i64 s57.2.2 1)))) fun q88 : Int =>
 bif (q88 : Int) == 0 then
 some (Sum.inl (Sum.inl ((s57.2.2, 0))))
 else
 bif decide (s57.1 < 0) then
 some (Sum.inr ((s57.2.2, q88, iadd .i64 s57.2.2 1)))
 else
 some (Sum.inr ((s57.1, s57.2.1, iadd .i64 s57.2.2 1))))
 else
 some (Sum.inl (Sum.inr ((s57.1, s57.2.1))))
noncomputable def proof_search_look_m (s_0_values : (List Int)) (s_0_clauses : (List (List Int))) (s_0_known : (List (ByteArray × Int))) (s_0_steps : (List T_api_Step)) (s_0_nodes : Int) (s_0_stop : Bool) : Option (Int × Int) :=
 Option.bind (loopC (proof_search_look_l2 s_0_values s_0_clauses s_0_known s_0_steps s_0_nodes s_0_stop) (((-1), 0, 0))) (sumK (fun a : Int × Int => some a) fun q89 : Int × Int =>
 some ((q89.1, q89.2)))
noncomputable def proof_search_look_C : Con := ⟨[(.sl (.int .i64)), (.sl (.sl (.int .i64))), (.mp .str (.int .i64)), (.sl (.st 3)), (.int .i64), .bool], [(.int .i64), (.int .i64)], fun (a : (List Int) × (List (List Int)) × (List (ByteArray × Int)) × (List T_api_Step) × Int × Bool) => proof_search_look_m a.1 a.2.1 a.2.2.1 a.2.2.2.1 a.2.2.2.2.1 a.2.2.2.2.2, [(false, [.ptr 0])], [.oc 0 [.own 1, .own 2, .mp 3, .own 4, .d 4 0, .d 5 0], .oa 1 (.d 0 0), .oa 2 (.d 1 0), .oa 3 (.d 2 0), .oa 4 (.d 3 0)], [(false, [.d 0 0]), (false, [.d 1 0])], [.same, .same, .same, .same, .same], 5, 5⟩
def proof_search_look_H : Hints := ⟨[(0, ⟨[], ⟨[(.int .i64), (.int .i64), (.int .i64)], [(0, none), (2, none), (3, none), (4, some (false, [.d 0 0])), (5, some (false, [.d 1 0])), (15, none), (16, none), (17, some (false, [.d 2 0]))], [.keep, .keep, .keep, .keep, .keep], 0⟩, [], some ([], ⟨[(.int .i64), (.int .i64)], [(0, none), (2, none), (3, none), (4, some (false, [.d 0 0])), (5, some (false, [.d 1 0]))], [.keep, .keep, .keep, .keep, .keep], 0⟩), true, none⟩), (2, ⟨[], ⟨[(.int .i64), (.int .i64)], [(0, none), (2, none), (3, none), (4, none), (5, none), (6, none), (8, some (false, [.d 0 0])), (15, none), (16, none), (17, none), (22, none), (23, none), (24, some (false, [.d 1 0]))], [.keep, .keep, .keep, .keep, .keep], 0⟩, [], some ([], ⟨[(.int .i64)], [(0, none), (2, none), (3, none), (4, none), (5, none), (6, none), (8, some (false, [.d 0 0])), (15, none), (16, none), (17, none)], [.keep, .keep, .keep, .keep, .keep], 0⟩), false, some (1, ([], ⟨[], [(0, none), (2, none), (3, none), (4, none), (5, none), (15, none), (16, none), (17, none)], [.keep, .keep, .keep, .keep, .keep], 0⟩))⟩)], [(26, ([], ⟨[.bool], [(0, none), (2, none), (3, none), (4, none), (5, none), (6, none), (8, none), (10, none), (11, none), (15, none), (16, none), (17, none), (22, none), (23, none), (24, none), (31, some (false, [.d 0 0]))], [.keep, .keep, .keep, .keep, .keep], 0⟩))], [], [], []⟩
theorem proof_search_look_ok [DrawMode] : ConFn prog 96 proof_search_look_C := conFn_of (H := proof_search_look_H) (fin := []) Tryz.func96 Tryz.call96 (tabL_ok (l := [(115, proof_search_value_C)]) ⟨proof_search_value_ok, trivial⟩) rfl rfl rfl (fun a => by kernel_rfl)

noncomputable def proof_search_branch_l1 (s_0_values : (List Int)) (s_0_clauses : (List (List Int))) (s_0_known : (List (ByteArray × Int))) (s_0_steps : (List T_api_Step)) (s_0_nodes : Int) (s_0_stop : Bool) (t24 : (List Int)) (s31 : Int × Int) : Option (Sum (Sum (Sum (Int) (Unit)) (Int)) (Int × Int)) :=
 bif decide (s31.2 < ((t24.length : Int))) then
 Option.bind (idxM t24 s31.2) fun t32 =>
 Option.bind (proof_search_value_m s_0_values s_0_clauses s_0_known s_0_steps s_0_nodes s_0_stop t32) fun t33 =>
 bif (t33 : Int) == 1 then
 some (Sum.inl (Sum.inl (Sum.inr (()))))
 else
 bif (t33 : Int) == 0 then
 bif (s31.1 : Int) == 0 then
 some (Sum.inr ((t32, iadd .i64 s31.2 1)))
 else
 some (Sum.inr ((s31.1, iadd .i64 s31.2 1)))
 else
 some (Sum.inr ((s31.1, iadd .i64 s31.2 1)))
 else
 some (Sum.inl (Sum.inr s31.1))
noncomputable def proof_search_branch_l2 (s_0_values : (List Int)) (s_0_clauses : (List (List Int))) (s_0_known : (List (ByteArray × Int))) (s_0_steps : (List T_api_Step)) (s_0_nodes : Int) (s_0_stop : Bool) (s23 : Int) : Option (Sum (Sum (Int) (Unit)) (Int)) :=
 bif decide (s23 < ((s_0_clauses.length : Int))) then
 Option.bind (idxM s_0_clauses s23) fun t24 =>
 Option.bind (loopC (proof_search_branch_l1 s_0_values s_0_clauses s_0_known s_0_steps s_0_nodes s_0_stop t24) ((0, 0))) (sumK (sumK (fun a : Int => some (Sum.inl (Sum.inl a))) fun o34 : Unit =>
 some (Sum.inr (iadd .i64 s23 1))) fun q35 : Int =>
 some (Sum.inl (Sum.inl q35)))
 else
 some (Sum.inl (Sum.inr (())))
noncomputable def proof_search_branch_m (s_0_values : (List Int)) (s_0_clauses : (List (List Int))) (s_0_known : (List (ByteArray × Int))) (s_0_steps : (List T_api_Step)) (s_0_nodes : Int) (s_0_stop : Bool) : Option (Int) :=
 Option.bind (loopC (proof_search_branch_l2 s_0_values s_0_clauses s_0_known s_0_steps s_0_nodes s_0_stop) 0) (sumK (fun a : Int => some a) fun q36 : Unit =>
 some 0)
noncomputable def proof_search_branch_C : Con := ⟨[(.sl (.int .i64)), (.sl (.sl (.int .i64))), (.mp .str (.int .i64)), (.sl (.st 3)), (.int .i64), .bool], [(.int .i64)], fun (a : (List Int) × (List (List Int)) × (List (ByteArray × Int)) × (List T_api_Step) × Int × Bool) => proof_search_branch_m a.1 a.2.1 a.2.2.1 a.2.2.2.1 a.2.2.2.2.1 a.2.2.2.2.2, [(false, [.ptr 0])], [.oc 0 [.own 1, .own 2, .mp 3, .own 4, .d 4 0, .d 5 0], .oa 1 (.d 0 0), .oa 2 (.d 1 0), .oa 3 (.d 2 0), .oa 4 (.d 3 0)], [(false, [.d 0 0])], [.same, .same, .same, .same, .same], 5, 5⟩
def proof_search_branch_H : Hints := ⟨[(0, ⟨[], ⟨[(.int .i64)], [(0, none), (2, none), (11, none), (12, none), (13, some (false, [.d 0 0]))], [.keep, .keep, .keep, .keep, .keep], 0⟩, [], some ([], ⟨[], [(0, none), (2, none)], [.keep, .keep, .keep, .keep, .keep], 0⟩), true, none⟩), (2, ⟨[], ⟨[(.int .i64), (.int .i64)], [(0, none), (2, none), (5, some (false, [.d 0 0])), (11, none), (12, none), (13, none), (17, none), (18, none), (19, some (false, [.d 1 0]))], [.keep, .keep, .keep, .keep, .keep], 0⟩, [], some ([], ⟨[(.int .i64)], [(0, none), (2, none), (5, some (false, [.d 0 0]))], [.keep, .keep, .keep, .keep, .keep], 0⟩), false, some (1, ([], ⟨[], [(0, none), (2, none), (11, none), (12, none), (13, none)], [.keep, .keep, .keep, .keep, .keep], 0⟩))⟩)], [], [], [], []⟩
theorem proof_search_branch_ok [DrawMode] : ConFn prog 97 proof_search_branch_C := conFn_of (H := proof_search_branch_H) (fin := []) Tryz.func97 Tryz.call97 (tabL_ok (l := [(115, proof_search_value_C)]) ⟨proof_search_value_ok, trivial⟩) rfl rfl rfl (fun a => by kernel_rfl)

noncomputable def proof_search_set_m (s_0_values : (List Int)) (s_0_clauses : (List (List Int))) (s_0_known : (List (ByteArray × Int))) (s_0_steps : (List T_api_Step)) (s_0_nodes : Int) (s_0_stop : Bool) (x_1 : Int) (value_2 : Int) : Option ((List Int)) :=
 bif decide (x_1 < 0) then
 Option.bind (idxM s_0_values (isub .i64 (ineg .i64 x_1) 1)) fun t1 =>
 some (s_0_values.set (Int.toNat (isub .i64 (ineg .i64 x_1) 1)) (ineg .i64 value_2))
 else
 Option.bind (idxM s_0_values (isub .i64 x_1 1)) fun t2 =>
 some (s_0_values.set (Int.toNat (isub .i64 x_1 1)) value_2)
noncomputable def proof_search_set_C : Con := ⟨[(.sl (.int .i64)), (.sl (.sl (.int .i64))), (.mp .str (.int .i64)), (.sl (.st 3)), (.int .i64), .bool, (.int .i64), (.int .i64)], [(.sl (.int .i64))], fun (a : (List Int) × (List (List Int)) × (List (ByteArray × Int)) × (List T_api_Step) × Int × Bool × Int × Int) => proof_search_set_m a.1 a.2.1 a.2.2.1 a.2.2.2.1 a.2.2.2.2.1 a.2.2.2.2.2.1 a.2.2.2.2.2.2.1 a.2.2.2.2.2.2.2, [(false, [.ptr 0]), (false, [.d 6 0]), (false, [.d 7 0])], [.oc 0 [.own 1, .own 2, .mp 3, .own 4, .d 4 0, .d 5 0], .oa 1 (.d 0 0), .oa 2 (.d 1 0), .oa 3 (.d 2 0), .oa 4 (.d 3 0)], [], [.same, .oa 1 (.d 0 0), .same, .same, .same], 5, 5⟩
def proof_search_set_H : Hints := ⟨[], [], [], [], []⟩
theorem proof_search_set_ok [DrawMode] : ConFn prog 116 proof_search_set_C := conFn_of (H := proof_search_set_H) (fin := []) Tryz.func116 Tryz.call116 (tabL_ok (l := []) trivial) rfl rfl rfl (fun a => by kernel_rfl)

def proof_search_find_C0 : Con := ⟨[(.sl (.int .i64)), (.sl (.sl (.int .i64))), (.mp .str (.int .i64)), (.sl (.st 3)), (.int .i64), .bool], [(.int .i64), (.sl (.int .i64)), (.mp .str (.int .i64)), (.int .i64), .bool, (.sl (.sl (.int .i64))), (.sl (.st 3))], fun _ => none, [(false, [.ptr 0])], [.oc 0 [.own 1, .own 2, .mp 3, .own 4, .d 4 0, .d 5 0], .oa 1 (.d 0 0), .oa 2 (.d 1 0), .oa 3 (.d 2 0), .oa 4 (.d 3 0)], [(false, [.d 0 0])], [.oc 0 [.own 1, .own 5, .mp 3, .own 6, .d 3 0, .d 4 0], .oa 1 (.d 1 0), .dead, .oa 3 (.d 2 0), .dead, .oa 5 (.d 5 0), .oa 6 (.d 6 0)], 5, 7⟩
noncomputable def proof_search_under_m (proof_search_find_r : (List Int) → (List (List Int)) → (List (ByteArray × Int)) → (List T_api_Step) → Int → Bool → Option (Int × (List Int) × (List (ByteArray × Int)) × Int × Bool × (List (List Int)) × (List T_api_Step))) (s_0_values : (List Int)) (s_0_clauses : (List (List Int))) (s_0_known : (List (ByteArray × Int))) (s_0_steps : (List T_api_Step)) (s_0_nodes : Int) (s_0_stop : Bool) (x_1 : Int) : Option (Int × (List Int) × (List (ByteArray × Int)) × Int × Bool × (List (List Int)) × (List T_api_Step)) :=
 Option.bind (proof_search_set_m s_0_values s_0_clauses s_0_known s_0_steps s_0_nodes s_0_stop x_1 1) fun t1 =>
 Option.bind (proof_search_find_r t1 s_0_clauses s_0_known s_0_steps s_0_nodes s_0_stop) fun n2 =>
 bif decide (n2.1 ≥ 0) then
 Option.bind (proof_search_set_m n2.2.1 n2.2.2.2.2.2.1 n2.2.2.1 n2.2.2.2.2.2.2 n2.2.2.2.1 n2.2.2.2.2.1 x_1 0) fun t3 =>
 some ((n2.1, t3, n2.2.2.1, n2.2.2.2.1, n2.2.2.2.2.1, n2.2.2.2.2.2.1, n2.2.2.2.2.2.2))
 else
 bif n2.2.2.2.2.1 then
 Option.bind (proof_search_set_m n2.2.1 n2.2.2.2.2.2.1 n2.2.2.1 n2.2.2.2.2.2.2 n2.2.2.2.1 n2.2.2.2.2.1 x_1 0) fun t4 =>
 some ((n2.1, t4, n2.2.2.1, n2.2.2.2.1, n2.2.2.2.2.1, n2.2.2.2.2.2.1, n2.2.2.2.2.2.2))
 else
 some ((n2.1, n2.2.1, n2.2.2.1, n2.2.2.2.1, n2.2.2.2.2.1, n2.2.2.2.2.2.1, n2.2.2.2.2.2.2))
noncomputable def proof_search_under_C (proof_search_find_r : (List Int) → (List (List Int)) → (List (ByteArray × Int)) → (List T_api_Step) → Int → Bool → Option (Int × (List Int) × (List (ByteArray × Int)) × Int × Bool × (List (List Int)) × (List T_api_Step))) : Con := ⟨[(.sl (.int .i64)), (.sl (.sl (.int .i64))), (.mp .str (.int .i64)), (.sl (.st 3)), (.int .i64), .bool, (.int .i64)], [(.int .i64), (.sl (.int .i64)), (.mp .str (.int .i64)), (.int .i64), .bool, (.sl (.sl (.int .i64))), (.sl (.st 3))], fun (a : (List Int) × (List (List Int)) × (List (ByteArray × Int)) × (List T_api_Step) × Int × Bool × Int) => proof_search_under_m proof_search_find_r a.1 a.2.1 a.2.2.1 a.2.2.2.1 a.2.2.2.2.1 a.2.2.2.2.2.1 a.2.2.2.2.2.2, [(false, [.ptr 0]), (false, [.d 6 0])], [.oc 0 [.own 1, .own 2, .mp 3, .own 4, .d 4 0, .d 5 0], .oa 1 (.d 0 0), .oa 2 (.d 1 0), .oa 3 (.d 2 0), .oa 4 (.d 3 0)], [(false, [.d 0 0])], [.oc 0 [.own 1, .own 5, .mp 3, .own 6, .d 3 0, .d 4 0], .oa 1 (.d 1 0), .dead, .oa 3 (.d 2 0), .dead, .oa 5 (.d 5 0), .oa 6 (.d 6 0)], 5, 7⟩
def proof_search_under_H : Hints := ⟨[], [], [], [], []⟩
theorem proof_search_under_ok {proof_search_find_r : (List Int) → (List (List Int)) → (List (ByteArray × Int)) → (List T_api_Step) → Int → Bool → Option (Int × (List Int) × (List (ByteArray × Int)) × Int × Bool × (List (List Int)) × (List T_api_Step))} (h_proof_search_find_r : ConFn prog 74 (proof_search_find_C0.with fun (a : (List Int) × (List (List Int)) × (List (ByteArray × Int)) × (List T_api_Step) × Int × Bool) => proof_search_find_r a.1 a.2.1 a.2.2.1 a.2.2.2.1 a.2.2.2.2.1 a.2.2.2.2.2)) : ConFn prog 98 (proof_search_under_C proof_search_find_r) := conFn_of (H := proof_search_under_H) (fin := []) Tryz.func98 Tryz.call98 (tabL_ok (l := [(116, proof_search_set_C), (74, (proof_search_find_C0.with fun (a : (List Int) × (List (List Int)) × (List (ByteArray × Int)) × (List T_api_Step) × Int × Bool) => proof_search_find_r a.1 a.2.1 a.2.2.1 a.2.2.2.1 a.2.2.2.2.1 a.2.2.2.2.2))]) ⟨proof_search_set_ok, h_proof_search_find_r, trivial⟩) rfl rfl rfl (fun a => by kernel_rfl)

noncomputable def slices_Index_int_int_l1 (s_0 : (List Int)) (v_1 : Int) (s5 : Int) : Option (Sum (Sum (Int) (Unit)) (Int)) :=
 bif decide (s5 < ((s_0.length : Int))) then
 Option.bind (idxM s_0 s5) fun t6 =>
 bif (v_1 : Int) == t6 then
 some (Sum.inl (Sum.inl s5))
 else
 some (Sum.inr (iadd .i64 s5 1))
 else
 some (Sum.inl (Sum.inr (())))
noncomputable def slices_Index_int_int_m (s_0 : (List Int)) (v_1 : Int) : Option (Int) :=
 Option.bind (loopC (slices_Index_int_int_l1 s_0 v_1) 0) (sumK (fun a : Int => some a) fun q7 : Unit =>
 some ((-1)))
noncomputable def slices_Index_int_int_C : Con := ⟨[(.sl (.int .i64)), (.int .i64)], [(.int .i64)], fun (a : (List Int) × Int) => slices_Index_int_int_m a.1 a.2, [(false, [.d 0 0]), (false, [.d 1 0])], [], [(false, [.d 0 0])], [], 0, 0⟩
def slices_Index_int_int_H : Hints := ⟨[(0, ⟨[], ⟨[(.int .i64)], [(0, none), (1, none), (4, none), (7, none), (8, some (false, [.d 0 0]))], [], 0⟩, [], some ([], ⟨[], [(4, none)], [], 0⟩), true, none⟩)], [], [], [], []⟩
theorem slices_Index_int_int_ok [DrawMode] : ConFn prog 106 slices_Index_int_int_C := conFn_of (H := slices_Index_int_int_H) (fin := []) Tryz.func106 Tryz.call106 (tabL_ok (l := []) trivial) rfl rfl rfl (fun a => by kernel_rfl)

noncomputable def slices_Contains_int_int_m (s_0 : (List Int)) (v_1 : Int) : Option (Bool) :=
 Option.bind (slices_Index_int_int_m s_0 v_1) fun t1 =>
 some (decide (t1 ≥ 0))
noncomputable def slices_Contains_int_int_C : Con := ⟨[(.sl (.int .i64)), (.int .i64)], [.bool], fun (a : (List Int) × Int) => slices_Contains_int_int_m a.1 a.2, [(false, [.d 0 0]), (false, [.d 1 0])], [], [(false, [.d 0 0])], [], 0, 0⟩
def slices_Contains_int_int_H : Hints := ⟨[], [], [], [], []⟩
theorem slices_Contains_int_int_ok [DrawMode] : ConFn prog 85 slices_Contains_int_int_C := conFn_of (H := slices_Contains_int_int_H) (fin := []) Tryz.func85 Tryz.call85 (tabL_ok (l := [(106, slices_Index_int_int_C)]) ⟨slices_Index_int_int_ok, trivial⟩) rfl rfl rfl (fun a => by kernel_rfl)

noncomputable def proof_Resolve_1_m (x_0 : Int) (y_1 : Int) : Option (Int) :=
 Option.bind (proof_abs_m x_0) fun t1 =>
 Option.bind (proof_abs_m y_1) fun t2 =>
 Option.bind (cmp_Compare_int_m t1 t2) fun t3 =>
 Option.bind (cmp_Compare_int_m x_0 y_1) fun t4 =>
 Option.bind (cmp_Or_int_m [t3, t4]) fun t5 =>
 some t5
noncomputable def proof_Resolve_1_C : Con := ⟨[(.int .i64), (.int .i64)], [(.int .i64)], fun (a : Int × Int) => proof_Resolve_1_m a.1 a.2, [(false, [.d 0 0]), (false, [.d 1 0])], [], [(false, [.d 0 0])], [], 0, 0⟩
def proof_Resolve_1_H : Hints := ⟨[], [], [], [], []⟩
theorem proof_Resolve_1_ok [DrawMode] : ConFn prog 132 proof_Resolve_1_C := conFn_of (H := proof_Resolve_1_H) (fin := []) Tryz.func132 Tryz.call132 (tabL_ok (l := [(114, proof_abs_C), (108, cmp_Compare_int_C), (107, cmp_Or_int_C)]) ⟨proof_abs_ok, cmp_Compare_int_ok, cmp_Or_int_ok, trivial⟩) rfl rfl rfl (fun a => by kernel_rfl)

theorem slices_SortFunc_int_int_ok_ [DrawMode] {s_0 r : List Int} (hm : (sortFM proof_Resolve_1_m) s_0 = some r) {h_0 : Value × List Nat} :
    FnOk prog 131 [pv h_0.1, pv (.func (.func 132) #[] #[])] [oa (rI .i64) h_0.1 h_0.2 s_0] (fun _ : Unit => []) (fun _ : Unit => [oa (rI .i64) h_0.1 h_0.2 r]) :=
  sort_fnI (X := Unit) (fun x y r h => conCmp (t := .int .i64) (@proof_Resolve_1_ok strictDraws) h fun _ => rfl)
    (fun hO blk off cap d w hc hH hb hs hT => Any.slices_SortFunc_total sortFA encI encI_one _ hO 132 #[] blk off cap d w (enters_of Tryz.func132 (by kernel_rfl) rfl) hc hH hb hs hT)
    (fun p cap fv w => AnyF.slices_SortFunc_none { sortFA with } p cap fv w) hm
noncomputable def slices_SortFunc_int_int_C : Con := conW2 (P := prog) (.int .i64) (sortFM proof_Resolve_1_m) [(false, [.fn 132 []])]
theorem slices_SortFunc_int_int_ok [DrawMode] : ConFn prog 131 slices_SortFunc_int_int_C := ⟨Tryz.call131, conW2F_ok fun s r hm h0 => slices_SortFunc_int_int_ok_ hm⟩

noncomputable def slices_Compact_int_int_C : Con := conW1 (P := prog) (.int .i64) compactM
theorem slices_Compact_int_int_ok [DrawMode] : ConFn prog 133 slices_Compact_int_int_C := ⟨Tryz.call133, conW1_ok fun s r hm h0 => slices_Compact_ok hm⟩

noncomputable def proof_clause_s1_l1 (n_0 : Int) (c_1 : (List Int)) (s11 : Int) : Option (Sum (Sum (Int) (Unit)) (Int)) :=
 bif decide (s11 < ((c_1.length : Int))) then
 Option.bind (idxM c_1 s11) fun t12 =>
 bif (t12 : Int) == 0 then
 some (Sum.inl (Sum.inl 1))
 else
 bif decide (t12 < (ineg .i64 n_0)) then
 some (Sum.inl (Sum.inl 1))
 else
 bif decide (t12 > n_0) then
 some (Sum.inl (Sum.inl 1))
 else
 some (Sum.inr (iadd .i64 s11 1))
 else
 some (Sum.inl (Sum.inr (())))
noncomputable def proof_clause_s1_l2 (c_1 : (List Int)) (s24 : Int) : Option (Sum (Sum (Int) (Unit)) (Int)) :=
 bif decide (s24 < ((c_1.length : Int))) then
 Option.bind (idxM c_1 (isub .i64 s24 1)) fun t25 =>
 Option.bind (idxM c_1 s24) fun t26 =>
 Option.bind (proof_abs_m t25) fun t27 =>
 Option.bind (proof_abs_m t26) fun t28 =>
 bif decide (t27 ≥ t28) then
 some (Sum.inl (Sum.inl 8))
 else
 some (Sum.inr (iadd .i64 s24 1))
 else
 some (Sum.inl (Sum.inr (())))
noncomputable def proof_clause_s1_m (n_0 : Int) (c_1 : (List Int)) : Option (Int) :=
 bif decide (((c_1.length : Int)) > 50) then
 some 2
 else
 Option.bind (loopC (proof_clause_s1_l1 n_0 c_1) 0) (sumK (fun a : Int => some a) fun q13 : Unit =>
 Option.bind (loopC (proof_clause_s1_l2 c_1) 1) (sumK (fun a : Int => some a) fun q29 : Unit =>
 some 0))
noncomputable def proof_clause_s1_C : Con := ⟨[(.int .i64), (.sl (.int .i64))], [(.int .i64)], fun (a : Int × (List Int)) => proof_clause_s1_m a.1 a.2, [(false, [.d 0 0]), (false, [.own 0])], [.oa 0 (.d 1 0)], [(false, [.d 0 0])], [.same], 1, 1⟩
def proof_clause_s1_H : Hints := ⟨[(0, ⟨[], ⟨[(.int .i64)], [(0, none), (1, none), (4, none), (11, none), (12, none), (13, some (false, [.d 0 0]))], [.keep], 0⟩, [], some ([], ⟨[], [(1, none), (4, none)], [.keep], 0⟩), true, none⟩), (2, ⟨[], ⟨[(.int .i64)], [(1, none), (4, none), (7, some (false, [.d 0 0]))], [.keep], 0⟩, [], some ([], ⟨[], [(1, none), (4, none)], [.keep], 0⟩), true, none⟩)], [], [], [], []⟩
theorem proof_clause_s1_ok [DrawMode] : ConFn prog 95 proof_clause_s1_C := conFn_of (H := proof_clause_s1_H) (fin := []) Tryz.func95 Tryz.call95 (tabL_ok (l := [(114, proof_abs_C)]) ⟨proof_abs_ok, trivial⟩) rfl rfl rfl (fun a => by kernel_rfl)

noncomputable def proof_Resolve_l1 (pivot_2 : Int) (t92 : (List Int)) (s101 : Int × (List Int)) : Option (Sum ((List Int)) (Int × (List Int))) :=
 bif decide (s101.1 < ((t92.length : Int))) then
 Option.bind (idxM t92 s101.1) fun t102 =>
 Option.bind (proof_abs_m t102) fun t103 =>
 bif (t103 : Int) != pivot_2 then
 Option.bind (appM 8 s101.2 [t102]) fun out104 =>
 some (Sum.inr ((iadd .i64 s101.1 1, out104)))
 else
 some (Sum.inr ((iadd .i64 s101.1 1, s101.2)))
 else
 some (Sum.inl s101.2)
noncomputable def proof_Resolve_l2 (a_0 : (List Int)) (b_1 : (List Int)) (pivot_2 : Int) (s91 : Int × (List Int)) : Option (Sum ((List Int)) (Int × (List Int))) :=
 bif decide (s91.1 < (([a_0, b_1].length : Int))) then
 Option.bind (idxM [a_0, b_1] s91.1) fun t92 =>
 Option.bind (loopC (proof_Resolve_l1 pivot_2 t92) ((0, s91.2))) fun q105 : (List Int) =>
 some (Sum.inr ((iadd .i64 s91.1 1, q105)))
 else
 some (Sum.inl s91.2)
noncomputable def proof_Resolve_m (a_0 : (List Int)) (b_1 : (List Int)) (pivot_2 : Int) : Option (Bool × (List Int)) :=
 bif decide (pivot_2 < 1) then
 some ((false, []))
 else
 Option.bind (proof_clause_m 200 a_0) fun t3 =>
 bif (t3 : Int) != 0 then
 some ((false, []))
 else
 Option.bind (proof_clause_m 200 b_1) fun t4 =>
 bif (t4 : Int) != 0 then
 some ((false, []))
 else
 Option.bind (slices_Contains_int_int_m a_0 pivot_2) fun t7 =>
 bif !t7 then
 some ((false, []))
 else
 Option.bind (slices_Contains_int_int_m b_1 (ineg .i64 pivot_2)) fun t8 =>
 bif !t8 then
 some ((false, []))
 else
 Option.bind (loopC (proof_Resolve_l2 a_0 b_1 pivot_2) ((0, []))) fun q106 : (List Int) =>
 Option.bind ((sortFM proof_Resolve_1_m) q106) fun t107 =>
 Option.bind (compactM t107) fun out108 =>
 Option.bind (proof_clause_s1_m 200 out108) fun t109 =>
 bif (t109 : Int) != 0 then
 some ((false, []))
 else
 some ((true, out108))
noncomputable def proof_Resolve_C : Con := ⟨[(.sl (.int .i64)), (.sl (.int .i64)), (.int .i64)], [.bool, (.sl (.int .i64))], fun (a : (List Int) × (List Int) × Int) => proof_Resolve_m a.1 a.2.1 a.2.2, [(false, [.d 0 0]), (false, [.d 1 0]), (false, [.d 2 0])], [], [(false, [.own 0]), (false, [.d 0 0])], [.oa 0 (.d 1 0)], 0, 1⟩
def proof_Resolve_H : Hints := ⟨[(0, ⟨[.own (.int .i64) (.slot 8 0)], ⟨[(.int .i64), (.sl (.int .i64))], [(2, none), (6, none), (7, none), (8, some (false, [.own 1])), (38, none), (39, none), (40, some (false, [.d 0 0]))], [.dead, .oaN 0 (.d 1 0)], 1⟩, [], some ([], ⟨[(.sl (.int .i64))], [(6, none), (7, none), (8, some (false, [.own 1]))], [.dead, .oaN 0 (.d 0 0)], 1⟩), false, none⟩), (2, ⟨[], ⟨[(.int .i64), (.sl (.int .i64))], [(2, none), (6, none), (7, none), (8, some (false, [.own 2])), (38, none), (39, none), (40, none), (44, none), (45, none), (46, some (false, [.d 0 0]))], [.dead, .dead, .oaN 0 (.d 1 0)], 1⟩, [], some ([], ⟨[(.sl (.int .i64))], [(2, none), (6, none), (7, none), (8, some (false, [.own 2])), (38, none), (39, none), (40, none)], [.dead, .dead, .oaN 0 (.d 0 0)], 1⟩), false, none⟩)], [], [], [], []⟩
theorem proof_Resolve_ok [DrawMode] : ConFn prog 117 proof_Resolve_C := conFn_of (H := proof_Resolve_H) (fin := [.own (.int .i64) (.slot 6 0)]) Tryz.func117 Tryz.call117 (tabL_ok (l := [(131, slices_SortFunc_int_int_C), (133, slices_Compact_int_int_C), (95, proof_clause_s1_C), (95, proof_clause_C), (85, slices_Contains_int_int_C), (114, proof_abs_C), (132, proof_Resolve_1_C)]) ⟨slices_SortFunc_int_int_ok, slices_Compact_int_int_ok, proof_clause_s1_ok, proof_clause_ok, slices_Contains_int_int_ok, proof_abs_ok, proof_Resolve_1_ok, trivial⟩) rfl rfl rfl (fun a => by kernel_rfl)

theorem keyM_ok : ConOk prog 118 ⟨[.sl (.int .i64)], [.str], keyM, [(false, [.d 0 0])], [], [(false, [.d 0 0])], [], 0, 0⟩ := fun a r h hs =>
  (keyM_fn (fun h => h) (g := 1) (by kernel_rfl) (by first | exact .head _ | exact .tail _ (.head _)) h).re fun x F w _ => ⟨⟨hs, fun i hi => absurd hi (Nat.not_lt_zero i)⟩, rfl, rfl⟩
noncomputable def proof_key_C : Con := ⟨[.sl (.int .i64)], [.str], keyM, [(false, [.d 0 0])], [], [(false, [.d 0 0])], [], 0, 0⟩
theorem proof_key_ok : ConFn prog 118 proof_key_C := ⟨Tryz.call118, keyM_ok⟩

noncomputable def proof_search_learn_m (s_0_values : (List Int)) (s_0_clauses : (List (List Int))) (s_0_known : (List (ByteArray × Int))) (s_0_steps : (List T_api_Step)) (s_0_nodes : Int) (s_0_stop : Bool) (i_1 : Int) (k_2 : Int) (x_3 : Int) : Option (Int × (List (ByteArray × Int)) × Int × Bool × (List (List Int)) × (List T_api_Step)) :=
 joinM (fun j2 : Int × Int × Int =>
 Option.bind (idxM s_0_clauses j2.1) fun t6 =>
 Option.bind (idxM s_0_clauses j2.2.1) fun t7 =>
 Option.bind (proof_Resolve_m t6 t7 j2.2.2) fun t8 =>
 joinM (fun j12 : Bool =>
 bif j12 then
 some (((-1), s_0_known, s_0_nodes, true, s_0_clauses, s_0_steps))
 else
 Option.bind (keyM t8.2) fun t13 =>
 joinM (fun j15 : Unit =>
 Option.bind (appM 24 s_0_steps [(T_api_Step.mk j2.1 j2.2.1 j2.2.2)]) fun t16 =>
 Option.bind (appM 24 s_0_clauses [t8.2]) fun t17 =>
 some ((isub .i64 ((t17.length : Int)) 1, mapPut s_0_known t13 (isub .i64 ((t17.length : Int)) 1), s_0_nodes, s_0_stop, t17, t16))) fun k14 =>
 bif mapHas s_0_known t13 then
 bif decide (((t8.2.length : Int)) > 0) then
 some ((mapGet s_0_known t13 0, s_0_known, s_0_nodes, s_0_stop, s_0_clauses, s_0_steps))
 else
 k14 (())
 else
 k14 (())) fun k11 =>
 bif !t8.1 then
 k11 true
 else
 k11 (((s_0_steps.length : Int) : Int) == 20000)) fun k1 =>
 bif decide (x_3 < 0) then
 k1 ((k_2, i_1, ineg .i64 x_3))
 else
 k1 ((i_1, k_2, x_3))
noncomputable def proof_search_learn_C : Con := ⟨[(.sl (.int .i64)), (.sl (.sl (.int .i64))), (.mp .str (.int .i64)), (.sl (.st 3)), (.int .i64), .bool, (.int .i64), (.int .i64), (.int .i64)], [(.int .i64), (.mp .str (.int .i64)), (.int .i64), .bool, (.sl (.sl (.int .i64))), (.sl (.st 3))], fun (a : (List Int) × (List (List Int)) × (List (ByteArray × Int)) × (List T_api_Step) × Int × Bool × Int × Int × Int) => proof_search_learn_m a.1 a.2.1 a.2.2.1 a.2.2.2.1 a.2.2.2.2.1 a.2.2.2.2.2.1 a.2.2.2.2.2.2.1 a.2.2.2.2.2.2.2.1 a.2.2.2.2.2.2.2.2, [(false, [.ptr 0]), (false, [.d 6 0]), (false, [.d 7 0]), (false, [.d 8 0])], [.oc 0 [.own 1, .own 2, .mp 3, .own 4, .d 4 0, .d 5 0], .oa 1 (.d 0 0), .oa 2 (.d 1 0), .oa 3 (.d 2 0), .oa 4 (.d 3 0)], [(false, [.d 0 0])], [.oc 0 [.own 1, .own 5, .mp 3, .own 6, .d 2 0, .d 3 0], .same, .dead, .oa 3 (.d 1 0), .dead, .oa 5 (.d 4 0), .oa 6 (.d 5 0)], 5, 7⟩
def proof_search_learn_H : Hints := ⟨[], [(8, ([], ⟨[(.int .i64), (.int .i64), (.int .i64)], [(0, none), (1, some (false, [.d 0 0])), (2, some (false, [.d 1 0])), (3, some (false, [.d 2 0])), (8, none)], [.keep, .keep, .keep, .keep, .keep], 0⟩)), (12, ([], ⟨[.bool], [(0, none), (1, none), (2, none), (3, none), (8, none), (9, none), (48, some (false, [.d 0 0]))], [.keep, .keep, .keep, .keep, .keep, .keep], 0⟩)), (24, ([], ⟨[], [(0, none), (1, none), (2, none), (3, none), (8, none), (9, none), (11, none)], [.keep, .keep, .keep, .keep, .keep, .dead], 0⟩))], [], [], []⟩
theorem proof_search_learn_ok : ConFn prog 99 proof_search_learn_C := conFn_of (H := proof_search_learn_H) (fin := []) Tryz.func99 Tryz.call99 (tabL_ok (l := [(117, proof_Resolve_C), (118, proof_key_C)]) ⟨proof_Resolve_ok, proof_key_ok, trivial⟩) rfl rfl rfl (fun a => by kernel_rfl)

noncomputable def proof_search_find_b (proof_search_find_r : (List Int) → (List (List Int)) → (List (ByteArray × Int)) → (List T_api_Step) → Int → Bool → Option (Int × (List Int) × (List (ByteArray × Int)) × Int × Bool × (List (List Int)) × (List T_api_Step))) (s_0_values : (List Int)) (s_0_clauses : (List (List Int))) (s_0_known : (List (ByteArray × Int))) (s_0_steps : (List T_api_Step)) (s_0_nodes : Int) (s_0_stop : Bool) : Option (Int × (List Int) × (List (ByteArray × Int)) × Int × Bool × (List (List Int)) × (List T_api_Step)) :=
 joinM (fun j2 : Int × Bool =>
 bif j2.2 then
 some (((-1), s_0_values, s_0_known, j2.1, j2.2, s_0_clauses, s_0_steps))
 else
 Option.bind (proof_search_look_m s_0_values s_0_clauses s_0_known s_0_steps j2.1 j2.2) fun t3 =>
 joinM (fun j5 : Unit =>
 joinM (fun j8 : Int =>
 Option.bind (proof_search_under_m proof_search_find_r s_0_values s_0_clauses s_0_known s_0_steps j2.1 j2.2 j8) fun first9 =>
 bif decide (first9.1 < 0) then
 some ((first9.1, first9.2.1, first9.2.2.1, first9.2.2.2.1, first9.2.2.2.2.1, first9.2.2.2.2.2.1, first9.2.2.2.2.2.2))
 else
 bif first9.2.2.2.2.1 then
 some ((first9.1, first9.2.1, first9.2.2.1, first9.2.2.2.1, first9.2.2.2.2.1, first9.2.2.2.2.2.1, first9.2.2.2.2.2.2))
 else
 Option.bind (idxM first9.2.2.2.2.2.1 first9.1) fun t12 =>
 Option.bind (slices_Contains_int_int_m t12 (ineg .i64 j8)) fun t13 =>
 bif !t13 then
 some ((first9.1, first9.2.1, first9.2.2.1, first9.2.2.2.1, first9.2.2.2.2.1, first9.2.2.2.2.2.1, first9.2.2.2.2.2.2))
 else
 bif decide (t3.1 < 0) then
 Option.bind (proof_search_under_m proof_search_find_r first9.2.1 first9.2.2.2.2.2.1 first9.2.2.1 first9.2.2.2.2.2.2 first9.2.2.2.1 first9.2.2.2.2.1 (ineg .i64 j8)) fun unit14 =>
 bif decide (unit14.1 < 0) then
 some ((unit14.1, unit14.2.1, unit14.2.2.1, unit14.2.2.2.1, unit14.2.2.2.2.1, unit14.2.2.2.2.2.1, unit14.2.2.2.2.2.2))
 else
 bif unit14.2.2.2.2.1 then
 some ((unit14.1, unit14.2.1, unit14.2.2.1, unit14.2.2.2.1, unit14.2.2.2.2.1, unit14.2.2.2.2.2.1, unit14.2.2.2.2.2.2))
 else
 Option.bind (idxM unit14.2.2.2.2.2.1 unit14.1) fun t15 =>
 Option.bind (slices_Contains_int_int_m t15 j8) fun t16 =>
 bif !t16 then
 some ((unit14.1, unit14.2.1, unit14.2.2.1, unit14.2.2.2.1, unit14.2.2.2.2.1, unit14.2.2.2.2.2.1, unit14.2.2.2.2.2.2))
 else
 Option.bind (proof_search_learn_m unit14.2.1 unit14.2.2.2.2.2.1 unit14.2.2.1 unit14.2.2.2.2.2.2 unit14.2.2.2.1 unit14.2.2.2.2.1 unit14.1 first9.1 j8) fun t17 =>
 some ((t17.1, unit14.2.1, t17.2.1, t17.2.2.1, t17.2.2.2.1, t17.2.2.2.2.1, t17.2.2.2.2.2))
 else
 Option.bind (proof_search_learn_m first9.2.1 first9.2.2.2.2.2.1 first9.2.2.1 first9.2.2.2.2.2.2 first9.2.2.2.1 first9.2.2.2.2.1 t3.1 first9.1 j8) fun t18 =>
 some ((t18.1, first9.2.1, t18.2.1, t18.2.2.1, t18.2.2.2.1, t18.2.2.2.2.1, t18.2.2.2.2.2))) fun k7 =>
 bif decide (t3.1 < 0) then
 Option.bind (proof_search_branch_m s_0_values s_0_clauses s_0_known s_0_steps j2.1 j2.2) fun x19 =>
 bif (x19 : Int) == 0 then
 some (((-1), s_0_values, s_0_known, j2.1, j2.2, s_0_clauses, s_0_steps))
 else
 k7 x19
 else
 k7 t3.2) fun k4 =>
 bif decide (t3.1 ≥ 0) then
 bif (t3.2 : Int) == 0 then
 some ((t3.1, s_0_values, s_0_known, j2.1, j2.2, s_0_clauses, s_0_steps))
 else
 k4 (())
 else
 k4 (())) fun k1 =>
 bif decide ((iadd .i64 s_0_nodes 1) > 9000) then
 k1 ((iadd .i64 s_0_nodes 1, true))
 else
 k1 ((iadd .i64 s_0_nodes 1, s_0_stop))
noncomputable def proof_search_find_n (n : Nat) : (List Int) → (List (List Int)) → (List (ByteArray × Int)) → (List T_api_Step) → Int → Bool → Option (Int × (List Int) × (List (ByteArray × Int)) × Int × Bool × (List (List Int)) × (List T_api_Step)) := Nat.rec (fun _ _ _ _ _ _ => none) (fun _ f => proof_search_find_b f) n
noncomputable def proof_search_find_m (s_0_values : (List Int)) (s_0_clauses : (List (List Int))) (s_0_known : (List (ByteArray × Int))) (s_0_steps : (List T_api_Step)) (s_0_nodes : Int) (s_0_stop : Bool) : Option (Int × (List Int) × (List (ByteArray × Int)) × Int × Bool × (List (List Int)) × (List T_api_Step)) := limM (fun n (a : (List Int) × (List (List Int)) × (List (ByteArray × Int)) × (List T_api_Step) × Int × Bool) => proof_search_find_n n a.1 a.2.1 a.2.2.1 a.2.2.2.1 a.2.2.2.2.1 a.2.2.2.2.2) (s_0_values, s_0_clauses, s_0_known, s_0_steps, s_0_nodes, s_0_stop)
noncomputable def proof_search_find_C : Con := proof_search_find_C0.with (limM fun n (a : (List Int) × (List (List Int)) × (List (ByteArray × Int)) × (List T_api_Step) × Int × Bool) => proof_search_find_n n a.1 a.2.1 a.2.2.1 a.2.2.2.1 a.2.2.2.2.1 a.2.2.2.2.2)
def proof_search_find_H : Hints := ⟨[], [(10, ([], ⟨[(.int .i64), .bool], [(0, none), (2, none)], [.cells [none, none, none, none, some (.d 0 0), some (.d 1 0)], .keep, .keep, .keep, .keep], 0⟩)), (20, ([], ⟨[], [(0, none), (2, none), (3, none), (4, none)], [.keep, .keep, .keep, .keep, .keep], 0⟩)), (28, ([], ⟨[(.int .i64)], [(0, none), (2, none), (3, none), (4, some (false, [.d 0 0]))], [.keep, .keep, .keep, .keep, .keep], 0⟩))], [], [], []⟩
theorem proof_search_find_okr {proof_search_find_r : (List Int) → (List (List Int)) → (List (ByteArray × Int)) → (List T_api_Step) → Int → Bool → Option (Int × (List Int) × (List (ByteArray × Int)) × Int × Bool × (List (List Int)) × (List T_api_Step))} (h_proof_search_find_r : ConFn prog 74 (proof_search_find_C0.with fun (a : (List Int) × (List (List Int)) × (List (ByteArray × Int)) × (List T_api_Step) × Int × Bool) => proof_search_find_r a.1 a.2.1 a.2.2.1 a.2.2.2.1 a.2.2.2.2.1 a.2.2.2.2.2)) : ConFn prog 74 (proof_search_find_C0.with fun (a : (List Int) × (List (List Int)) × (List (ByteArray × Int)) × (List T_api_Step) × Int × Bool) => proof_search_find_b proof_search_find_r a.1 a.2.1 a.2.2.1 a.2.2.2.1 a.2.2.2.2.1 a.2.2.2.2.2) := conFn_of (H := proof_search_find_H) (fin := []) Tryz.func74 Tryz.call74 (tabL_ok (l := [(96, proof_search_look_C), (97, proof_search_branch_C), (98, (proof_search_under_C proof_search_find_r)), (85, slices_Contains_int_int_C), (99, proof_search_learn_C)]) ⟨proof_search_look_ok, proof_search_branch_ok, (proof_search_under_ok h_proof_search_find_r), slices_Contains_int_int_ok, proof_search_learn_ok, trivial⟩) rfl rfl rfl (fun a => by kernel_rfl)
theorem proof_search_find_ok : ConFn prog 74 proof_search_find_C := conFn_rec (P := prog) (f := 74) (C := proof_search_find_C0) (m := fun n (a : (List Int) × (List (List Int)) × (List (ByteArray × Int)) × (List T_api_Step) × Int × Bool) => proof_search_find_n n a.1 a.2.1 a.2.2.1 a.2.2.2.1 a.2.2.2.2.1 a.2.2.2.2.2) Tryz.call74 rfl (fun n h => proof_search_find_okr h)

noncomputable def proof_search_model_l1 (s_0_values : (List Int)) (s10 : Int × (List Bool)) : Option (Sum ((List Bool)) (Int × (List Bool))) :=
 bif decide (s10.1 < ((s_0_values.length : Int))) then
 Option.bind (idxM s_0_values s10.1) fun t11 =>
 Option.bind (appM 1 s10.2 [decide (t11 > 0)]) fun out12 =>
 some (Sum.inr ((iadd .i64 s10.1 1, out12)))
 else
 some (Sum.inl s10.2)
noncomputable def proof_search_model_m (s_0_values : (List Int)) (s_0_clauses : (List (List Int))) (s_0_known : (List (ByteArray × Int))) (s_0_steps : (List T_api_Step)) (s_0_nodes : Int) (s_0_stop : Bool) : Option ((List Bool)) :=
 Option.bind (loopC (proof_search_model_l1 s_0_values) ((0, []))) fun q13 : (List Bool) =>
 some q13
noncomputable def proof_search_model_C : Con := ⟨[(.sl (.int .i64)), (.sl (.sl (.int .i64))), (.mp .str (.int .i64)), (.sl (.st 3)), (.int .i64), .bool], [(.sl .bool)], fun (a : (List Int) × (List (List Int)) × (List (ByteArray × Int)) × (List T_api_Step) × Int × Bool) => proof_search_model_m a.1 a.2.1 a.2.2.1 a.2.2.2.1 a.2.2.2.2.1 a.2.2.2.2.2, [(false, [.ptr 0])], [.oc 0 [.own 1, .own 2, .mp 3, .own 4, .d 4 0, .d 5 0], .oa 1 (.d 0 0), .oa 2 (.d 1 0), .oa 3 (.d 2 0), .oa 4 (.d 3 0)], [(false, [.own 5])], [.same, .same, .same, .same, .same, .oa 5 (.d 0 0)], 5, 6⟩
def proof_search_model_H : Hints := ⟨[(0, ⟨[.own .bool (.slot 3 0)], ⟨[(.int .i64), (.sl .bool)], [(0, none), (2, none), (3, some (false, [.own 6])), (9, none), (10, none), (11, some (false, [.d 0 0]))], [.keep, .keep, .keep, .keep, .keep, .dead, .oaN 0 (.d 1 0)], 1⟩, [], some ([], ⟨[(.sl .bool)], [(0, none), (2, none), (3, some (false, [.own 6]))], [.keep, .keep, .keep, .keep, .keep, .dead, .oaN 0 (.d 0 0)], 1⟩), false, none⟩)], [], [], [], []⟩
theorem proof_search_model_ok [DrawMode] : ConFn prog 75 proof_search_model_C := conFn_of (H := proof_search_model_H) (fin := []) Tryz.func75 Tryz.call75 (tabL_ok (l := []) trivial) rfl rfl rfl (fun a => by kernel_rfl)

noncomputable def proof_Validate_s1_l1 (n_0 : Int) (l_1 : (List (List Int))) (s7 : Int) : Option (Sum (Sum (Int) (Unit)) (Int)) :=
 bif decide (s7 < ((l_1.length : Int))) then
 Option.bind (idxM l_1 s7) fun t8 =>
 Option.bind (proof_clause_m n_0 t8) fun e9 =>
 bif (e9 : Int) != 0 then
 some (Sum.inl (Sum.inl e9))
 else
 some (Sum.inr (iadd .i64 s7 1))
 else
 some (Sum.inl (Sum.inr (())))
noncomputable def proof_Validate_s1_m (n_0 : Int) (l_1 : (List (List Int))) : Option (Int) :=
 bif decide (n_0 < 0) then
 some 1
 else
 bif decide (n_0 > 200) then
 some 1
 else
 bif decide (((l_1.length : Int)) > 4000) then
 some 2
 else
 Option.bind (loopC (proof_Validate_s1_l1 n_0 l_1) 0) (sumK (fun a : Int => some a) fun q10 : Unit =>
 some 0)
noncomputable def proof_Validate_s1_C : Con := ⟨[(.int .i64), (.sl (.sl (.int .i64)))], [(.int .i64)], fun (a : Int × (List (List Int))) => proof_Validate_s1_m a.1 a.2, [(false, [.d 0 0]), (false, [.d 1 0])], [], [(false, [.d 0 0])], [], 0, 0⟩
def proof_Validate_s1_H : Hints := ⟨[(0, ⟨[], ⟨[(.int .i64)], [(0, none), (4, none), (17, none), (18, none), (19, some (false, [.d 0 0]))], [], 0⟩, [], some ([], ⟨[], [(4, none)], [], 0⟩), true, none⟩)], [], [], [], []⟩
theorem proof_Validate_s1_ok [DrawMode] : ConFn prog 72 proof_Validate_s1_C := conFn_of (H := proof_Validate_s1_H) (fin := []) Tryz.func72 Tryz.call72 (tabL_ok (l := [(95, proof_clause_C)]) ⟨proof_clause_ok, trivial⟩) rfl rfl rfl (fun a => by kernel_rfl)

noncomputable def proof_search_value_s1_m (s_0_values : (List Int)) (s_0_clauses : (List (List Int))) (s_0_known : (List (ByteArray × Int))) (s_0_nodes : Int) (s_0_stop : Bool) (x_1 : Int) : Option (Int) :=
 bif decide (x_1 > 0) then
 Option.bind (idxM s_0_values (isub .i64 x_1 1)) fun t2 =>
 some t2
 else
 Option.bind (idxM s_0_values (isub .i64 (ineg .i64 x_1) 1)) fun t3 =>
 some (ineg .i64 t3)
noncomputable def proof_search_value_s1_C : Con := ⟨[(.sl (.int .i64)), (.sl (.sl (.int .i64))), (.mp .str (.int .i64)), (.int .i64), .bool, (.int .i64)], [(.int .i64)], fun (a : (List Int) × (List (List Int)) × (List (ByteArray × Int)) × Int × Bool × Int) => proof_search_value_s1_m a.1 a.2.1 a.2.2.1 a.2.2.2.1 a.2.2.2.2.1 a.2.2.2.2.2, [(false, [.ptr 0]), (false, [.d 5 0])], [.oc 0 [.own 1, .own 2, .mp 3, .nl, .d 3 0, .d 4 0], .oa 1 (.d 0 0), .oa 2 (.d 1 0), .oa 3 (.d 2 0)], [(false, [.d 0 0])], [.same, .same, .same, .same], 4, 4⟩
def proof_search_value_s1_H : Hints := ⟨[], [], [], [], []⟩
theorem proof_search_value_s1_ok [DrawMode] : ConFn prog 115 proof_search_value_s1_C := conFn_of (H := proof_search_value_s1_H) (fin := []) Tryz.func115 Tryz.call115 (tabL_ok (l := []) trivial) rfl rfl rfl (fun a => by kernel_rfl)

noncomputable def proof_search_look_s1_l1 (s_0_values : (List Int)) (s_0_clauses : (List (List Int))) (s_0_known : (List (ByteArray × Int))) (s_0_nodes : Int) (s_0_stop : Bool) (t58 : (List Int)) (s82 : Int × Int) : Option (Sum (Sum (Sum (Int × Int) (Unit)) (Int)) (Int × Int)) :=
 bif decide (s82.2 < ((t58.length : Int))) then
 Option.bind (idxM t58 s82.2) fun t83 =>
 Option.bind (proof_search_value_s1_m s_0_values s_0_clauses s_0_known s_0_nodes s_0_stop t83) fun v84 =>
 joinM (fun j86 : Bool =>
 bif j86 then
 some (Sum.inl (Sum.inl (Sum.inr (()))))
 else
 bif (v84 : Int) == 0 then
 some (Sum.inr ((t83, iadd .i64 s82.2 1)))
 else
 some (Sum.inr ((s82.1, iadd .i64 s82.2 1)))) fun k85 =>
 bif decide (v84 > 0) then
 k85 (decide (v84 > 0))
 else
 bif (v84 : Int) == 0 then
 k85 ((s82.1 : Int) != 0)
 else
 k85 false
 else
 some (Sum.inl (Sum.inr s82.1))
noncomputable def proof_search_look_s1_l2 (s_0_values : (List Int)) (s_0_clauses : (List (List Int))) (s_0_known : (List (ByteArray × Int))) (s_0_nodes : Int) (s_0_stop : Bool) (s57 : Int × Int × Int) : Option (Sum (Sum (Int × Int) (Int × Int)) (Int × Int × Int)) :=
 bif decide (s57.2.2 < ((s_0_clauses.length : Int))) then
 Option.bind (idxM s_0_clauses s57.2.2) fun t58 =>
 Option.bind (loopC (proof_search_look_s1_l1 s_0_values s_0_clauses s_0_known s_0_nodes s_0_stop t58) ((0, 0))) (sumK (sumK (fun a : Int × Int => some (Sum.inl (Sum.inl a))) fun o87 : Unit =>
 some (Sum.inr ((s57.1, s57.2.1, iadd .i64 s57.2.2 1)))) fun q88 : Int =>
 bif (q88 : Int) == 0 then
 some (Sum.inl (Sum.inl ((s57.2.2, 0))))
 else
 bif decide (s57.1 < 0) then
 some (Sum.inr ((s57.2.2, q88, iadd .i64 s57.2.2 1)))
 else
 some (Sum.inr ((s57.1, s57.2.1, iadd .i64 s57.2.2 1))))
 else
 some (Sum.inl (Sum.inr ((s57.1, s57.2.1))))
noncomputable def proof_search_look_s1_m (s_0_values : (List Int)) (s_0_clauses : (List (List Int))) (s_0_known : (List (ByteArray × Int))) (s_0_nodes : Int) (s_0_stop : Bool) : Option (Int × Int) :=
 Option.bind (loopC (proof_search_look_s1_l2 s_0_values s_0_clauses s_0_known s_0_nodes s_0_stop) (((-1), 0, 0))) (sumK (fun a : Int × Int => some a) fun q89 : Int × Int =>
 some ((q89.1, q89.2)))
noncomputable def proof_search_look_s1_C : Con := ⟨[(.sl (.int .i64)), (.sl (.sl (.int .i64))), (.mp .str (.int .i64)), (.int .i64), .bool], [(.int .i64), (.int .i64)], fun (a : (List Int) × (List (List Int)) × (List (ByteArray × Int)) × Int × Bool) => proof_search_look_s1_m a.1 a.2.1 a.2.2.1 a.2.2.2.1 a.2.2.2.2, [(false, [.ptr 0])], [.oc 0 [.own 1, .own 2, .mp 3, .nl, .d 3 0, .d 4 0], .oa 1 (.d 0 0), .oa 2 (.d 1 0), .oa 3 (.d 2 0)], [(false, [.d 0 0]), (false, [.d 1 0])], [.same, .same, .same, .same], 4, 4⟩
def proof_search_look_s1_H : Hints := ⟨[(0, ⟨[], ⟨[(.int .i64), (.int .i64), (.int .i64)], [(0, none), (2, none), (3, none), (4, some (false, [.d 0 0])), (5, some (false, [.d 1 0])), (15, none), (16, none), (17, some (false, [.d 2 0]))], [.keep, .keep, .keep, .keep], 0⟩, [], some ([], ⟨[(.int .i64), (.int .i64)], [(0, none), (2, none), (3, none), (4, some (false, [.d 0 0])), (5, some (false, [.d 1 0]))], [.keep, .keep, .keep, .keep], 0⟩), true, none⟩), (2, ⟨[], ⟨[(.int .i64), (.int .i64)], [(0, none), (2, none), (3, none), (4, none), (5, none), (6, none), (8, some (false, [.d 0 0])), (15, none), (16, none), (17, none), (22, none), (23, none), (24, some (false, [.d 1 0]))], [.keep, .keep, .keep, .keep], 0⟩, [], some ([], ⟨[(.int .i64)], [(0, none), (2, none), (3, none), (4, none), (5, none), (6, none), (8, some (false, [.d 0 0])), (15, none), (16, none), (17, none)], [.keep, .keep, .keep, .keep], 0⟩), false, some (1, ([], ⟨[], [(0, none), (2, none), (3, none), (4, none), (5, none), (15, none), (16, none), (17, none)], [.keep, .keep, .keep, .keep], 0⟩))⟩)], [(26, ([], ⟨[.bool], [(0, none), (2, none), (3, none), (4, none), (5, none), (6, none), (8, none), (10, none), (11, none), (15, none), (16, none), (17, none), (22, none), (23, none), (24, none), (31, some (false, [.d 0 0]))], [.keep, .keep, .keep, .keep], 0⟩))], [], [], []⟩
theorem proof_search_look_s1_ok [DrawMode] : ConFn prog 96 proof_search_look_s1_C := conFn_of (H := proof_search_look_s1_H) (fin := []) Tryz.func96 Tryz.call96 (tabL_ok (l := [(115, proof_search_value_s1_C)]) ⟨proof_search_value_s1_ok, trivial⟩) rfl rfl rfl (fun a => by kernel_rfl)

noncomputable def proof_search_branch_s1_l1 (s_0_values : (List Int)) (s_0_clauses : (List (List Int))) (s_0_known : (List (ByteArray × Int))) (s_0_nodes : Int) (s_0_stop : Bool) (t24 : (List Int)) (s31 : Int × Int) : Option (Sum (Sum (Sum (Int) (Unit)) (Int)) (Int × Int)) :=
 bif decide (s31.2 < ((t24.length : Int))) then
 Option.bind (idxM t24 s31.2) fun t32 =>
 Option.bind (proof_search_value_s1_m s_0_values s_0_clauses s_0_known s_0_nodes s_0_stop t32) fun t33 =>
 bif (t33 : Int) == 1 then
 some (Sum.inl (Sum.inl (Sum.inr (()))))
 else
 bif (t33 : Int) == 0 then
 bif (s31.1 : Int) == 0 then
 some (Sum.inr ((t32, iadd .i64 s31.2 1)))
 else
 some (Sum.inr ((s31.1, iadd .i64 s31.2 1)))
 else
 some (Sum.inr ((s31.1, iadd .i64 s31.2 1)))
 else
 some (Sum.inl (Sum.inr s31.1))
noncomputable def proof_search_branch_s1_l2 (s_0_values : (List Int)) (s_0_clauses : (List (List Int))) (s_0_known : (List (ByteArray × Int))) (s_0_nodes : Int) (s_0_stop : Bool) (s23 : Int) : Option (Sum (Sum (Int) (Unit)) (Int)) :=
 bif decide (s23 < ((s_0_clauses.length : Int))) then
 Option.bind (idxM s_0_clauses s23) fun t24 =>
 Option.bind (loopC (proof_search_branch_s1_l1 s_0_values s_0_clauses s_0_known s_0_nodes s_0_stop t24) ((0, 0))) (sumK (sumK (fun a : Int => some (Sum.inl (Sum.inl a))) fun o34 : Unit =>
 some (Sum.inr (iadd .i64 s23 1))) fun q35 : Int =>
 some (Sum.inl (Sum.inl q35)))
 else
 some (Sum.inl (Sum.inr (())))
noncomputable def proof_search_branch_s1_m (s_0_values : (List Int)) (s_0_clauses : (List (List Int))) (s_0_known : (List (ByteArray × Int))) (s_0_nodes : Int) (s_0_stop : Bool) : Option (Int) :=
 Option.bind (loopC (proof_search_branch_s1_l2 s_0_values s_0_clauses s_0_known s_0_nodes s_0_stop) 0) (sumK (fun a : Int => some a) fun q36 : Unit =>
 some 0)
noncomputable def proof_search_branch_s1_C : Con := ⟨[(.sl (.int .i64)), (.sl (.sl (.int .i64))), (.mp .str (.int .i64)), (.int .i64), .bool], [(.int .i64)], fun (a : (List Int) × (List (List Int)) × (List (ByteArray × Int)) × Int × Bool) => proof_search_branch_s1_m a.1 a.2.1 a.2.2.1 a.2.2.2.1 a.2.2.2.2, [(false, [.ptr 0])], [.oc 0 [.own 1, .own 2, .mp 3, .nl, .d 3 0, .d 4 0], .oa 1 (.d 0 0), .oa 2 (.d 1 0), .oa 3 (.d 2 0)], [(false, [.d 0 0])], [.same, .same, .same, .same], 4, 4⟩
def proof_search_branch_s1_H : Hints := ⟨[(0, ⟨[], ⟨[(.int .i64)], [(0, none), (2, none), (11, none), (12, none), (13, some (false, [.d 0 0]))], [.keep, .keep, .keep, .keep], 0⟩, [], some ([], ⟨[], [(0, none), (2, none)], [.keep, .keep, .keep, .keep], 0⟩), true, none⟩), (2, ⟨[], ⟨[(.int .i64), (.int .i64)], [(0, none), (2, none), (5, some (false, [.d 0 0])), (11, none), (12, none), (13, none), (17, none), (18, none), (19, some (false, [.d 1 0]))], [.keep, .keep, .keep, .keep], 0⟩, [], some ([], ⟨[(.int .i64)], [(0, none), (2, none), (5, some (false, [.d 0 0]))], [.keep, .keep, .keep, .keep], 0⟩), false, some (1, ([], ⟨[], [(0, none), (2, none), (11, none), (12, none), (13, none)], [.keep, .keep, .keep, .keep], 0⟩))⟩)], [], [], [], []⟩
theorem proof_search_branch_s1_ok [DrawMode] : ConFn prog 97 proof_search_branch_s1_C := conFn_of (H := proof_search_branch_s1_H) (fin := []) Tryz.func97 Tryz.call97 (tabL_ok (l := [(115, proof_search_value_s1_C)]) ⟨proof_search_value_s1_ok, trivial⟩) rfl rfl rfl (fun a => by kernel_rfl)

noncomputable def proof_search_set_s1_m (s_0_values : (List Int)) (s_0_clauses : (List (List Int))) (s_0_known : (List (ByteArray × Int))) (s_0_nodes : Int) (s_0_stop : Bool) (x_1 : Int) (value_2 : Int) : Option ((List Int)) :=
 bif decide (x_1 < 0) then
 Option.bind (idxM s_0_values (isub .i64 (ineg .i64 x_1) 1)) fun t1 =>
 some (s_0_values.set (Int.toNat (isub .i64 (ineg .i64 x_1) 1)) (ineg .i64 value_2))
 else
 Option.bind (idxM s_0_values (isub .i64 x_1 1)) fun t2 =>
 some (s_0_values.set (Int.toNat (isub .i64 x_1 1)) value_2)
noncomputable def proof_search_set_s1_C : Con := ⟨[(.sl (.int .i64)), (.sl (.sl (.int .i64))), (.mp .str (.int .i64)), (.int .i64), .bool, (.int .i64), (.int .i64)], [(.sl (.int .i64))], fun (a : (List Int) × (List (List Int)) × (List (ByteArray × Int)) × Int × Bool × Int × Int) => proof_search_set_s1_m a.1 a.2.1 a.2.2.1 a.2.2.2.1 a.2.2.2.2.1 a.2.2.2.2.2.1 a.2.2.2.2.2.2, [(false, [.ptr 0]), (false, [.d 5 0]), (false, [.d 6 0])], [.oc 0 [.own 1, .own 2, .mp 3, .nl, .d 3 0, .d 4 0], .oa 1 (.d 0 0), .oa 2 (.d 1 0), .oa 3 (.d 2 0)], [], [.same, .oa 1 (.d 0 0), .same, .same], 4, 4⟩
def proof_search_set_s1_H : Hints := ⟨[], [], [], [], []⟩
theorem proof_search_set_s1_ok [DrawMode] : ConFn prog 116 proof_search_set_s1_C := conFn_of (H := proof_search_set_s1_H) (fin := []) Tryz.func116 Tryz.call116 (tabL_ok (l := []) trivial) rfl rfl rfl (fun a => by kernel_rfl)

def proof_search_find_s1_C0 : Con := ⟨[(.sl (.int .i64)), (.sl (.sl (.int .i64))), (.mp .str (.int .i64)), (.int .i64), .bool], [(.int .i64), (.sl (.int .i64)), (.mp .str (.int .i64)), (.int .i64), .bool, (.sl (.sl (.int .i64))), (.sl (.st 3))], fun _ => none, [(false, [.ptr 0])], [.oc 0 [.own 1, .own 2, .mp 3, .nl, .d 3 0, .d 4 0], .oa 1 (.d 0 0), .oa 2 (.d 1 0), .oa 3 (.d 2 0)], [(false, [.d 0 0])], [.oc 0 [.own 1, .own 4, .mp 3, .own 5, .d 3 0, .d 4 0], .oa 1 (.d 1 0), .dead, .oa 3 (.d 2 0), .oa 4 (.d 5 0), .oa 5 (.d 6 0)], 4, 6⟩
noncomputable def proof_search_under_s1_m (proof_search_find_s1_r : (List Int) → (List (List Int)) → (List (ByteArray × Int)) → Int → Bool → Option (Int × (List Int) × (List (ByteArray × Int)) × Int × Bool × (List (List Int)) × (List T_api_Step))) (s_0_values : (List Int)) (s_0_clauses : (List (List Int))) (s_0_known : (List (ByteArray × Int))) (s_0_nodes : Int) (s_0_stop : Bool) (x_1 : Int) : Option (Int × (List Int) × (List (ByteArray × Int)) × Int × Bool × (List (List Int)) × (List T_api_Step)) :=
 Option.bind (proof_search_set_s1_m s_0_values s_0_clauses s_0_known s_0_nodes s_0_stop x_1 1) fun t1 =>
 Option.bind (proof_search_find_s1_r t1 s_0_clauses s_0_known s_0_nodes s_0_stop) fun n2 =>
 bif decide (n2.1 ≥ 0) then
 Option.bind (proof_search_set_m n2.2.1 n2.2.2.2.2.2.1 n2.2.2.1 n2.2.2.2.2.2.2 n2.2.2.2.1 n2.2.2.2.2.1 x_1 0) fun t3 =>
 some ((n2.1, t3, n2.2.2.1, n2.2.2.2.1, n2.2.2.2.2.1, n2.2.2.2.2.2.1, n2.2.2.2.2.2.2))
 else
 bif n2.2.2.2.2.1 then
 Option.bind (proof_search_set_m n2.2.1 n2.2.2.2.2.2.1 n2.2.2.1 n2.2.2.2.2.2.2 n2.2.2.2.1 n2.2.2.2.2.1 x_1 0) fun t4 =>
 some ((n2.1, t4, n2.2.2.1, n2.2.2.2.1, n2.2.2.2.2.1, n2.2.2.2.2.2.1, n2.2.2.2.2.2.2))
 else
 some ((n2.1, n2.2.1, n2.2.2.1, n2.2.2.2.1, n2.2.2.2.2.1, n2.2.2.2.2.2.1, n2.2.2.2.2.2.2))
noncomputable def proof_search_under_s1_C (proof_search_find_s1_r : (List Int) → (List (List Int)) → (List (ByteArray × Int)) → Int → Bool → Option (Int × (List Int) × (List (ByteArray × Int)) × Int × Bool × (List (List Int)) × (List T_api_Step))) : Con := ⟨[(.sl (.int .i64)), (.sl (.sl (.int .i64))), (.mp .str (.int .i64)), (.int .i64), .bool, (.int .i64)], [(.int .i64), (.sl (.int .i64)), (.mp .str (.int .i64)), (.int .i64), .bool, (.sl (.sl (.int .i64))), (.sl (.st 3))], fun (a : (List Int) × (List (List Int)) × (List (ByteArray × Int)) × Int × Bool × Int) => proof_search_under_s1_m proof_search_find_s1_r a.1 a.2.1 a.2.2.1 a.2.2.2.1 a.2.2.2.2.1 a.2.2.2.2.2, [(false, [.ptr 0]), (false, [.d 5 0])], [.oc 0 [.own 1, .own 2, .mp 3, .nl, .d 3 0, .d 4 0], .oa 1 (.d 0 0), .oa 2 (.d 1 0), .oa 3 (.d 2 0)], [(false, [.d 0 0])], [.oc 0 [.own 1, .own 4, .mp 3, .own 5, .d 3 0, .d 4 0], .oa 1 (.d 1 0), .dead, .oa 3 (.d 2 0), .oa 4 (.d 5 0), .oa 5 (.d 6 0)], 4, 6⟩
def proof_search_under_s1_H : Hints := ⟨[], [], [], [], []⟩
theorem proof_search_under_s1_ok {proof_search_find_s1_r : (List Int) → (List (List Int)) → (List (ByteArray × Int)) → Int → Bool → Option (Int × (List Int) × (List (ByteArray × Int)) × Int × Bool × (List (List Int)) × (List T_api_Step))} (h_proof_search_find_s1_r : ConFn prog 74 (proof_search_find_s1_C0.with fun (a : (List Int) × (List (List Int)) × (List (ByteArray × Int)) × Int × Bool) => proof_search_find_s1_r a.1 a.2.1 a.2.2.1 a.2.2.2.1 a.2.2.2.2)) : ConFn prog 98 (proof_search_under_s1_C proof_search_find_s1_r) := conFn_of (H := proof_search_under_s1_H) (fin := []) Tryz.func98 Tryz.call98 (tabL_ok (l := [(116, proof_search_set_s1_C), (74, (proof_search_find_s1_C0.with fun (a : (List Int) × (List (List Int)) × (List (ByteArray × Int)) × Int × Bool) => proof_search_find_s1_r a.1 a.2.1 a.2.2.1 a.2.2.2.1 a.2.2.2.2)), (116, proof_search_set_C)]) ⟨proof_search_set_s1_ok, h_proof_search_find_s1_r, proof_search_set_ok, trivial⟩) rfl rfl rfl (fun a => by kernel_rfl)

noncomputable def proof_search_under_s2_m (s_0_values : (List Int)) (s_0_clauses : (List (List Int))) (s_0_known : (List (ByteArray × Int))) (s_0_steps : (List T_api_Step)) (s_0_nodes : Int) (s_0_stop : Bool) (x_1 : Int) : Option (Int × (List Int) × (List (ByteArray × Int)) × Int × Bool × (List (List Int)) × (List T_api_Step)) :=
 Option.bind (proof_search_set_m s_0_values s_0_clauses s_0_known s_0_steps s_0_nodes s_0_stop x_1 1) fun t1 =>
 Option.bind (proof_search_find_m t1 s_0_clauses s_0_known s_0_steps s_0_nodes s_0_stop) fun n2 =>
 bif decide (n2.1 ≥ 0) then
 Option.bind (proof_search_set_m n2.2.1 n2.2.2.2.2.2.1 n2.2.2.1 n2.2.2.2.2.2.2 n2.2.2.2.1 n2.2.2.2.2.1 x_1 0) fun t3 =>
 some ((n2.1, t3, n2.2.2.1, n2.2.2.2.1, n2.2.2.2.2.1, n2.2.2.2.2.2.1, n2.2.2.2.2.2.2))
 else
 bif n2.2.2.2.2.1 then
 Option.bind (proof_search_set_m n2.2.1 n2.2.2.2.2.2.1 n2.2.2.1 n2.2.2.2.2.2.2 n2.2.2.2.1 n2.2.2.2.2.1 x_1 0) fun t4 =>
 some ((n2.1, t4, n2.2.2.1, n2.2.2.2.1, n2.2.2.2.2.1, n2.2.2.2.2.2.1, n2.2.2.2.2.2.2))
 else
 some ((n2.1, n2.2.1, n2.2.2.1, n2.2.2.2.1, n2.2.2.2.2.1, n2.2.2.2.2.2.1, n2.2.2.2.2.2.2))
noncomputable def proof_search_under_s2_C : Con := ⟨[(.sl (.int .i64)), (.sl (.sl (.int .i64))), (.mp .str (.int .i64)), (.sl (.st 3)), (.int .i64), .bool, (.int .i64)], [(.int .i64), (.sl (.int .i64)), (.mp .str (.int .i64)), (.int .i64), .bool, (.sl (.sl (.int .i64))), (.sl (.st 3))], fun (a : (List Int) × (List (List Int)) × (List (ByteArray × Int)) × (List T_api_Step) × Int × Bool × Int) => proof_search_under_s2_m a.1 a.2.1 a.2.2.1 a.2.2.2.1 a.2.2.2.2.1 a.2.2.2.2.2.1 a.2.2.2.2.2.2, [(false, [.ptr 0]), (false, [.d 6 0])], [.oc 0 [.own 1, .own 2, .mp 3, .own 4, .d 4 0, .d 5 0], .oa 1 (.d 0 0), .oa 2 (.d 1 0), .oa 3 (.d 2 0), .oa 4 (.d 3 0)], [(false, [.d 0 0])], [.oc 0 [.own 1, .own 5, .mp 3, .own 6, .d 3 0, .d 4 0], .oa 1 (.d 1 0), .dead, .oa 3 (.d 2 0), .dead, .oa 5 (.d 5 0), .oa 6 (.d 6 0)], 5, 7⟩
def proof_search_under_s2_H : Hints := ⟨[], [], [], [], []⟩
theorem proof_search_under_s2_ok : ConFn prog 98 proof_search_under_s2_C := conFn_of (H := proof_search_under_s2_H) (fin := []) Tryz.func98 Tryz.call98 (tabL_ok (l := [(116, proof_search_set_C), (74, proof_search_find_C)]) ⟨proof_search_set_ok, proof_search_find_ok, trivial⟩) rfl rfl rfl (fun a => by kernel_rfl)

noncomputable def proof_search_find_s1_b (proof_search_find_s1_r : (List Int) → (List (List Int)) → (List (ByteArray × Int)) → Int → Bool → Option (Int × (List Int) × (List (ByteArray × Int)) × Int × Bool × (List (List Int)) × (List T_api_Step))) (s_0_values : (List Int)) (s_0_clauses : (List (List Int))) (s_0_known : (List (ByteArray × Int))) (s_0_nodes : Int) (s_0_stop : Bool) : Option (Int × (List Int) × (List (ByteArray × Int)) × Int × Bool × (List (List Int)) × (List T_api_Step)) :=
 joinM (fun j2 : Int × Bool =>
 bif j2.2 then
 some (((-1), s_0_values, s_0_known, j2.1, j2.2, s_0_clauses, []))
 else
 Option.bind (proof_search_look_s1_m s_0_values s_0_clauses s_0_known j2.1 j2.2) fun t3 =>
 joinM (fun j5 : Unit =>
 joinM (fun j8 : Int =>
 Option.bind (proof_search_under_s1_m proof_search_find_s1_r s_0_values s_0_clauses s_0_known j2.1 j2.2 j8) fun first9 =>
 bif decide (first9.1 < 0) then
 some ((first9.1, first9.2.1, first9.2.2.1, first9.2.2.2.1, first9.2.2.2.2.1, first9.2.2.2.2.2.1, first9.2.2.2.2.2.2))
 else
 bif first9.2.2.2.2.1 then
 some ((first9.1, first9.2.1, first9.2.2.1, first9.2.2.2.1, first9.2.2.2.2.1, first9.2.2.2.2.2.1, first9.2.2.2.2.2.2))
 else
 Option.bind (idxM first9.2.2.2.2.2.1 first9.1) fun t12 =>
 Option.bind (slices_Contains_int_int_m t12 (ineg .i64 j8)) fun t13 =>
 bif !t13 then
 some ((first9.1, first9.2.1, first9.2.2.1, first9.2.2.2.1, first9.2.2.2.2.1, first9.2.2.2.2.2.1, first9.2.2.2.2.2.2))
 else
 bif decide (t3.1 < 0) then
 Option.bind (proof_search_under_s2_m first9.2.1 first9.2.2.2.2.2.1 first9.2.2.1 first9.2.2.2.2.2.2 first9.2.2.2.1 first9.2.2.2.2.1 (ineg .i64 j8)) fun unit14 =>
 bif decide (unit14.1 < 0) then
 some ((unit14.1, unit14.2.1, unit14.2.2.1, unit14.2.2.2.1, unit14.2.2.2.2.1, unit14.2.2.2.2.2.1, unit14.2.2.2.2.2.2))
 else
 bif unit14.2.2.2.2.1 then
 some ((unit14.1, unit14.2.1, unit14.2.2.1, unit14.2.2.2.1, unit14.2.2.2.2.1, unit14.2.2.2.2.2.1, unit14.2.2.2.2.2.2))
 else
 Option.bind (idxM unit14.2.2.2.2.2.1 unit14.1) fun t15 =>
 Option.bind (slices_Contains_int_int_m t15 j8) fun t16 =>
 bif !t16 then
 some ((unit14.1, unit14.2.1, unit14.2.2.1, unit14.2.2.2.1, unit14.2.2.2.2.1, unit14.2.2.2.2.2.1, unit14.2.2.2.2.2.2))
 else
 Option.bind (proof_search_learn_m unit14.2.1 unit14.2.2.2.2.2.1 unit14.2.2.1 unit14.2.2.2.2.2.2 unit14.2.2.2.1 unit14.2.2.2.2.1 unit14.1 first9.1 j8) fun t17 =>
 some ((t17.1, unit14.2.1, t17.2.1, t17.2.2.1, t17.2.2.2.1, t17.2.2.2.2.1, t17.2.2.2.2.2))
 else
 Option.bind (proof_search_learn_m first9.2.1 first9.2.2.2.2.2.1 first9.2.2.1 first9.2.2.2.2.2.2 first9.2.2.2.1 first9.2.2.2.2.1 t3.1 first9.1 j8) fun t18 =>
 some ((t18.1, first9.2.1, t18.2.1, t18.2.2.1, t18.2.2.2.1, t18.2.2.2.2.1, t18.2.2.2.2.2))) fun k7 =>
 bif decide (t3.1 < 0) then
 Option.bind (proof_search_branch_s1_m s_0_values s_0_clauses s_0_known j2.1 j2.2) fun x19 =>
 bif (x19 : Int) == 0 then
 some (((-1), s_0_values, s_0_known, j2.1, j2.2, s_0_clauses, []))
 else
 k7 x19
 else
 k7 t3.2) fun k4 =>
 bif decide (t3.1 ≥ 0) then
 bif (t3.2 : Int) == 0 then
 some ((t3.1, s_0_values, s_0_known, j2.1, j2.2, s_0_clauses, []))
 else
 k4 (())
 else
 k4 (())) fun k1 =>
 bif decide ((iadd .i64 s_0_nodes 1) > 9000) then
 k1 ((iadd .i64 s_0_nodes 1, true))
 else
 k1 ((iadd .i64 s_0_nodes 1, s_0_stop))
noncomputable def proof_search_find_s1_n (n : Nat) : (List Int) → (List (List Int)) → (List (ByteArray × Int)) → Int → Bool → Option (Int × (List Int) × (List (ByteArray × Int)) × Int × Bool × (List (List Int)) × (List T_api_Step)) := Nat.rec (fun _ _ _ _ _ => none) (fun _ f => proof_search_find_s1_b f) n
noncomputable def proof_search_find_s1_m (s_0_values : (List Int)) (s_0_clauses : (List (List Int))) (s_0_known : (List (ByteArray × Int))) (s_0_nodes : Int) (s_0_stop : Bool) : Option (Int × (List Int) × (List (ByteArray × Int)) × Int × Bool × (List (List Int)) × (List T_api_Step)) := limM (fun n (a : (List Int) × (List (List Int)) × (List (ByteArray × Int)) × Int × Bool) => proof_search_find_s1_n n a.1 a.2.1 a.2.2.1 a.2.2.2.1 a.2.2.2.2) (s_0_values, s_0_clauses, s_0_known, s_0_nodes, s_0_stop)
noncomputable def proof_search_find_s1_C : Con := proof_search_find_s1_C0.with (limM fun n (a : (List Int) × (List (List Int)) × (List (ByteArray × Int)) × Int × Bool) => proof_search_find_s1_n n a.1 a.2.1 a.2.2.1 a.2.2.2.1 a.2.2.2.2)
def proof_search_find_s1_H : Hints := ⟨[], [(10, ([], ⟨[(.int .i64), .bool], [(0, none), (2, none)], [.cells [none, none, none, none, some (.d 0 0), some (.d 1 0)], .keep, .keep, .keep], 0⟩)), (20, ([], ⟨[], [(0, none), (2, none), (3, none), (4, none)], [.keep, .keep, .keep, .keep], 0⟩)), (28, ([], ⟨[(.int .i64)], [(0, none), (2, none), (3, none), (4, some (false, [.d 0 0]))], [.keep, .keep, .keep, .keep], 0⟩))], [], [], []⟩
theorem proof_search_find_s1_okr {proof_search_find_s1_r : (List Int) → (List (List Int)) → (List (ByteArray × Int)) → Int → Bool → Option (Int × (List Int) × (List (ByteArray × Int)) × Int × Bool × (List (List Int)) × (List T_api_Step))} (h_proof_search_find_s1_r : ConFn prog 74 (proof_search_find_s1_C0.with fun (a : (List Int) × (List (List Int)) × (List (ByteArray × Int)) × Int × Bool) => proof_search_find_s1_r a.1 a.2.1 a.2.2.1 a.2.2.2.1 a.2.2.2.2)) : ConFn prog 74 (proof_search_find_s1_C0.with fun (a : (List Int) × (List (List Int)) × (List (ByteArray × Int)) × Int × Bool) => proof_search_find_s1_b proof_search_find_s1_r a.1 a.2.1 a.2.2.1 a.2.2.2.1 a.2.2.2.2) := conFn_of (H := proof_search_find_s1_H) (fin := [.own (.st 3) (.cell 0 3)]) Tryz.func74 Tryz.call74 (tabL_ok (l := [(96, proof_search_look_s1_C), (97, proof_search_branch_s1_C), (98, (proof_search_under_s1_C proof_search_find_s1_r)), (85, slices_Contains_int_int_C), (98, proof_search_under_s2_C), (99, proof_search_learn_C)]) ⟨proof_search_look_s1_ok, proof_search_branch_s1_ok, (proof_search_under_s1_ok h_proof_search_find_s1_r), slices_Contains_int_int_ok, proof_search_under_s2_ok, proof_search_learn_ok, trivial⟩) rfl rfl rfl (fun a => by kernel_rfl)
theorem proof_search_find_s1_ok : ConFn prog 74 proof_search_find_s1_C := conFn_rec (P := prog) (f := 74) (C := proof_search_find_s1_C0) (m := fun n (a : (List Int) × (List (List Int)) × (List (ByteArray × Int)) × Int × Bool) => proof_search_find_s1_n n a.1 a.2.1 a.2.2.1 a.2.2.2.1 a.2.2.2.2) Tryz.call74 rfl (fun n h => proof_search_find_s1_okr h)

noncomputable def proof_Solve_s1_l1 (l_1 : (List (List Int))) (s13 : Int) : Option (Sum (Sum (T_api_Answer × Int) (Unit)) (Int)) :=
 bif decide (s13 < ((l_1.length : Int))) then
 Option.bind (idxM l_1 s13) fun t14 =>
 bif ((t14.length : Int) : Int) == 0 then
 some (Sum.inl (Sum.inl (((T_api_Answer.mk false [] []), 0))))
 else
 some (Sum.inr (iadd .i64 s13 1))
 else
 some (Sum.inl (Sum.inr (())))
noncomputable def proof_Solve_s1_m (n_0 : Int) (l_1 : (List (List Int))) : Option (T_api_Answer × Int) :=
 Option.bind (proof_Validate_s1_m n_0 l_1) fun e2 =>
 bif (e2 : Int) != 0 then
 some (((T_api_Answer.mk false [] []), e2))
 else
 Option.bind (loopC (proof_Solve_s1_l1 l_1) 0) (sumK (fun a : T_api_Answer × Int => some a) fun q15 : Unit =>
 joinM (fun j27 : (List Int) × (List (List Int)) × (List (ByteArray × Int)) =>
 Option.bind (proof_search_find_s1_m j27.1 j27.2.1 j27.2.2 0 false) fun found28 =>
 bif found28.2.2.2.2.1 then
 some (((T_api_Answer.mk false [] []), 2))
 else
 bif decide (found28.1 < 0) then
 Option.bind (proof_search_model_m found28.2.1 found28.2.2.2.2.2.1 found28.2.2.1 found28.2.2.2.2.2.2 found28.2.2.2.1 found28.2.2.2.2.1) fun t30 =>
 some (((T_api_Answer.mk true t30 []), 0))
 else
 some (((T_api_Answer.mk false [] found28.2.2.2.2.2.2), 0))) fun k26 =>
 meetO (
 Option.bind (mkM 8 0 n_0) fun t31 =>
 meetO (
 Option.bind (slices_Clone_int_int_m l_1) fun t32 =>
 k26 ((t31, t32, []))) (
 Option.bind (slices_Clone_int_int_m l_1) fun t33 =>
 k26 ((t31, t33, [])))) (
 meetO (
 Option.bind (slices_Clone_int_int_m l_1) fun t34 =>
 meetO (
 Option.bind (mkM 8 0 n_0) fun t35 =>
 k26 ((t35, t34, []))) (
 Option.bind (mkM 8 0 n_0) fun t36 =>
 k26 ((t36, t34, [])))) (
 meetO (
 Option.bind (mkM 8 0 n_0) fun t37 =>
 Option.bind (slices_Clone_int_int_m l_1) fun t38 =>
 k26 ((t37, t38, []))) (
 Option.bind (slices_Clone_int_int_m l_1) fun t39 =>
 Option.bind (mkM 8 0 n_0) fun t40 =>
 k26 ((t40, t39, []))))))
noncomputable def proof_Solve_s1_C : Con := ⟨[(.int .i64), (.sl (.sl (.int .i64)))], [(.st 4), (.int .i64)], fun (a : Int × (List (List Int))) => proof_Solve_s1_m a.1 a.2, [(false, [.d 0 0]), (false, [.d 1 0])], [], [(true, [.d 0 0, .d 0 1, .d 0 2]), (false, [.d 1 0])], [], 0, 0⟩
def proof_Solve_s1_H : Hints := ⟨[(0, ⟨[], ⟨[(.int .i64)], [(0, none), (1, none), (4, none), (5, none), (18, none), (19, none), (20, some (false, [.d 0 0]))], [.keep], 0⟩, [], some ([], ⟨[], [(0, none), (1, none), (4, none), (5, none)], [.keep], 0⟩), true, none⟩)], [(24, ([], ⟨[(.sl (.int .i64)), (.sl (.sl (.int .i64))), (.mp .str (.int .i64))], [(4, none), (5, none), (9, some (false, [.ptr 1]))], [.keep, .ocN 0 [.own 2, .own 3, .mp 4, .nl, .fx (.ci .i64 0), .fx (.cb false)], .oaN 1 (.d 0 0), .oaN 2 (.d 1 0), .oaN 3 (.d 2 0)], 4⟩))], [], [], []⟩
theorem proof_Solve_s1_ok : ConFn prog 46 proof_Solve_s1_C := conFn_of (H := proof_Solve_s1_H) (fin := [.sl .bool (.cell 0 1), .sl (.st 3) (.cell 0 2)]) Tryz.func46 Tryz.call46 (tabL_ok (l := [(72, proof_Validate_s1_C), (73, slices_Clone_int_int_C), (74, proof_search_find_s1_C), (75, proof_search_model_C)]) ⟨proof_Validate_s1_ok, slices_Clone_int_int_ok, proof_search_find_s1_ok, proof_search_model_ok, trivial⟩) rfl rfl rfl (fun a => by kernel_rfl)

noncomputable def verdict_labels_l1 (n_0 : Int) (model_1 : (List Bool)) (s19 : Int × (List Int)) : Option (Sum ((List Int)) (Int × (List Int))) :=
 bif decide (s19.1 < n_0) then
 Option.bind (idxM model_1 s19.1) fun t20 =>
 bif t20 then
 Option.bind (appM 8 s19.2 [1]) fun out21 =>
 some (Sum.inr ((iadd .i64 s19.1 1, out21)))
 else
 Option.bind (idxM model_1 (iadd .i64 n_0 s19.1)) fun t22 =>
 bif t22 then
 Option.bind (appM 8 s19.2 [2]) fun out23 =>
 some (Sum.inr ((iadd .i64 s19.1 1, out23)))
 else
 Option.bind (appM 8 s19.2 [3]) fun out24 =>
 some (Sum.inr ((iadd .i64 s19.1 1, out24)))
 else
 some (Sum.inl s19.2)
noncomputable def verdict_labels_m (n_0 : Int) (model_1 : (List Bool)) : Option ((List Int)) :=
 Option.bind (loopC (verdict_labels_l1 n_0 model_1) ((0, []))) fun q25 : (List Int) =>
 some q25
noncomputable def verdict_labels_C : Con := ⟨[(.int .i64), (.sl .bool)], [(.sl (.int .i64))], fun (a : Int × (List Bool)) => verdict_labels_m a.1 a.2, [(false, [.d 0 0]), (false, [.d 1 0])], [], [(false, [.own 0])], [.oa 0 (.d 0 0)], 0, 1⟩
def verdict_labels_H : Hints := ⟨[(0, ⟨[.own (.int .i64) (.slot 5 0)], ⟨[(.int .i64), (.sl (.int .i64))], [(0, none), (1, none), (4, none), (5, some (false, [.own 1])), (7, none), (8, some (false, [.d 0 0]))], [.dead, .oaN 0 (.d 1 0)], 1⟩, [], some ([], ⟨[(.sl (.int .i64))], [(4, none), (5, some (false, [.own 1]))], [.dead, .oaN 0 (.d 0 0)], 1⟩), false, none⟩)], [], [], [], []⟩
theorem verdict_labels_ok [DrawMode] : ConFn prog 47 verdict_labels_C := conFn_of (H := verdict_labels_H) (fin := []) Tryz.func47 Tryz.call47 (tabL_ok (l := []) trivial) rfl rfl rfl (fun a => by kernel_rfl)

noncomputable def verdict_Decide_m (g_0 : T_api_Graph) (question_1 : Int) (n_2 : Int) : Option (T_api_Verdict × Int) :=
 Option.bind (verdict_asked_m g_0 n_2) fun e2 =>
 bif (e2 : Int) != 0 then
 some (((T_api_Verdict.mk false [] [] []), e2))
 else
 bif (question_1 : Int) == 4 then
 Option.bind (grounded_Label_m g_0) fun l6 =>
 Option.bind (idxM l6 n_2) fun t7 =>
 Option.bind (grounded_Ranks_m g_0) fun t8 =>
 some (((T_api_Verdict.mk ((t7 : Int) == 1) l6 t8 []), 0))
 else
 Option.bind (verdict_Encode_m g_0 question_1 n_2) fun t9 =>
 bif (t9.2.1 : Int) != 0 then
 some (((T_api_Verdict.mk false [] [] []), t9.2.1))
 else
 Option.bind (proof_Solve_s1_m t9.1 t9.2.2) fun t10 =>
 bif (t10.2 : Int) != 0 then
 some (((T_api_Verdict.mk false [] [] []), 2))
 else
 bif t10.1.Sat then
 Option.bind (verdict_labels_m g_0.N t10.1.Model) fun t12 =>
 some (((T_api_Verdict.mk ((question_1 : Int) != 3) t12 [] []), 0))
 else
 some (((T_api_Verdict.mk ((question_1 : Int) == 3) [] [] t10.1.Steps), 0))
noncomputable def verdict_Decide_C : Con := ⟨[(.st 1), (.int .i64), (.int .i64)], [(.st 5), (.int .i64)], fun (a : T_api_Graph × Int × Int) => verdict_Decide_m a.1 a.2.1 a.2.2, [(true, [.d 0 0, .d 0 1]), (false, [.d 1 0]), (false, [.d 2 0])], [], [(true, [.d 0 0, .d 0 1, .d 0 2, .d 0 3]), (false, [.d 1 0])], [], 0, 0⟩
def verdict_Decide_H : Hints := ⟨[], [], [], [], []⟩
theorem verdict_Decide_ok : ConFn prog 20 verdict_Decide_C := conFn_of (H := verdict_Decide_H) (fin := [.sl (.int .i64) (.cell 1 1), .sl (.int .i64) (.cell 1 2)]) Tryz.func20 Tryz.call20 (tabL_ok (l := [(34, verdict_asked_C), (44, grounded_Label_C), (45, grounded_Ranks_C), (12, verdict_Encode_C), (46, proof_Solve_s1_C), (47, verdict_labels_C)]) ⟨verdict_asked_ok, grounded_Label_ok, grounded_Ranks_ok, verdict_Encode_ok, proof_Solve_s1_ok, verdict_labels_ok, trivial⟩) rfl rfl rfl (fun a => by kernel_rfl)

noncomputable def labelling_Valid_1_m (x_0 : Int) : Option (Bool) :=
 bif (x_0 : Int) != 1 then
 bif (x_0 : Int) != 2 then
 some ((x_0 : Int) != 3)
 else
 some false
 else
 some false
noncomputable def labelling_Valid_1_C : Con := ⟨[(.int .i64)], [.bool], fun (a : Int) => labelling_Valid_1_m a, [(false, [.d 0 0])], [], [(false, [.d 0 0])], [], 0, 0⟩
def labelling_Valid_1_H : Hints := ⟨[], [], [], [], []⟩
theorem labelling_Valid_1_ok [DrawMode] : ConFn prog 88 labelling_Valid_1_C := conFn_of (H := labelling_Valid_1_H) (fin := []) Tryz.func88 Tryz.call88 (tabL_ok (l := []) trivial) rfl rfl rfl (fun a => by kernel_rfl)

noncomputable def slices_IndexFunc_int_int_l1 (s_0 : (List Int)) (s7 : Int) : Option (Sum (Sum (Int) (Unit)) (Int)) :=
 bif decide (s7 < ((s_0.length : Int))) then
 Option.bind (idxM s_0 s7) fun t8 =>
 Option.bind (labelling_Valid_1_m t8) fun t9 =>
 bif t9 then
 some (Sum.inl (Sum.inl s7))
 else
 some (Sum.inr (iadd .i64 s7 1))
 else
 some (Sum.inl (Sum.inr (())))
noncomputable def slices_IndexFunc_int_int_m (s_0 : (List Int)) : Option (Int) :=
 Option.bind (loopC (slices_IndexFunc_int_int_l1 s_0) 0) (sumK (fun a : Int => some a) fun q10 : Unit =>
 some ((-1)))
noncomputable def slices_IndexFunc_int_int_C : Con := ⟨[(.sl (.int .i64))], [(.int .i64)], fun (a : (List Int)) => slices_IndexFunc_int_int_m a, [(false, [.d 0 0]), (false, [.fn 88 []])], [], [(false, [.d 0 0])], [], 0, 0⟩
def slices_IndexFunc_int_int_H : Hints := ⟨[(0, ⟨[], ⟨[(.int .i64)], [(0, none), (1, none), (4, none), (7, none), (8, some (false, [.d 0 0]))], [], 0⟩, [], some ([], ⟨[], [(1, none), (4, none)], [], 0⟩), true, none⟩)], [], [], [], []⟩
theorem slices_IndexFunc_int_int_ok [DrawMode] : ConFn prog 105 slices_IndexFunc_int_int_C := conFn_of (H := slices_IndexFunc_int_int_H) (fin := []) Tryz.func105 Tryz.call105 (tabL_ok (l := [(88, labelling_Valid_1_C)]) ⟨labelling_Valid_1_ok, trivial⟩) rfl rfl rfl (fun a => by kernel_rfl)

noncomputable def slices_ContainsFunc_int_int_m (s_0 : (List Int)) : Option (Bool) :=
 Option.bind (slices_IndexFunc_int_int_m s_0) fun t1 =>
 some (decide (t1 ≥ 0))
noncomputable def slices_ContainsFunc_int_int_C : Con := ⟨[(.sl (.int .i64))], [.bool], fun (a : (List Int)) => slices_ContainsFunc_int_int_m a, [(false, [.d 0 0]), (false, [.fn 88 []])], [], [(false, [.d 0 0])], [], 0, 0⟩
def slices_ContainsFunc_int_int_H : Hints := ⟨[], [], [], [], []⟩
theorem slices_ContainsFunc_int_int_ok [DrawMode] : ConFn prog 83 slices_ContainsFunc_int_int_C := conFn_of (H := slices_ContainsFunc_int_int_H) (fin := []) Tryz.func83 Tryz.call83 (tabL_ok (l := [(105, slices_IndexFunc_int_int_C)]) ⟨slices_IndexFunc_int_int_ok, trivial⟩) rfl rfl rfl (fun a => by kernel_rfl)

noncomputable def labelling_Valid_m (g_0 : T_api_Graph) (l_1 : (List Int)) : Option (Bool) :=
 bif ((l_1.length : Int) : Int) == g_0.N then
 Option.bind (slices_ContainsFunc_int_int_m l_1) fun t1 =>
 some (!t1)
 else
 some false
noncomputable def labelling_Valid_C : Con := ⟨[(.st 1), (.sl (.int .i64))], [.bool], fun (a : T_api_Graph × (List Int)) => labelling_Valid_m a.1 a.2, [(true, [.d 0 0, .d 0 1]), (false, [.d 1 0])], [], [(false, [.d 0 0])], [], 0, 0⟩
def labelling_Valid_H : Hints := ⟨[], [], [], [], []⟩
theorem labelling_Valid_ok [DrawMode] : ConFn prog 63 labelling_Valid_C := conFn_of (H := labelling_Valid_H) (fin := []) Tryz.func63 Tryz.call63 (tabL_ok (l := [(83, slices_ContainsFunc_int_int_C)]) ⟨slices_ContainsFunc_int_int_ok, trivial⟩) rfl rfl rfl (fun a => by kernel_rfl)

noncomputable def labelling_legal_l1 (l_1 : (List Int)) (attackers1 : ((List Int))) (s16 : Int × Int × Int × Int × Int) : Option (Sum (Int × Int × Int × Int) (Int × Int × Int × Int × Int)) :=
 bif decide (s16.1 < ((attackers1.length : Int))) then
 Option.bind (idxM attackers1 s16.1) fun t17 =>
 Option.bind (idxM l_1 t17) fun t18 =>
 bif (t18 : Int) == 0 then
 bif (t18 : Int) == 0 then
 some (Sum.inr ((iadd .i64 s16.1 1, iadd .i64 s16.2.1 1, s16.2.2.1, s16.2.2.2.1, s16.2.2.2.2)))
 else
 bif (t18 : Int) == 1 then
 some (Sum.inr ((iadd .i64 s16.1 1, s16.2.1, iadd .i64 s16.2.1 1, s16.2.2.2.1, s16.2.2.2.2)))
 else
 bif (t18 : Int) == 2 then
 some (Sum.inr ((iadd .i64 s16.1 1, s16.2.1, s16.2.2.1, iadd .i64 s16.2.1 1, s16.2.2.2.2)))
 else
 bif (t18 : Int) == 3 then
 some (Sum.inr ((iadd .i64 s16.1 1, s16.2.1, s16.2.2.1, s16.2.2.2.1, iadd .i64 s16.2.1 1)))
 else
 none
 else
 bif (t18 : Int) == 1 then
 bif (t18 : Int) == 0 then
 some (Sum.inr ((iadd .i64 s16.1 1, iadd .i64 s16.2.2.1 1, s16.2.2.1, s16.2.2.2.1, s16.2.2.2.2)))
 else
 bif (t18 : Int) == 1 then
 some (Sum.inr ((iadd .i64 s16.1 1, s16.2.1, iadd .i64 s16.2.2.1 1, s16.2.2.2.1, s16.2.2.2.2)))
 else
 bif (t18 : Int) == 2 then
 some (Sum.inr ((iadd .i64 s16.1 1, s16.2.1, s16.2.2.1, iadd .i64 s16.2.2.1 1, s16.2.2.2.2)))
 else
 bif (t18 : Int) == 3 then
 some (Sum.inr ((iadd .i64 s16.1 1, s16.2.1, s16.2.2.1, s16.2.2.2.1, iadd .i64 s16.2.2.1 1)))
 else
 none
 else
 bif (t18 : Int) == 2 then
 bif (t18 : Int) == 0 then
 some (Sum.inr ((iadd .i64 s16.1 1, iadd .i64 s16.2.2.2.1 1, s16.2.2.1, s16.2.2.2.1, s16.2.2.2.2)))
 else
 bif (t18 : Int) == 1 then
 some (Sum.inr ((iadd .i64 s16.1 1, s16.2.1, iadd .i64 s16.2.2.2.1 1, s16.2.2.2.1, s16.2.2.2.2)))
 else
 bif (t18 : Int) == 2 then
 some (Sum.inr ((iadd .i64 s16.1 1, s16.2.1, s16.2.2.1, iadd .i64 s16.2.2.2.1 1, s16.2.2.2.2)))
 else
 bif (t18 : Int) == 3 then
 some (Sum.inr ((iadd .i64 s16.1 1, s16.2.1, s16.2.2.1, s16.2.2.2.1, iadd .i64 s16.2.2.2.1 1)))
 else
 none
 else
 bif (t18 : Int) == 3 then
 bif (t18 : Int) == 0 then
 some (Sum.inr ((iadd .i64 s16.1 1, iadd .i64 s16.2.2.2.2 1, s16.2.2.1, s16.2.2.2.1, s16.2.2.2.2)))
 else
 bif (t18 : Int) == 1 then
 some (Sum.inr ((iadd .i64 s16.1 1, s16.2.1, iadd .i64 s16.2.2.2.2 1, s16.2.2.2.1, s16.2.2.2.2)))
 else
 bif (t18 : Int) == 2 then
 some (Sum.inr ((iadd .i64 s16.1 1, s16.2.1, s16.2.2.1, iadd .i64 s16.2.2.2.2 1, s16.2.2.2.2)))
 else
 bif (t18 : Int) == 3 then
 some (Sum.inr ((iadd .i64 s16.1 1, s16.2.1, s16.2.2.1, s16.2.2.2.1, iadd .i64 s16.2.2.2.2 1)))
 else
 none
 else
 none
 else
 some (Sum.inl ((s16.2.1, s16.2.2.1, s16.2.2.2.1, s16.2.2.2.2)))
noncomputable def labelling_legal_m (g_0 : T_api_Graph) (l_1 : (List Int)) (i_2 : Int) : Option (Bool) :=
 Option.bind (graph_Attackers_m g_0 i_2) fun attackers1 =>
 Option.bind (loopC (labelling_legal_l1 l_1 attackers1) ((0, 0, 0, 0, 0))) fun q19 : Int × Int × Int × Int =>
 Option.bind (idxM l_1 i_2) fun t21 =>
 bif (t21 : Int) == 1 then
 some ((q19.2.2.1 : Int) == ((attackers1.length : Int)))
 else
 bif (t21 : Int) == 2 then
 some (decide (q19.2.1 > 0))
 else
 bif decide (q19.2.2.1 < ((attackers1.length : Int))) then
 some ((q19.2.1 : Int) == 0)
 else
 some false
noncomputable def labelling_legal_C : Con := ⟨[(.st 1), (.sl (.int .i64)), (.int .i64)], [.bool], fun (a : T_api_Graph × (List Int) × Int) => labelling_legal_m a.1 a.2.1 a.2.2, [(true, [.d 0 0, .d 0 1]), (false, [.d 1 0]), (false, [.d 2 0])], [], [(false, [.d 0 0])], [], 0, 0⟩
def labelling_legal_H : Hints := ⟨[(0, ⟨[], ⟨[(.int .i64), (.int .i64), (.int .i64), (.int .i64), (.int .i64)], [(1, none), (2, none), (6, none), (7, none), (8, none), (14, none), (15, none), (16, some (false, [.d 0 0]))], [.dead, .keep, .cells [some (.d 1 0), some (.d 2 0), some (.d 3 0), some (.d 4 0)]], 0⟩, [], some ([], ⟨[(.int .i64), (.int .i64), (.int .i64), (.int .i64)], [(1, none), (2, none), (6, none), (7, none), (8, none)], [.dead, .keep, .cells [some (.d 0 0), some (.d 1 0), some (.d 2 0), some (.d 3 0)]], 0⟩), false, none⟩)], [], [], [], []⟩
theorem labelling_legal_ok : ConFn prog 89 labelling_legal_C := conFn_of (H := labelling_legal_H) (fin := []) Tryz.func89 Tryz.call89 (tabL_ok (l := [(66, graph_Attackers_C)]) ⟨graph_Attackers_ok, trivial⟩) rfl rfl rfl (fun a => by kernel_rfl)

noncomputable def labelling_Illegal_l1 (g_0 : T_api_Graph) (l_1 : (List Int)) (s12 : Int × (List Int)) : Option (Sum ((List Int)) (Int × (List Int))) :=
 bif decide (s12.1 < ((l_1.length : Int))) then
 Option.bind (labelling_legal_m g_0 l_1 s12.1) fun t13 =>
 bif !t13 then
 Option.bind (appM 8 s12.2 [s12.1]) fun out14 =>
 some (Sum.inr ((iadd .i64 s12.1 1, out14)))
 else
 some (Sum.inr ((iadd .i64 s12.1 1, s12.2)))
 else
 some (Sum.inl s12.2)
noncomputable def labelling_Illegal_m (g_0 : T_api_Graph) (l_1 : (List Int)) : Option ((List Int)) :=
 Option.bind (labelling_Valid_m g_0 l_1) fun t2 =>
 bif !t2 then
 some []
 else
 Option.bind (loopC (labelling_Illegal_l1 g_0 l_1) ((0, []))) fun q15 : (List Int) =>
 some q15
noncomputable def labelling_Illegal_C : Con := ⟨[(.st 1), (.sl (.int .i64))], [(.sl (.int .i64))], fun (a : T_api_Graph × (List Int)) => labelling_Illegal_m a.1 a.2, [(true, [.d 0 0, .d 0 1]), (false, [.d 1 0])], [], [(false, [.own 0])], [.oa 0 (.d 0 0)], 0, 1⟩
def labelling_Illegal_H : Hints := ⟨[(0, ⟨[.own (.int .i64) (.slot 5 0)], ⟨[(.int .i64), (.sl (.int .i64))], [(1, none), (2, none), (4, none), (5, some (false, [.own 2])), (12, none), (13, some (false, [.d 0 0]))], [.keep, .dead, .oaN 0 (.d 1 0)], 1⟩, [], some ([], ⟨[(.sl (.int .i64))], [(4, none), (5, some (false, [.own 2]))], [.dead, .dead, .oaN 0 (.d 0 0)], 1⟩), false, none⟩)], [], [], [], []⟩
theorem labelling_Illegal_ok : ConFn prog 64 labelling_Illegal_C := conFn_of (H := labelling_Illegal_H) (fin := [.own (.int .i64) (.slot 4 0)]) Tryz.func64 Tryz.call64 (tabL_ok (l := [(63, labelling_Valid_C), (89, labelling_legal_C)]) ⟨labelling_Valid_ok, labelling_legal_ok, trivial⟩) rfl rfl rfl (fun a => by kernel_rfl)

noncomputable def labelling_IsComplete_m (g_0 : T_api_Graph) (l_1 : (List Int)) : Option (Bool) :=
 Option.bind (labelling_Valid_m g_0 l_1) fun t1 =>
 bif t1 then
 Option.bind (labelling_Illegal_m g_0 l_1) fun t2 =>
 some (((t2.length : Int) : Int) == 0)
 else
 some false
noncomputable def labelling_IsComplete_C : Con := ⟨[(.st 1), (.sl (.int .i64))], [.bool], fun (a : T_api_Graph × (List Int)) => labelling_IsComplete_m a.1 a.2, [(true, [.d 0 0, .d 0 1]), (false, [.d 1 0])], [], [(false, [.d 0 0])], [], 0, 0⟩
def labelling_IsComplete_H : Hints := ⟨[], [], [], [], []⟩
theorem labelling_IsComplete_ok : ConFn prog 31 labelling_IsComplete_C := conFn_of (H := labelling_IsComplete_H) (fin := []) Tryz.func31 Tryz.call31 (tabL_ok (l := [(63, labelling_Valid_C), (64, labelling_Illegal_C)]) ⟨labelling_Valid_ok, labelling_Illegal_ok, trivial⟩) rfl rfl rfl (fun a => by kernel_rfl)

noncomputable def grounded_proved_1_m (k_0 : Int) (p_1_0 : (List Int)) (p_2_0 : Int) : Option (Bool) :=
 Option.bind (idxM p_1_0 k_0) fun t1 =>
 Option.bind (idxM p_1_0 p_2_0) fun t2 =>
 some (decide (t1 ≥ t2))
noncomputable def grounded_proved_1_C : Con := ⟨[(.int .i64), (.sl (.int .i64)), (.int .i64)], [.bool], fun (a : Int × (List Int) × Int) => grounded_proved_1_m a.1 a.2.1 a.2.2, [(false, [.d 0 0]), (false, [.ptr 0]), (false, [.ptr 1])], [.oc 0 [.d 1 0], .oc 1 [.d 2 0]], [(false, [.d 0 0])], [.same, .same], 2, 2⟩
def grounded_proved_1_H : Hints := ⟨[], [], [], [], []⟩
theorem grounded_proved_1_ok [DrawMode] : ConFn prog 119 grounded_proved_1_C := conFn_of (H := grounded_proved_1_H) (fin := []) Tryz.func119 Tryz.call119 (tabL_ok (l := []) trivial) rfl rfl rfl (fun a => by kernel_rfl)

noncomputable def slices_IndexFunc_int_int_s1_l1 (s_0 : (List Int)) (f_1_0_0 : (List Int)) (f_1_1_0 : Int) (s7 : Int) : Option (Sum (Sum (Int) (Unit)) (Int)) :=
 bif decide (s7 < ((s_0.length : Int))) then
 Option.bind (idxM s_0 s7) fun t8 =>
 Option.bind (grounded_proved_1_m t8 f_1_0_0 f_1_1_0) fun t9 =>
 bif t9 then
 some (Sum.inl (Sum.inl s7))
 else
 some (Sum.inr (iadd .i64 s7 1))
 else
 some (Sum.inl (Sum.inr (())))
noncomputable def slices_IndexFunc_int_int_s1_m (s_0 : (List Int)) (f_1_0_0 : (List Int)) (f_1_1_0 : Int) : Option (Int) :=
 Option.bind (loopC (slices_IndexFunc_int_int_s1_l1 s_0 f_1_0_0 f_1_1_0) 0) (sumK (fun a : Int => some a) fun q10 : Unit =>
 some ((-1)))
noncomputable def slices_IndexFunc_int_int_s1_C : Con := ⟨[(.sl (.int .i64)), (.sl (.int .i64)), (.int .i64)], [(.int .i64)], fun (a : (List Int) × (List Int) × Int) => slices_IndexFunc_int_int_s1_m a.1 a.2.1 a.2.2, [(false, [.own 0]), (false, [.fn 119 [some 1, some 2]])], [.oa 0 (.d 0 0), .oc 1 [.d 1 0], .oc 2 [.d 2 0]], [(false, [.d 0 0])], [.same, .same, .same], 3, 3⟩
def slices_IndexFunc_int_int_s1_H : Hints := ⟨[(0, ⟨[], ⟨[(.int .i64)], [(0, none), (1, none), (4, none), (7, none), (8, some (false, [.d 0 0]))], [.keep, .keep, .keep], 0⟩, [], some ([], ⟨[], [(0, none), (1, none), (4, none)], [.keep, .keep, .keep], 0⟩), true, none⟩)], [], [], [], []⟩
theorem slices_IndexFunc_int_int_s1_ok [DrawMode] : ConFn prog 105 slices_IndexFunc_int_int_s1_C := conFn_of (H := slices_IndexFunc_int_int_s1_H) (fin := []) Tryz.func105 Tryz.call105 (tabL_ok (l := [(119, grounded_proved_1_C)]) ⟨grounded_proved_1_ok, trivial⟩) rfl rfl rfl (fun a => by kernel_rfl)

noncomputable def slices_ContainsFunc_int_int_s1_m (s_0 : (List Int)) (f_1_0_0 : (List Int)) (f_1_1_0 : Int) : Option (Bool) :=
 Option.bind (slices_IndexFunc_int_int_s1_m s_0 f_1_0_0 f_1_1_0) fun t1 =>
 some (decide (t1 ≥ 0))
noncomputable def slices_ContainsFunc_int_int_s1_C : Con := ⟨[(.sl (.int .i64)), (.sl (.int .i64)), (.int .i64)], [.bool], fun (a : (List Int) × (List Int) × Int) => slices_ContainsFunc_int_int_s1_m a.1 a.2.1 a.2.2, [(false, [.own 0]), (false, [.fn 119 [some 1, some 2]])], [.oa 0 (.d 0 0), .oc 1 [.d 1 0], .oc 2 [.d 2 0]], [(false, [.d 0 0])], [.same, .same, .same], 3, 3⟩
def slices_ContainsFunc_int_int_s1_H : Hints := ⟨[], [], [], [], []⟩
theorem slices_ContainsFunc_int_int_s1_ok [DrawMode] : ConFn prog 83 slices_ContainsFunc_int_int_s1_C := conFn_of (H := slices_ContainsFunc_int_int_s1_H) (fin := []) Tryz.func83 Tryz.call83 (tabL_ok (l := [(105, slices_IndexFunc_int_int_s1_C)]) ⟨slices_IndexFunc_int_int_s1_ok, trivial⟩) rfl rfl rfl (fun a => by kernel_rfl)

noncomputable def grounded_proved_2_m (k_0 : Int) (p_1_0 : (List Int)) (p_2_0 : (List Int)) (p_3_0 : Int) : Option (Bool) :=
 Option.bind (idxM p_1_0 k_0) fun t1 =>
 bif (t1 : Int) == 1 then
 Option.bind (idxM p_2_0 k_0) fun t2 =>
 bif decide (t2 ≥ 1) then
 Option.bind (idxM p_2_0 k_0) fun t3 =>
 Option.bind (idxM p_2_0 p_3_0) fun t4 =>
 some (decide (t3 ≤ t4))
 else
 some false
 else
 some false
noncomputable def grounded_proved_2_C : Con := ⟨[(.int .i64), (.sl (.int .i64)), (.sl (.int .i64)), (.int .i64)], [.bool], fun (a : Int × (List Int) × (List Int) × Int) => grounded_proved_2_m a.1 a.2.1 a.2.2.1 a.2.2.2, [(false, [.d 0 0]), (false, [.ptr 0]), (false, [.ptr 1]), (false, [.ptr 2])], [.oc 0 [.d 1 0], .oc 1 [.d 2 0], .oc 2 [.d 3 0]], [(false, [.d 0 0])], [.same, .same, .same], 3, 3⟩
def grounded_proved_2_H : Hints := ⟨[], [], [], [], []⟩
theorem grounded_proved_2_ok [DrawMode] : ConFn prog 120 grounded_proved_2_C := conFn_of (H := grounded_proved_2_H) (fin := []) Tryz.func120 Tryz.call120 (tabL_ok (l := []) trivial) rfl rfl rfl (fun a => by kernel_rfl)

noncomputable def slices_IndexFunc_int_int_s2_l1 (s_0 : (List Int)) (f_1_0_0 : (List Int)) (f_1_1_0 : (List Int)) (f_1_2_0 : Int) (s7 : Int) : Option (Sum (Sum (Int) (Unit)) (Int)) :=
 bif decide (s7 < ((s_0.length : Int))) then
 Option.bind (idxM s_0 s7) fun t8 =>
 Option.bind (grounded_proved_2_m t8 f_1_0_0 f_1_1_0 f_1_2_0) fun t9 =>
 bif t9 then
 some (Sum.inl (Sum.inl s7))
 else
 some (Sum.inr (iadd .i64 s7 1))
 else
 some (Sum.inl (Sum.inr (())))
noncomputable def slices_IndexFunc_int_int_s2_m (s_0 : (List Int)) (f_1_0_0 : (List Int)) (f_1_1_0 : (List Int)) (f_1_2_0 : Int) : Option (Int) :=
 Option.bind (loopC (slices_IndexFunc_int_int_s2_l1 s_0 f_1_0_0 f_1_1_0 f_1_2_0) 0) (sumK (fun a : Int => some a) fun q10 : Unit =>
 some ((-1)))
noncomputable def slices_IndexFunc_int_int_s2_C : Con := ⟨[(.sl (.int .i64)), (.sl (.int .i64)), (.sl (.int .i64)), (.int .i64)], [(.int .i64)], fun (a : (List Int) × (List Int) × (List Int) × Int) => slices_IndexFunc_int_int_s2_m a.1 a.2.1 a.2.2.1 a.2.2.2, [(false, [.own 0]), (false, [.fn 120 [some 1, some 2, some 3]])], [.oa 0 (.d 0 0), .oc 1 [.d 1 0], .oc 2 [.d 2 0], .oc 3 [.d 3 0]], [(false, [.d 0 0])], [.same, .same, .same, .same], 4, 4⟩
def slices_IndexFunc_int_int_s2_H : Hints := ⟨[(0, ⟨[], ⟨[(.int .i64)], [(0, none), (1, none), (4, none), (7, none), (8, some (false, [.d 0 0]))], [.keep, .keep, .keep, .keep], 0⟩, [], some ([], ⟨[], [(0, none), (1, none), (4, none)], [.keep, .keep, .keep, .keep], 0⟩), true, none⟩)], [], [], [], []⟩
theorem slices_IndexFunc_int_int_s2_ok [DrawMode] : ConFn prog 105 slices_IndexFunc_int_int_s2_C := conFn_of (H := slices_IndexFunc_int_int_s2_H) (fin := []) Tryz.func105 Tryz.call105 (tabL_ok (l := [(120, grounded_proved_2_C)]) ⟨grounded_proved_2_ok, trivial⟩) rfl rfl rfl (fun a => by kernel_rfl)

noncomputable def slices_ContainsFunc_int_int_s2_m (s_0 : (List Int)) (f_1_0_0 : (List Int)) (f_1_1_0 : (List Int)) (f_1_2_0 : Int) : Option (Bool) :=
 Option.bind (slices_IndexFunc_int_int_s2_m s_0 f_1_0_0 f_1_1_0 f_1_2_0) fun t1 =>
 some (decide (t1 ≥ 0))
noncomputable def slices_ContainsFunc_int_int_s2_C : Con := ⟨[(.sl (.int .i64)), (.sl (.int .i64)), (.sl (.int .i64)), (.int .i64)], [.bool], fun (a : (List Int) × (List Int) × (List Int) × Int) => slices_ContainsFunc_int_int_s2_m a.1 a.2.1 a.2.2.1 a.2.2.2, [(false, [.own 0]), (false, [.fn 120 [some 1, some 2, some 3]])], [.oa 0 (.d 0 0), .oc 1 [.d 1 0], .oc 2 [.d 2 0], .oc 3 [.d 3 0]], [(false, [.d 0 0])], [.same, .same, .same, .same], 4, 4⟩
def slices_ContainsFunc_int_int_s2_H : Hints := ⟨[], [], [], [], []⟩
theorem slices_ContainsFunc_int_int_s2_ok [DrawMode] : ConFn prog 83 slices_ContainsFunc_int_int_s2_C := conFn_of (H := slices_ContainsFunc_int_int_s2_H) (fin := []) Tryz.func83 Tryz.call83 (tabL_ok (l := [(105, slices_IndexFunc_int_int_s2_C)]) ⟨slices_IndexFunc_int_int_s2_ok, trivial⟩) rfl rfl rfl (fun a => by kernel_rfl)

noncomputable def grounded_proved_m (g_0 : T_api_Graph) (labels_1 : (List Int)) (ranks_2 : (List Int)) (i_3 : Int) : Option (Bool) :=
 Option.bind (graph_Attackers_m g_0 i_3) fun attackers1 =>
 Option.bind (idxM labels_1 i_3) fun t2 =>
 bif (t2 : Int) == 1 then
 Option.bind (idxM ranks_2 i_3) fun t3 =>
 bif decide (t3 ≥ 1) then
 Option.bind (slices_ContainsFunc_int_int_s1_m attackers1 ranks_2 i_3) fun t4 =>
 some (!t4)
 else
 some false
 else
 bif (t2 : Int) == 2 then
 Option.bind (slices_ContainsFunc_int_int_s2_m attackers1 labels_1 ranks_2 i_3) fun t5 =>
 some t5
 else
 some true
noncomputable def grounded_proved_C : Con := ⟨[(.st 1), (.sl (.int .i64)), (.sl (.int .i64)), (.int .i64)], [.bool], fun (a : T_api_Graph × (List Int) × (List Int) × Int) => grounded_proved_m a.1 a.2.1 a.2.2.1 a.2.2.2, [(true, [.d 0 0, .d 0 1]), (false, [.d 1 0]), (false, [.d 2 0]), (false, [.d 3 0])], [], [(false, [.d 0 0])], [], 0, 0⟩
def grounded_proved_H : Hints := ⟨[], [], [], [], []⟩
theorem grounded_proved_ok : ConFn prog 101 grounded_proved_C := conFn_of (H := grounded_proved_H) (fin := []) Tryz.func101 Tryz.call101 (tabL_ok (l := [(83, slices_ContainsFunc_int_int_s1_C), (83, slices_ContainsFunc_int_int_s2_C), (66, graph_Attackers_C)]) ⟨slices_ContainsFunc_int_int_s1_ok, slices_ContainsFunc_int_int_s2_ok, graph_Attackers_ok, trivial⟩) rfl rfl rfl (fun a => by kernel_rfl)

noncomputable def grounded_Check_l1 (g_0 : T_api_Graph) (labels_1 : (List Int)) (ranks_2 : (List Int)) (s16 : Int) : Option (Sum (Sum (Int) (Unit)) (Int)) :=
 bif decide (s16 < g_0.N) then
 Option.bind (grounded_proved_m g_0 labels_1 ranks_2 s16) fun t17 =>
 bif !t17 then
 some (Sum.inl (Sum.inl 11))
 else
 some (Sum.inr (iadd .i64 s16 1))
 else
 some (Sum.inl (Sum.inr (())))
noncomputable def grounded_Check_m (g_0 : T_api_Graph) (labels_1 : (List Int)) (ranks_2 : (List Int)) : Option (Int) :=
 Option.bind (graph_Validate_m g_0) fun t7 =>
 bif (t7 : Int) != 0 then
 some 1
 else
 joinM (fun j10 : Bool =>
 bif j10 then
 some 4
 else
 Option.bind (labelling_IsComplete_m g_0 labels_1) fun t11 =>
 bif !t11 then
 some 7
 else
 Option.bind (loopC (grounded_Check_l1 g_0 labels_1 ranks_2) 0) (sumK (fun a : Int => some a) fun q18 : Unit =>
 some 0)) fun k9 =>
 Option.bind (labelling_Valid_m g_0 labels_1) fun t19 =>
 bif !t19 then
 k9 true
 else
 k9 (((ranks_2.length : Int) : Int) != g_0.N)
noncomputable def grounded_Check_C : Con := ⟨[(.st 1), (.sl (.int .i64)), (.sl (.int .i64))], [(.int .i64)], fun (a : T_api_Graph × (List Int) × (List Int)) => grounded_Check_m a.1 a.2.1 a.2.2, [(true, [.d 0 0, .d 0 1]), (false, [.d 1 0]), (false, [.d 2 0])], [], [(false, [.d 0 0])], [], 0, 0⟩
def grounded_Check_H : Hints := ⟨[(1, ⟨[], ⟨[(.int .i64)], [(1, none), (2, none), (3, none), (6, none), (30, none), (31, some (false, [.d 0 0]))], [.keep], 0⟩, [], some ([], ⟨[], [(6, none)], [.dead], 0⟩), true, none⟩)], [(10, ([], ⟨[.bool], [(1, none), (2, none), (3, none), (6, none), (12, some (false, [.d 0 0]))], [.keep], 0⟩))], [], [], []⟩
theorem grounded_Check_ok : ConFn prog 78 grounded_Check_C := conFn_of (H := grounded_Check_H) (fin := []) Tryz.func78 Tryz.call78 (tabL_ok (l := [(65, graph_Validate_C), (63, labelling_Valid_C), (31, labelling_IsComplete_C), (101, grounded_proved_C)]) ⟨graph_Validate_ok, labelling_Valid_ok, labelling_IsComplete_ok, grounded_proved_ok, trivial⟩) rfl rfl rfl (fun a => by kernel_rfl)

noncomputable def verdict_ranked_m (g_0 : T_api_Graph) (p_1 : Int) (n_2 : Int) (v_3 : T_api_Verdict) : Option (Int) :=
 bif decide (((v_3.Steps.length : Int)) > 0) then
 some 4
 else
 Option.bind (grounded_Check_m g_0 v_3.Labels v_3.Ranks) fun t1 =>
 bif (t1 : Int) != 0 then
 some 11
 else
 Option.bind (idxM v_3.Labels n_2) fun t2 =>
 bif !(v_3.Holds == ((t2 : Int) == 1)) then
 some 11
 else
 some 0
noncomputable def verdict_ranked_C : Con := ⟨[(.st 1), (.int .i64), (.int .i64), (.st 5)], [(.int .i64)], fun (a : T_api_Graph × Int × Int × T_api_Verdict) => verdict_ranked_m a.1 a.2.1 a.2.2.1 a.2.2.2, [(true, [.d 0 0, .d 0 1]), (false, [.d 1 0]), (false, [.d 2 0]), (true, [.d 3 0, .d 3 1, .d 3 2, .d 3 3])], [], [(false, [.d 0 0])], [], 0, 0⟩
def verdict_ranked_H : Hints := ⟨[], [], [], [], []⟩
theorem verdict_ranked_ok : ConFn prog 51 verdict_ranked_C := conFn_of (H := verdict_ranked_H) (fin := []) Tryz.func51 Tryz.call51 (tabL_ok (l := [(78, grounded_Check_C)]) ⟨grounded_Check_ok, trivial⟩) rfl rfl rfl (fun a => by kernel_rfl)

noncomputable def labelling_With_l1 (l_0 : (List Int)) (label_1 : Int) (s10 : Int × (List Int)) : Option (Sum ((List Int)) (Int × (List Int))) :=
 bif decide (s10.1 < ((l_0.length : Int))) then
 Option.bind (idxM l_0 s10.1) fun t11 =>
 bif (t11 : Int) == label_1 then
 Option.bind (appM 8 s10.2 [s10.1]) fun out12 =>
 some (Sum.inr ((iadd .i64 s10.1 1, out12)))
 else
 some (Sum.inr ((iadd .i64 s10.1 1, s10.2)))
 else
 some (Sum.inl s10.2)
noncomputable def labelling_With_m (l_0 : (List Int)) (label_1 : Int) : Option ((List Int)) :=
 Option.bind (loopC (labelling_With_l1 l_0 label_1) ((0, []))) fun q13 : (List Int) =>
 some q13
noncomputable def labelling_With_C : Con := ⟨[(.sl (.int .i64)), (.int .i64)], [(.sl (.int .i64))], fun (a : (List Int) × Int) => labelling_With_m a.1 a.2, [(false, [.d 0 0]), (false, [.d 1 0])], [], [(false, [.own 0])], [.oa 0 (.d 0 0)], 0, 1⟩
def labelling_With_H : Hints := ⟨[(0, ⟨[.own (.int .i64) (.slot 5 0)], ⟨[(.int .i64), (.sl (.int .i64))], [(1, none), (4, none), (5, some (false, [.own 1])), (8, none), (9, none), (10, some (false, [.d 0 0]))], [.dead, .oaN 0 (.d 1 0)], 1⟩, [], some ([], ⟨[(.sl (.int .i64))], [(4, none), (5, some (false, [.own 1]))], [.dead, .oaN 0 (.d 0 0)], 1⟩), false, none⟩)], [], [], [], []⟩
theorem labelling_With_ok [DrawMode] : ConFn prog 86 labelling_With_C := conFn_of (H := labelling_With_H) (fin := []) Tryz.func86 Tryz.call86 (tabL_ok (l := []) trivial) rfl rfl rfl (fun a => by kernel_rfl)

noncomputable def verdict_shown_m (g_0 : T_api_Graph) (question_1 : Int) (n_2 : Int) (l_3 : (List Int)) : Option (Bool) :=
 joinM (fun j4 : Unit =>
 Option.bind (idxM l_3 n_2) fun t5 =>
 some (((t5 : Int) == 1) == ((question_1 : Int) != 3))) fun k3 =>
 Option.bind (labelling_IsComplete_m g_0 l_3) fun t6 =>
 bif !t6 then
 some false
 else
 bif (question_1 : Int) != 1 then
 Option.bind (labelling_With_m l_3 3) fun t7 =>
 bif decide (((t7.length : Int)) > 0) then
 some false
 else
 k3 (())
 else
 k3 (())
noncomputable def verdict_shown_C : Con := ⟨[(.st 1), (.int .i64), (.int .i64), (.sl (.int .i64))], [.bool], fun (a : T_api_Graph × Int × Int × (List Int)) => verdict_shown_m a.1 a.2.1 a.2.2.1 a.2.2.2, [(true, [.d 0 0, .d 0 1]), (false, [.d 1 0]), (false, [.d 2 0]), (false, [.d 3 0])], [], [(false, [.d 0 0])], [], 0, 0⟩
def verdict_shown_H : Hints := ⟨[], [(8, ([], ⟨[], [(1, none), (2, none), (3, none), (8, none)], [.dead], 0⟩))], [], [], []⟩
theorem verdict_shown_ok : ConFn prog 80 verdict_shown_C := conFn_of (H := verdict_shown_H) (fin := []) Tryz.func80 Tryz.call80 (tabL_ok (l := [(31, labelling_IsComplete_C), (86, labelling_With_C)]) ⟨labelling_IsComplete_ok, labelling_With_ok, trivial⟩) rfl rfl rfl (fun a => by kernel_rfl)

noncomputable def verdict_labelled_m (g_0 : T_api_Graph) (question_1 : Int) (n_2 : Int) (v_3 : T_api_Verdict) : Option (Int) :=
 joinM (fun j2 : Bool =>
 bif j2 then
 some 4
 else
 Option.bind (verdict_shown_m g_0 question_1 n_2 v_3.Labels) fun t3 =>
 bif !t3 then
 some 11
 else
 some 0) fun k1 =>
 bif decide (((v_3.Ranks.length : Int)) > 0) then
 k1 true
 else
 k1 (decide (((v_3.Steps.length : Int)) > 0))
noncomputable def verdict_labelled_C : Con := ⟨[(.st 1), (.int .i64), (.int .i64), (.st 5)], [(.int .i64)], fun (a : T_api_Graph × Int × Int × T_api_Verdict) => verdict_labelled_m a.1 a.2.1 a.2.2.1 a.2.2.2, [(true, [.d 0 0, .d 0 1]), (false, [.d 1 0]), (false, [.d 2 0]), (true, [.d 3 0, .d 3 1, .d 3 2, .d 3 3])], [], [(false, [.d 0 0])], [], 0, 0⟩
def verdict_labelled_H : Hints := ⟨[], [(6, ([], ⟨[.bool], [(1, none), (2, none), (4, none), (7, none), (8, none), (9, some (false, [.d 0 0]))], [.keep, .keep], 0⟩))], [], [], []⟩
theorem verdict_labelled_ok : ConFn prog 53 verdict_labelled_C := conFn_of (H := verdict_labelled_H) (fin := []) Tryz.func53 Tryz.call53 (tabL_ok (l := [(80, verdict_shown_C)]) ⟨verdict_shown_ok, trivial⟩) rfl rfl rfl (fun a => by kernel_rfl)

noncomputable def proof_satisfied_1_m (x_0 : Int) (p_1_0 : (List Bool)) : Option (Bool) :=
 Option.bind (proof_abs_m x_0) fun t1 =>
 Option.bind (idxM p_1_0 (isub .i64 t1 1)) fun t2 =>
 some (t2 == (decide (x_0 > 0)))
noncomputable def proof_satisfied_1_C : Con := ⟨[(.int .i64), (.sl .bool)], [.bool], fun (a : Int × (List Bool)) => proof_satisfied_1_m a.1 a.2, [(false, [.d 0 0]), (false, [.ptr 0])], [.oc 0 [.d 1 0]], [(false, [.d 0 0])], [.same], 1, 1⟩
def proof_satisfied_1_H : Hints := ⟨[], [], [], [], []⟩
theorem proof_satisfied_1_ok [DrawMode] : ConFn prog 121 proof_satisfied_1_C := conFn_of (H := proof_satisfied_1_H) (fin := []) Tryz.func121 Tryz.call121 (tabL_ok (l := [(114, proof_abs_C)]) ⟨proof_abs_ok, trivial⟩) rfl rfl rfl (fun a => by kernel_rfl)

noncomputable def slices_IndexFunc_int_int_s3_l1 (s_0 : (List Int)) (f_1_0_0 : (List Bool)) (s7 : Int) : Option (Sum (Sum (Int) (Unit)) (Int)) :=
 bif decide (s7 < ((s_0.length : Int))) then
 Option.bind (idxM s_0 s7) fun t8 =>
 Option.bind (proof_satisfied_1_m t8 f_1_0_0) fun t9 =>
 bif t9 then
 some (Sum.inl (Sum.inl s7))
 else
 some (Sum.inr (iadd .i64 s7 1))
 else
 some (Sum.inl (Sum.inr (())))
noncomputable def slices_IndexFunc_int_int_s3_m (s_0 : (List Int)) (f_1_0_0 : (List Bool)) : Option (Int) :=
 Option.bind (loopC (slices_IndexFunc_int_int_s3_l1 s_0 f_1_0_0) 0) (sumK (fun a : Int => some a) fun q10 : Unit =>
 some ((-1)))
noncomputable def slices_IndexFunc_int_int_s3_C : Con := ⟨[(.sl (.int .i64)), (.sl .bool)], [(.int .i64)], fun (a : (List Int) × (List Bool)) => slices_IndexFunc_int_int_s3_m a.1 a.2, [(false, [.d 0 0]), (false, [.fn 121 [some 0]])], [.oc 0 [.d 1 0]], [(false, [.d 0 0])], [.same], 1, 1⟩
def slices_IndexFunc_int_int_s3_H : Hints := ⟨[(0, ⟨[], ⟨[(.int .i64)], [(0, none), (1, none), (4, none), (7, none), (8, some (false, [.d 0 0]))], [.keep], 0⟩, [], some ([], ⟨[], [(1, none), (4, none)], [.keep], 0⟩), true, none⟩)], [], [], [], []⟩
theorem slices_IndexFunc_int_int_s3_ok [DrawMode] : ConFn prog 105 slices_IndexFunc_int_int_s3_C := conFn_of (H := slices_IndexFunc_int_int_s3_H) (fin := []) Tryz.func105 Tryz.call105 (tabL_ok (l := [(121, proof_satisfied_1_C)]) ⟨proof_satisfied_1_ok, trivial⟩) rfl rfl rfl (fun a => by kernel_rfl)

noncomputable def slices_ContainsFunc_int_int_s3_m (s_0 : (List Int)) (f_1_0_0 : (List Bool)) : Option (Bool) :=
 Option.bind (slices_IndexFunc_int_int_s3_m s_0 f_1_0_0) fun t1 =>
 some (decide (t1 ≥ 0))
noncomputable def slices_ContainsFunc_int_int_s3_C : Con := ⟨[(.sl (.int .i64)), (.sl .bool)], [.bool], fun (a : (List Int) × (List Bool)) => slices_ContainsFunc_int_int_s3_m a.1 a.2, [(false, [.d 0 0]), (false, [.fn 121 [some 0]])], [.oc 0 [.d 1 0]], [(false, [.d 0 0])], [.same], 1, 1⟩
def slices_ContainsFunc_int_int_s3_H : Hints := ⟨[], [], [], [], []⟩
theorem slices_ContainsFunc_int_int_s3_ok [DrawMode] : ConFn prog 83 slices_ContainsFunc_int_int_s3_C := conFn_of (H := slices_ContainsFunc_int_int_s3_H) (fin := []) Tryz.func83 Tryz.call83 (tabL_ok (l := [(105, slices_IndexFunc_int_int_s3_C)]) ⟨slices_IndexFunc_int_int_s3_ok, trivial⟩) rfl rfl rfl (fun a => by kernel_rfl)

noncomputable def proof_refuted_1_m (c_0 : (List Int)) : Option (Bool) :=
 some (((c_0.length : Int) : Int) == 0)
noncomputable def proof_refuted_1_C : Con := ⟨[(.sl (.int .i64))], [.bool], fun (a : (List Int)) => proof_refuted_1_m a, [(false, [.d 0 0])], [], [(false, [.d 0 0])], [], 0, 0⟩
def proof_refuted_1_H : Hints := ⟨[], [], [], [], []⟩
theorem proof_refuted_1_ok [DrawMode] : ConFn prog 122 proof_refuted_1_C := conFn_of (H := proof_refuted_1_H) (fin := []) Tryz.func122 Tryz.call122 (tabL_ok (l := []) trivial) rfl rfl rfl (fun a => by kernel_rfl)

noncomputable def slices_IndexFunc_int_int_s1__l1 (s_0 : (List (List Int))) (s7 : Int) : Option (Sum (Sum (Int) (Unit)) (Int)) :=
 bif decide (s7 < ((s_0.length : Int))) then
 Option.bind (idxM s_0 s7) fun t8 =>
 Option.bind (proof_refuted_1_m t8) fun t9 =>
 bif t9 then
 some (Sum.inl (Sum.inl s7))
 else
 some (Sum.inr (iadd .i64 s7 1))
 else
 some (Sum.inl (Sum.inr (())))
noncomputable def slices_IndexFunc_int_int_s1__m (s_0 : (List (List Int))) : Option (Int) :=
 Option.bind (loopC (slices_IndexFunc_int_int_s1__l1 s_0) 0) (sumK (fun a : Int => some a) fun q10 : Unit =>
 some ((-1)))
noncomputable def slices_IndexFunc_int_int_s1__C : Con := ⟨[(.sl (.sl (.int .i64)))], [(.int .i64)], fun (a : (List (List Int))) => slices_IndexFunc_int_int_s1__m a, [(false, [.d 0 0]), (false, [.fn 122 []])], [], [(false, [.d 0 0])], [], 0, 0⟩
def slices_IndexFunc_int_int_s1__H : Hints := ⟨[(0, ⟨[], ⟨[(.int .i64)], [(0, none), (1, none), (4, none), (7, none), (8, some (false, [.d 0 0]))], [], 0⟩, [], some ([], ⟨[], [(1, none), (4, none)], [], 0⟩), true, none⟩)], [], [], [], []⟩
theorem slices_IndexFunc_int_int_s1__ok [DrawMode] : ConFn prog 87 slices_IndexFunc_int_int_s1__C := conFn_of (H := slices_IndexFunc_int_int_s1__H) (fin := []) Tryz.func87 Tryz.call87 (tabL_ok (l := [(122, proof_refuted_1_C)]) ⟨proof_refuted_1_ok, trivial⟩) rfl rfl rfl (fun a => by kernel_rfl)

noncomputable def slices_ContainsFunc_int_int_s1__m (s_0 : (List (List Int))) : Option (Bool) :=
 Option.bind (slices_IndexFunc_int_int_s1__m s_0) fun t1 =>
 some (decide (t1 ≥ 0))
noncomputable def slices_ContainsFunc_int_int_s1__C : Con := ⟨[(.sl (.sl (.int .i64)))], [.bool], fun (a : (List (List Int))) => slices_ContainsFunc_int_int_s1__m a, [(false, [.d 0 0]), (false, [.fn 122 []])], [], [(false, [.d 0 0])], [], 0, 0⟩
def slices_ContainsFunc_int_int_s1__H : Hints := ⟨[], [], [], [], []⟩
theorem slices_ContainsFunc_int_int_s1__ok [DrawMode] : ConFn prog 59 slices_ContainsFunc_int_int_s1__C := conFn_of (H := slices_ContainsFunc_int_int_s1__H) (fin := []) Tryz.func59 Tryz.call59 (tabL_ok (l := [(87, slices_IndexFunc_int_int_s1__C)]) ⟨slices_IndexFunc_int_int_s1__ok, trivial⟩) rfl rfl rfl (fun a => by kernel_rfl)

noncomputable def proof_refuted_s1_l1 (steps_1 : (List T_api_Step)) (s42 : Int × (List (List Int))) : Option (Sum (Sum (Bool) ((List (List Int)))) (Int × (List (List Int)))) :=
 bif decide (s42.1 < ((steps_1.length : Int))) then
 Option.bind (idxM steps_1 s42.1) fun t43 =>
 bif decide ((imin t43.Left t43.Right) < 0) then
 some (Sum.inl (Sum.inl false))
 else
 bif decide ((imax t43.Left t43.Right) ≥ ((s42.2.length : Int))) then
 some (Sum.inl (Sum.inl false))
 else
 Option.bind (idxM s42.2 t43.Left) fun t47 =>
 Option.bind (idxM s42.2 t43.Right) fun t48 =>
 Option.bind (proof_Resolve_m t47 t48 t43.Pivot) fun t49 =>
 bif !t49.1 then
 some (Sum.inl (Sum.inl false))
 else
 Option.bind (appM 24 s42.2 [t49.2]) fun all50 =>
 some (Sum.inr ((iadd .i64 s42.1 1, all50)))
 else
 some (Sum.inl (Sum.inr s42.2))
noncomputable def proof_refuted_s1_m (l_0 : (List (List Int))) (steps_1 : (List T_api_Step)) : Option (Bool) :=
 bif ((steps_1.length : Int) : Int) == 0 then
 Option.bind (slices_ContainsFunc_int_int_s1__m l_0) fun t2 =>
 some t2
 else
 Option.bind (slices_Clone_int_int_m l_0) fun all3 =>
 Option.bind (loopC (proof_refuted_s1_l1 steps_1) ((0, all3))) (sumK (fun a : Bool => some a) fun q51 : (List (List Int)) =>
 Option.bind (idxM q51 (isub .i64 ((q51.length : Int)) 1)) fun t52 =>
 some (((t52.length : Int) : Int) == 0))
noncomputable def proof_refuted_s1_C : Con := ⟨[(.sl (.sl (.int .i64))), (.sl (.st 3))], [.bool], fun (a : (List (List Int)) × (List T_api_Step)) => proof_refuted_s1_m a.1 a.2, [(false, [.d 0 0]), (false, [.d 1 0])], [], [(false, [.d 0 0])], [], 0, 0⟩
def proof_refuted_s1_H : Hints := ⟨[(0, ⟨[], ⟨[(.int .i64), (.sl (.sl (.int .i64)))], [(4, none), (5, some (false, [.own 1])), (17, none), (18, none), (19, some (false, [.d 0 0]))], [.dead, .oaN 0 (.d 1 0)], 1⟩, [], some ([], ⟨[(.sl (.sl (.int .i64)))], [(4, none), (5, some (false, [.own 1]))], [.dead, .oaN 0 (.d 0 0)], 1⟩), true, none⟩)], [], [], [], []⟩
theorem proof_refuted_s1_ok [DrawMode] : ConFn prog 103 proof_refuted_s1_C := conFn_of (H := proof_refuted_s1_H) (fin := []) Tryz.func103 Tryz.call103 (tabL_ok (l := [(59, slices_ContainsFunc_int_int_s1__C), (73, slices_Clone_int_int_C), (117, proof_Resolve_C)]) ⟨slices_ContainsFunc_int_int_s1__ok, slices_Clone_int_int_ok, proof_Resolve_ok, trivial⟩) rfl rfl rfl (fun a => by kernel_rfl)

noncomputable def proof_satisfied_s1_l1 (l_0 : (List (List Int))) (model_1 : (List Bool)) (s7 : Int) : Option (Sum (Sum (Bool) (Unit)) (Int)) :=
 bif decide (s7 < ((l_0.length : Int))) then
 Option.bind (idxM l_0 s7) fun t8 =>
 Option.bind (slices_ContainsFunc_int_int_s3_m t8 model_1) fun t9 =>
 bif !t9 then
 some (Sum.inl (Sum.inl false))
 else
 some (Sum.inr (iadd .i64 s7 1))
 else
 some (Sum.inl (Sum.inr (())))
noncomputable def proof_satisfied_s1_m (l_0 : (List (List Int))) (model_1 : (List Bool)) : Option (Bool) :=
 Option.bind (loopC (proof_satisfied_s1_l1 l_0 model_1) 0) (sumK (fun a : Bool => some a) fun q10 : Unit =>
 some true)
noncomputable def proof_satisfied_s1_C : Con := ⟨[(.sl (.sl (.int .i64))), (.sl .bool)], [.bool], fun (a : (List (List Int)) × (List Bool)) => proof_satisfied_s1_m a.1 a.2, [(false, [.d 0 0]), (false, [.d 1 0])], [], [(false, [.d 0 0])], [], 0, 0⟩
def proof_satisfied_s1_H : Hints := ⟨[(0, ⟨[], ⟨[(.int .i64)], [(3, none), (4, none), (7, none), (8, none), (9, some (false, [.d 0 0]))], [.keep], 0⟩, [], some ([], ⟨[], [(4, none)], [.dead], 0⟩), true, none⟩)], [], [], [], []⟩
theorem proof_satisfied_s1_ok [DrawMode] : ConFn prog 102 proof_satisfied_s1_C := conFn_of (H := proof_satisfied_s1_H) (fin := []) Tryz.func102 Tryz.call102 (tabL_ok (l := [(83, slices_ContainsFunc_int_int_s3_C)]) ⟨slices_ContainsFunc_int_int_s3_ok, trivial⟩) rfl rfl rfl (fun a => by kernel_rfl)

noncomputable def proof_Check_s1_m (n_0 : Int) (l_1 : (List (List Int))) (x_2 : T_api_Answer) : Option (Int) :=
 Option.bind (proof_Validate_s1_m n_0 l_1) fun e2 =>
 bif (e2 : Int) != 0 then
 some e2
 else
 bif x_2.Sat then
 joinM (fun j7 : Bool =>
 bif j7 then
 some 4
 else
 Option.bind (proof_satisfied_s1_m l_1 x_2.Model) fun t8 =>
 bif !t8 then
 some 11
 else
 some 0) fun k6 =>
 bif decide (((x_2.Steps.length : Int)) > 0) then
 k6 true
 else
 k6 (((x_2.Model.length : Int) : Int) != n_0)
 else
 bif decide (((x_2.Model.length : Int)) > 0) then
 some 4
 else
 bif decide (((x_2.Steps.length : Int)) > 20000) then
 some 2
 else
 Option.bind (proof_refuted_s1_m l_1 x_2.Steps) fun t9 =>
 bif !t9 then
 some 11
 else
 some 0
noncomputable def proof_Check_s1_C : Con := ⟨[(.int .i64), (.sl (.sl (.int .i64))), (.st 4)], [(.int .i64)], fun (a : Int × (List (List Int)) × T_api_Answer) => proof_Check_s1_m a.1 a.2.1 a.2.2, [(false, [.d 0 0]), (false, [.d 1 0]), (true, [.d 2 0, .d 2 1, .d 2 2])], [], [(false, [.d 0 0])], [], 0, 0⟩
def proof_Check_s1_H : Hints := ⟨[], [(14, ([], ⟨[.bool], [(1, none), (5, none), (6, none), (16, some (false, [.d 0 0]))], [.keep], 0⟩))], [], [], []⟩
theorem proof_Check_s1_ok [DrawMode] : ConFn prog 79 proof_Check_s1_C := conFn_of (H := proof_Check_s1_H) (fin := []) Tryz.func79 Tryz.call79 (tabL_ok (l := [(72, proof_Validate_s1_C), (102, proof_satisfied_s1_C), (103, proof_refuted_s1_C)]) ⟨proof_Validate_s1_ok, proof_satisfied_s1_ok, proof_refuted_s1_ok, trivial⟩) rfl rfl rfl (fun a => by kernel_rfl)

noncomputable def verdict_refuted_m (g_0 : T_api_Graph) (question_1 : Int) (n_2 : Int) (v_3 : T_api_Verdict) : Option (Int) :=
 bif decide (((v_3.Ranks.length : Int)) > 0) then
 some 4
 else
 bif decide (((v_3.Labels.length : Int)) > 0) then
 some 4
 else
 Option.bind (verdict_Encode_m g_0 question_1 n_2) fun t1 =>
 Option.bind (proof_Check_s1_m t1.1 t1.2.2 ((T_api_Answer.mk false [] v_3.Steps))) fun t2 =>
 bif (t2 : Int) != 0 then
 some 11
 else
 some 0
noncomputable def verdict_refuted_C : Con := ⟨[(.st 1), (.int .i64), (.int .i64), (.st 5)], [(.int .i64)], fun (a : T_api_Graph × Int × Int × T_api_Verdict) => verdict_refuted_m a.1 a.2.1 a.2.2.1 a.2.2.2, [(true, [.d 0 0, .d 0 1]), (false, [.d 1 0]), (false, [.d 2 0]), (true, [.d 3 0, .d 3 1, .d 3 2, .d 3 3])], [], [(false, [.d 0 0])], [], 0, 0⟩
def verdict_refuted_H : Hints := ⟨[], [], [], [], []⟩
theorem verdict_refuted_ok : ConFn prog 52 verdict_refuted_C := conFn_of (H := verdict_refuted_H) (fin := []) Tryz.func52 Tryz.call52 (tabL_ok (l := [(12, verdict_Encode_C), (79, proof_Check_s1_C)]) ⟨verdict_Encode_ok, proof_Check_s1_ok, trivial⟩) rfl rfl rfl (fun a => by kernel_rfl)

noncomputable def verdict_Check_m (g_0 : T_api_Graph) (question_1 : Int) (n_2 : Int) (v_3 : T_api_Verdict) : Option (Int) :=
 Option.bind (verdict_asked_m g_0 n_2) fun e2 =>
 bif (e2 : Int) != 0 then
 some e2
 else
 bif (question_1 : Int) == 4 then
 Option.bind (verdict_ranked_m g_0 question_1 n_2 v_3) fun t3 =>
 some t3
 else
 joinM (fun j5 : Bool =>
 bif j5 then
 bif v_3.Holds == ((question_1 : Int) != 3) then
 Option.bind (verdict_labelled_m g_0 question_1 n_2 v_3) fun t6 =>
 some t6
 else
 Option.bind (verdict_refuted_m g_0 question_1 n_2 v_3) fun t7 =>
 some t7
 else
 some 4) fun k4 =>
 bif (question_1 : Int) == 1 then
 k4 ((question_1 : Int) == 1)
 else
 bif (question_1 : Int) == 2 then
 k4 ((question_1 : Int) == 2)
 else
 k4 ((question_1 : Int) == 3)
noncomputable def verdict_Check_C : Con := ⟨[(.st 1), (.int .i64), (.int .i64), (.st 5)], [(.int .i64)], fun (a : T_api_Graph × Int × Int × T_api_Verdict) => verdict_Check_m a.1 a.2.1 a.2.2.1 a.2.2.2, [(true, [.d 0 0, .d 0 1]), (false, [.d 1 0]), (false, [.d 2 0]), (true, [.d 3 0, .d 3 1, .d 3 2, .d 3 3])], [], [(false, [.d 0 0])], [], 0, 0⟩
def verdict_Check_H : Hints := ⟨[], [(26, ([], ⟨[.bool], [(1, none), (2, none), (4, none), (7, none), (8, none), (20, some (false, [.d 0 0]))], [.keep, .keep], 0⟩))], [], [], []⟩
theorem verdict_Check_ok : ConFn prog 26 verdict_Check_C := conFn_of (H := verdict_Check_H) (fin := []) Tryz.func26 Tryz.call26 (tabL_ok (l := [(34, verdict_asked_C), (51, verdict_ranked_C), (53, verdict_labelled_C), (52, verdict_refuted_C)]) ⟨verdict_asked_ok, verdict_ranked_ok, verdict_labelled_ok, verdict_refuted_ok, trivial⟩) rfl rfl rfl (fun a => by kernel_rfl)

noncomputable def law18_awake_m  : Option (Bool) :=
 Option.bind (verdict_Decide_m ((T_api_Graph.mk 2 [(T_api_Pair.mk 0 1), (T_api_Pair.mk 1 0)])) 1 0) fun t1 =>
 Option.bind (verdict_Decide_m ((T_api_Graph.mk 2 [(T_api_Pair.mk 0 1), (T_api_Pair.mk 1 0)])) 3 0) fun t2 =>
 Option.bind (verdict_Decide_m ((T_api_Graph.mk 3 [(T_api_Pair.mk 0 1), (T_api_Pair.mk 1 2), (T_api_Pair.mk 2 0)])) 1 0) fun t3 =>
 Option.bind (verdict_Decide_m ((T_api_Graph.mk 2 [(T_api_Pair.mk 0 1), (T_api_Pair.mk 1 0)])) 4 0) fun t4 =>
 bif (t1.2 : Int) == 0 then
 bif t1.1.Holds then
 Option.bind (keep_Ints_m t1.1.Labels [1, 2]) fun t5 =>
 bif t5 then
 bif (t2.2 : Int) == 0 then
 bif !t2.1.Holds then
 Option.bind (keep_Ints_m t2.1.Labels [2, 1]) fun t6 =>
 bif t6 then
 bif (t3.2 : Int) == 0 then
 bif !t3.1.Holds then
 bif decide (((t3.1.Steps.length : Int)) > 0) then
 Option.bind (verdict_Check_m ((T_api_Graph.mk 3 [(T_api_Pair.mk 0 1), (T_api_Pair.mk 1 2), (T_api_Pair.mk 2 0)])) 1 0 t3.1) fun t7 =>
 bif (t7 : Int) == 0 then
 bif (t4.2 : Int) == 0 then
 bif !t4.1.Holds then
 some (((t4.1.Ranks.length : Int) : Int) == 2)
 else
 some false
 else
 some false
 else
 some false
 else
 some false
 else
 some false
 else
 some false
 else
 some false
 else
 some false
 else
 some false
 else
 some false
 else
 some false
 else
 some false
noncomputable def law18_awake_C : Con := ⟨[], [.bool], fun (a : Unit) => law18_awake_m, [], [], [(false, [.d 0 0])], [], 0, 0⟩
def law18_awake_H : Hints := ⟨[], [], [], [], []⟩
theorem law18_awake_ok : ConFn prog 15 law18_awake_C := conFn_of (H := law18_awake_H) (fin := []) Tryz.func15 Tryz.call15 (tabL_ok (l := [(20, verdict_Decide_C), (21, keep_Ints_C), (26, verdict_Check_C)]) ⟨verdict_Decide_ok, keep_Ints_ok, verdict_Check_ok, trivial⟩) rfl rfl rfl (fun a => by kernel_rfl)

noncomputable def ref04_abs_m (x_0 : Int) : Option (Int) :=
 some (imax x_0 (ineg .i64 x_0))
noncomputable def ref04_abs_C : Con := ⟨[(.int .i64)], [(.int .i64)], fun (a : Int) => ref04_abs_m a, [(false, [.d 0 0])], [], [(false, [.d 0 0])], [], 0, 0⟩
def ref04_abs_H : Hints := ⟨[], [], [], [], []⟩
theorem ref04_abs_ok [DrawMode] : ConFn prog 41 ref04_abs_C := conFn_of (H := ref04_abs_H) (fin := []) Tryz.func41 Tryz.call41 (tabL_ok (l := []) trivial) rfl rfl rfl (fun a => by kernel_rfl)

noncomputable def ref04_clause_l1 (n_0 : Int) (c_1 : (List Int)) (s19 : Int) : Option (Sum (Sum (Int) (Unit)) (Int)) :=
 bif decide (s19 < ((c_1.length : Int))) then
 Option.bind (idxM c_1 s19) fun t20 =>
 bif (t20 : Int) == 0 then
 some (Sum.inl (Sum.inl 1))
 else
 Option.bind (idxM c_1 s19) fun t21 =>
 bif decide (t21 < (ineg .i64 n_0)) then
 some (Sum.inl (Sum.inl 1))
 else
 Option.bind (idxM c_1 s19) fun t22 =>
 bif decide (t22 > n_0) then
 some (Sum.inl (Sum.inl 1))
 else
 some (Sum.inr (iadd .i64 s19 1))
 else
 some (Sum.inl (Sum.inr (())))
noncomputable def ref04_clause_l2 (c_1 : (List Int)) (s34 : Int) : Option (Sum (Sum (Int) (Unit)) (Int)) :=
 bif decide (s34 < ((c_1.length : Int))) then
 Option.bind (idxM c_1 s34) fun t35 =>
 Option.bind (idxM c_1 (isub .i64 s34 1)) fun t36 =>
 Option.bind (ref04_abs_m t35) fun t37 =>
 Option.bind (ref04_abs_m t36) fun t38 =>
 bif decide (t37 ≤ t38) then
 some (Sum.inl (Sum.inl 8))
 else
 some (Sum.inr (iadd .i64 s34 1))
 else
 some (Sum.inl (Sum.inr (())))
noncomputable def ref04_clause_m (n_0 : Int) (c_1 : (List Int)) : Option (Int) :=
 bif decide (((c_1.length : Int)) > 50) then
 some 2
 else
 Option.bind (loopC (ref04_clause_l1 n_0 c_1) 0) (sumK (fun a : Int => some a) fun q23 : Unit =>
 Option.bind (loopC (ref04_clause_l2 c_1) 1) (sumK (fun a : Int => some a) fun q39 : Unit =>
 some 0))
noncomputable def ref04_clause_C : Con := ⟨[(.int .i64), (.sl (.int .i64))], [(.int .i64)], fun (a : Int × (List Int)) => ref04_clause_m a.1 a.2, [(false, [.d 0 0]), (false, [.d 1 0])], [], [(false, [.d 0 0])], [], 0, 0⟩
def ref04_clause_H : Hints := ⟨[(0, ⟨[], ⟨[(.int .i64)], [(0, none), (1, none), (4, none), (5, some (false, [.d 0 0]))], [], 0⟩, [], some ([], ⟨[], [(1, none), (4, none)], [], 0⟩), true, none⟩), (2, ⟨[], ⟨[(.int .i64)], [(1, none), (4, none), (6, some (false, [.d 0 0]))], [], 0⟩, [], some ([], ⟨[], [(4, none)], [], 0⟩), true, none⟩)], [], [], [], []⟩
theorem ref04_clause_ok [DrawMode] : ConFn prog 40 ref04_clause_C := conFn_of (H := ref04_clause_H) (fin := []) Tryz.func40 Tryz.call40 (tabL_ok (l := [(41, ref04_abs_C)]) ⟨ref04_abs_ok, trivial⟩) rfl rfl rfl (fun a => by kernel_rfl)

noncomputable def ref04_Validate_l1 (n_0 : Int) (l_1 : (List (List Int))) (s7 : Int) : Option (Sum (Sum (Int) (Unit)) (Int)) :=
 bif decide (s7 < ((l_1.length : Int))) then
 Option.bind (idxM l_1 s7) fun t8 =>
 Option.bind (ref04_clause_m n_0 t8) fun e9 =>
 bif (e9 : Int) != 0 then
 some (Sum.inl (Sum.inl e9))
 else
 some (Sum.inr (iadd .i64 s7 1))
 else
 some (Sum.inl (Sum.inr (())))
noncomputable def ref04_Validate_m (n_0 : Int) (l_1 : (List (List Int))) : Option (Int) :=
 bif decide (n_0 < 0) then
 some 1
 else
 bif decide (n_0 > 200) then
 some 1
 else
 bif decide (((l_1.length : Int)) > 4000) then
 some 2
 else
 Option.bind (loopC (ref04_Validate_l1 n_0 l_1) 0) (sumK (fun a : Int => some a) fun q10 : Unit =>
 some 0)
noncomputable def ref04_Validate_C : Con := ⟨[(.int .i64), (.sl (.sl (.int .i64)))], [(.int .i64)], fun (a : Int × (List (List Int))) => ref04_Validate_m a.1 a.2, [(false, [.d 0 0]), (false, [.own 0])], [.oa 0 (.d 1 0)], [(false, [.d 0 0])], [.same], 1, 1⟩
def ref04_Validate_H : Hints := ⟨[(0, ⟨[], ⟨[(.int .i64)], [(0, none), (1, none), (4, none), (5, some (false, [.d 0 0]))], [.keep], 0⟩, [], some ([], ⟨[], [(1, none), (4, none)], [.keep], 0⟩), true, none⟩)], [], [], [], []⟩
theorem ref04_Validate_ok [DrawMode] : ConFn prog 16 ref04_Validate_C := conFn_of (H := ref04_Validate_H) (fin := []) Tryz.func16 Tryz.call16 (tabL_ok (l := [(40, ref04_clause_C)]) ⟨ref04_clause_ok, trivial⟩) rfl rfl rfl (fun a => by kernel_rfl)

noncomputable def ref11_Labellings_l1 (s95 : (List (List Int)) × Int) (s140 : Int × (List (List Int))) (s151 : Int × (List (List Int))) : Option (Sum ((List (List Int))) (Int × (List (List Int)))) :=
 bif decide (s151.1 ≤ 3) then
 Option.bind (idxM s95.1 s140.1) fun t152 =>
 Option.bind (appM 8 [] t152) fun t153 =>
 Option.bind (appM 8 t153 [s151.1]) fun t154 =>
 Option.bind (appM 24 s151.2 [t154]) fun next155 =>
 some (Sum.inr ((iadd .i64 s151.1 1, next155)))
 else
 some (Sum.inl s151.2)
noncomputable def ref11_Labellings_l2 (s95 : (List (List Int)) × Int) (s140 : Int × (List (List Int))) : Option (Sum ((List (List Int))) (Int × (List (List Int)))) :=
 bif decide (s140.1 < ((s95.1.length : Int))) then
 Option.bind (loopC (ref11_Labellings_l1 s95 s140) ((1, s140.2))) fun q156 : (List (List Int)) =>
 some (Sum.inr ((iadd .i64 s140.1 1, q156)))
 else
 some (Sum.inl s140.2)
noncomputable def ref11_Labellings_l3 (n_0 : Int) (s95 : (List (List Int)) × Int) : Option (Sum ((List (List Int))) ((List (List Int)) × Int)) :=
 bif decide (s95.2 < n_0) then
 Option.bind (loopC (ref11_Labellings_l2 s95) ((0, []))) fun q157 : (List (List Int)) =>
 some (Sum.inr ((q157, iadd .i64 s95.2 1)))
 else
 some (Sum.inl s95.1)
noncomputable def ref11_Labellings_m (n_0 : Int) : Option ((List (List Int))) :=
 Option.bind (loopC (ref11_Labellings_l3 n_0) (([[]], 0))) fun q158 : (List (List Int)) =>
 some q158
noncomputable def ref11_Labellings_C : Con := ⟨[(.int .i64)], [(.sl (.sl (.int .i64)))], fun (a : Int) => ref11_Labellings_m a, [(false, [.d 0 0])], [], [(false, [.d 0 0])], [], 0, 0⟩
def ref11_Labellings_H : Hints := ⟨[(0, ⟨[], ⟨[(.sl (.sl (.int .i64))), (.int .i64)], [(0, none), (2, none), (3, some (false, [.d 0 0])), (4, some (false, [.d 1 0]))], [], 0⟩, [.sl (.sl (.int .i64)) (.slot 3 0)], some ([], ⟨[(.sl (.sl (.int .i64)))], [(2, none), (3, some (false, [.d 0 0]))], [], 0⟩), false, none⟩), (2, ⟨[.own (.sl (.int .i64)) (.slot 5 0)], ⟨[(.int .i64), (.sl (.sl (.int .i64)))], [(0, none), (2, none), (3, none), (4, none), (5, some (false, [.own 1])), (6, some (false, [.d 0 0]))], [.dead, .oaN 0 (.d 1 0)], 1⟩, [], some ([], ⟨[(.sl (.sl (.int .i64)))], [(0, none), (2, none), (4, none), (5, some (false, [.own 1]))], [.dead, .oaN 0 (.d 0 0)], 1⟩), false, none⟩), (4, ⟨[], ⟨[(.int .i64), (.sl (.sl (.int .i64)))], [(0, none), (2, none), (3, none), (4, none), (5, some (false, [.own 2])), (6, none), (7, some (false, [.d 0 0]))], [.dead, .dead, .oaN 0 (.d 1 0)], 1⟩, [], some ([], ⟨[(.sl (.sl (.int .i64)))], [(0, none), (2, none), (3, none), (4, none), (5, some (false, [.own 2])), (6, none)], [.dead, .dead, .oaN 0 (.d 0 0)], 1⟩), false, none⟩)], [], [25], [], []⟩
theorem ref11_Labellings_ok [DrawMode] : ConFn prog 17 ref11_Labellings_C := conFn_of (H := ref11_Labellings_H) (fin := []) Tryz.func17 Tryz.call17 (tabL_ok (l := []) trivial) rfl rfl rfl (fun a => by kernel_rfl)

noncomputable def ref04_Satisfied_l1 (model_0 : (List Bool)) (c_1 : (List Int)) (s11 : Int) : Option (Sum (Sum (Bool) (Unit)) (Int)) :=
 bif decide (s11 < ((c_1.length : Int))) then
 Option.bind (idxM c_1 s11) fun t12 =>
 Option.bind (idxM c_1 s11) fun t13 =>
 Option.bind (ref04_abs_m t12) fun t14 =>
 Option.bind (idxM model_0 (isub .i64 t14 1)) fun t15 =>
 bif t15 == (decide (t13 > 0)) then
 some (Sum.inl (Sum.inl true))
 else
 some (Sum.inr (iadd .i64 s11 1))
 else
 some (Sum.inl (Sum.inr (())))
noncomputable def ref04_Satisfied_m (model_0 : (List Bool)) (c_1 : (List Int)) : Option (Bool) :=
 Option.bind (loopC (ref04_Satisfied_l1 model_0 c_1) 0) (sumK (fun a : Bool => some a) fun q16 : Unit =>
 some false)
noncomputable def ref04_Satisfied_C : Con := ⟨[(.sl .bool), (.sl (.int .i64))], [.bool], fun (a : (List Bool) × (List Int)) => ref04_Satisfied_m a.1 a.2, [(false, [.own 0]), (false, [.d 1 0])], [.oa 0 (.d 0 0)], [(false, [.d 0 0])], [.same], 1, 1⟩
def ref04_Satisfied_H : Hints := ⟨[(0, ⟨[], ⟨[(.int .i64)], [(0, none), (1, none), (4, none), (5, some (false, [.d 0 0]))], [.keep], 0⟩, [], some ([], ⟨[], [(0, none), (4, none)], [.keep], 0⟩), true, none⟩)], [], [], [], []⟩
theorem ref04_Satisfied_ok [DrawMode] : ConFn prog 18 ref04_Satisfied_C := conFn_of (H := ref04_Satisfied_H) (fin := []) Tryz.func18 Tryz.call18 (tabL_ok (l := [(41, ref04_abs_C)]) ⟨ref04_abs_ok, trivial⟩) rfl rfl rfl (fun a => by kernel_rfl)

noncomputable def ref11_Valid_l1 (l_1 : (List Int)) (s7 : Int) : Option (Sum (Sum (Bool) (Unit)) (Int)) :=
 bif decide (s7 < ((l_1.length : Int))) then
 Option.bind (idxM l_1 s7) fun t8 =>
 bif decide (t8 < 1) then
 some (Sum.inl (Sum.inl false))
 else
 Option.bind (idxM l_1 s7) fun t9 =>
 bif decide (t9 > 3) then
 some (Sum.inl (Sum.inl false))
 else
 some (Sum.inr (iadd .i64 s7 1))
 else
 some (Sum.inl (Sum.inr (())))
noncomputable def ref11_Valid_m (g_0 : T_api_Graph) (l_1 : (List Int)) : Option (Bool) :=
 Option.bind (loopC (ref11_Valid_l1 l_1) 0) (sumK (fun a : Bool => some a) fun q10 : Unit =>
 some (((l_1.length : Int) : Int) == g_0.N))
noncomputable def ref11_Valid_C : Con := ⟨[(.st 1), (.sl (.int .i64))], [.bool], fun (a : T_api_Graph × (List Int)) => ref11_Valid_m a.1 a.2, [(true, [.d 0 0, .d 0 1]), (false, [.d 1 0])], [], [(false, [.d 0 0])], [], 0, 0⟩
def ref11_Valid_H : Hints := ⟨[(0, ⟨[], ⟨[(.int .i64)], [(1, none), (2, none), (4, none), (5, some (false, [.d 0 0]))], [.keep], 0⟩, [], some ([], ⟨[], [(1, none), (2, none), (4, none)], [.keep], 0⟩), true, none⟩)], [], [], [], []⟩
theorem ref11_Valid_ok [DrawMode] : ConFn prog 69 ref11_Valid_C := conFn_of (H := ref11_Valid_H) (fin := []) Tryz.func69 Tryz.call69 (tabL_ok (l := []) trivial) rfl rfl rfl (fun a => by kernel_rfl)

noncomputable def ref11_legal_l1 (l_1 : (List Int)) (all1 : ((List Int))) (s16 : Int × Int × Int) : Option (Sum (Int × Int) (Int × Int × Int)) :=
 bif decide (s16.2.2 < ((all1.length : Int))) then
 Option.bind (idxM all1 s16.2.2) fun t17 =>
 Option.bind (idxM l_1 t17) fun t18 =>
 bif (t18 : Int) == 1 then
 some (Sum.inr ((s16.1, iadd .i64 s16.2.1 1, iadd .i64 s16.2.2 1)))
 else
 bif (t18 : Int) == 2 then
 some (Sum.inr ((iadd .i64 s16.1 1, s16.2.1, iadd .i64 s16.2.2 1)))
 else
 some (Sum.inr ((s16.1, s16.2.1, iadd .i64 s16.2.2 1)))
 else
 some (Sum.inl ((s16.1, s16.2.1)))
noncomputable def ref11_legal_m (g_0 : T_api_Graph) (l_1 : (List Int)) (i_2 : Int) : Option (Bool) :=
 Option.bind (ref10_Attackers_m g_0 i_2) fun all1 =>
 Option.bind (loopC (ref11_legal_l1 l_1 all1) ((0, 0, 0))) fun q19 : Int × Int =>
 Option.bind (idxM l_1 i_2) fun t20 =>
 bif (t20 : Int) == 1 then
 some ((q19.1 : Int) == ((all1.length : Int)))
 else
 bif (t20 : Int) == 2 then
 some (decide (q19.2 > 0))
 else
 bif (q19.2 : Int) == 0 then
 some (decide (q19.1 < ((all1.length : Int))))
 else
 some false
noncomputable def ref11_legal_C : Con := ⟨[(.st 1), (.sl (.int .i64)), (.int .i64)], [.bool], fun (a : T_api_Graph × (List Int) × Int) => ref11_legal_m a.1 a.2.1 a.2.2, [(true, [.d 0 0, .d 0 1]), (false, [.d 1 0]), (false, [.d 2 0])], [], [(false, [.d 0 0])], [], 0, 0⟩
def ref11_legal_H : Hints := ⟨[(0, ⟨[], ⟨[(.int .i64), (.int .i64), (.int .i64)], [(1, none), (2, none), (6, none), (7, some (false, [.d 0 0])), (8, some (false, [.d 1 0])), (9, none), (10, some (false, [.d 2 0]))], [.dead, .keep], 0⟩, [], some ([], ⟨[(.int .i64), (.int .i64)], [(1, none), (2, none), (6, none), (7, some (false, [.d 0 0])), (8, some (false, [.d 1 0])), (9, none)], [.dead, .keep], 0⟩), false, none⟩)], [], [], [], []⟩
theorem ref11_legal_ok [DrawMode] : ConFn prog 93 ref11_legal_C := conFn_of (H := ref11_legal_H) (fin := []) Tryz.func93 Tryz.call93 (tabL_ok (l := [(39, ref10_Attackers_C)]) ⟨ref10_Attackers_ok, trivial⟩) rfl rfl rfl (fun a => by kernel_rfl)

noncomputable def ref11_Illegal_l1 (g_0 : T_api_Graph) (l_1 : (List Int)) (s12 : Int × (List Int)) : Option (Sum ((List Int)) (Int × (List Int))) :=
 bif decide (s12.1 < g_0.N) then
 Option.bind (ref11_legal_m g_0 l_1 s12.1) fun t13 =>
 bif !t13 then
 Option.bind (appM 8 s12.2 [s12.1]) fun out14 =>
 some (Sum.inr ((iadd .i64 s12.1 1, out14)))
 else
 some (Sum.inr ((iadd .i64 s12.1 1, s12.2)))
 else
 some (Sum.inl s12.2)
noncomputable def ref11_Illegal_m (g_0 : T_api_Graph) (l_1 : (List Int)) : Option ((List Int)) :=
 Option.bind (ref11_Valid_m g_0 l_1) fun t2 =>
 bif !t2 then
 some []
 else
 Option.bind (loopC (ref11_Illegal_l1 g_0 l_1) ((0, []))) fun q15 : (List Int) =>
 some q15
noncomputable def ref11_Illegal_C : Con := ⟨[(.st 1), (.sl (.int .i64))], [(.sl (.int .i64))], fun (a : T_api_Graph × (List Int)) => ref11_Illegal_m a.1 a.2, [(true, [.d 0 0, .d 0 1]), (false, [.d 1 0])], [], [(false, [.own 0])], [.oa 0 (.d 0 0)], 0, 1⟩
def ref11_Illegal_H : Hints := ⟨[(0, ⟨[.own (.int .i64) (.slot 5 0)], ⟨[(.int .i64), (.sl (.int .i64))], [(1, none), (2, none), (4, none), (5, some (false, [.own 2])), (6, some (false, [.d 0 0]))], [.keep, .dead, .oaN 0 (.d 1 0)], 1⟩, [], some ([], ⟨[(.sl (.int .i64))], [(4, none), (5, some (false, [.own 2]))], [.dead, .dead, .oaN 0 (.d 0 0)], 1⟩), false, none⟩)], [], [], [], []⟩
theorem ref11_Illegal_ok [DrawMode] : ConFn prog 70 ref11_Illegal_C := conFn_of (H := ref11_Illegal_H) (fin := [.own (.int .i64) (.slot 4 0)]) Tryz.func70 Tryz.call70 (tabL_ok (l := [(69, ref11_Valid_C), (93, ref11_legal_C)]) ⟨ref11_Valid_ok, ref11_legal_ok, trivial⟩) rfl rfl rfl (fun a => by kernel_rfl)

noncomputable def ref11_IsComplete_m (g_0 : T_api_Graph) (l_1 : (List Int)) : Option (Bool) :=
 Option.bind (ref11_Valid_m g_0 l_1) fun t1 =>
 bif t1 then
 Option.bind (ref11_Illegal_m g_0 l_1) fun t2 =>
 some (((t2.length : Int) : Int) == 0)
 else
 some false
noncomputable def ref11_IsComplete_C : Con := ⟨[(.st 1), (.sl (.int .i64))], [.bool], fun (a : T_api_Graph × (List Int)) => ref11_IsComplete_m a.1 a.2, [(true, [.d 0 0, .d 0 1]), (false, [.d 1 0])], [], [(false, [.d 0 0])], [], 0, 0⟩
def ref11_IsComplete_H : Hints := ⟨[], [], [], [], []⟩
theorem ref11_IsComplete_ok [DrawMode] : ConFn prog 42 ref11_IsComplete_C := conFn_of (H := ref11_IsComplete_H) (fin := []) Tryz.func42 Tryz.call42 (tabL_ok (l := [(69, ref11_Valid_C), (70, ref11_Illegal_C)]) ⟨ref11_Valid_ok, ref11_Illegal_ok, trivial⟩) rfl rfl rfl (fun a => by kernel_rfl)

noncomputable def ref11_In_l1 (l_0 : (List Int)) (x_1 : Int) (s5 : Int) : Option (Sum (Sum (Bool) (Unit)) (Int)) :=
 bif decide (s5 < ((l_0.length : Int))) then
 Option.bind (idxM l_0 s5) fun t6 =>
 bif (t6 : Int) == x_1 then
 some (Sum.inl (Sum.inl true))
 else
 some (Sum.inr (iadd .i64 s5 1))
 else
 some (Sum.inl (Sum.inr (())))
noncomputable def ref11_In_m (l_0 : (List Int)) (x_1 : Int) : Option (Bool) :=
 Option.bind (loopC (ref11_In_l1 l_0 x_1) 0) (sumK (fun a : Bool => some a) fun q7 : Unit =>
 some false)
noncomputable def ref11_In_C : Con := ⟨[(.sl (.int .i64)), (.int .i64)], [.bool], fun (a : (List Int) × Int) => ref11_In_m a.1 a.2, [(false, [.d 0 0]), (false, [.d 1 0])], [], [(false, [.d 0 0])], [], 0, 0⟩
def ref11_In_H : Hints := ⟨[(0, ⟨[], ⟨[(.int .i64)], [(0, none), (1, none), (4, none), (5, some (false, [.d 0 0]))], [], 0⟩, [], some ([], ⟨[], [(4, none)], [], 0⟩), true, none⟩)], [], [], [], []⟩
theorem ref11_In_ok [DrawMode] : ConFn prog 43 ref11_In_C := conFn_of (H := ref11_In_H) (fin := []) Tryz.func43 Tryz.call43 (tabL_ok (l := []) trivial) rfl rfl rfl (fun a => by kernel_rfl)

noncomputable def ref18_For_m (g_0 : T_api_Graph) (question_1 : Int) (n_2 : Int) (l_3 : (List Int)) : Option (Bool) :=
 joinM (fun j4 : Unit =>
 Option.bind (idxM l_3 n_2) fun t5 =>
 some (((t5 : Int) == 1) == ((question_1 : Int) != 3))) fun k3 =>
 Option.bind (ref11_IsComplete_m g_0 l_3) fun t6 =>
 bif !t6 then
 some false
 else
 bif (question_1 : Int) != 1 then
 Option.bind (ref11_In_m l_3 3) fun t7 =>
 bif t7 then
 some false
 else
 k3 (())
 else
 k3 (())
noncomputable def ref18_For_C : Con := ⟨[(.st 1), (.int .i64), (.int .i64), (.sl (.int .i64))], [.bool], fun (a : T_api_Graph × Int × Int × (List Int)) => ref18_For_m a.1 a.2.1 a.2.2.1 a.2.2.2, [(true, [.d 0 0, .d 0 1]), (false, [.d 1 0]), (false, [.d 2 0]), (false, [.d 3 0])], [], [(false, [.d 0 0])], [], 0, 0⟩
def ref18_For_H : Hints := ⟨[], [(8, ([], ⟨[], [(1, none), (2, none), (3, none), (8, none)], [.dead], 0⟩))], [], [], []⟩
theorem ref18_For_ok [DrawMode] : ConFn prog 19 ref18_For_C := conFn_of (H := ref18_For_H) (fin := []) Tryz.func19 Tryz.call19 (tabL_ok (l := [(42, ref11_IsComplete_C), (43, ref11_In_C)]) ⟨ref11_IsComplete_ok, ref11_In_ok, trivial⟩) rfl rfl rfl (fun a => by kernel_rfl)

noncomputable def law18_VerdictModels_l1 (t2 : (T_api_Graph × T_deliberationkeep_Src)) (t674 : (List Int)) (s698 : Int × (List Bool)) : Option (Sum ((List Bool)) (Int × (List Bool))) :=
 bif decide (s698.1 < ((t674.length : Int))) then
 Option.bind (idxM t674 s698.1) fun t699 =>
 Option.bind (idxM t674 s698.1) fun t700 =>
 Option.bind (idxM s698.2 s698.1) fun t701 =>
 Option.bind (idxM (s698.2.set (Int.toNat s698.1) ((t699 : Int) == 1)) (iadd .i64 t2.1.N s698.1)) fun t702 =>
 some (Sum.inr ((iadd .i64 s698.1 1, (s698.2.set (Int.toNat s698.1) ((t699 : Int) == 1)).set (Int.toNat (iadd .i64 t2.1.N s698.1)) ((t700 : Int) == 2))))
 else
 some (Sum.inl s698.2)
noncomputable def law18_VerdictModels_l2 (t581 : (Int × Int × (List (List Int)))) (q703 : (List Bool)) (s718 : Bool × Int) : Option (Sum (Bool) (Bool × Int)) :=
 bif decide (s718.2 < ((t581.2.2.length : Int))) then
 bif s718.1 then
 Option.bind (idxM t581.2.2 s718.2) fun t719 =>
 Option.bind (ref04_Satisfied_m q703 t719) fun good720 =>
 some (Sum.inr ((good720, iadd .i64 s718.2 1)))
 else
 some (Sum.inl s718.1)
 else
 some (Sum.inl s718.1)
noncomputable def law18_VerdictModels_l3 (t2 : (T_api_Graph × T_deliberationkeep_Src)) (s389 : Int) (s580 : Int) (t581 : (Int × Int × (List (List Int)))) (t584 : ((List (List Int)))) (s673 : Int) : Option (Sum (Sum (Bool) (Unit)) (Int)) :=
 bif decide (s673 < ((t584.length : Int))) then
 Option.bind (idxM t584 s673) fun t674 =>
 Option.bind (mkM 1 false t581.1) fun model675 =>
 Option.bind (loopC (law18_VerdictModels_l1 t2 t674) ((0, model675))) fun q703 : (List Bool) =>
 Option.bind (loopC (law18_VerdictModels_l2 t581 q703) ((true, 0))) fun q721 : Bool =>
 Option.bind (ref18_For_m t2.1 s580 s389 t674) fun t722 =>
 bif !(q721 == t722) then
 some (Sum.inl (Sum.inl false))
 else
 some (Sum.inr (iadd .i64 s673 1))
 else
 some (Sum.inl (Sum.inr (())))
noncomputable def law18_VerdictModels_l4 (t2 : (T_api_Graph × T_deliberationkeep_Src)) (s389 : Int) (s580 : Int) : Option (Sum (Sum (Bool) (Unit)) (Int)) :=
 bif decide (s580 ≤ 3) then
 Option.bind (verdict_Encode_m t2.1 s580 s389) fun t581 =>
 bif (t581.2.1 : Int) != 0 then
 some (Sum.inl (Sum.inl false))
 else
 bif (t581.1 : Int) != (imul .i64 2 t2.1.N) then
 some (Sum.inl (Sum.inl false))
 else
 Option.bind (ref04_Validate_m t581.1 t581.2.2) fun t583 =>
 bif (t583 : Int) != 0 then
 some (Sum.inl (Sum.inl false))
 else
 Option.bind (ref11_Labellings_m t2.1.N) fun t584 =>
 Option.bind (loopC (law18_VerdictModels_l3 t2 s389 s580 t581 t584) 0) (sumK (fun a : Bool => some (Sum.inl (Sum.inl a))) fun q723 : Unit =>
 some (Sum.inr (iadd .i64 s580 1)))
 else
 some (Sum.inl (Sum.inr (())))
noncomputable def law18_VerdictModels_l5 (t2 : (T_api_Graph × T_deliberationkeep_Src)) (s389 : Int) : Option (Sum (Sum (Bool) (Unit)) (Int)) :=
 bif decide (s389 < t2.1.N) then
 Option.bind (loopC (law18_VerdictModels_l4 t2 s389) 1) (sumK (fun a : Bool => some (Sum.inl (Sum.inl a))) fun q724 : Unit =>
 some (Sum.inr (iadd .i64 s389 1)))
 else
 some (Sum.inl (Sum.inr (())))
noncomputable def law18_VerdictModels_m (l_0 : (List Int)) : Option (Bool) :=
 Option.bind (keep_New_m l_0) fun s1 =>
 Option.bind (keep_Src_Graph_m ((T_deliberationkeep_Src.mk s1.1 s1.2)) 5) fun t2 =>
 Option.bind (loopC (law18_VerdictModels_l5 t2) 0) (sumK (fun a : Bool => some a) fun q725 : Unit =>
 Option.bind (law18_awake_m) fun t726 =>
 some t726)
noncomputable def law18_VerdictModels_C : Con := ⟨[(.sl (.int .i64))], [.bool], fun (a : (List Int)) => law18_VerdictModels_m a, [(false, [.d 0 0])], [], [(false, [.d 0 0])], [], 0, 0⟩
def law18_VerdictModels_H : Hints := ⟨[(0, ⟨[], ⟨[(.int .i64)], [(2, none), (4, none), (5, some (false, [.d 0 0]))], [.dead, .keep], 0⟩, [], some ([], ⟨[], [(2, none)], [.dead, .dead], 0⟩), true, none⟩), (2, ⟨[], ⟨[(.int .i64)], [(2, none), (4, none), (5, none), (6, some (false, [.d 0 0]))], [.dead, .keep], 0⟩, [], some ([], ⟨[], [(2, none), (4, none), (5, none)], [.dead, .keep], 0⟩), true, none⟩), (4, ⟨[], ⟨[(.int .i64)], [(2, none), (4, none), (5, none), (6, none), (7, none), (8, none), (41, none), (42, none), (43, none), (44, none), (45, none), (48, none), (49, none), (50, none), (51, none), (55, none), (56, none), (57, some (false, [.d 0 0]))], [.dead, .keep, .keep], 0⟩, [], some ([], ⟨[], [(2, none), (4, none), (5, none), (6, none), (41, none), (42, none), (43, none), (44, none), (45, none), (48, none), (49, none), (50, none), (51, none)], [.dead, .keep, .keep], 0⟩), true, none⟩), (6, ⟨[], ⟨[(.int .i64), (.sl .bool)], [(2, none), (4, none), (5, none), (6, none), (7, none), (8, none), (11, none), (12, none), (41, none), (42, none), (43, none), (44, none), (45, none), (48, none), (49, none), (50, none), (51, none), (55, none), (56, none), (57, none), (64, none), (65, some (false, [.d 0 0]))], [.dead, .keep, .keep, .data (.d 1 0)], 0⟩, [], some ([], ⟨[(.sl .bool)], [(2, none), (4, none), (5, none), (6, none), (7, none), (8, none), (11, none), (12, none), (41, none), (42, none), (43, none), (44, none), (45, none), (48, none), (49, none), (50, none), (51, none), (55, none), (56, none), (57, none)], [.dead, .keep, .keep, .data (.d 0 0)], 0⟩), false, none⟩), (8, ⟨[], ⟨[.bool, (.int .i64)], [(2, none), (4, none), (5, none), (6, none), (7, none), (8, none), (11, none), (12, none), (14, some (false, [.d 0 0])), (15, some (false, [.d 1 0])), (41, none), (42, none), (43, none), (44, none), (45, none), (48, none), (49, none), (50, none), (51, none), (55, none), (56, none), (57, none)], [.dead, .keep, .keep, .keep], 0⟩, [], some ([], ⟨[.bool], [(2, none), (4, none), (5, none), (6, none), (7, none), (8, none), (11, none), (14, some (false, [.d 0 0])), (41, none), (42, none), (43, none), (44, none), (45, none), (48, none), (49, none), (50, none), (51, none), (55, none), (56, none), (57, none)], [.dead, .keep, .keep, .dead], 0⟩), false, none⟩)], [], [], [], []⟩
theorem law18_VerdictModels_ok : ConFn prog 4 law18_VerdictModels_C := conFn_of (H := law18_VerdictModels_H) (fin := []) Tryz.func4 Tryz.call4 (tabL_ok (l := [(16, ref04_Validate_C), (18, ref04_Satisfied_C), (8, keep_New_C), (9, keep_Src_Graph_C), (12, verdict_Encode_C), (17, ref11_Labellings_C), (19, ref18_For_C), (15, law18_awake_C)]) ⟨ref04_Validate_ok, ref04_Satisfied_ok, keep_New_ok, keep_Src_Graph_ok, verdict_Encode_ok, ref11_Labellings_ok, ref18_For_ok, law18_awake_ok, trivial⟩) rfl rfl rfl (fun a => by kernel_rfl)

end Go.Dc
