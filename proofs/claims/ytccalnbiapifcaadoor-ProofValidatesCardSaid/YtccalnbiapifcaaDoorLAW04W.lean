/- Part LAW04.W of a proof: lemmas. -/
import Derived.Test.YtccalnbiapifcaaDoorDcCpt
import Derived.Test.YtccalnbiapifcaaDoorProg
import Derived.Test.YtccalnbiapifcaaDoorLAW04Key
set_option linter.unusedVariables false
set_option linter.unusedSectionVars false
set_option maxRecDepth 100000
set_option maxHeartbeats 4000000
namespace Go.Dc
open Go.Proofs
open Go.Proofs.Tryd (prog)
open Go.RowKit Go.Sort Go.Shelf
instance chMode : DrawMode := ⟨False, [(0, (Lib.pow10Tab.map fun z => Value.int .u64 z).toArray)]⟩
structure T_deliberationkeep_Src where
  L : (List Int)
  At : Int
  deriving DecidableEq, Inhabited
def rT_deliberationkeep_Src : Rep T_deliberationkeep_Src := rSt [⟨(rSl (rI .i64)), T_deliberationkeep_Src.L⟩, ⟨(rI .i64), T_deliberationkeep_Src.At⟩]
structure T_api_Step where
  Left : Int
  Right : Int
  Pivot : Int
  deriving DecidableEq, Inhabited
def rT_api_Step : Rep T_api_Step := rSt [⟨(rI .i64), T_api_Step.Left⟩, ⟨(rI .i64), T_api_Step.Right⟩, ⟨(rI .i64), T_api_Step.Pivot⟩]
structure T_api_Answer where
  Sat : Bool
  Model : (List Bool)
  Steps : (List T_api_Step)
  deriving DecidableEq, Inhabited
def rT_api_Answer : Rep T_api_Answer := rSt [⟨rB, T_api_Answer.Sat⟩, ⟨(rSl rB), T_api_Answer.Model⟩, ⟨(rSl rT_api_Step), T_api_Answer.Steps⟩]
def den_ : Nat → Type
  | 0 => T_deliberationkeep_Src
  | 1 => T_api_Step
  | 2 => T_api_Answer
  | _ + 3 => Unit
instance tabS : SDen := ⟨den_⟩
def rep_ : (n : Nat) → Rep (den_ n)
  | 0 => rT_deliberationkeep_Src
  | 1 => rT_api_Step
  | 2 => rT_api_Answer
  | _ + 3 => rSt []
theorem agg_ : ∀ n, (rep_ n).agg = true
  | 0 => rfl
  | 1 => rfl
  | 2 => rfl
  | _ + 3 => rfl
instance tabR : SRep := { tabS with rep := rep_, agg := agg_ }
def split_0 (x : T_deliberationkeep_Src) : List Dyn := [⟨(.sl (.int .i64)), x.L⟩, ⟨(.int .i64), x.At⟩]
def join_0 (l : List Dyn) : Option T_deliberationkeep_Src := match l with
  | [D0, D1] => (D0.as (.sl (.int .i64))).bind fun a0 => (D1.as (.int .i64)).bind fun a1 => some (T_deliberationkeep_Src.mk a0 a1)
  | _ => none
theorem join_0_ok {l : List Dyn} {x : T_deliberationkeep_Src} (h : join_0 l = some x) : split_0 x = l := by
  unfold join_0 at h
  split at h
  · obtain ⟨a0, h0, h⟩ := Option.bind_eq_some_iff.1 h
    obtain ⟨a1, h1, h⟩ := Option.bind_eq_some_iff.1 h
    cases h
    rw [Dyn.as_ok h0, Dyn.as_ok h1]
    rfl
  · cases h
def split_1 (x : T_api_Step) : List Dyn := [⟨(.int .i64), x.Left⟩, ⟨(.int .i64), x.Right⟩, ⟨(.int .i64), x.Pivot⟩]
def join_1 (l : List Dyn) : Option T_api_Step := match l with
  | [D0, D1, D2] => (D0.as (.int .i64)).bind fun a0 => (D1.as (.int .i64)).bind fun a1 => (D2.as (.int .i64)).bind fun a2 => some (T_api_Step.mk a0 a1 a2)
  | _ => none
theorem join_1_ok {l : List Dyn} {x : T_api_Step} (h : join_1 l = some x) : split_1 x = l := by
  unfold join_1 at h
  split at h
  · obtain ⟨a0, h0, h⟩ := Option.bind_eq_some_iff.1 h
    obtain ⟨a1, h1, h⟩ := Option.bind_eq_some_iff.1 h
    obtain ⟨a2, h2, h⟩ := Option.bind_eq_some_iff.1 h
    cases h
    rw [Dyn.as_ok h0, Dyn.as_ok h1, Dyn.as_ok h2]
    rfl
  · cases h
def split_2 (x : T_api_Answer) : List Dyn := [⟨.bool, x.Sat⟩, ⟨(.sl .bool), x.Model⟩, ⟨(.sl (.st 1)), x.Steps⟩]
def join_2 (l : List Dyn) : Option T_api_Answer := match l with
  | [D0, D1, D2] => (D0.as .bool).bind fun a0 => (D1.as (.sl .bool)).bind fun a1 => (D2.as (.sl (.st 1))).bind fun a2 => some (T_api_Answer.mk a0 a1 a2)
  | _ => none
theorem join_2_ok {l : List Dyn} {x : T_api_Answer} (h : join_2 l = some x) : split_2 x = l := by
  unfold join_2 at h
  split at h
  · obtain ⟨a0, h0, h⟩ := Option.bind_eq_some_iff.1 h
    obtain ⟨a1, h1, h⟩ := Option.bind_eq_some_iff.1 h
    obtain ⟨a2, h2, h⟩ := Option.bind_eq_some_iff.1 h
    cases h
    rw [Dyn.as_ok h0, Dyn.as_ok h1, Dyn.as_ok h2]
    rfl
  · cases h
def splitT : (n : Nat) → den_ n → List Dyn
  | 0, x => split_0 x
  | 1, x => split_1 x
  | 2, x => split_2 x
  | _ + 3, _ => []
def joinT : (n : Nat) → List Dyn → Option (den_ n)
  | 0, l => join_0 l
  | 1, l => join_1 l
  | 2, l => join_2 l
  | _ + 3, _ => none
def ftsT : Nat → List Ty
  | 0 => [(.sl (.int .i64)), (.int .i64)]
  | 1 => [(.int .i64), (.int .i64), (.int .i64)]
  | 2 => [.bool, (.sl .bool), (.sl (.st 1))]
  | _ + 3 => []
def fldT : (n f : Nat) → den_ n → Option (Nat × Dyn)
  | 0, 0, x => some (0, ⟨(.sl (.int .i64)), x.L⟩)
  | 0, 1, x => some (1, ⟨(.int .i64), x.At⟩)
  | 0, _ + 2, _ => none
  | 1, 0, x => some (0, ⟨(.int .i64), x.Left⟩)
  | 1, 1, x => some (1, ⟨(.int .i64), x.Right⟩)
  | 1, 2, x => some (2, ⟨(.int .i64), x.Pivot⟩)
  | 1, _ + 3, _ => none
  | 2, 0, x => some (0, ⟨.bool, x.Sat⟩)
  | 2, 1, x => some (1, ⟨(.sl .bool), x.Model⟩)
  | 2, 2, x => some (2, ⟨(.sl (.st 1)), x.Steps⟩)
  | 2, _ + 3, _ => none
  | _ + 3, _, _ => none
theorem fldT_ok : ∀ (n f : Nat) (x : den_ n) (off : Nat) (D : Dyn), fldT n f x = some (off, D) → (((rep_ n).cp x).drop off).take D.t.rep.size = D.t.rep.cp D.d ∧ off + D.t.rep.size ≤ (rep_ n).size
  | 0, 0, x, _, _, h => by cases h; exact ⟨rfl, Nat.le_of_ble_eq_true rfl⟩
  | 0, 1, x, _, _, h => by cases h; exact ⟨rfl, Nat.le_of_ble_eq_true rfl⟩
  | 0, _ + 2, x, _, _, h => by cases h
  | 1, 0, x, _, _, h => by cases h; exact ⟨rfl, Nat.le_of_ble_eq_true rfl⟩
  | 1, 1, x, _, _, h => by cases h; exact ⟨rfl, Nat.le_of_ble_eq_true rfl⟩
  | 1, 2, x, _, _, h => by cases h; exact ⟨rfl, Nat.le_of_ble_eq_true rfl⟩
  | 1, _ + 3, x, _, _, h => by cases h
  | 2, 0, x, _, _, h => by cases h; exact ⟨rfl, Nat.le_of_ble_eq_true rfl⟩
  | 2, 1, x, _, _, h => by cases h; exact ⟨rfl, Nat.le_of_ble_eq_true rfl⟩
  | 2, 2, x, _, _, h => by cases h; exact ⟨rfl, Nat.le_of_ble_eq_true rfl⟩
  | 2, _ + 3, x, _, _, h => by cases h
  | _ + 3, _, x, _, _, h => by cases h
def deqT : (n : Nat) → DecidableEq (den_ n)
  | 0 => inferInstanceAs (DecidableEq T_deliberationkeep_Src)
  | 1 => inferInstanceAs (DecidableEq T_api_Step)
  | 2 => inferInstanceAs (DecidableEq T_api_Answer)
  | _ + 3 => inferInstanceAs (DecidableEq Unit)
theorem split_okT : ∀ (n : Nat) (x : den_ n), (rep_ n).cp x = (splitT n x).map Dyn.rp
  | 0, x => rfl
  | 1, x => rfl
  | 2, x => rfl
  | _ + 3, x => rfl
theorem split_oneT : ∀ (n : Nat) (x : den_ n), ∀ D ∈ splitT n x, D.t.one = true
  | 0, x, D, h => all_at (l := split_0 x) rfl h
  | 1, x, D, h => all_at (l := split_1 x) rfl h
  | 2, x, D, h => all_at (l := split_2 x) rfl h
  | _ + 3, x, D, h => by cases h
theorem join_okT : ∀ (n : Nat) (l : List Dyn) (x : den_ n), joinT n l = some x → splitT n x = l
  | 0, l, x, h => join_0_ok h
  | 1, l, x, h => join_1_ok h
  | 2, l, x, h => join_2_ok h
  | _ + 3, l, x, h => by cases h
instance tabP : PTab prog := { tabR with
  code := lkC [(45, 2), (46, 2), (54, 0), (55, 0), (59, 1), (60, 1)], split := splitT, split_ok := split_okT, split_one := split_oneT, join := joinT, join_ok' := join_okT, fts := ftsT, fld := fldT, fld_ok := fldT_ok, deq := deqT, eqs := fun _ _ => false, eqs_ok := fun _ _ h => by cases h }
noncomputable def keep_SmallLists_l1 (l_0 : (List (List Int))) (most_1 : Int) (s5 : Int) : Option (Sum (Sum (Bool) (Unit)) (Int)) :=
 bif decide (s5 < ((l_0.length : Int))) then
 Option.bind (idxM l_0 s5) fun t6 =>
 bif decide (((t6.length : Int)) > most_1) then
 some (Sum.inl (Sum.inl false))
 else
 some (Sum.inr (iadd .i64 s5 1))
 else
 some (Sum.inl (Sum.inr (())))
noncomputable def keep_SmallLists_m (l_0 : (List (List Int))) (most_1 : Int) : Option (Bool) :=
 Option.bind (loopC (keep_SmallLists_l1 l_0 most_1) 0) (sumK (fun a : Bool => some a) fun q7 : Unit =>
 some (decide (((l_0.length : Int)) ≤ most_1)))
noncomputable def keep_SmallLists_C : Con := ⟨[(.sl (.sl (.int .i64))), (.int .i64)], [.bool], fun (a : (List (List Int)) × Int) => keep_SmallLists_m a.1 a.2, [(false, [.d 0 0]), (false, [.d 1 0])], [], [(false, [.d 0 0])], [], 0, 0⟩
def keep_SmallLists_H : Hints := ⟨[(0, ⟨[], ⟨[(.int .i64)], [(0, none), (1, none), (4, none), (7, none), (8, some (false, [.d 0 0]))], [], 0⟩, [], some ([], ⟨[], [(0, none), (1, none), (4, none)], [], 0⟩), true, none⟩)], [], [], [], []⟩
theorem keep_SmallLists_ok [DrawMode] : ConFn prog 9 keep_SmallLists_C := conFn_of (H := keep_SmallLists_H) (fin := []) Tryd.func9 Tryd.call9 (tabL_ok (l := []) trivial) rfl rfl rfl (fun a => by kernel_rfl)

noncomputable def keep_New_m (l_0 : (List Int)) : Option ((List Int) × Int) :=
 Option.bind (slM l_0 0 (imin ((l_0.length : Int)) 2000)) fun t1 =>
 some ((t1, 0))
noncomputable def keep_New_C : Con := ⟨[(.sl (.int .i64))], [(.sl (.int .i64)), (.int .i64)], fun (a : (List Int)) => keep_New_m a, [(false, [.d 0 0])], [], [(false, [.ptr 0])], [.oc 0 [.d 0 0, .d 1 0]], 0, 1⟩
def keep_New_H : Hints := ⟨[], [], [], [], []⟩
theorem keep_New_ok [DrawMode] : ConFn prog 10 keep_New_C := conFn_of (H := keep_New_H) (fin := []) Tryd.func10 Tryd.call10 (tabL_ok (l := []) trivial) rfl rfl rfl (fun a => by kernel_rfl)

noncomputable def keep_Src_Raw_m (s_0 : T_deliberationkeep_Src) : Option (Int × T_deliberationkeep_Src) :=
 bif decide (s_0.At ≥ ((s_0.L.length : Int))) then
 some ((0, s_0))
 else
 Option.bind (idxM s_0.L (isub .i64 (iadd .i64 s_0.At 1) 1)) fun t1 =>
 some ((t1, (T_deliberationkeep_Src.mk s_0.L (iadd .i64 s_0.At 1))))
noncomputable def keep_Src_Raw_C : Con := ⟨[(.st 0)], [(.int .i64), (.st 0)], fun (a : T_deliberationkeep_Src) => keep_Src_Raw_m a, [(false, [.ptr 0])], [.oc 0 [.d 0 0, .d 0 1]], [(false, [.d 0 0])], [.oc 0 [.d 1 0, .d 1 1]], 1, 1⟩
def keep_Src_Raw_H : Hints := ⟨[], [], [], [], []⟩
theorem keep_Src_Raw_ok [DrawMode] : ConFn prog 29 keep_Src_Raw_C := conFn_of (H := keep_Src_Raw_H) (fin := []) Tryd.func29 Tryd.call29 (tabL_ok (l := []) trivial) rfl rfl rfl (fun a => by kernel_rfl)

noncomputable def keep_Mod_m (x_0 : Int) (n_1 : Int) : Option (Int) :=
 bif decide (n_1 < 1) then
 some 0
 else
 Option.bind (iremM .i64 x_0 n_1) fun x1 =>
 bif decide (x1 < 0) then
 some (iadd .i64 x1 n_1)
 else
 some x1
noncomputable def keep_Mod_C : Con := ⟨[(.int .i64), (.int .i64)], [(.int .i64)], fun (a : Int × Int) => keep_Mod_m a.1 a.2, [(false, [.d 0 0]), (false, [.d 1 0])], [], [(false, [.d 0 0])], [], 0, 0⟩
def keep_Mod_H : Hints := ⟨[], [], [], [], []⟩
theorem keep_Mod_ok [DrawMode] : ConFn prog 28 keep_Mod_C := conFn_of (H := keep_Mod_H) (fin := []) Tryd.func28 Tryd.call28 (tabL_ok (l := []) trivial) rfl rfl rfl (fun a => by kernel_rfl)

noncomputable def keep_Src_N_m (s_0 : T_deliberationkeep_Src) (n_1 : Int) : Option (Int × T_deliberationkeep_Src) :=
 Option.bind (keep_Src_Raw_m s_0) fun t1 =>
 Option.bind (keep_Mod_m t1.1 n_1) fun t2 =>
 some ((t2, t1.2))
noncomputable def keep_Src_N_C : Con := ⟨[(.st 0), (.int .i64)], [(.int .i64), (.st 0)], fun (a : T_deliberationkeep_Src × Int) => keep_Src_N_m a.1 a.2, [(false, [.ptr 0]), (false, [.d 1 0])], [.oc 0 [.d 0 0, .d 0 1]], [(false, [.d 0 0])], [.oc 0 [.d 1 0, .d 1 1]], 1, 1⟩
def keep_Src_N_H : Hints := ⟨[], [], [], [], []⟩
theorem keep_Src_N_ok [DrawMode] : ConFn prog 11 keep_Src_N_C := conFn_of (H := keep_Src_N_H) (fin := []) Tryd.func11 Tryd.call11 (tabL_ok (l := [(29, keep_Src_Raw_C), (28, keep_Mod_C)]) ⟨keep_Src_Raw_ok, keep_Mod_ok, trivial⟩) rfl rfl rfl (fun a => by kernel_rfl)

noncomputable def keep_Src_Clause_l1 (n_1 : Int) (s14 : Int × Int × (List Int) × Int × (List Int)) : Option (Sum ((List Int) × Int × (List Int)) (Int × Int × (List Int) × Int × (List Int))) :=
 bif decide (s14.2.1 ≥ 0) then
 bif decide (s14.1 < n_1) then
 Option.bind (keep_Src_N_m ((T_deliberationkeep_Src.mk s14.2.2.1 s14.2.2.2.1)) 3) fun t15 =>
 bif decide ((iadd .i64 s14.1 (iadd .i64 1 t15.1)) > n_1) then
 some (Sum.inl ((t15.2.L, t15.2.At, s14.2.2.2.2)))
 else
 Option.bind (keep_Src_N_m t15.2 2) fun t16 =>
 Option.bind (appM 8 s14.2.2.2.2 [imul .i64 (iadd .i64 s14.1 (iadd .i64 1 t15.1)) (isub .i64 1 (imul .i64 2 t16.1))]) fun out17 =>
 some (Sum.inr ((iadd .i64 s14.1 (iadd .i64 1 t15.1), isub .i64 s14.2.1 1, t16.2.L, t16.2.At, out17)))
 else
 some (Sum.inl ((s14.2.2.1, s14.2.2.2.1, s14.2.2.2.2)))
 else
 some (Sum.inl ((s14.2.2.1, s14.2.2.2.1, s14.2.2.2.2)))
noncomputable def keep_Src_Clause_m (s_0 : T_deliberationkeep_Src) (n_1 : Int) : Option (T_deliberationkeep_Src × (List Int)) :=
 Option.bind (keep_Src_N_m s_0 4) fun k1 =>
 Option.bind (loopC (keep_Src_Clause_l1 n_1) ((0, k1.1, k1.2.L, k1.2.At, []))) fun q18 : (List Int) × Int × (List Int) =>
 some (((T_deliberationkeep_Src.mk q18.1 q18.2.1), q18.2.2))
noncomputable def keep_Src_Clause_C : Con := ⟨[(.st 0), (.int .i64)], [(.st 0), (.sl (.int .i64))], fun (a : T_deliberationkeep_Src × Int) => keep_Src_Clause_m a.1 a.2, [(false, [.ptr 0]), (false, [.d 1 0])], [.oc 0 [.d 0 0, .d 0 1]], [(false, [.own 1])], [.oc 0 [.d 0 0, .d 0 1], .oa 1 (.d 1 0)], 1, 2⟩
def keep_Src_Clause_H : Hints := ⟨[(0, ⟨[.own (.int .i64) (.slot 5 0)], ⟨[(.int .i64), (.int .i64), (.sl (.int .i64)), (.int .i64), (.sl (.int .i64))], [(0, none), (1, none), (4, none), (5, some (false, [.own 2])), (6, some (false, [.d 0 0])), (7, some (false, [.d 1 0]))], [.cells [some (.d 2 0), some (.d 3 0)], .dead, .oaN 0 (.d 4 0)], 1⟩, [], some ([], ⟨[(.sl (.int .i64)), (.int .i64), (.sl (.int .i64))], [(0, none), (4, none), (5, some (false, [.own 2]))], [.cells [some (.d 0 0), some (.d 1 0)], .dead, .oaN 0 (.d 2 0)], 1⟩), false, none⟩)], [], [], [], []⟩
theorem keep_Src_Clause_ok [DrawMode] : ConFn prog 18 keep_Src_Clause_C := conFn_of (H := keep_Src_Clause_H) (fin := []) Tryd.func18 Tryd.call18 (tabL_ok (l := [(11, keep_Src_N_C)]) ⟨keep_Src_N_ok, trivial⟩) rfl rfl rfl (fun a => by kernel_rfl)

noncomputable def keep_Src_Clauses_l1 (n_2 : Int) (s17 : Int × (List Int) × Int × (List (List Int))) : Option (Sum ((List Int) × Int × (List (List Int))) (Int × (List Int) × Int × (List (List Int)))) :=
 bif decide (s17.1 > 0) then
 Option.bind (keep_Src_Clause_m ((T_deliberationkeep_Src.mk s17.2.1 s17.2.2.1)) n_2) fun c18 =>
 bif decide (((c18.2.length : Int)) > 0) then
 Option.bind (appM 24 s17.2.2.2 [c18.2]) fun out19 =>
 some (Sum.inr ((isub .i64 s17.1 1, c18.1.L, c18.1.At, out19)))
 else
 Option.bind (keep_Src_N_m c18.1 8) fun t20 =>
 bif (t20.1 : Int) == 7 then
 Option.bind (appM 24 s17.2.2.2 [c18.2]) fun out21 =>
 some (Sum.inr ((isub .i64 s17.1 1, t20.2.L, t20.2.At, out21)))
 else
 some (Sum.inr ((isub .i64 s17.1 1, t20.2.L, t20.2.At, s17.2.2.2)))
 else
 some (Sum.inl ((s17.2.1, s17.2.2.1, s17.2.2.2)))
noncomputable def keep_Src_Clauses_m (s_0 : T_deliberationkeep_Src) (most_1 : Int) (n_2 : Int) : Option (T_deliberationkeep_Src × (List (List Int))) :=
 Option.bind (keep_Src_N_m s_0 (iadd .i64 most_1 1)) fun k1 =>
 Option.bind (loopC (keep_Src_Clauses_l1 n_2) ((k1.1, k1.2.L, k1.2.At, []))) fun q22 : (List Int) × Int × (List (List Int)) =>
 some (((T_deliberationkeep_Src.mk q22.1 q22.2.1), q22.2.2))
noncomputable def keep_Src_Clauses_C : Con := ⟨[(.st 0), (.int .i64), (.int .i64)], [(.st 0), (.sl (.sl (.int .i64)))], fun (a : T_deliberationkeep_Src × Int × Int) => keep_Src_Clauses_m a.1 a.2.1 a.2.2, [(false, [.ptr 0]), (false, [.d 1 0]), (false, [.d 2 0])], [.oc 0 [.d 0 0, .d 0 1]], [(false, [.own 1])], [.oc 0 [.d 0 0, .d 0 1], .oa 1 (.d 1 0)], 1, 2⟩
def keep_Src_Clauses_H : Hints := ⟨[(0, ⟨[.own (.sl (.int .i64)) (.slot 7 0)], ⟨[(.int .i64), (.sl (.int .i64)), (.int .i64), (.sl (.sl (.int .i64)))], [(0, none), (2, none), (6, none), (7, some (false, [.own 2])), (8, some (false, [.d 0 0]))], [.cells [some (.d 1 0), some (.d 2 0)], .dead, .oaN 0 (.d 3 0)], 1⟩, [], some ([], ⟨[(.sl (.int .i64)), (.int .i64), (.sl (.sl (.int .i64)))], [(0, none), (6, none), (7, some (false, [.own 2]))], [.cells [some (.d 0 0), some (.d 1 0)], .dead, .oaN 0 (.d 2 0)], 1⟩), false, none⟩)], [], [], [], []⟩
theorem keep_Src_Clauses_ok [DrawMode] : ConFn prog 12 keep_Src_Clauses_C := conFn_of (H := keep_Src_Clauses_H) (fin := []) Tryd.func12 Tryd.call12 (tabL_ok (l := [(11, keep_Src_N_C), (18, keep_Src_Clause_C)]) ⟨keep_Src_N_ok, keep_Src_Clause_ok, trivial⟩) rfl rfl rfl (fun a => by kernel_rfl)

noncomputable def keep_Src_Pick_m (s_0 : T_deliberationkeep_Src) (l_1 : (List Int)) : Option (Int × T_deliberationkeep_Src) :=
 Option.bind (keep_Src_N_m s_0 ((l_1.length : Int))) fun t1 =>
 Option.bind (idxM l_1 t1.1) fun t2 =>
 some ((t2, t1.2))
noncomputable def keep_Src_Pick_C : Con := ⟨[(.st 0), (.sl (.int .i64))], [(.int .i64), (.st 0)], fun (a : T_deliberationkeep_Src × (List Int)) => keep_Src_Pick_m a.1 a.2, [(false, [.ptr 0]), (false, [.d 1 0])], [.oc 0 [.d 0 0, .d 0 1]], [(false, [.d 0 0])], [.oc 0 [.d 1 0, .d 1 1]], 1, 1⟩
def keep_Src_Pick_H : Hints := ⟨[], [], [], [], []⟩
theorem keep_Src_Pick_ok [DrawMode] : ConFn prog 14 keep_Src_Pick_C := conFn_of (H := keep_Src_Pick_H) (fin := []) Tryd.func14 Tryd.call14 (tabL_ok (l := [(11, keep_Src_N_C)]) ⟨keep_Src_N_ok, trivial⟩) rfl rfl rfl (fun a => by kernel_rfl)

noncomputable def law04_spoilt_s1_m (s_0 : T_deliberationkeep_Src) (l_1 : (List (List Int))) (n_2 : Int) : Option (T_deliberationkeep_Src × (List (List Int))) :=
 Option.bind (appM 24 [] l_1) fun out1 =>
 bif ((out1.length : Int) : Int) == 0 then
 Option.bind (appM 24 out1 ([[0]])) fun t3 =>
 some ((s_0, t3))
 else
 Option.bind (keep_Src_N_m s_0 ((out1.length : Int))) fun i4 =>
 Option.bind (idxM out1 i4.1) fun t5 =>
 Option.bind (appM 8 [] t5) fun c6 =>
 Option.bind (keep_Src_N_m i4.2 4) fun t7 =>
 bif (t7.1 : Int) == 0 then
 Option.bind (keep_Src_Pick_m t7.2 [0, n_2, ineg .i64 n_2, iadd .i64 n_2 1, isub .i64 (ineg .i64 n_2) 1]) fun t8 =>
 Option.bind (appM 8 c6 [t8.1]) fun c9 =>
 Option.bind (idxM out1 i4.1) fun t10 =>
 some ((t8.2, out1.set (Int.toNat i4.1) c9))
 else
 bif (t7.1 : Int) == 1 then
 bif decide (((c6.length : Int)) > 0) then
 Option.bind (idxM c6 0) fun t11 =>
 Option.bind (appM 8 c6 [ineg .i64 t11]) fun c12 =>
 Option.bind (idxM out1 i4.1) fun t13 =>
 some ((t7.2, out1.set (Int.toNat i4.1) c12))
 else
 Option.bind (idxM out1 i4.1) fun t14 =>
 some ((t7.2, out1.set (Int.toNat i4.1) c6))
 else
 bif (t7.1 : Int) == 2 then
 bif decide (((c6.length : Int)) > 1) then
 Option.bind (idxM c6 1) fun t15 =>
 Option.bind (idxM c6 0) fun t16 =>
 Option.bind (idxM c6 0) fun t17 =>
 Option.bind (idxM (c6.set (Int.toNat 0) t15) 1) fun t18 =>
 Option.bind (idxM out1 i4.1) fun t19 =>
 some ((t7.2, out1.set (Int.toNat i4.1) ((c6.set (Int.toNat 0) t15).set (Int.toNat 1) t16)))
 else
 Option.bind (idxM out1 i4.1) fun t20 =>
 some ((t7.2, out1.set (Int.toNat i4.1) c6))
 else
 Option.bind (appM 8 c6 [1]) fun c21 =>
 Option.bind (idxM out1 i4.1) fun t22 =>
 some ((t7.2, out1.set (Int.toNat i4.1) c21))
noncomputable def law04_spoilt_s1_C : Con := ⟨[(.st 0), (.sl (.sl (.int .i64))), (.int .i64)], [(.st 0), (.sl (.sl (.int .i64)))], fun (a : T_deliberationkeep_Src × (List (List Int)) × Int) => law04_spoilt_s1_m a.1 a.2.1 a.2.2, [(false, [.ptr 0]), (false, [.d 1 0]), (false, [.d 2 0])], [.oc 0 [.d 0 0, .d 0 1]], [(false, [.own 1])], [.oc 0 [.d 0 0, .d 0 1], .oa 1 (.d 1 0)], 1, 2⟩
def law04_spoilt_s1_H : Hints := ⟨[], [], [10, 24], [], []⟩
theorem law04_spoilt_s1_ok [DrawMode] : ConFn prog 13 law04_spoilt_s1_C := conFn_of (H := law04_spoilt_s1_H) (fin := []) Tryd.func13 Tryd.call13 (tabL_ok (l := [(11, keep_Src_N_C), (14, keep_Src_Pick_C)]) ⟨keep_Src_N_ok, keep_Src_Pick_ok, trivial⟩) rfl rfl rfl (fun a => by kernel_rfl)

noncomputable def proof_abs_m (x_0 : Int) : Option (Int) :=
 some (imax x_0 (ineg .i64 x_0))
noncomputable def proof_abs_C : Con := ⟨[(.int .i64)], [(.int .i64)], fun (a : Int) => proof_abs_m a, [(false, [.d 0 0])], [], [(false, [.d 0 0])], [], 0, 0⟩
def proof_abs_H : Hints := ⟨[], [], [], [], []⟩
theorem proof_abs_ok [DrawMode] : ConFn prog 33 proof_abs_C := conFn_of (H := proof_abs_H) (fin := []) Tryd.func33 Tryd.call33 (tabL_ok (l := []) trivial) rfl rfl rfl (fun a => by kernel_rfl)

noncomputable def proof_clause_l1 (n_0 : Int) (c_1 : (List Int)) (s11 : Int) : Option (Sum (Sum (Int) (Unit)) (Int)) :=
 bif decide (s11 < ((c_1.length : Int))) then
 Option.bind (idxM c_1 s11) fun t12 =>
 bif (t12 : Int) == 0 then
 some (Sum.inl (Sum.inl 1))
 else
 bif decide (t12 < (ineg .i64 n_0)) then
 some (Sum.inl (Sum.inl 1))
 else
 bif decide (t12 > n_0) then
 some (Sum.inl (Sum.inl 1))
 else
 some (Sum.inr (iadd .i64 s11 1))
 else
 some (Sum.inl (Sum.inr (())))
noncomputable def proof_clause_l2 (c_1 : (List Int)) (s24 : Int) : Option (Sum (Sum (Int) (Unit)) (Int)) :=
 bif decide (s24 < ((c_1.length : Int))) then
 Option.bind (idxM c_1 (isub .i64 s24 1)) fun t25 =>
 Option.bind (idxM c_1 s24) fun t26 =>
 Option.bind (proof_abs_m t25) fun t27 =>
 Option.bind (proof_abs_m t26) fun t28 =>
 bif decide (t27 ≥ t28) then
 some (Sum.inl (Sum.inl 8))
 else
 some (Sum.inr (iadd .i64 s24 1))
 else
 some (Sum.inl (Sum.inr (())))
noncomputable def proof_clause_m (n_0 : Int) (c_1 : (List Int)) : Option (Int) :=
 bif decide (((c_1.length : Int)) > 50) then
 some 2
 else
 Option.bind (loopC (proof_clause_l1 n_0 c_1) 0) (sumK (fun a : Int => some a) fun q13 : Unit =>
 Option.bind (loopC (proof_clause_l2 c_1) 1) (sumK (fun a : Int => some a) fun q29 : Unit =>
 some 0))
noncomputable def proof_clause_C : Con := ⟨[(.int .i64), (.sl (.int .i64))], [(.int .i64)], fun (a : Int × (List Int)) => proof_clause_m a.1 a.2, [(false, [.d 0 0]), (false, [.d 1 0])], [], [(false, [.d 0 0])], [], 0, 0⟩
def proof_clause_H : Hints := ⟨[(0, ⟨[], ⟨[(.int .i64)], [(0, none), (1, none), (4, none), (11, none), (12, none), (13, some (false, [.d 0 0]))], [], 0⟩, [], some ([], ⟨[], [(1, none), (4, none)], [], 0⟩), true, none⟩), (2, ⟨[], ⟨[(.int .i64)], [(1, none), (4, none), (7, some (false, [.d 0 0]))], [], 0⟩, [], some ([], ⟨[], [(4, none)], [], 0⟩), true, none⟩)], [], [], [], []⟩
theorem proof_clause_ok [DrawMode] : ConFn prog 30 proof_clause_C := conFn_of (H := proof_clause_H) (fin := []) Tryd.func30 Tryd.call30 (tabL_ok (l := [(33, proof_abs_C)]) ⟨proof_abs_ok, trivial⟩) rfl rfl rfl (fun a => by kernel_rfl)

noncomputable def proof_Validate_l1 (n_0 : Int) (l_1 : (List (List Int))) (s7 : Int) : Option (Sum (Sum (Int) (Unit)) (Int)) :=
 bif decide (s7 < ((l_1.length : Int))) then
 Option.bind (idxM l_1 s7) fun t8 =>
 Option.bind (proof_clause_m n_0 t8) fun e9 =>
 bif (e9 : Int) != 0 then
 some (Sum.inl (Sum.inl e9))
 else
 some (Sum.inr (iadd .i64 s7 1))
 else
 some (Sum.inl (Sum.inr (())))
noncomputable def proof_Validate_m (n_0 : Int) (l_1 : (List (List Int))) : Option (Int) :=
 bif decide (n_0 < 0) then
 some 1
 else
 bif decide (n_0 > 200) then
 some 1
 else
 bif decide (((l_1.length : Int)) > 4000) then
 some 2
 else
 Option.bind (loopC (proof_Validate_l1 n_0 l_1) 0) (sumK (fun a : Int => some a) fun q10 : Unit =>
 some 0)
noncomputable def proof_Validate_C : Con := ⟨[(.int .i64), (.sl (.sl (.int .i64)))], [(.int .i64)], fun (a : Int × (List (List Int))) => proof_Validate_m a.1 a.2, [(false, [.d 0 0]), (false, [.d 1 0])], [], [(false, [.d 0 0])], [], 0, 0⟩
def proof_Validate_H : Hints := ⟨[(0, ⟨[], ⟨[(.int .i64)], [(0, none), (4, none), (17, none), (18, none), (19, some (false, [.d 0 0]))], [], 0⟩, [], some ([], ⟨[], [(4, none)], [], 0⟩), true, none⟩)], [], [], [], []⟩
theorem proof_Validate_ok [DrawMode] : ConFn prog 15 proof_Validate_C := conFn_of (H := proof_Validate_H) (fin := []) Tryd.func15 Tryd.call15 (tabL_ok (l := [(30, proof_clause_C)]) ⟨proof_clause_ok, trivial⟩) rfl rfl rfl (fun a => by kernel_rfl)

noncomputable def ref04_abs_m (x_0 : Int) : Option (Int) :=
 some (imax x_0 (ineg .i64 x_0))
noncomputable def ref04_abs_C : Con := ⟨[(.int .i64)], [(.int .i64)], fun (a : Int) => ref04_abs_m a, [(false, [.d 0 0])], [], [(false, [.d 0 0])], [], 0, 0⟩
def ref04_abs_H : Hints := ⟨[], [], [], [], []⟩
theorem ref04_abs_ok [DrawMode] : ConFn prog 40 ref04_abs_C := conFn_of (H := ref04_abs_H) (fin := []) Tryd.func40 Tryd.call40 (tabL_ok (l := []) trivial) rfl rfl rfl (fun a => by kernel_rfl)

noncomputable def ref04_clause_l1 (n_0 : Int) (c_1 : (List Int)) (s19 : Int) : Option (Sum (Sum (Int) (Unit)) (Int)) :=
 bif decide (s19 < ((c_1.length : Int))) then
 Option.bind (idxM c_1 s19) fun t20 =>
 bif (t20 : Int) == 0 then
 some (Sum.inl (Sum.inl 1))
 else
 Option.bind (idxM c_1 s19) fun t21 =>
 bif decide (t21 < (ineg .i64 n_0)) then
 some (Sum.inl (Sum.inl 1))
 else
 Option.bind (idxM c_1 s19) fun t22 =>
 bif decide (t22 > n_0) then
 some (Sum.inl (Sum.inl 1))
 else
 some (Sum.inr (iadd .i64 s19 1))
 else
 some (Sum.inl (Sum.inr (())))
noncomputable def ref04_clause_l2 (c_1 : (List Int)) (s34 : Int) : Option (Sum (Sum (Int) (Unit)) (Int)) :=
 bif decide (s34 < ((c_1.length : Int))) then
 Option.bind (idxM c_1 s34) fun t35 =>
 Option.bind (idxM c_1 (isub .i64 s34 1)) fun t36 =>
 Option.bind (ref04_abs_m t35) fun t37 =>
 Option.bind (ref04_abs_m t36) fun t38 =>
 bif decide (t37 ≤ t38) then
 some (Sum.inl (Sum.inl 8))
 else
 some (Sum.inr (iadd .i64 s34 1))
 else
 some (Sum.inl (Sum.inr (())))
noncomputable def ref04_clause_m (n_0 : Int) (c_1 : (List Int)) : Option (Int) :=
 bif decide (((c_1.length : Int)) > 50) then
 some 2
 else
 Option.bind (loopC (ref04_clause_l1 n_0 c_1) 0) (sumK (fun a : Int => some a) fun q23 : Unit =>
 Option.bind (loopC (ref04_clause_l2 c_1) 1) (sumK (fun a : Int => some a) fun q39 : Unit =>
 some 0))
noncomputable def ref04_clause_C : Con := ⟨[(.int .i64), (.sl (.int .i64))], [(.int .i64)], fun (a : Int × (List Int)) => ref04_clause_m a.1 a.2, [(false, [.d 0 0]), (false, [.d 1 0])], [], [(false, [.d 0 0])], [], 0, 0⟩
def ref04_clause_H : Hints := ⟨[(0, ⟨[], ⟨[(.int .i64)], [(0, none), (1, none), (4, none), (5, some (false, [.d 0 0]))], [], 0⟩, [], some ([], ⟨[], [(1, none), (4, none)], [], 0⟩), true, none⟩), (2, ⟨[], ⟨[(.int .i64)], [(1, none), (4, none), (6, some (false, [.d 0 0]))], [], 0⟩, [], some ([], ⟨[], [(4, none)], [], 0⟩), true, none⟩)], [], [], [], []⟩
theorem ref04_clause_ok [DrawMode] : ConFn prog 31 ref04_clause_C := conFn_of (H := ref04_clause_H) (fin := []) Tryd.func31 Tryd.call31 (tabL_ok (l := [(40, ref04_abs_C)]) ⟨ref04_abs_ok, trivial⟩) rfl rfl rfl (fun a => by kernel_rfl)

noncomputable def ref04_Validate_l1 (n_0 : Int) (l_1 : (List (List Int))) (s7 : Int) : Option (Sum (Sum (Int) (Unit)) (Int)) :=
 bif decide (s7 < ((l_1.length : Int))) then
 Option.bind (idxM l_1 s7) fun t8 =>
 Option.bind (ref04_clause_m n_0 t8) fun e9 =>
 bif (e9 : Int) != 0 then
 some (Sum.inl (Sum.inl e9))
 else
 some (Sum.inr (iadd .i64 s7 1))
 else
 some (Sum.inl (Sum.inr (())))
noncomputable def ref04_Validate_m (n_0 : Int) (l_1 : (List (List Int))) : Option (Int) :=
 bif decide (n_0 < 0) then
 some 1
 else
 bif decide (n_0 > 200) then
 some 1
 else
 bif decide (((l_1.length : Int)) > 4000) then
 some 2
 else
 Option.bind (loopC (ref04_Validate_l1 n_0 l_1) 0) (sumK (fun a : Int => some a) fun q10 : Unit =>
 some 0)
noncomputable def ref04_Validate_C : Con := ⟨[(.int .i64), (.sl (.sl (.int .i64)))], [(.int .i64)], fun (a : Int × (List (List Int))) => ref04_Validate_m a.1 a.2, [(false, [.d 0 0]), (false, [.d 1 0])], [], [(false, [.d 0 0])], [], 0, 0⟩
def ref04_Validate_H : Hints := ⟨[(0, ⟨[], ⟨[(.int .i64)], [(0, none), (1, none), (4, none), (5, some (false, [.d 0 0]))], [], 0⟩, [], some ([], ⟨[], [(4, none)], [], 0⟩), true, none⟩)], [], [], [], []⟩
theorem ref04_Validate_ok [DrawMode] : ConFn prog 16 ref04_Validate_C := conFn_of (H := ref04_Validate_H) (fin := []) Tryd.func16 Tryd.call16 (tabL_ok (l := [(31, ref04_clause_C)]) ⟨ref04_clause_ok, trivial⟩) rfl rfl rfl (fun a => by kernel_rfl)

noncomputable def slices_Index_int_int_l1 (s_0 : (List Int)) (v_1 : Int) (s5 : Int) : Option (Sum (Sum (Int) (Unit)) (Int)) :=
 bif decide (s5 < ((s_0.length : Int))) then
 Option.bind (idxM s_0 s5) fun t6 =>
 bif (v_1 : Int) == t6 then
 some (Sum.inl (Sum.inl s5))
 else
 some (Sum.inr (iadd .i64 s5 1))
 else
 some (Sum.inl (Sum.inr (())))
noncomputable def slices_Index_int_int_m (s_0 : (List Int)) (v_1 : Int) : Option (Int) :=
 Option.bind (loopC (slices_Index_int_int_l1 s_0 v_1) 0) (sumK (fun a : Int => some a) fun q7 : Unit =>
 some ((-1)))
noncomputable def slices_Index_int_int_C : Con := ⟨[(.sl (.int .i64)), (.int .i64)], [(.int .i64)], fun (a : (List Int) × Int) => slices_Index_int_int_m a.1 a.2, [(false, [.d 0 0]), (false, [.d 1 0])], [], [(false, [.d 0 0])], [], 0, 0⟩
def slices_Index_int_int_H : Hints := ⟨[(0, ⟨[], ⟨[(.int .i64)], [(0, none), (1, none), (4, none), (7, none), (8, some (false, [.d 0 0]))], [], 0⟩, [], some ([], ⟨[], [(4, none)], [], 0⟩), true, none⟩)], [], [], [], []⟩
theorem slices_Index_int_int_ok [DrawMode] : ConFn prog 46 slices_Index_int_int_C := conFn_of (H := slices_Index_int_int_H) (fin := []) Tryd.func46 Tryd.call46 (tabL_ok (l := []) trivial) rfl rfl rfl (fun a => by kernel_rfl)

noncomputable def slices_Contains_int_int_m (s_0 : (List Int)) (v_1 : Int) : Option (Bool) :=
 Option.bind (slices_Index_int_int_m s_0 v_1) fun t1 =>
 some (decide (t1 ≥ 0))
noncomputable def slices_Contains_int_int_C : Con := ⟨[(.sl (.int .i64)), (.int .i64)], [.bool], fun (a : (List Int) × Int) => slices_Contains_int_int_m a.1 a.2, [(false, [.d 0 0]), (false, [.d 1 0])], [], [(false, [.d 0 0])], [], 0, 0⟩
def slices_Contains_int_int_H : Hints := ⟨[], [], [], [], []⟩
theorem slices_Contains_int_int_ok [DrawMode] : ConFn prog 32 slices_Contains_int_int_C := conFn_of (H := slices_Contains_int_int_H) (fin := []) Tryd.func32 Tryd.call32 (tabL_ok (l := [(46, slices_Index_int_int_C)]) ⟨slices_Index_int_int_ok, trivial⟩) rfl rfl rfl (fun a => by kernel_rfl)

noncomputable def cmp_isNaN_int_m (x_0 : Int) : Option (Bool) :=
 some ((x_0 : Int) != x_0)
noncomputable def cmp_isNaN_int_C : Con := ⟨[(.int .i64)], [.bool], fun (a : Int) => cmp_isNaN_int_m a, [(false, [.d 0 0])], [], [(false, [.d 0 0])], [], 0, 0⟩
def cmp_isNaN_int_H : Hints := ⟨[], [], [], [], []⟩
theorem cmp_isNaN_int_ok [DrawMode] : ConFn prog 49 cmp_isNaN_int_C := conFn_of (H := cmp_isNaN_int_H) (fin := []) Tryd.func49 Tryd.call49 (tabL_ok (l := []) trivial) rfl rfl rfl (fun a => by kernel_rfl)

noncomputable def cmp_Compare_int_m (x_0 : Int) (y_1 : Int) : Option (Int) :=
 Option.bind (cmp_isNaN_int_m x_0) fun xNaN1 =>
 Option.bind (cmp_isNaN_int_m y_1) fun yNaN2 =>
 bif xNaN1 then
 bif yNaN2 then
 some 0
 else
 some ((-1))
 else
 bif yNaN2 then
 some 1
 else
 bif decide (x_0 < y_1) then
 some ((-1))
 else
 bif decide (x_0 > y_1) then
 some 1
 else
 some 0
noncomputable def cmp_Compare_int_C : Con := ⟨[(.int .i64), (.int .i64)], [(.int .i64)], fun (a : Int × Int) => cmp_Compare_int_m a.1 a.2, [(false, [.d 0 0]), (false, [.d 1 0])], [], [(false, [.d 0 0])], [], 0, 0⟩
def cmp_Compare_int_H : Hints := ⟨[], [], [], [], []⟩
theorem cmp_Compare_int_ok [DrawMode] : ConFn prog 37 cmp_Compare_int_C := conFn_of (H := cmp_Compare_int_H) (fin := []) Tryd.func37 Tryd.call37 (tabL_ok (l := [(49, cmp_isNaN_int_C)]) ⟨cmp_isNaN_int_ok, trivial⟩) rfl rfl rfl (fun a => by kernel_rfl)

noncomputable def cmp_Or_int_l1 (vals_0 : (List Int)) (s5 : Int) : Option (Sum (Sum (Int) (Unit)) (Int)) :=
 bif decide (s5 < ((vals_0.length : Int))) then
 Option.bind (idxM vals_0 s5) fun t6 =>
 bif (t6 : Int) != 0 then
 some (Sum.inl (Sum.inl t6))
 else
 some (Sum.inr (iadd .i64 s5 1))
 else
 some (Sum.inl (Sum.inr (())))
noncomputable def cmp_Or_int_m (vals_0 : (List Int)) : Option (Int) :=
 Option.bind (loopC (cmp_Or_int_l1 vals_0) 0) (sumK (fun a : Int => some a) fun q7 : Unit =>
 some 0)
noncomputable def cmp_Or_int_C : Con := ⟨[(.sl (.int .i64))], [(.int .i64)], fun (a : (List Int)) => cmp_Or_int_m a, [(false, [.d 0 0])], [], [(false, [.d 0 0])], [], 0, 0⟩
def cmp_Or_int_H : Hints := ⟨[(0, ⟨[], ⟨[(.int .i64)], [(2, none), (3, none), (6, none), (7, none), (8, some (false, [.d 0 0]))], [], 0⟩, [], some ([], ⟨[], [(2, none), (3, none)], [], 0⟩), true, none⟩)], [], [], [], []⟩
theorem cmp_Or_int_ok [DrawMode] : ConFn prog 36 cmp_Or_int_C := conFn_of (H := cmp_Or_int_H) (fin := []) Tryd.func36 Tryd.call36 (tabL_ok (l := []) trivial) rfl rfl rfl (fun a => by kernel_rfl)

noncomputable def proof_Resolve_1_m (x_0 : Int) (y_1 : Int) : Option (Int) :=
 Option.bind (proof_abs_m x_0) fun t1 =>
 Option.bind (proof_abs_m y_1) fun t2 =>
 Option.bind (cmp_Compare_int_m t1 t2) fun t3 =>
 Option.bind (cmp_Compare_int_m x_0 y_1) fun t4 =>
 Option.bind (cmp_Or_int_m [t3, t4]) fun t5 =>
 some t5
noncomputable def proof_Resolve_1_C : Con := ⟨[(.int .i64), (.int .i64)], [(.int .i64)], fun (a : Int × Int) => proof_Resolve_1_m a.1 a.2, [(false, [.d 0 0]), (false, [.d 1 0])], [], [(false, [.d 0 0])], [], 0, 0⟩
def proof_Resolve_1_H : Hints := ⟨[], [], [], [], []⟩
theorem proof_Resolve_1_ok [DrawMode] : ConFn prog 35 proof_Resolve_1_C := conFn_of (H := proof_Resolve_1_H) (fin := []) Tryd.func35 Tryd.call35 (tabL_ok (l := [(33, proof_abs_C), (37, cmp_Compare_int_C), (36, cmp_Or_int_C)]) ⟨proof_abs_ok, cmp_Compare_int_ok, cmp_Or_int_ok, trivial⟩) rfl rfl rfl (fun a => by kernel_rfl)

theorem slices_SortFunc_int_int_ok_ [DrawMode] {s_0 r : List Int} (hm : (sortFM proof_Resolve_1_m) s_0 = some r) {h_0 : Value × List Nat} :
    FnOk prog 34 [pv h_0.1, pv (.func (.func 35) #[] #[])] [oa (rI .i64) h_0.1 h_0.2 s_0] (fun _ : Unit => []) (fun _ : Unit => [oa (rI .i64) h_0.1 h_0.2 r]) :=
  sort_fnI (X := Unit) (fun x y r h => conCmp (t := .int .i64) (@proof_Resolve_1_ok strictDraws) h fun _ => rfl)
    (fun hO blk off cap d w hc hH hb hs hT => Any.slices_SortFunc_total sortFA encI encI_one _ hO 35 #[] blk off cap d w (enters_of Tryd.func35 (by kernel_rfl) rfl) hc hH hb hs hT)
    (fun p cap fv w => AnyF.slices_SortFunc_none { sortFA with } p cap fv w) hm
noncomputable def slices_SortFunc_int_int_C : Con := conW2 (P := prog) (.int .i64) (sortFM proof_Resolve_1_m) [(false, [.fn 35 []])]
theorem slices_SortFunc_int_int_ok [DrawMode] : ConFn prog 34 slices_SortFunc_int_int_C := ⟨Tryd.call34, conW2F_ok fun s r hm h0 => slices_SortFunc_int_int_ok_ hm⟩

noncomputable def slices_Compact_int_int_C : Con := conW1 (P := prog) (.int .i64) compactM
theorem slices_Compact_int_int_ok [DrawMode] : ConFn prog 38 slices_Compact_int_int_C := ⟨Tryd.call38, conW1_ok fun s r hm h0 => slices_Compact_ok hm⟩

noncomputable def proof_clause_s1_l1 (n_0 : Int) (c_1 : (List Int)) (s11 : Int) : Option (Sum (Sum (Int) (Unit)) (Int)) :=
 bif decide (s11 < ((c_1.length : Int))) then
 Option.bind (idxM c_1 s11) fun t12 =>
 bif (t12 : Int) == 0 then
 some (Sum.inl (Sum.inl 1))
 else
 bif decide (t12 < (ineg .i64 n_0)) then
 some (Sum.inl (Sum.inl 1))
 else
 bif decide (t12 > n_0) then
 some (Sum.inl (Sum.inl 1))
 else
 some (Sum.inr (iadd .i64 s11 1))
 else
 some (Sum.inl (Sum.inr (())))
noncomputable def proof_clause_s1_l2 (c_1 : (List Int)) (s24 : Int) : Option (Sum (Sum (Int) (Unit)) (Int)) :=
 bif decide (s24 < ((c_1.length : Int))) then
 Option.bind (idxM c_1 (isub .i64 s24 1)) fun t25 =>
 Option.bind (idxM c_1 s24) fun t26 =>
 Option.bind (proof_abs_m t25) fun t27 =>
 Option.bind (proof_abs_m t26) fun t28 =>
 bif decide (t27 ≥ t28) then
 some (Sum.inl (Sum.inl 8))
 else
 some (Sum.inr (iadd .i64 s24 1))
 else
 some (Sum.inl (Sum.inr (())))
noncomputable def proof_clause_s1_m (n_0 : Int) (c_1 : (List Int)) : Option (Int) :=
 bif decide (((c_1.length : Int)) > 50) then
 some 2
 else
 Option.bind (loopC (proof_clause_s1_l1 n_0 c_1) 0) (sumK (fun a : Int => some a) fun q13 : Unit =>
 Option.bind (loopC (proof_clause_s1_l2 c_1) 1) (sumK (fun a : Int => some a) fun q29 : Unit =>
 some 0))
noncomputable def proof_clause_s1_C : Con := ⟨[(.int .i64), (.sl (.int .i64))], [(.int .i64)], fun (a : Int × (List Int)) => proof_clause_s1_m a.1 a.2, [(false, [.d 0 0]), (false, [.own 0])], [.oa 0 (.d 1 0)], [(false, [.d 0 0])], [.same], 1, 1⟩
def proof_clause_s1_H : Hints := ⟨[(0, ⟨[], ⟨[(.int .i64)], [(0, none), (1, none), (4, none), (11, none), (12, none), (13, some (false, [.d 0 0]))], [.keep], 0⟩, [], some ([], ⟨[], [(1, none), (4, none)], [.keep], 0⟩), true, none⟩), (2, ⟨[], ⟨[(.int .i64)], [(1, none), (4, none), (7, some (false, [.d 0 0]))], [.keep], 0⟩, [], some ([], ⟨[], [(1, none), (4, none)], [.keep], 0⟩), true, none⟩)], [], [], [], []⟩
theorem proof_clause_s1_ok [DrawMode] : ConFn prog 30 proof_clause_s1_C := conFn_of (H := proof_clause_s1_H) (fin := []) Tryd.func30 Tryd.call30 (tabL_ok (l := [(33, proof_abs_C)]) ⟨proof_abs_ok, trivial⟩) rfl rfl rfl (fun a => by kernel_rfl)

noncomputable def proof_Resolve_l1 (pivot_2 : Int) (t92 : (List Int)) (s101 : Int × (List Int)) : Option (Sum ((List Int)) (Int × (List Int))) :=
 bif decide (s101.1 < ((t92.length : Int))) then
 Option.bind (idxM t92 s101.1) fun t102 =>
 Option.bind (proof_abs_m t102) fun t103 =>
 bif (t103 : Int) != pivot_2 then
 Option.bind (appM 8 s101.2 [t102]) fun out104 =>
 some (Sum.inr ((iadd .i64 s101.1 1, out104)))
 else
 some (Sum.inr ((iadd .i64 s101.1 1, s101.2)))
 else
 some (Sum.inl s101.2)
noncomputable def proof_Resolve_l2 (a_0 : (List Int)) (b_1 : (List Int)) (pivot_2 : Int) (s91 : Int × (List Int)) : Option (Sum ((List Int)) (Int × (List Int))) :=
 bif decide (s91.1 < (([a_0, b_1].length : Int))) then
 Option.bind (idxM [a_0, b_1] s91.1) fun t92 =>
 Option.bind (loopC (proof_Resolve_l1 pivot_2 t92) ((0, s91.2))) fun q105 : (List Int) =>
 some (Sum.inr ((iadd .i64 s91.1 1, q105)))
 else
 some (Sum.inl s91.2)
noncomputable def proof_Resolve_m (a_0 : (List Int)) (b_1 : (List Int)) (pivot_2 : Int) : Option (Bool × (List Int)) :=
 bif decide (pivot_2 < 1) then
 some ((false, []))
 else
 Option.bind (proof_clause_m 200 a_0) fun t3 =>
 bif (t3 : Int) != 0 then
 some ((false, []))
 else
 Option.bind (proof_clause_m 200 b_1) fun t4 =>
 bif (t4 : Int) != 0 then
 some ((false, []))
 else
 Option.bind (slices_Contains_int_int_m a_0 pivot_2) fun t7 =>
 bif !t7 then
 some ((false, []))
 else
 Option.bind (slices_Contains_int_int_m b_1 (ineg .i64 pivot_2)) fun t8 =>
 bif !t8 then
 some ((false, []))
 else
 Option.bind (loopC (proof_Resolve_l2 a_0 b_1 pivot_2) ((0, []))) fun q106 : (List Int) =>
 Option.bind ((sortFM proof_Resolve_1_m) q106) fun t107 =>
 Option.bind (compactM t107) fun out108 =>
 Option.bind (proof_clause_s1_m 200 out108) fun t109 =>
 bif (t109 : Int) != 0 then
 some ((false, []))
 else
 some ((true, out108))
noncomputable def proof_Resolve_C : Con := ⟨[(.sl (.int .i64)), (.sl (.int .i64)), (.int .i64)], [.bool, (.sl (.int .i64))], fun (a : (List Int) × (List Int) × Int) => proof_Resolve_m a.1 a.2.1 a.2.2, [(false, [.d 0 0]), (false, [.d 1 0]), (false, [.d 2 0])], [], [(false, [.own 0]), (false, [.d 0 0])], [.oa 0 (.d 1 0)], 0, 1⟩
def proof_Resolve_H : Hints := ⟨[(0, ⟨[.own (.int .i64) (.slot 8 0)], ⟨[(.int .i64), (.sl (.int .i64))], [(2, none), (6, none), (7, none), (8, some (false, [.own 1])), (38, none), (39, none), (40, some (false, [.d 0 0]))], [.dead, .oaN 0 (.d 1 0)], 1⟩, [], some ([], ⟨[(.sl (.int .i64))], [(6, none), (7, none), (8, some (false, [.own 1]))], [.dead, .oaN 0 (.d 0 0)], 1⟩), false, none⟩), (2, ⟨[], ⟨[(.int .i64), (.sl (.int .i64))], [(2, none), (6, none), (7, none), (8, some (false, [.own 2])), (38, none), (39, none), (40, none), (44, none), (45, none), (46, some (false, [.d 0 0]))], [.dead, .dead, .oaN 0 (.d 1 0)], 1⟩, [], some ([], ⟨[(.sl (.int .i64))], [(2, none), (6, none), (7, none), (8, some (false, [.own 2])), (38, none), (39, none), (40, none)], [.dead, .dead, .oaN 0 (.d 0 0)], 1⟩), false, none⟩)], [], [], [], []⟩
theorem proof_Resolve_ok [DrawMode] : ConFn prog 19 proof_Resolve_C := conFn_of (H := proof_Resolve_H) (fin := [.own (.int .i64) (.slot 6 0)]) Tryd.func19 Tryd.call19 (tabL_ok (l := [(34, slices_SortFunc_int_int_C), (38, slices_Compact_int_int_C), (30, proof_clause_s1_C), (30, proof_clause_C), (32, slices_Contains_int_int_C), (33, proof_abs_C), (35, proof_Resolve_1_C)]) ⟨slices_SortFunc_int_int_ok, slices_Compact_int_int_ok, proof_clause_s1_ok, proof_clause_ok, slices_Contains_int_int_ok, proof_abs_ok, proof_Resolve_1_ok, trivial⟩) rfl rfl rfl (fun a => by kernel_rfl)

noncomputable def slices_Clone_int_int_m (d_0 : List (List Int)) : Option (List (List Int)) := appM 24 [] d_0
theorem el_slices_Clone_int_int : ElT prog 23 (rSl (rI .i64)) 24 := elT_ok (P := prog) (c := (.sl (.int .i64))) (by kernel_rfl)
theorem slices_Clone_int_int_fn [DrawMode] {d_0 r : List (List Int)} (hm : slices_Clone_int_int_m d_0 = some r) : FnOk prog 41 [slv (rSl (rI .i64)) d_0] [] (fun (x : Value × List Nat) => [pv x.1]) (fun (x : Value × List Nat) => [oa (rSl (rI .i64)) x.1 x.2 r]) := by
  have hm' : appM 24 [] d_0 = some r := hm
  have hr : r = d_0 := by have := (appM_some hm').2; simpa using this
  subst hr
  refine fn_ok (X := Value × List Nat) (fn := Tryd.f41) (N := 8) (m := some ()) (r := ()) (res := fun _ x => [pv x.1]) (Ω1 := fun _ x => [oa (rSl (rI .i64)) x.1 x.2 r]) Tryd.func41 rfl rfl rfl rfl (fun E hM => ?_)
  refine ref_seq ?_
  refine ref_region ?_
  refine s_rd (r_assign rfl) rfl ?_
  refine l_nil ?_
  refine n_then ?_
  refine ref_seq ?_
  refine ref_seq ?_
  refine ref_region ?_
  refine s_rd (r_move rfl) rfl ?_
  refine s_st (s_isnil Tryd.underlying22 rfl) rfl (fun b => ?_)
  refine l_nil ?_
  refine n_then ?_
  refine ref_condE (b := b.1) rfl (fun hb => ?_) (fun hb => ?_)
  · refine ref_seq ?_
    refine ref_region ?_
    refine s_rd (r_assign rfl) rfl ?_
    refine l_nil ?_
    refine n_then ?_
    refine ref_ret ?_
    refine r_then ?_
    have hd := b.2 hb
    subst hd
    refine b_of (own_nil (rSl (rI .i64))) ?_
    exact fin1 (.inl rfl) (.slice none 0 0, []) [0] rfl ⟨rfl, trivial⟩ rfl (rv_tmp rfl)
  · refine ref_skip ?_
    refine n_then ?_
    refine ref_seq ?_
    refine ref_region ?_
    refine s_st (s_bsliceO (xs := []) (ds := []) Tryd.underlying22 el_slices_Clone_int_int rfl (Nat.le_of_ble_eq_true rfl) trivial) rfl (fun o => ?_)
    refine s_rd (r_move rfl) rfl ?_
    refine s_st (s_append hm' Tryd.underlying22 el_slices_Clone_int_int rfl (j := 0) rfl rfl) rfl (fun o2 => ?_)
    refine s_rd (r_assign rfl) rfl ?_
    refine l_nil ?_
    refine n_then ?_
    refine ref_ret ?_
    exact fin1 (.inl rfl) o2 [0] rfl ⟨rfl, trivial⟩ rfl (rv_tmp rfl)
noncomputable def slices_Clone_int_int_C : Con := conW3 (P := prog) (.sl (.int .i64)) slices_Clone_int_int_m
theorem slices_Clone_int_int_ok [DrawMode] : ConFn prog 41 slices_Clone_int_int_C := ⟨Tryd.call41, conW3_ok fun s r hm => slices_Clone_int_int_fn hm⟩

noncomputable def proof_search_value_m (s_0_values : (List Int)) (s_0_clauses : (List (List Int))) (s_0_known : (List (ByteArray × Int))) (s_0_steps : (List T_api_Step)) (s_0_nodes : Int) (s_0_stop : Bool) (x_1 : Int) : Option (Int) :=
 bif decide (x_1 > 0) then
 Option.bind (idxM s_0_values (isub .i64 x_1 1)) fun t2 =>
 some t2
 else
 Option.bind (idxM s_0_values (isub .i64 (ineg .i64 x_1) 1)) fun t3 =>
 some (ineg .i64 t3)
noncomputable def proof_search_value_C : Con := ⟨[(.sl (.int .i64)), (.sl (.sl (.int .i64))), (.mp .str (.int .i64)), (.sl (.st 1)), (.int .i64), .bool, (.int .i64)], [(.int .i64)], fun (a : (List Int) × (List (List Int)) × (List (ByteArray × Int)) × (List T_api_Step) × Int × Bool × Int) => proof_search_value_m a.1 a.2.1 a.2.2.1 a.2.2.2.1 a.2.2.2.2.1 a.2.2.2.2.2.1 a.2.2.2.2.2.2, [(false, [.ptr 0]), (false, [.d 6 0])], [.oc 0 [.own 1, .own 2, .mp 3, .own 4, .d 4 0, .d 5 0], .oa 1 (.d 0 0), .oa 2 (.d 1 0), .oa 3 (.d 2 0), .oa 4 (.d 3 0)], [(false, [.d 0 0])], [.same, .same, .same, .same, .same], 5, 5⟩
def proof_search_value_H : Hints := ⟨[], [], [], [], []⟩
theorem proof_search_value_ok [DrawMode] : ConFn prog 68 proof_search_value_C := conFn_of (H := proof_search_value_H) (fin := []) Tryd.func68 Tryd.call68 (tabL_ok (l := []) trivial) rfl rfl rfl (fun a => by kernel_rfl)

noncomputable def proof_search_look_l1 (s_0_values : (List Int)) (s_0_clauses : (List (List Int))) (s_0_known : (List (ByteArray × Int))) (s_0_steps : (List T_api_Step)) (s_0_nodes : Int) (s_0_stop : Bool) (t58 : (List Int)) (s82 : Int × Int) : Option (Sum (Sum (Sum (Int × Int) (Unit)) (Int)) (Int × Int)) :=
 bif decide (s82.2 < ((t58.length : Int))) then
 Option.bind (idxM t58 s82.2) fun t83 =>
 Option.bind (proof_search_value_m s_0_values s_0_clauses s_0_known s_0_steps s_0_nodes s_0_stop t83) fun v84 =>
 joinM (fun j86 : Bool =>
 bif j86 then
 some (Sum.inl (Sum.inl (Sum.inr (()))))
 else
 bif (v84 : Int) == 0 then
 some (Sum.inr ((t83, iadd .i64 s82.2 1)))
 else
 some (Sum.inr ((s82.1, iadd .i64 s82.2 1)))) fun k85 =>
 bif decide (v84 > 0) then
 k85 (decide (v84 > 0))
 else
 bif (v84 : Int) == 0 then
 k85 ((s82.1 : Int) != 0)
 else
 k85 false
 else
 some (Sum.inl (Sum.inr s82.1))
noncomputable def proof_search_look_l2 (s_0_values : (List Int)) (s_0_clauses : (List (List Int))) (s_0_known : (List (ByteArray × Int))) (s_0_steps : (List T_api_Step)) (s_0_nodes : Int) (s_0_stop : Bool) (s57 : Int × Int × Int) : Option (Sum (Sum (Int × Int) (Int × Int)) (Int × Int × Int)) :=
 bif decide (s57.2.2 < ((s_0_clauses.length : Int))) then
 Option.bind (idxM s_0_clauses s57.2.2) fun t58 =>
 Option.bind (loopC (proof_search_look_l1 s_0_values s_0_clauses s_0_known s_0_steps s_0_nodes s_0_stop t58) ((0, 0))) (sumK (sumK (fun a : Int × Int => some (Sum.inl (Sum.inl a))) fun o87 : Unit =>
 some (Sum.inr ((s57.1, s57.2.1, iadd .i64 s57.2.2 1)))) fun q88 : Int =>
 bif (q88 : Int) == 0 then
 some (Sum.inl (Sum.inl ((s57.2.2, 0))))
 else
 bif decide (s57.1 < 0) then
 some (Sum.inr ((s57.2.2, q88, iadd .i64 s57.2.2 1)))
 else
 some (Sum.inr ((s57.1, s57.2.1, iadd .i64 s57.2.2 1))))
 else
 some (Sum.inl (Sum.inr ((s57.1, s57.2.1))))
noncomputable def proof_search_look_m (s_0_values : (List Int)) (s_0_clauses : (List (List Int))) (s_0_known : (List (ByteArray × Int))) (s_0_steps : (List T_api_Step)) (s_0_nodes : Int) (s_0_stop : Bool) : Option (Int × Int) :=
 Option.bind (loopC (proof_search_look_l2 s_0_values s_0_clauses s_0_known s_0_steps s_0_nodes s_0_stop) (((-1), 0, 0))) (sumK (fun a : Int × Int => some a) fun q89 : Int × Int =>
 some ((q89.1, q89.2)))
noncomputable def proof_search_look_C : Con := ⟨[(.sl (.int .i64)), (.sl (.sl (.int .i64))), (.mp .str (.int .i64)), (.sl (.st 1)), (.int .i64), .bool], [(.int .i64), (.int .i64)], fun (a : (List Int) × (List (List Int)) × (List (ByteArray × Int)) × (List T_api_Step) × Int × Bool) => proof_search_look_m a.1 a.2.1 a.2.2.1 a.2.2.2.1 a.2.2.2.2.1 a.2.2.2.2.2, [(false, [.ptr 0])], [.oc 0 [.own 1, .own 2, .mp 3, .own 4, .d 4 0, .d 5 0], .oa 1 (.d 0 0), .oa 2 (.d 1 0), .oa 3 (.d 2 0), .oa 4 (.d 3 0)], [(false, [.d 0 0]), (false, [.d 1 0])], [.same, .same, .same, .same, .same], 5, 5⟩
def proof_search_look_H : Hints := ⟨[(0, ⟨[], ⟨[(.int .i64), (.int .i64), (.int .i64)], [(0, none), (2, none), (3, none), (4, some (false, [.d 0 0])), (5, some (false, [.d 1 0])), (15, none), (16, none), (17, some (false, [.d 2 0]))], [.keep, .keep, .keep, .keep, .keep], 0⟩, [], some ([], ⟨[(.int .i64), (.int .i64)], [(0, none), (2, none), (3, none), (4, some (false, [.d 0 0])), (5, some (false, [.d 1 0]))], [.keep, .keep, .keep, .keep, .keep], 0⟩), true, none⟩), (2, ⟨[], ⟨[(.int .i64), (.int .i64)], [(0, none), (2, none), (3, none), (4, none), (5, none), (6, none), (8, some (false, [.d 0 0])), (15, none), (16, none), (17, none), (22, none), (23, none), (24, some (false, [.d 1 0]))], [.keep, .keep, .keep, .keep, .keep], 0⟩, [], some ([], ⟨[(.int .i64)], [(0, none), (2, none), (3, none), (4, none), (5, none), (6, none), (8, some (false, [.d 0 0])), (15, none), (16, none), (17, none)], [.keep, .keep, .keep, .keep, .keep], 0⟩), false, some (1, ([], ⟨[], [(0, none), (2, none), (3, none), (4, none), (5, none), (15, none), (16, none), (17, none)], [.keep, .keep, .keep, .keep, .keep], 0⟩))⟩)], [(26, ([], ⟨[.bool], [(0, none), (2, none), (3, none), (4, none), (5, none), (6, none), (8, none), (10, none), (11, none), (15, none), (16, none), (17, none), (22, none), (23, none), (24, none), (31, some (false, [.d 0 0]))], [.keep, .keep, .keep, .keep, .keep], 0⟩))], [], [], []⟩
theorem proof_search_look_ok [DrawMode] : ConFn prog 50 proof_search_look_C := conFn_of (H := proof_search_look_H) (fin := []) Tryd.func50 Tryd.call50 (tabL_ok (l := [(68, proof_search_value_C)]) ⟨proof_search_value_ok, trivial⟩) rfl rfl rfl (fun a => by kernel_rfl)

noncomputable def proof_search_branch_l1 (s_0_values : (List Int)) (s_0_clauses : (List (List Int))) (s_0_known : (List (ByteArray × Int))) (s_0_steps : (List T_api_Step)) (s_0_nodes : Int) (s_0_stop : Bool) (t24 : (List Int)) (s31 : Int × Int) : Option (Sum (Sum (Sum (Int) (Unit)) (Int)) (Int × Int)) :=
 bif decide (s31.2 < ((t24.length : Int))) then
 Option.bind (idxM t24 s31.2) fun t32 =>
 Option.bind (proof_search_value_m s_0_values s_0_clauses s_0_known s_0_steps s_0_nodes s_0_stop t32) fun t33 =>
 bif (t33 : Int) == 1 then
 some (Sum.inl (Sum.inl (Sum.inr (()))))
 else
 bif (t33 : Int) == 0 then
 bif (s31.1 : Int) == 0 then
 some (Sum.inr ((t32, iadd .i64 s31.2 1)))
 else
 some (Sum.inr ((s31.1, iadd .i64 s31.2 1)))
 else
 some (Sum.inr ((s31.1, iadd .i64 s31.2 1)))
 else
 some (Sum.inl (Sum.inr s31.1))
noncomputable def proof_search_branch_l2 (s_0_values : (List Int)) (s_0_clauses : (List (List Int))) (s_0_known : (List (ByteArray × Int))) (s_0_steps : (List T_api_Step)) (s_0_nodes : Int) (s_0_stop : Bool) (s23 : Int) : Option (Sum (Sum (Int) (Unit)) (Int)) :=
 bif decide (s23 < ((s_0_clauses.length : Int))) then
 Option.bind (idxM s_0_clauses s23) fun t24 =>
 Option.bind (loopC (proof_search_branch_l1 s_0_values s_0_clauses s_0_known s_0_steps s_0_nodes s_0_stop t24) ((0, 0))) (sumK (sumK (fun a : Int => some (Sum.inl (Sum.inl a))) fun o34 : Unit =>
 some (Sum.inr (iadd .i64 s23 1))) fun q35 : Int =>
 some (Sum.inl (Sum.inl q35)))
 else
 some (Sum.inl (Sum.inr (())))
noncomputable def proof_search_branch_m (s_0_values : (List Int)) (s_0_clauses : (List (List Int))) (s_0_known : (List (ByteArray × Int))) (s_0_steps : (List T_api_Step)) (s_0_nodes : Int) (s_0_stop : Bool) : Option (Int) :=
 Option.bind (loopC (proof_search_branch_l2 s_0_values s_0_clauses s_0_known s_0_steps s_0_nodes s_0_stop) 0) (sumK (fun a : Int => some a) fun q36 : Unit =>
 some 0)
noncomputable def proof_search_branch_C : Con := ⟨[(.sl (.int .i64)), (.sl (.sl (.int .i64))), (.mp .str (.int .i64)), (.sl (.st 1)), (.int .i64), .bool], [(.int .i64)], fun (a : (List Int) × (List (List Int)) × (List (ByteArray × Int)) × (List T_api_Step) × Int × Bool) => proof_search_branch_m a.1 a.2.1 a.2.2.1 a.2.2.2.1 a.2.2.2.2.1 a.2.2.2.2.2, [(false, [.ptr 0])], [.oc 0 [.own 1, .own 2, .mp 3, .own 4, .d 4 0, .d 5 0], .oa 1 (.d 0 0), .oa 2 (.d 1 0), .oa 3 (.d 2 0), .oa 4 (.d 3 0)], [(false, [.d 0 0])], [.same, .same, .same, .same, .same], 5, 5⟩
def proof_search_branch_H : Hints := ⟨[(0, ⟨[], ⟨[(.int .i64)], [(0, none), (2, none), (11, none), (12, none), (13, some (false, [.d 0 0]))], [.keep, .keep, .keep, .keep, .keep], 0⟩, [], some ([], ⟨[], [(0, none), (2, none)], [.keep, .keep, .keep, .keep, .keep], 0⟩), true, none⟩), (2, ⟨[], ⟨[(.int .i64), (.int .i64)], [(0, none), (2, none), (5, some (false, [.d 0 0])), (11, none), (12, none), (13, none), (17, none), (18, none), (19, some (false, [.d 1 0]))], [.keep, .keep, .keep, .keep, .keep], 0⟩, [], some ([], ⟨[(.int .i64)], [(0, none), (2, none), (5, some (false, [.d 0 0]))], [.keep, .keep, .keep, .keep, .keep], 0⟩), false, some (1, ([], ⟨[], [(0, none), (2, none), (11, none), (12, none), (13, none)], [.keep, .keep, .keep, .keep, .keep], 0⟩))⟩)], [], [], [], []⟩
theorem proof_search_branch_ok [DrawMode] : ConFn prog 51 proof_search_branch_C := conFn_of (H := proof_search_branch_H) (fin := []) Tryd.func51 Tryd.call51 (tabL_ok (l := [(68, proof_search_value_C)]) ⟨proof_search_value_ok, trivial⟩) rfl rfl rfl (fun a => by kernel_rfl)

noncomputable def proof_search_set_m (s_0_values : (List Int)) (s_0_clauses : (List (List Int))) (s_0_known : (List (ByteArray × Int))) (s_0_steps : (List T_api_Step)) (s_0_nodes : Int) (s_0_stop : Bool) (x_1 : Int) (value_2 : Int) : Option ((List Int)) :=
 bif decide (x_1 < 0) then
 Option.bind (idxM s_0_values (isub .i64 (ineg .i64 x_1) 1)) fun t1 =>
 some (s_0_values.set (Int.toNat (isub .i64 (ineg .i64 x_1) 1)) (ineg .i64 value_2))
 else
 Option.bind (idxM s_0_values (isub .i64 x_1 1)) fun t2 =>
 some (s_0_values.set (Int.toNat (isub .i64 x_1 1)) value_2)
noncomputable def proof_search_set_C : Con := ⟨[(.sl (.int .i64)), (.sl (.sl (.int .i64))), (.mp .str (.int .i64)), (.sl (.st 1)), (.int .i64), .bool, (.int .i64), (.int .i64)], [(.sl (.int .i64))], fun (a : (List Int) × (List (List Int)) × (List (ByteArray × Int)) × (List T_api_Step) × Int × Bool × Int × Int) => proof_search_set_m a.1 a.2.1 a.2.2.1 a.2.2.2.1 a.2.2.2.2.1 a.2.2.2.2.2.1 a.2.2.2.2.2.2.1 a.2.2.2.2.2.2.2, [(false, [.ptr 0]), (false, [.d 6 0]), (false, [.d 7 0])], [.oc 0 [.own 1, .own 2, .mp 3, .own 4, .d 4 0, .d 5 0], .oa 1 (.d 0 0), .oa 2 (.d 1 0), .oa 3 (.d 2 0), .oa 4 (.d 3 0)], [], [.same, .oa 1 (.d 0 0), .same, .same, .same], 5, 5⟩
def proof_search_set_H : Hints := ⟨[], [], [], [], []⟩
theorem proof_search_set_ok [DrawMode] : ConFn prog 69 proof_search_set_C := conFn_of (H := proof_search_set_H) (fin := []) Tryd.func69 Tryd.call69 (tabL_ok (l := []) trivial) rfl rfl rfl (fun a => by kernel_rfl)

def proof_search_find_C0 : Con := ⟨[(.sl (.int .i64)), (.sl (.sl (.int .i64))), (.mp .str (.int .i64)), (.sl (.st 1)), (.int .i64), .bool], [(.int .i64), (.sl (.int .i64)), (.mp .str (.int .i64)), (.int .i64), .bool, (.sl (.sl (.int .i64))), (.sl (.st 1))], fun _ => none, [(false, [.ptr 0])], [.oc 0 [.own 1, .own 2, .mp 3, .own 4, .d 4 0, .d 5 0], .oa 1 (.d 0 0), .oa 2 (.d 1 0), .oa 3 (.d 2 0), .oa 4 (.d 3 0)], [(false, [.d 0 0])], [.oc 0 [.own 1, .own 5, .mp 3, .own 6, .d 3 0, .d 4 0], .oa 1 (.d 1 0), .dead, .oa 3 (.d 2 0), .dead, .oa 5 (.d 5 0), .oa 6 (.d 6 0)], 5, 7⟩
noncomputable def proof_search_under_m (proof_search_find_r : (List Int) → (List (List Int)) → (List (ByteArray × Int)) → (List T_api_Step) → Int → Bool → Option (Int × (List Int) × (List (ByteArray × Int)) × Int × Bool × (List (List Int)) × (List T_api_Step))) (s_0_values : (List Int)) (s_0_clauses : (List (List Int))) (s_0_known : (List (ByteArray × Int))) (s_0_steps : (List T_api_Step)) (s_0_nodes : Int) (s_0_stop : Bool) (x_1 : Int) : Option (Int × (List Int) × (List (ByteArray × Int)) × Int × Bool × (List (List Int)) × (List T_api_Step)) :=
 Option.bind (proof_search_set_m s_0_values s_0_clauses s_0_known s_0_steps s_0_nodes s_0_stop x_1 1) fun t1 =>
 Option.bind (proof_search_find_r t1 s_0_clauses s_0_known s_0_steps s_0_nodes s_0_stop) fun n2 =>
 bif decide (n2.1 ≥ 0) then
 Option.bind (proof_search_set_m n2.2.1 n2.2.2.2.2.2.1 n2.2.2.1 n2.2.2.2.2.2.2 n2.2.2.2.1 n2.2.2.2.2.1 x_1 0) fun t3 =>
 some ((n2.1, t3, n2.2.2.1, n2.2.2.2.1, n2.2.2.2.2.1, n2.2.2.2.2.2.1, n2.2.2.2.2.2.2))
 else
 bif n2.2.2.2.2.1 then
 Option.bind (proof_search_set_m n2.2.1 n2.2.2.2.2.2.1 n2.2.2.1 n2.2.2.2.2.2.2 n2.2.2.2.1 n2.2.2.2.2.1 x_1 0) fun t4 =>
 some ((n2.1, t4, n2.2.2.1, n2.2.2.2.1, n2.2.2.2.2.1, n2.2.2.2.2.2.1, n2.2.2.2.2.2.2))
 else
 some ((n2.1, n2.2.1, n2.2.2.1, n2.2.2.2.1, n2.2.2.2.2.1, n2.2.2.2.2.2.1, n2.2.2.2.2.2.2))
noncomputable def proof_search_under_C (proof_search_find_r : (List Int) → (List (List Int)) → (List (ByteArray × Int)) → (List T_api_Step) → Int → Bool → Option (Int × (List Int) × (List (ByteArray × Int)) × Int × Bool × (List (List Int)) × (List T_api_Step))) : Con := ⟨[(.sl (.int .i64)), (.sl (.sl (.int .i64))), (.mp .str (.int .i64)), (.sl (.st 1)), (.int .i64), .bool, (.int .i64)], [(.int .i64), (.sl (.int .i64)), (.mp .str (.int .i64)), (.int .i64), .bool, (.sl (.sl (.int .i64))), (.sl (.st 1))], fun (a : (List Int) × (List (List Int)) × (List (ByteArray × Int)) × (List T_api_Step) × Int × Bool × Int) => proof_search_under_m proof_search_find_r a.1 a.2.1 a.2.2.1 a.2.2.2.1 a.2.2.2.2.1 a.2.2.2.2.2.1 a.2.2.2.2.2.2, [(false, [.ptr 0]), (false, [.d 6 0])], [.oc 0 [.own 1, .own 2, .mp 3, .own 4, .d 4 0, .d 5 0], .oa 1 (.d 0 0), .oa 2 (.d 1 0), .oa 3 (.d 2 0), .oa 4 (.d 3 0)], [(false, [.d 0 0])], [.oc 0 [.own 1, .own 5, .mp 3, .own 6, .d 3 0, .d 4 0], .oa 1 (.d 1 0), .dead, .oa 3 (.d 2 0), .dead, .oa 5 (.d 5 0), .oa 6 (.d 6 0)], 5, 7⟩
def proof_search_under_H : Hints := ⟨[], [], [], [], []⟩
theorem proof_search_under_ok {proof_search_find_r : (List Int) → (List (List Int)) → (List (ByteArray × Int)) → (List T_api_Step) → Int → Bool → Option (Int × (List Int) × (List (ByteArray × Int)) × Int × Bool × (List (List Int)) × (List T_api_Step))} (h_proof_search_find_r : ConFn prog 42 (proof_search_find_C0.with fun (a : (List Int) × (List (List Int)) × (List (ByteArray × Int)) × (List T_api_Step) × Int × Bool) => proof_search_find_r a.1 a.2.1 a.2.2.1 a.2.2.2.1 a.2.2.2.2.1 a.2.2.2.2.2)) : ConFn prog 52 (proof_search_under_C proof_search_find_r) := conFn_of (H := proof_search_under_H) (fin := []) Tryd.func52 Tryd.call52 (tabL_ok (l := [(69, proof_search_set_C), (42, (proof_search_find_C0.with fun (a : (List Int) × (List (List Int)) × (List (ByteArray × Int)) × (List T_api_Step) × Int × Bool) => proof_search_find_r a.1 a.2.1 a.2.2.1 a.2.2.2.1 a.2.2.2.2.1 a.2.2.2.2.2))]) ⟨proof_search_set_ok, h_proof_search_find_r, trivial⟩) rfl rfl rfl (fun a => by kernel_rfl)

theorem keyM_ok : ConOk prog 70 ⟨[.sl (.int .i64)], [.str], keyM, [(false, [.d 0 0])], [], [(false, [.d 0 0])], [], 0, 0⟩ := fun a r h hs =>
  (keyM_fn (fun h => h) (g := 0) (by kernel_rfl) (List.mem_singleton.2 rfl) h).re fun x F w _ => ⟨⟨hs, fun i hi => absurd hi (Nat.not_lt_zero i)⟩, rfl, rfl⟩
noncomputable def proof_key_C : Con := ⟨[.sl (.int .i64)], [.str], keyM, [(false, [.d 0 0])], [], [(false, [.d 0 0])], [], 0, 0⟩
theorem proof_key_ok : ConFn prog 70 proof_key_C := ⟨Tryd.call70, keyM_ok⟩

noncomputable def proof_search_learn_m (s_0_values : (List Int)) (s_0_clauses : (List (List Int))) (s_0_known : (List (ByteArray × Int))) (s_0_steps : (List T_api_Step)) (s_0_nodes : Int) (s_0_stop : Bool) (i_1 : Int) (k_2 : Int) (x_3 : Int) : Option (Int × (List (ByteArray × Int)) × Int × Bool × (List (List Int)) × (List T_api_Step)) :=
 joinM (fun j2 : Int × Int × Int =>
 Option.bind (idxM s_0_clauses j2.1) fun t6 =>
 Option.bind (idxM s_0_clauses j2.2.1) fun t7 =>
 Option.bind (proof_Resolve_m t6 t7 j2.2.2) fun t8 =>
 joinM (fun j12 : Bool =>
 bif j12 then
 some (((-1), s_0_known, s_0_nodes, true, s_0_clauses, s_0_steps))
 else
 Option.bind (keyM t8.2) fun t13 =>
 joinM (fun j15 : Unit =>
 Option.bind (appM 24 s_0_steps [(T_api_Step.mk j2.1 j2.2.1 j2.2.2)]) fun t16 =>
 Option.bind (appM 24 s_0_clauses [t8.2]) fun t17 =>
 some ((isub .i64 ((t17.length : Int)) 1, mapPut s_0_known t13 (isub .i64 ((t17.length : Int)) 1), s_0_nodes, s_0_stop, t17, t16))) fun k14 =>
 bif mapHas s_0_known t13 then
 bif decide (((t8.2.length : Int)) > 0) then
 some ((mapGet s_0_known t13 0, s_0_known, s_0_nodes, s_0_stop, s_0_clauses, s_0_steps))
 else
 k14 (())
 else
 k14 (())) fun k11 =>
 bif !t8.1 then
 k11 true
 else
 k11 (((s_0_steps.length : Int) : Int) == 20000)) fun k1 =>
 bif decide (x_3 < 0) then
 k1 ((k_2, i_1, ineg .i64 x_3))
 else
 k1 ((i_1, k_2, x_3))
noncomputable def proof_search_learn_C : Con := ⟨[(.sl (.int .i64)), (.sl (.sl (.int .i64))), (.mp .str (.int .i64)), (.sl (.st 1)), (.int .i64), .bool, (.int .i64), (.int .i64), (.int .i64)], [(.int .i64), (.mp .str (.int .i64)), (.int .i64), .bool, (.sl (.sl (.int .i64))), (.sl (.st 1))], fun (a : (List Int) × (List (List Int)) × (List (ByteArray × Int)) × (List T_api_Step) × Int × Bool × Int × Int × Int) => proof_search_learn_m a.1 a.2.1 a.2.2.1 a.2.2.2.1 a.2.2.2.2.1 a.2.2.2.2.2.1 a.2.2.2.2.2.2.1 a.2.2.2.2.2.2.2.1 a.2.2.2.2.2.2.2.2, [(false, [.ptr 0]), (false, [.d 6 0]), (false, [.d 7 0]), (false, [.d 8 0])], [.oc 0 [.own 1, .own 2, .mp 3, .own 4, .d 4 0, .d 5 0], .oa 1 (.d 0 0), .oa 2 (.d 1 0), .oa 3 (.d 2 0), .oa 4 (.d 3 0)], [(false, [.d 0 0])], [.oc 0 [.own 1, .own 5, .mp 3, .own 6, .d 2 0, .d 3 0], .same, .dead, .oa 3 (.d 1 0), .dead, .oa 5 (.d 4 0), .oa 6 (.d 5 0)], 5, 7⟩
def proof_search_learn_H : Hints := ⟨[], [(8, ([], ⟨[(.int .i64), (.int .i64), (.int .i64)], [(0, none), (1, some (false, [.d 0 0])), (2, some (false, [.d 1 0])), (3, some (false, [.d 2 0])), (8, none)], [.keep, .keep, .keep, .keep, .keep], 0⟩)), (12, ([], ⟨[.bool], [(0, none), (1, none), (2, none), (3, none), (8, none), (9, none), (48, some (false, [.d 0 0]))], [.keep, .keep, .keep, .keep, .keep, .keep], 0⟩)), (24, ([], ⟨[], [(0, none), (1, none), (2, none), (3, none), (8, none), (9, none), (11, none)], [.keep, .keep, .keep, .keep, .keep, .dead], 0⟩))], [], [], []⟩
theorem proof_search_learn_ok : ConFn prog 53 proof_search_learn_C := conFn_of (H := proof_search_learn_H) (fin := []) Tryd.func53 Tryd.call53 (tabL_ok (l := [(19, proof_Resolve_C), (70, proof_key_C)]) ⟨proof_Resolve_ok, proof_key_ok, trivial⟩) rfl rfl rfl (fun a => by kernel_rfl)

noncomputable def proof_search_find_b (proof_search_find_r : (List Int) → (List (List Int)) → (List (ByteArray × Int)) → (List T_api_Step) → Int → Bool → Option (Int × (List Int) × (List (ByteArray × Int)) × Int × Bool × (List (List Int)) × (List T_api_Step))) (s_0_values : (List Int)) (s_0_clauses : (List (List Int))) (s_0_known : (List (ByteArray × Int))) (s_0_steps : (List T_api_Step)) (s_0_nodes : Int) (s_0_stop : Bool) : Option (Int × (List Int) × (List (ByteArray × Int)) × Int × Bool × (List (List Int)) × (List T_api_Step)) :=
 joinM (fun j2 : Int × Bool =>
 bif j2.2 then
 some (((-1), s_0_values, s_0_known, j2.1, j2.2, s_0_clauses, s_0_steps))
 else
 Option.bind (proof_search_look_m s_0_values s_0_clauses s_0_known s_0_steps j2.1 j2.2) fun t3 =>
 joinM (fun j5 : Unit =>
 joinM (fun j8 : Int =>
 Option.bind (proof_search_under_m proof_search_find_r s_0_values s_0_clauses s_0_known s_0_steps j2.1 j2.2 j8) fun first9 =>
 bif decide (first9.1 < 0) then
 some ((first9.1, first9.2.1, first9.2.2.1, first9.2.2.2.1, first9.2.2.2.2.1, first9.2.2.2.2.2.1, first9.2.2.2.2.2.2))
 else
 bif first9.2.2.2.2.1 then
 some ((first9.1, first9.2.1, first9.2.2.1, first9.2.2.2.1, first9.2.2.2.2.1, first9.2.2.2.2.2.1, first9.2.2.2.2.2.2))
 else
 Option.bind (idxM first9.2.2.2.2.2.1 first9.1) fun t12 =>
 Option.bind (slices_Contains_int_int_m t12 (ineg .i64 j8)) fun t13 =>
 bif !t13 then
 some ((first9.1, first9.2.1, first9.2.2.1, first9.2.2.2.1, first9.2.2.2.2.1, first9.2.2.2.2.2.1, first9.2.2.2.2.2.2))
 else
 bif decide (t3.1 < 0) then
 Option.bind (proof_search_under_m proof_search_find_r first9.2.1 first9.2.2.2.2.2.1 first9.2.2.1 first9.2.2.2.2.2.2 first9.2.2.2.1 first9.2.2.2.2.1 (ineg .i64 j8)) fun unit14 =>
 bif decide (unit14.1 < 0) then
 some ((unit14.1, unit14.2.1, unit14.2.2.1, unit14.2.2.2.1, unit14.2.2.2.2.1, unit14.2.2.2.2.2.1, unit14.2.2.2.2.2.2))
 else
 bif unit14.2.2.2.2.1 then
 some ((unit14.1, unit14.2.1, unit14.2.2.1, unit14.2.2.2.1, unit14.2.2.2.2.1, unit14.2.2.2.2.2.1, unit14.2.2.2.2.2.2))
 else
 Option.bind (idxM unit14.2.2.2.2.2.1 unit14.1) fun t15 =>
 Option.bind (slices_Contains_int_int_m t15 j8) fun t16 =>
 bif !t16 then
 some ((unit14.1, unit14.2.1, unit14.2.2.1, unit14.2.2.2.1, unit14.2.2.2.2.1, unit14.2.2.2.2.2.1, unit14.2.2.2.2.2.2))
 else
 Option.bind (proof_search_learn_m unit14.2.1 unit14.2.2.2.2.2.1 unit14.2.2.1 unit14.2.2.2.2.2.2 unit14.2.2.2.1 unit14.2.2.2.2.1 unit14.1 first9.1 j8) fun t17 =>
 some ((t17.1, unit14.2.1, t17.2.1, t17.2.2.1, t17.2.2.2.1, t17.2.2.2.2.1, t17.2.2.2.2.2))
 else
 Option.bind (proof_search_learn_m first9.2.1 first9.2.2.2.2.2.1 first9.2.2.1 first9.2.2.2.2.2.2 first9.2.2.2.1 first9.2.2.2.2.1 t3.1 first9.1 j8) fun t18 =>
 some ((t18.1, first9.2.1, t18.2.1, t18.2.2.1, t18.2.2.2.1, t18.2.2.2.2.1, t18.2.2.2.2.2))) fun k7 =>
 bif decide (t3.1 < 0) then
 Option.bind (proof_search_branch_m s_0_values s_0_clauses s_0_known s_0_steps j2.1 j2.2) fun x19 =>
 bif (x19 : Int) == 0 then
 some (((-1), s_0_values, s_0_known, j2.1, j2.2, s_0_clauses, s_0_steps))
 else
 k7 x19
 else
 k7 t3.2) fun k4 =>
 bif decide (t3.1 ≥ 0) then
 bif (t3.2 : Int) == 0 then
 some ((t3.1, s_0_values, s_0_known, j2.1, j2.2, s_0_clauses, s_0_steps))
 else
 k4 (())
 else
 k4 (())) fun k1 =>
 bif decide ((iadd .i64 s_0_nodes 1) > 9000) then
 k1 ((iadd .i64 s_0_nodes 1, true))
 else
 k1 ((iadd .i64 s_0_nodes 1, s_0_stop))
noncomputable def proof_search_find_n (n : Nat) : (List Int) → (List (List Int)) → (List (ByteArray × Int)) → (List T_api_Step) → Int → Bool → Option (Int × (List Int) × (List (ByteArray × Int)) × Int × Bool × (List (List Int)) × (List T_api_Step)) := Nat.rec (fun _ _ _ _ _ _ => none) (fun _ f => proof_search_find_b f) n
noncomputable def proof_search_find_m (s_0_values : (List Int)) (s_0_clauses : (List (List Int))) (s_0_known : (List (ByteArray × Int))) (s_0_steps : (List T_api_Step)) (s_0_nodes : Int) (s_0_stop : Bool) : Option (Int × (List Int) × (List (ByteArray × Int)) × Int × Bool × (List (List Int)) × (List T_api_Step)) := limM (fun n (a : (List Int) × (List (List Int)) × (List (ByteArray × Int)) × (List T_api_Step) × Int × Bool) => proof_search_find_n n a.1 a.2.1 a.2.2.1 a.2.2.2.1 a.2.2.2.2.1 a.2.2.2.2.2) (s_0_values, s_0_clauses, s_0_known, s_0_steps, s_0_nodes, s_0_stop)
noncomputable def proof_search_find_C : Con := proof_search_find_C0.with (limM fun n (a : (List Int) × (List (List Int)) × (List (ByteArray × Int)) × (List T_api_Step) × Int × Bool) => proof_search_find_n n a.1 a.2.1 a.2.2.1 a.2.2.2.1 a.2.2.2.2.1 a.2.2.2.2.2)
def proof_search_find_H : Hints := ⟨[], [(10, ([], ⟨[(.int .i64), .bool], [(0, none), (2, none)], [.cells [none, none, none, none, some (.d 0 0), some (.d 1 0)], .keep, .keep, .keep, .keep], 0⟩)), (20, ([], ⟨[], [(0, none), (2, none), (3, none), (4, none)], [.keep, .keep, .keep, .keep, .keep], 0⟩)), (28, ([], ⟨[(.int .i64)], [(0, none), (2, none), (3, none), (4, some (false, [.d 0 0]))], [.keep, .keep, .keep, .keep, .keep], 0⟩))], [], [], []⟩
theorem proof_search_find_okr {proof_search_find_r : (List Int) → (List (List Int)) → (List (ByteArray × Int)) → (List T_api_Step) → Int → Bool → Option (Int × (List Int) × (List (ByteArray × Int)) × Int × Bool × (List (List Int)) × (List T_api_Step))} (h_proof_search_find_r : ConFn prog 42 (proof_search_find_C0.with fun (a : (List Int) × (List (List Int)) × (List (ByteArray × Int)) × (List T_api_Step) × Int × Bool) => proof_search_find_r a.1 a.2.1 a.2.2.1 a.2.2.2.1 a.2.2.2.2.1 a.2.2.2.2.2)) : ConFn prog 42 (proof_search_find_C0.with fun (a : (List Int) × (List (List Int)) × (List (ByteArray × Int)) × (List T_api_Step) × Int × Bool) => proof_search_find_b proof_search_find_r a.1 a.2.1 a.2.2.1 a.2.2.2.1 a.2.2.2.2.1 a.2.2.2.2.2) := conFn_of (H := proof_search_find_H) (fin := []) Tryd.func42 Tryd.call42 (tabL_ok (l := [(50, proof_search_look_C), (51, proof_search_branch_C), (52, (proof_search_under_C proof_search_find_r)), (32, slices_Contains_int_int_C), (53, proof_search_learn_C)]) ⟨proof_search_look_ok, proof_search_branch_ok, (proof_search_under_ok h_proof_search_find_r), slices_Contains_int_int_ok, proof_search_learn_ok, trivial⟩) rfl rfl rfl (fun a => by kernel_rfl)
theorem proof_search_find_ok : ConFn prog 42 proof_search_find_C := conFn_rec (P := prog) (f := 42) (C := proof_search_find_C0) (m := fun n (a : (List Int) × (List (List Int)) × (List (ByteArray × Int)) × (List T_api_Step) × Int × Bool) => proof_search_find_n n a.1 a.2.1 a.2.2.1 a.2.2.2.1 a.2.2.2.2.1 a.2.2.2.2.2) Tryd.call42 rfl (fun n h => proof_search_find_okr h)

noncomputable def proof_search_model_l1 (s_0_values : (List Int)) (s10 : Int × (List Bool)) : Option (Sum ((List Bool)) (Int × (List Bool))) :=
 bif decide (s10.1 < ((s_0_values.length : Int))) then
 Option.bind (idxM s_0_values s10.1) fun t11 =>
 Option.bind (appM 1 s10.2 [decide (t11 > 0)]) fun out12 =>
 some (Sum.inr ((iadd .i64 s10.1 1, out12)))
 else
 some (Sum.inl s10.2)
noncomputable def proof_search_model_m (s_0_values : (List Int)) (s_0_clauses : (List (List Int))) (s_0_known : (List (ByteArray × Int))) (s_0_steps : (List T_api_Step)) (s_0_nodes : Int) (s_0_stop : Bool) : Option ((List Bool)) :=
 Option.bind (loopC (proof_search_model_l1 s_0_values) ((0, []))) fun q13 : (List Bool) =>
 some q13
noncomputable def proof_search_model_C : Con := ⟨[(.sl (.int .i64)), (.sl (.sl (.int .i64))), (.mp .str (.int .i64)), (.sl (.st 1)), (.int .i64), .bool], [(.sl .bool)], fun (a : (List Int) × (List (List Int)) × (List (ByteArray × Int)) × (List T_api_Step) × Int × Bool) => proof_search_model_m a.1 a.2.1 a.2.2.1 a.2.2.2.1 a.2.2.2.2.1 a.2.2.2.2.2, [(false, [.ptr 0])], [.oc 0 [.own 1, .own 2, .mp 3, .own 4, .d 4 0, .d 5 0], .oa 1 (.d 0 0), .oa 2 (.d 1 0), .oa 3 (.d 2 0), .oa 4 (.d 3 0)], [(false, [.own 5])], [.same, .same, .same, .same, .same, .oa 5 (.d 0 0)], 5, 6⟩
def proof_search_model_H : Hints := ⟨[(0, ⟨[.own .bool (.slot 3 0)], ⟨[(.int .i64), (.sl .bool)], [(0, none), (2, none), (3, some (false, [.own 6])), (9, none), (10, none), (11, some (false, [.d 0 0]))], [.keep, .keep, .keep, .keep, .keep, .dead, .oaN 0 (.d 1 0)], 1⟩, [], some ([], ⟨[(.sl .bool)], [(0, none), (2, none), (3, some (false, [.own 6]))], [.keep, .keep, .keep, .keep, .keep, .dead, .oaN 0 (.d 0 0)], 1⟩), false, none⟩)], [], [], [], []⟩
theorem proof_search_model_ok [DrawMode] : ConFn prog 43 proof_search_model_C := conFn_of (H := proof_search_model_H) (fin := []) Tryd.func43 Tryd.call43 (tabL_ok (l := []) trivial) rfl rfl rfl (fun a => by kernel_rfl)

noncomputable def proof_Solve_l1 (l_1 : (List (List Int))) (s13 : Int) : Option (Sum (Sum (T_api_Answer × Int) (Unit)) (Int)) :=
 bif decide (s13 < ((l_1.length : Int))) then
 Option.bind (idxM l_1 s13) fun t14 =>
 bif ((t14.length : Int) : Int) == 0 then
 some (Sum.inl (Sum.inl (((T_api_Answer.mk false [] []), 0))))
 else
 some (Sum.inr (iadd .i64 s13 1))
 else
 some (Sum.inl (Sum.inr (())))
noncomputable def proof_Solve_m (n_0 : Int) (l_1 : (List (List Int))) : Option (T_api_Answer × Int) :=
 Option.bind (proof_Validate_m n_0 l_1) fun e2 =>
 bif (e2 : Int) != 0 then
 some (((T_api_Answer.mk false [] []), e2))
 else
 Option.bind (loopC (proof_Solve_l1 l_1) 0) (sumK (fun a : T_api_Answer × Int => some a) fun q15 : Unit =>
 joinM (fun j27 : (List Int) × (List (List Int)) × (List (ByteArray × Int)) × (List T_api_Step) =>
 Option.bind (proof_search_find_m j27.1 j27.2.1 j27.2.2.1 j27.2.2.2 0 false) fun found28 =>
 bif found28.2.2.2.2.1 then
 some (((T_api_Answer.mk false [] []), 2))
 else
 bif decide (found28.1 < 0) then
 Option.bind (proof_search_model_m found28.2.1 found28.2.2.2.2.2.1 found28.2.2.1 found28.2.2.2.2.2.2 found28.2.2.2.1 found28.2.2.2.2.1) fun t30 =>
 some (((T_api_Answer.mk true t30 []), 0))
 else
 some (((T_api_Answer.mk false [] found28.2.2.2.2.2.2), 0))) fun k26 =>
 meetO (
 Option.bind (mkM 8 0 n_0) fun t31 =>
 meetO (
 Option.bind (slices_Clone_int_int_m l_1) fun t32 =>
 k26 ((t31, t32, [], []))) (
 Option.bind (slices_Clone_int_int_m l_1) fun t33 =>
 k26 ((t31, t33, [], [])))) (
 meetO (
 Option.bind (slices_Clone_int_int_m l_1) fun t34 =>
 meetO (
 Option.bind (mkM 8 0 n_0) fun t35 =>
 k26 ((t35, t34, [], []))) (
 Option.bind (mkM 8 0 n_0) fun t36 =>
 k26 ((t36, t34, [], [])))) (
 meetO (
 Option.bind (mkM 8 0 n_0) fun t37 =>
 Option.bind (slices_Clone_int_int_m l_1) fun t38 =>
 k26 ((t37, t38, [], []))) (
 Option.bind (slices_Clone_int_int_m l_1) fun t39 =>
 Option.bind (mkM 8 0 n_0) fun t40 =>
 k26 ((t40, t39, [], []))))))
noncomputable def proof_Solve_C : Con := ⟨[(.int .i64), (.sl (.sl (.int .i64)))], [(.st 2), (.int .i64)], fun (a : Int × (List (List Int))) => proof_Solve_m a.1 a.2, [(false, [.d 0 0]), (false, [.d 1 0])], [], [(true, [.d 0 0, .d 0 1, .d 0 2]), (false, [.d 1 0])], [], 0, 0⟩
def proof_Solve_H : Hints := ⟨[(0, ⟨[], ⟨[(.int .i64)], [(0, none), (1, none), (4, none), (5, none), (18, none), (19, none), (20, some (false, [.d 0 0]))], [.keep], 0⟩, [], some ([], ⟨[], [(0, none), (1, none), (4, none), (5, none)], [.keep], 0⟩), true, none⟩)], [(24, ([.own (.st 1) (.cell 4 3)], ⟨[(.sl (.int .i64)), (.sl (.sl (.int .i64))), (.mp .str (.int .i64)), (.sl (.st 1))], [(4, none), (5, none), (9, some (false, [.ptr 1]))], [.keep, .ocN 0 [.own 2, .own 3, .mp 4, .own 5, .fx (.ci .i64 0), .fx (.cb false)], .oaN 1 (.d 0 0), .oaN 2 (.d 1 0), .oaN 3 (.d 2 0), .oaN 4 (.d 3 0)], 5⟩))], [], [], []⟩
theorem proof_Solve_ok : ConFn prog 23 proof_Solve_C := conFn_of (H := proof_Solve_H) (fin := [.sl .bool (.cell 0 1), .sl (.st 1) (.cell 0 2)]) Tryd.func23 Tryd.call23 (tabL_ok (l := [(15, proof_Validate_C), (41, slices_Clone_int_int_C), (42, proof_search_find_C), (43, proof_search_model_C)]) ⟨proof_Validate_ok, slices_Clone_int_int_ok, proof_search_find_ok, proof_search_model_ok, trivial⟩) rfl rfl rfl (fun a => by kernel_rfl)

noncomputable def proof_satisfied_1_m (x_0 : Int) (p_1_0 : (List Bool)) : Option (Bool) :=
 Option.bind (proof_abs_m x_0) fun t1 =>
 Option.bind (idxM p_1_0 (isub .i64 t1 1)) fun t2 =>
 some (t2 == (decide (x_0 > 0)))
noncomputable def proof_satisfied_1_C : Con := ⟨[(.int .i64), (.sl .bool)], [.bool], fun (a : Int × (List Bool)) => proof_satisfied_1_m a.1 a.2, [(false, [.d 0 0]), (false, [.ptr 0])], [.oc 0 [.d 1 0]], [(false, [.d 0 0])], [.same], 1, 1⟩
def proof_satisfied_1_H : Hints := ⟨[], [], [], [], []⟩
theorem proof_satisfied_1_ok [DrawMode] : ConFn prog 55 proof_satisfied_1_C := conFn_of (H := proof_satisfied_1_H) (fin := []) Tryd.func55 Tryd.call55 (tabL_ok (l := [(33, proof_abs_C)]) ⟨proof_abs_ok, trivial⟩) rfl rfl rfl (fun a => by kernel_rfl)

noncomputable def slices_IndexFunc_int_int_l1 (s_0 : (List Int)) (f_1_0_0 : (List Bool)) (s7 : Int) : Option (Sum (Sum (Int) (Unit)) (Int)) :=
 bif decide (s7 < ((s_0.length : Int))) then
 Option.bind (idxM s_0 s7) fun t8 =>
 Option.bind (proof_satisfied_1_m t8 f_1_0_0) fun t9 =>
 bif t9 then
 some (Sum.inl (Sum.inl s7))
 else
 some (Sum.inr (iadd .i64 s7 1))
 else
 some (Sum.inl (Sum.inr (())))
noncomputable def slices_IndexFunc_int_int_m (s_0 : (List Int)) (f_1_0_0 : (List Bool)) : Option (Int) :=
 Option.bind (loopC (slices_IndexFunc_int_int_l1 s_0 f_1_0_0) 0) (sumK (fun a : Int => some a) fun q10 : Unit =>
 some ((-1)))
noncomputable def slices_IndexFunc_int_int_C : Con := ⟨[(.sl (.int .i64)), (.sl .bool)], [(.int .i64)], fun (a : (List Int) × (List Bool)) => slices_IndexFunc_int_int_m a.1 a.2, [(false, [.d 0 0]), (false, [.fn 55 [some 0]])], [.oc 0 [.d 1 0]], [(false, [.d 0 0])], [.same], 1, 1⟩
def slices_IndexFunc_int_int_H : Hints := ⟨[(0, ⟨[], ⟨[(.int .i64)], [(0, none), (1, none), (4, none), (7, none), (8, some (false, [.d 0 0]))], [.keep], 0⟩, [], some ([], ⟨[], [(1, none), (4, none)], [.keep], 0⟩), true, none⟩)], [], [], [], []⟩
theorem slices_IndexFunc_int_int_ok [DrawMode] : ConFn prog 71 slices_IndexFunc_int_int_C := conFn_of (H := slices_IndexFunc_int_int_H) (fin := []) Tryd.func71 Tryd.call71 (tabL_ok (l := [(55, proof_satisfied_1_C)]) ⟨proof_satisfied_1_ok, trivial⟩) rfl rfl rfl (fun a => by kernel_rfl)

noncomputable def slices_ContainsFunc_int_int_m (s_0 : (List Int)) (f_1_0_0 : (List Bool)) : Option (Bool) :=
 Option.bind (slices_IndexFunc_int_int_m s_0 f_1_0_0) fun t1 =>
 some (decide (t1 ≥ 0))
noncomputable def slices_ContainsFunc_int_int_C : Con := ⟨[(.sl (.int .i64)), (.sl .bool)], [.bool], fun (a : (List Int) × (List Bool)) => slices_ContainsFunc_int_int_m a.1 a.2, [(false, [.d 0 0]), (false, [.fn 55 [some 0]])], [.oc 0 [.d 1 0]], [(false, [.d 0 0])], [.same], 1, 1⟩
def slices_ContainsFunc_int_int_H : Hints := ⟨[], [], [], [], []⟩
theorem slices_ContainsFunc_int_int_ok [DrawMode] : ConFn prog 54 slices_ContainsFunc_int_int_C := conFn_of (H := slices_ContainsFunc_int_int_H) (fin := []) Tryd.func54 Tryd.call54 (tabL_ok (l := [(71, slices_IndexFunc_int_int_C)]) ⟨slices_IndexFunc_int_int_ok, trivial⟩) rfl rfl rfl (fun a => by kernel_rfl)

noncomputable def proof_satisfied_l1 (l_0 : (List (List Int))) (model_1 : (List Bool)) (s7 : Int) : Option (Sum (Sum (Bool) (Unit)) (Int)) :=
 bif decide (s7 < ((l_0.length : Int))) then
 Option.bind (idxM l_0 s7) fun t8 =>
 Option.bind (slices_ContainsFunc_int_int_m t8 model_1) fun t9 =>
 bif !t9 then
 some (Sum.inl (Sum.inl false))
 else
 some (Sum.inr (iadd .i64 s7 1))
 else
 some (Sum.inl (Sum.inr (())))
noncomputable def proof_satisfied_m (l_0 : (List (List Int))) (model_1 : (List Bool)) : Option (Bool) :=
 Option.bind (loopC (proof_satisfied_l1 l_0 model_1) 0) (sumK (fun a : Bool => some a) fun q10 : Unit =>
 some true)
noncomputable def proof_satisfied_C : Con := ⟨[(.sl (.sl (.int .i64))), (.sl .bool)], [.bool], fun (a : (List (List Int)) × (List Bool)) => proof_satisfied_m a.1 a.2, [(false, [.d 0 0]), (false, [.d 1 0])], [], [(false, [.d 0 0])], [], 0, 0⟩
def proof_satisfied_H : Hints := ⟨[(0, ⟨[], ⟨[(.int .i64)], [(3, none), (4, none), (7, none), (8, none), (9, some (false, [.d 0 0]))], [.keep], 0⟩, [], some ([], ⟨[], [(4, none)], [.dead], 0⟩), true, none⟩)], [], [], [], []⟩
theorem proof_satisfied_ok [DrawMode] : ConFn prog 44 proof_satisfied_C := conFn_of (H := proof_satisfied_H) (fin := []) Tryd.func44 Tryd.call44 (tabL_ok (l := [(54, slices_ContainsFunc_int_int_C)]) ⟨slices_ContainsFunc_int_int_ok, trivial⟩) rfl rfl rfl (fun a => by kernel_rfl)

noncomputable def proof_refuted_1_m (c_0 : (List Int)) : Option (Bool) :=
 some (((c_0.length : Int) : Int) == 0)
noncomputable def proof_refuted_1_C : Con := ⟨[(.sl (.int .i64))], [.bool], fun (a : (List Int)) => proof_refuted_1_m a, [(false, [.d 0 0])], [], [(false, [.d 0 0])], [], 0, 0⟩
def proof_refuted_1_H : Hints := ⟨[], [], [], [], []⟩
theorem proof_refuted_1_ok [DrawMode] : ConFn prog 57 proof_refuted_1_C := conFn_of (H := proof_refuted_1_H) (fin := []) Tryd.func57 Tryd.call57 (tabL_ok (l := []) trivial) rfl rfl rfl (fun a => by kernel_rfl)

noncomputable def slices_IndexFunc_int_int__l1 (s_0 : (List (List Int))) (s7 : Int) : Option (Sum (Sum (Int) (Unit)) (Int)) :=
 bif decide (s7 < ((s_0.length : Int))) then
 Option.bind (idxM s_0 s7) fun t8 =>
 Option.bind (proof_refuted_1_m t8) fun t9 =>
 bif t9 then
 some (Sum.inl (Sum.inl s7))
 else
 some (Sum.inr (iadd .i64 s7 1))
 else
 some (Sum.inl (Sum.inr (())))
noncomputable def slices_IndexFunc_int_int__m (s_0 : (List (List Int))) : Option (Int) :=
 Option.bind (loopC (slices_IndexFunc_int_int__l1 s_0) 0) (sumK (fun a : Int => some a) fun q10 : Unit =>
 some ((-1)))
noncomputable def slices_IndexFunc_int_int__C : Con := ⟨[(.sl (.sl (.int .i64)))], [(.int .i64)], fun (a : (List (List Int))) => slices_IndexFunc_int_int__m a, [(false, [.d 0 0]), (false, [.fn 57 []])], [], [(false, [.d 0 0])], [], 0, 0⟩
def slices_IndexFunc_int_int__H : Hints := ⟨[(0, ⟨[], ⟨[(.int .i64)], [(0, none), (1, none), (4, none), (7, none), (8, some (false, [.d 0 0]))], [], 0⟩, [], some ([], ⟨[], [(1, none), (4, none)], [], 0⟩), true, none⟩)], [], [], [], []⟩
theorem slices_IndexFunc_int_int__ok [DrawMode] : ConFn prog 72 slices_IndexFunc_int_int__C := conFn_of (H := slices_IndexFunc_int_int__H) (fin := []) Tryd.func72 Tryd.call72 (tabL_ok (l := [(57, proof_refuted_1_C)]) ⟨proof_refuted_1_ok, trivial⟩) rfl rfl rfl (fun a => by kernel_rfl)

noncomputable def slices_ContainsFunc_int_int__m (s_0 : (List (List Int))) : Option (Bool) :=
 Option.bind (slices_IndexFunc_int_int__m s_0) fun t1 =>
 some (decide (t1 ≥ 0))
noncomputable def slices_ContainsFunc_int_int__C : Con := ⟨[(.sl (.sl (.int .i64)))], [.bool], fun (a : (List (List Int))) => slices_ContainsFunc_int_int__m a, [(false, [.d 0 0]), (false, [.fn 57 []])], [], [(false, [.d 0 0])], [], 0, 0⟩
def slices_ContainsFunc_int_int__H : Hints := ⟨[], [], [], [], []⟩
theorem slices_ContainsFunc_int_int__ok [DrawMode] : ConFn prog 56 slices_ContainsFunc_int_int__C := conFn_of (H := slices_ContainsFunc_int_int__H) (fin := []) Tryd.func56 Tryd.call56 (tabL_ok (l := [(72, slices_IndexFunc_int_int__C)]) ⟨slices_IndexFunc_int_int__ok, trivial⟩) rfl rfl rfl (fun a => by kernel_rfl)

noncomputable def proof_refuted_l1 (steps_1 : (List T_api_Step)) (s42 : Int × (List (List Int))) : Option (Sum (Sum (Bool) ((List (List Int)))) (Int × (List (List Int)))) :=
 bif decide (s42.1 < ((steps_1.length : Int))) then
 Option.bind (idxM steps_1 s42.1) fun t43 =>
 bif decide ((imin t43.Left t43.Right) < 0) then
 some (Sum.inl (Sum.inl false))
 else
 bif decide ((imax t43.Left t43.Right) ≥ ((s42.2.length : Int))) then
 some (Sum.inl (Sum.inl false))
 else
 Option.bind (idxM s42.2 t43.Left) fun t47 =>
 Option.bind (idxM s42.2 t43.Right) fun t48 =>
 Option.bind (proof_Resolve_m t47 t48 t43.Pivot) fun t49 =>
 bif !t49.1 then
 some (Sum.inl (Sum.inl false))
 else
 Option.bind (appM 24 s42.2 [t49.2]) fun all50 =>
 some (Sum.inr ((iadd .i64 s42.1 1, all50)))
 else
 some (Sum.inl (Sum.inr s42.2))
noncomputable def proof_refuted_m (l_0 : (List (List Int))) (steps_1 : (List T_api_Step)) : Option (Bool) :=
 bif ((steps_1.length : Int) : Int) == 0 then
 Option.bind (slices_ContainsFunc_int_int__m l_0) fun t2 =>
 some t2
 else
 Option.bind (slices_Clone_int_int_m l_0) fun all3 =>
 Option.bind (loopC (proof_refuted_l1 steps_1) ((0, all3))) (sumK (fun a : Bool => some a) fun q51 : (List (List Int)) =>
 Option.bind (idxM q51 (isub .i64 ((q51.length : Int)) 1)) fun t52 =>
 some (((t52.length : Int) : Int) == 0))
noncomputable def proof_refuted_C : Con := ⟨[(.sl (.sl (.int .i64))), (.sl (.st 1))], [.bool], fun (a : (List (List Int)) × (List T_api_Step)) => proof_refuted_m a.1 a.2, [(false, [.d 0 0]), (false, [.d 1 0])], [], [(false, [.d 0 0])], [], 0, 0⟩
def proof_refuted_H : Hints := ⟨[(0, ⟨[], ⟨[(.int .i64), (.sl (.sl (.int .i64)))], [(4, none), (5, some (false, [.own 1])), (17, none), (18, none), (19, some (false, [.d 0 0]))], [.dead, .oaN 0 (.d 1 0)], 1⟩, [], some ([], ⟨[(.sl (.sl (.int .i64)))], [(4, none), (5, some (false, [.own 1]))], [.dead, .oaN 0 (.d 0 0)], 1⟩), true, none⟩)], [], [], [], []⟩
theorem proof_refuted_ok [DrawMode] : ConFn prog 45 proof_refuted_C := conFn_of (H := proof_refuted_H) (fin := []) Tryd.func45 Tryd.call45 (tabL_ok (l := [(56, slices_ContainsFunc_int_int__C), (41, slices_Clone_int_int_C), (19, proof_Resolve_C)]) ⟨slices_ContainsFunc_int_int__ok, slices_Clone_int_int_ok, proof_Resolve_ok, trivial⟩) rfl rfl rfl (fun a => by kernel_rfl)

noncomputable def proof_Check_m (n_0 : Int) (l_1 : (List (List Int))) (x_2 : T_api_Answer) : Option (Int) :=
 Option.bind (proof_Validate_m n_0 l_1) fun e2 =>
 bif (e2 : Int) != 0 then
 some e2
 else
 bif x_2.Sat then
 joinM (fun j7 : Bool =>
 bif j7 then
 some 4
 else
 Option.bind (proof_satisfied_m l_1 x_2.Model) fun t8 =>
 bif !t8 then
 some 11
 else
 some 0) fun k6 =>
 bif decide (((x_2.Steps.length : Int)) > 0) then
 k6 true
 else
 k6 (((x_2.Model.length : Int) : Int) != n_0)
 else
 bif decide (((x_2.Model.length : Int)) > 0) then
 some 4
 else
 bif decide (((x_2.Steps.length : Int)) > 20000) then
 some 2
 else
 Option.bind (proof_refuted_m l_1 x_2.Steps) fun t9 =>
 bif !t9 then
 some 11
 else
 some 0
noncomputable def proof_Check_C : Con := ⟨[(.int .i64), (.sl (.sl (.int .i64))), (.st 2)], [(.int .i64)], fun (a : Int × (List (List Int)) × T_api_Answer) => proof_Check_m a.1 a.2.1 a.2.2, [(false, [.d 0 0]), (false, [.d 1 0]), (true, [.d 2 0, .d 2 1, .d 2 2])], [], [(false, [.d 0 0])], [], 0, 0⟩
def proof_Check_H : Hints := ⟨[], [(14, ([], ⟨[.bool], [(1, none), (5, none), (6, none), (16, some (false, [.d 0 0]))], [.keep], 0⟩))], [], [], []⟩
theorem proof_Check_ok [DrawMode] : ConFn prog 27 proof_Check_C := conFn_of (H := proof_Check_H) (fin := []) Tryd.func27 Tryd.call27 (tabL_ok (l := [(15, proof_Validate_C), (44, proof_satisfied_C), (45, proof_refuted_C)]) ⟨proof_Validate_ok, proof_satisfied_ok, proof_refuted_ok, trivial⟩) rfl rfl rfl (fun a => by kernel_rfl)

noncomputable def keep_Ints_l1 (a_0 : (List Int)) (b_1 : (List Int)) (s7 : Int) : Option (Sum (Sum (Bool) (Unit)) (Int)) :=
 bif decide (s7 < ((a_0.length : Int))) then
 Option.bind (idxM a_0 s7) fun t8 =>
 Option.bind (idxM b_1 s7) fun t9 =>
 bif (t8 : Int) != t9 then
 some (Sum.inl (Sum.inl false))
 else
 some (Sum.inr (iadd .i64 s7 1))
 else
 some (Sum.inl (Sum.inr (())))
noncomputable def keep_Ints_m (a_0 : (List Int)) (b_1 : (List Int)) : Option (Bool) :=
 bif ((a_0.length : Int) : Int) != ((b_1.length : Int)) then
 some false
 else
 Option.bind (loopC (keep_Ints_l1 a_0 b_1) 0) (sumK (fun a : Bool => some a) fun q10 : Unit =>
 some true)
noncomputable def keep_Ints_C : Con := ⟨[(.sl (.int .i64)), (.sl (.int .i64))], [.bool], fun (a : (List Int) × (List Int)) => keep_Ints_m a.1 a.2, [(false, [.own 0]), (false, [.d 1 0])], [.oa 0 (.d 0 0)], [(false, [.d 0 0])], [.same], 1, 1⟩
def keep_Ints_H : Hints := ⟨[(0, ⟨[], ⟨[(.int .i64)], [(0, none), (1, none), (4, none), (12, none), (13, some (false, [.d 0 0]))], [.keep], 0⟩, [], some ([], ⟨[], [(0, none), (4, none)], [.keep], 0⟩), true, none⟩)], [], [], [], []⟩
theorem keep_Ints_ok [DrawMode] : ConFn prog 21 keep_Ints_C := conFn_of (H := keep_Ints_H) (fin := []) Tryd.func21 Tryd.call21 (tabL_ok (l := []) trivial) rfl rfl rfl (fun a => by kernel_rfl)

noncomputable def law04_awake_m  : Option (Bool) :=
 Option.bind (proof_Resolve_m [1] [(-1), 2] 1) fun t1 =>
 Option.bind (proof_Resolve_m [1, 2] [(-1), (-2)] 1) fun t2 =>
 Option.bind (proof_Solve_m 2 ([[1, 2], [(-1), 2]])) fun t3 =>
 Option.bind (proof_Solve_m 2 ([[1], [(-1), 2], [(-2)]])) fun t4 =>
 Option.bind (proof_Check_m 2 ([[1], [(-1), 2], [(-2)]]) ((T_api_Answer.mk false [] [(T_api_Step.mk 0 1 1), (T_api_Step.mk 3 2 2)]))) fun t5 =>
 bif (t5 : Int) == 0 then
 bif t1.1 then
 Option.bind (keep_Ints_m t1.2 [2]) fun t6 =>
 bif t6 then
 bif !t2.1 then
 bif (t3.2 : Int) == 0 then
 bif t3.1.Sat then
 bif ((t3.1.Model.length : Int) : Int) == 2 then
 Option.bind (idxM t3.1.Model 1) fun t7 =>
 bif t7 then
 bif (t4.2 : Int) == 0 then
 bif !t4.1.Sat then
 some (decide (((t4.1.Steps.length : Int)) > 0))
 else
 some false
 else
 some false
 else
 some false
 else
 some false
 else
 some false
 else
 some false
 else
 some false
 else
 some false
 else
 some false
 else
 some false
noncomputable def law04_awake_C : Con := ⟨[], [.bool], fun (a : Unit) => law04_awake_m, [], [], [(false, [.d 0 0])], [], 0, 0⟩
def law04_awake_H : Hints := ⟨[], [], [], [], []⟩
theorem law04_awake_ok : ConFn prog 17 law04_awake_C := conFn_of (H := law04_awake_H) (fin := []) Tryd.func17 Tryd.call17 (tabL_ok (l := [(21, keep_Ints_C), (19, proof_Resolve_C), (23, proof_Solve_C), (27, proof_Check_C)]) ⟨keep_Ints_ok, proof_Resolve_ok, proof_Solve_ok, proof_Check_ok, trivial⟩) rfl rfl rfl (fun a => by kernel_rfl)

noncomputable def law04_ProofValidates_l1 (n_0 : Int) (t4 : (Int × T_deliberationkeep_Src)) (t35 : (Int × T_deliberationkeep_Src)) (t34 : (List (List Int))) (s44 : Int) : Option (Sum (Sum (Bool) (Unit)) (Int)) :=
 bif decide (s44 < (([n_0, iadd .i64 1 t4.1, t35.1].length : Int))) then
 Option.bind (idxM [n_0, iadd .i64 1 t4.1, t35.1] s44) fun t45 =>
 Option.bind (proof_Validate_m t45 t34) fun t46 =>
 Option.bind (ref04_Validate_m t45 t34) fun t47 =>
 bif (t46 : Int) != t47 then
 some (Sum.inl (Sum.inl false))
 else
 some (Sum.inr (iadd .i64 s44 1))
 else
 some (Sum.inl (Sum.inr (())))
noncomputable def law04_ProofValidates_l2 (n_0 : Int) (raw_1 : (List (List Int))) (t4 : (Int × T_deliberationkeep_Src)) (good5 : (T_deliberationkeep_Src × (List (List Int)))) (t6 : (T_deliberationkeep_Src × (List (List Int)))) (s33 : Int × (List Int) × Int) : Option (Sum (Sum (Bool) (Unit)) (Int × (List Int) × Int)) :=
 bif decide (s33.1 < (([raw_1, good5.2, t6.2].length : Int))) then
 Option.bind (idxM [raw_1, good5.2, t6.2] s33.1) fun t34 =>
 Option.bind (keep_Src_Pick_m ((T_deliberationkeep_Src.mk s33.2.1 s33.2.2)) [(-1), 0, 200, 201]) fun t35 =>
 Option.bind (loopC (law04_ProofValidates_l1 n_0 t4 t35 t34) 0) (sumK (fun a : Bool => some (Sum.inl (Sum.inl a))) fun q48 : Unit =>
 some (Sum.inr ((iadd .i64 s33.1 1, t35.2.L, t35.2.At))))
 else
 some (Sum.inl (Sum.inr (())))
noncomputable def law04_ProofValidates_m (n_0 : Int) (raw_1 : (List (List Int))) (l_2 : (List Int)) : Option (Bool) :=
 Option.bind (keep_SmallLists_m raw_1 60) fun t2 =>
 bif !t2 then
 some true
 else
 Option.bind (keep_New_m l_2) fun s3 =>
 Option.bind (keep_Src_N_m ((T_deliberationkeep_Src.mk s3.1 s3.2)) 8) fun t4 =>
 Option.bind (keep_Src_Clauses_m t4.2 12 (iadd .i64 1 t4.1)) fun good5 =>
 Option.bind (law04_spoilt_s1_m good5.1 good5.2 (iadd .i64 1 t4.1)) fun t6 =>
 Option.bind (loopC (law04_ProofValidates_l2 n_0 raw_1 t4 good5 t6) ((0, t6.1.L, t6.1.At))) (sumK (fun a : Bool => some a) fun q49 : Unit =>
 Option.bind (law04_awake_m) fun t50 =>
 some t50)
noncomputable def law04_ProofValidates_C : Con := ⟨[(.int .i64), (.sl (.sl (.int .i64))), (.sl (.int .i64))], [.bool], fun (a : Int × (List (List Int)) × (List Int)) => law04_ProofValidates_m a.1 a.2.1 a.2.2, [(false, [.d 0 0]), (false, [.d 1 0]), (false, [.d 2 0])], [], [(false, [.d 0 0])], [], 0, 0⟩
def law04_ProofValidates_H : Hints := ⟨[(0, ⟨[], ⟨[(.int .i64), (.sl (.int .i64)), (.int .i64)], [(0, none), (6, none), (7, none), (8, none), (31, none), (32, none), (33, some (false, [.d 0 0]))], [.cells [some (.d 1 0), some (.d 2 0)], .dead, .dead], 0⟩, [], some ([], ⟨[], [(6, none)], [.dead, .dead, .dead], 0⟩), true, none⟩), (2, ⟨[], ⟨[(.int .i64)], [(0, none), (6, none), (7, none), (8, none), (11, none), (31, none), (32, none), (33, none), (42, none), (43, none), (44, some (false, [.d 0 0]))], [.keep, .dead, .dead], 0⟩, [], some ([], ⟨[], [(0, none), (6, none), (7, none), (8, none), (31, none), (32, none), (33, none)], [.keep, .dead, .dead], 0⟩), true, none⟩)], [], [], [], []⟩
theorem law04_ProofValidates_ok : ConFn prog 3 law04_ProofValidates_C := conFn_of (H := law04_ProofValidates_H) (fin := []) Tryd.func3 Tryd.call3 (tabL_ok (l := [(9, keep_SmallLists_C), (10, keep_New_C), (11, keep_Src_N_C), (12, keep_Src_Clauses_C), (13, law04_spoilt_s1_C), (14, keep_Src_Pick_C), (15, proof_Validate_C), (16, ref04_Validate_C), (17, law04_awake_C)]) ⟨keep_SmallLists_ok, keep_New_ok, keep_Src_N_ok, keep_Src_Clauses_ok, law04_spoilt_s1_ok, keep_Src_Pick_ok, proof_Validate_ok, ref04_Validate_ok, law04_awake_ok, trivial⟩) rfl rfl rfl (fun a => by kernel_rfl)

end Go.Dc
