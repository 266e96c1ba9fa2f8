/- Part LAWTP.F of a proof: lemmas. -/
import Derived.Test.YtpnhpildieghpaaGreatDoorP51SortC
set_option linter.unusedVariables false
set_option maxRecDepth 100000
set_option maxHeartbeats 1000000
namespace Go.Dc

def cmp_isNaN_int_f (k_ : Nat) (x_0 : Int) : Option (Bool) :=
 some ((x_0 : Int) != x_0)

theorem cmp_isNaN_int_f_le {k_ : Nat} {x_0 : Int} : Le (cmp_isNaN_int_f k_ x_0) (cmp_isNaN_int_m x_0) := by
  unfold cmp_isNaN_int_f cmp_isNaN_int_m
  repeat' with_reducible (first | exact Le.refl _)

def cmp_Compare_int_f (k_ : Nat) (x_0 : Int) (y_1 : Int) : Option (Int) :=
 Option.bind ((cmp_isNaN_int_f k_) x_0) fun xNaN1 =>
 Option.bind ((cmp_isNaN_int_f k_) y_1) fun yNaN2 =>
 bif xNaN1 then
 bif yNaN2 then
 some 0
 else
 some ((-1))
 else
 bif yNaN2 then
 some 1
 else
 bif decide (x_0 < y_1) then
 some ((-1))
 else
 bif decide (x_0 > y_1) then
 some 1
 else
 some 0

theorem cmp_Compare_int_f_le {k_ : Nat} {x_0 : Int} {y_1 : Int} : Le (cmp_Compare_int_f k_ x_0 y_1) (cmp_Compare_int_m x_0 y_1) := by
  unfold cmp_Compare_int_f cmp_Compare_int_m
  repeat' with_reducible (first | exact Le.refl _ | refine cmp_isNaN_int_f_le | refine Le.bind ?_ (fun _ => ?_) | refine Le.cond ?_ ?_)

def cmp_Or_int_l1f (k_ : Nat) (vals_0 : (List Int)) (s5 : Int) : Option (Sum (Sum (Int) (Unit)) (Int)) :=
 bif decide (s5 < ((vals_0.length : Int))) then
 Option.bind (idxM vals_0 s5) fun t6 =>
 bif (t6 : Int) != 0 then
 some (Sum.inl (Sum.inl t6))
 else
 some (Sum.inr (iadd .i64 s5 1))
 else
 some (Sum.inl (Sum.inr (())))

theorem cmp_Or_int_l1f_le {k_ : Nat} {vals_0 : (List Int)} {s5 : Int} : Le (cmp_Or_int_l1f k_ vals_0 s5) (cmp_Or_int_l1 vals_0 s5) := by
  unfold cmp_Or_int_l1f cmp_Or_int_l1
  repeat' with_reducible (first | exact Le.refl _ | refine Le.bind ?_ (fun _ => ?_) | refine Le.cond ?_ ?_)

def cmp_Or_int_f (k_ : Nat) (vals_0 : (List Int)) : Option (Int) :=
 Option.bind (loopF k_ ((cmp_Or_int_l1f k_) vals_0) 0) (sumK (fun a : Int => some a) fun q7 : Unit =>
 some 0)

theorem cmp_Or_int_f_le {k_ : Nat} {vals_0 : (List Int)} : Le (cmp_Or_int_f k_ vals_0) (cmp_Or_int_m vals_0) := by
  unfold cmp_Or_int_f cmp_Or_int_m
  repeat' with_reducible (first | exact Le.refl _ | refine Le.loop (fun _ => cmp_Or_int_l1f_le) | refine Le.bind ?_ (Le.sumKK (fun _ => ?_) fun _ => ?_) | refine Le.bind ?_ (Le.sumK fun _ => ?_) | refine Le.bind ?_ (fun _ => ?_))

def graph_compare_f (k_ : Nat) (a_0 : T_api_Pair) (b_1 : T_api_Pair) : Option (Int) :=
 Option.bind ((cmp_Compare_int_f k_) a_0.From b_1.From) fun t1 =>
 Option.bind ((cmp_Compare_int_f k_) a_0.To b_1.To) fun t2 =>
 Option.bind ((cmp_Or_int_f k_) [t1, t2]) fun t3 =>
 some t3

theorem graph_compare_f_le {k_ : Nat} {a_0 : T_api_Pair} {b_1 : T_api_Pair} : Le (graph_compare_f k_ a_0 b_1) (graph_compare_m a_0 b_1) := by
  unfold graph_compare_f graph_compare_m
  repeat' with_reducible (first | exact Le.refl _ | refine cmp_Compare_int_f_le | refine cmp_Or_int_f_le | refine Le.bind ?_ (fun _ => ?_))

def graph_Validate_l1f (k_ : Nat) (g_0 : T_api_Graph) (s9 : Int) : Option (Sum (Sum (Int) (Unit)) (Int)) :=
 bif decide (s9 < ((g_0.L.length : Int))) then
 Option.bind (idxM g_0.L s9) fun t10 =>
 bif decide ((imin t10.From t10.To) < 0) then
 some (Sum.inl (Sum.inl 1))
 else
 bif decide ((imax t10.From t10.To) ≥ g_0.N) then
 some (Sum.inl (Sum.inl 1))
 else
 bif decide (s9 > 0) then
 Option.bind (idxM g_0.L (isub .i64 s9 1)) fun t11 =>
 Option.bind ((graph_compare_f k_) t11 t10) fun t12 =>
 bif decide (t12 ≥ 0) then
 some (Sum.inl (Sum.inl 8))
 else
 some (Sum.inr (iadd .i64 s9 1))
 else
 some (Sum.inr (iadd .i64 s9 1))
 else
 some (Sum.inl (Sum.inr (())))

theorem graph_Validate_l1f_le {k_ : Nat} {g_0 : T_api_Graph} {s9 : Int} : Le (graph_Validate_l1f k_ g_0 s9) (graph_Validate_l1 g_0 s9) := by
  unfold graph_Validate_l1f graph_Validate_l1
  repeat' with_reducible (first | exact Le.refl _ | refine graph_compare_f_le | refine Le.bind ?_ (fun _ => ?_) | refine Le.cond ?_ ?_)

def graph_Validate_f (k_ : Nat) (g_0 : T_api_Graph) : Option (Int) :=
 bif decide (g_0.N < 0) then
 some 1
 else
 bif decide (g_0.N > 40) then
 some 1
 else
 Option.bind (loopF k_ ((graph_Validate_l1f k_) g_0) 0) (sumK (fun a : Int => some a) fun q13 : Unit =>
 some 0)

theorem graph_Validate_f_le {k_ : Nat} {g_0 : T_api_Graph} : Le (graph_Validate_f k_ g_0) (graph_Validate_m g_0) := by
  unfold graph_Validate_f graph_Validate_m
  repeat' with_reducible (first | exact Le.refl _ | refine Le.loop (fun _ => graph_Validate_l1f_le) | refine Le.bind ?_ (Le.sumKK (fun _ => ?_) fun _ => ?_) | refine Le.bind ?_ (Le.sumK fun _ => ?_) | refine Le.bind ?_ (fun _ => ?_) | refine Le.cond ?_ ?_)

def network_Ascending_l1f (k_ : Nat) (l_0 : (List Int)) (nodes_1 : Int) (s7 : Int) : Option (Sum (Sum (Bool) (Unit)) (Int)) :=
 bif decide (s7 < ((l_0.length : Int))) then
 Option.bind (idxM l_0 s7) fun t8 =>
 bif decide (t8 < 0) then
 some (Sum.inl (Sum.inl false))
 else
 bif decide (t8 ≥ nodes_1) then
 some (Sum.inl (Sum.inl false))
 else
 bif decide (s7 > 0) then
 Option.bind (idxM l_0 (isub .i64 s7 1)) fun t9 =>
 bif decide (t8 ≤ t9) then
 some (Sum.inl (Sum.inl false))
 else
 some (Sum.inr (iadd .i64 s7 1))
 else
 some (Sum.inr (iadd .i64 s7 1))
 else
 some (Sum.inl (Sum.inr (())))

theorem network_Ascending_l1f_le {k_ : Nat} {l_0 : (List Int)} {nodes_1 : Int} {s7 : Int} : Le (network_Ascending_l1f k_ l_0 nodes_1 s7) (network_Ascending_l1 l_0 nodes_1 s7) := by
  unfold network_Ascending_l1f network_Ascending_l1
  repeat' with_reducible (first | exact Le.refl _ | refine Le.bind ?_ (fun _ => ?_) | refine Le.cond ?_ ?_)

def network_Ascending_f (k_ : Nat) (l_0 : (List Int)) (nodes_1 : Int) : Option (Bool) :=
 Option.bind (loopF k_ ((network_Ascending_l1f k_) l_0 nodes_1) 0) (sumK (fun a : Bool => some a) fun q10 : Unit =>
 some true)

theorem network_Ascending_f_le {k_ : Nat} {l_0 : (List Int)} {nodes_1 : Int} : Le (network_Ascending_f k_ l_0 nodes_1) (network_Ascending_m l_0 nodes_1) := by
  unfold network_Ascending_f network_Ascending_m
  repeat' with_reducible (first | exact Le.refl _ | refine Le.loop (fun _ => network_Ascending_l1f_le) | refine Le.bind ?_ (Le.sumKK (fun _ => ?_) fun _ => ?_) | refine Le.bind ?_ (Le.sumK fun _ => ?_) | refine Le.bind ?_ (fun _ => ?_))

def enforce_arguments_f (k_ : Nat) (g_0 : T_api_Graph) (s_1 : (List Int)) (kind_2 : Int) : Option (Int) :=
 Option.bind ((graph_Validate_f k_) g_0) fun e2 =>
 bif (e2 : Int) != 0 then
 some e2
 else
 joinM (fun j4 : Bool =>
 bif j4 then
 some 4
 else
 Option.bind ((network_Ascending_f k_) s_1 g_0.N) fun t5 =>
 bif !t5 then
 some 1
 else
 some 0) fun k3 =>
 bif (kind_2 : Int) != 1 then
 k3 ((kind_2 : Int) != 2)
 else
 k3 false

theorem enforce_arguments_f_le {k_ : Nat} {g_0 : T_api_Graph} {s_1 : (List Int)} {kind_2 : Int} : Le (enforce_arguments_f k_ g_0 s_1 kind_2) (enforce_arguments_m g_0 s_1 kind_2) := by
  unfold enforce_arguments_f enforce_arguments_m
  repeat' with_reducible (first | exact Le.refl _ | refine graph_Validate_f_le | refine network_Ascending_f_le | refine Le.bind ?_ (fun _ => ?_) | refine Le.cond ?_ ?_ | refine Le.join (fun _ => ?_) (fun _ _ hj => ?_) | exact hj _)

def enforce_hopeless_f (k_ : Nat) (g_0 : T_api_Graph) (s_1 : (List Int)) (kind_2 : Int) : Option (Bool) :=
 bif ((s_1.length : Int) : Int) == 0 then
 bif (kind_2 : Int) == 2 then
 some (decide (g_0.N > 0))
 else
 some false
 else
 some false

theorem enforce_hopeless_f_le {k_ : Nat} {g_0 : T_api_Graph} {s_1 : (List Int)} {kind_2 : Int} : Le (enforce_hopeless_f k_ g_0 s_1 kind_2) (enforce_hopeless_m g_0 s_1 kind_2) := by
  unfold enforce_hopeless_f enforce_hopeless_m
  repeat' with_reducible (first | exact Le.refl _ | refine Le.cond ?_ ?_)

def network_Set_With_f (k_ : Nat) (s_0 : Int) (node_1 : Int) : Option (Int) :=
 Option.bind (ishlM .u64 1 (IntKind.wrap .u64 node_1)) fun t1 =>
 some (ior .u64 s_0 t1)

theorem network_Set_With_f_le {k_ : Nat} {s_0 : Int} {node_1 : Int} : Le (network_Set_With_f k_ s_0 node_1) (network_Set_With_m s_0 node_1) := by
  unfold network_Set_With_f network_Set_With_m
  repeat' with_reducible (first | exact Le.refl _ | refine Le.bind ?_ (fun _ => ?_))

def network_Of_l1f (k_ : Nat) (l_0 : (List Int)) (s7 : Int × Int) : Option (Sum (Int) (Int × Int)) :=
 bif decide (s7.2 < ((l_0.length : Int))) then
 Option.bind (idxM l_0 s7.2) fun t8 =>
 Option.bind ((network_Set_With_f k_) s7.1 t8) fun s9 =>
 some (Sum.inr ((s9, iadd .i64 s7.2 1)))
 else
 some (Sum.inl s7.1)

theorem network_Of_l1f_le {k_ : Nat} {l_0 : (List Int)} {s7 : Int × Int} : Le (network_Of_l1f k_ l_0 s7) (network_Of_l1 l_0 s7) := by
  unfold network_Of_l1f network_Of_l1
  repeat' with_reducible (first | exact Le.refl _ | refine network_Set_With_f_le | refine Le.bind ?_ (fun _ => ?_) | refine Le.cond ?_ ?_)

def network_Of_f (k_ : Nat) (l_0 : (List Int)) : Option (Int) :=
 Option.bind (loopF k_ ((network_Of_l1f k_) l_0) ((0, 0))) fun q10 : Int =>
 some q10

theorem network_Of_f_le {k_ : Nat} {l_0 : (List Int)} : Le (network_Of_f k_ l_0) (network_Of_m l_0) := by
  unfold network_Of_f network_Of_m
  repeat' with_reducible (first | exact Le.refl _ | refine Le.loop (fun _ => network_Of_l1f_le) | refine Le.bind ?_ (fun _ => ?_))

def network_Set_Has_f (k_ : Nat) (s_0 : Int) (node_1 : Int) : Option (Bool) :=
 Option.bind (ishrM .u64 s_0 (IntKind.wrap .u64 node_1)) fun t1 =>
 some ((iand .u64 t1 1 : Int) == 1)

theorem network_Set_Has_f_le {k_ : Nat} {s_0 : Int} {node_1 : Int} : Le (network_Set_Has_f k_ s_0 node_1) (network_Set_Has_m s_0 node_1) := by
  unfold network_Set_Has_f network_Set_Has_m
  repeat' with_reducible (first | exact Le.refl _ | refine Le.bind ?_ (fun _ => ?_))

def enforce_strict_l1f (k_ : Nat) (s_1 : (List Int)) (in_1 : (Int)) (j8 : (List Int) × (List (List T_api_Pair))) (s81 : Int × (List T_api_Pair)) : Option (Sum ((List T_api_Pair)) (Int × (List T_api_Pair))) :=
 bif decide (s81.1 < ((j8.2.length : Int))) then
 Option.bind (idxM j8.2 s81.1) fun t82 =>
 Option.bind (idxM t82 0) fun t83 =>
 joinM (fun j94 : Int × Int =>
 Option.bind (appM 16 s81.2 [(T_api_Pair.mk j94.1 j94.2)]) fun t95 =>
 some (Sum.inr ((iadd .i64 s81.1 1, t95)))) fun k93 =>
 joinM (fun j99 : Bool =>
 bif j99 then
 Option.bind ((network_Set_Has_f k_) in_1 t83.To) fun t100 =>
 bif t100 then
 Option.bind (idxM s_1 0) fun t101 =>
 k93 ((t101, t83.From))
 else
 Option.bind (idxM s_1 0) fun t102 =>
 k93 ((t102, t83.To))
 else
 k93 ((t83.From, t83.To))) fun k98 =>
 Option.bind ((network_Set_Has_f k_) in_1 t83.From) fun t103 =>
 bif !t103 then
 k98 true
 else
 Option.bind ((network_Set_Has_f k_) in_1 t83.To) fun t104 =>
 k98 (!t104)
 else
 some (Sum.inl s81.2)

theorem enforce_strict_l1f_le {k_ : Nat} {s_1 : (List Int)} {in_1 : (Int)} {j8 : (List Int) × (List (List T_api_Pair))} {s81 : Int × (List T_api_Pair)} : Le (enforce_strict_l1f k_ s_1 in_1 j8 s81) (enforce_strict_l1 s_1 in_1 j8 s81) := by
  unfold enforce_strict_l1f enforce_strict_l1
  repeat' with_reducible (first | exact Le.refl _ | refine network_Set_Has_f_le | refine Le.bind ?_ (fun _ => ?_) | refine Le.cond ?_ ?_ | refine Le.join (fun _ => ?_) (fun _ _ hj => ?_) | exact hj _)

def slices_Clone_int_int_f (k_ : Nat) (d_0 : List Int) : Option (List Int) := appM 8 [] d_0

theorem slices_Clone_int_int_f_le {k_ : Nat} {d_0 : List Int} : Le (slices_Clone_int_int_f k_ d_0) (slices_Clone_int_int_m d_0) := by
  unfold slices_Clone_int_int_f slices_Clone_int_int_m
  repeat' with_reducible (first | exact Le.refl _)

def enforce_duties_l1f (k_ : Nat) (g_0 : T_api_Graph) (j7 : Int × Int × (List Int) × (List Int)) (s64 : Int × (List (List T_api_Pair))) : Option (Sum ((List (List T_api_Pair))) (Int × (List (List T_api_Pair)))) :=
 bif decide (s64.1 < ((g_0.L.length : Int))) then
 Option.bind (idxM g_0.L s64.1) fun t65 =>
 joinM (fun j69 : Bool =>
 bif j69 then
 Option.bind (appM 24 s64.2 ([[t65]])) fun out70 =>
 some (Sum.inr ((iadd .i64 s64.1 1, out70)))
 else
 some (Sum.inr ((iadd .i64 s64.1 1, s64.2)))) fun k68 =>
 Option.bind ((network_Set_Has_f k_) j7.1 t65.From) fun t71 =>
 bif t71 then
 Option.bind ((network_Set_Has_f k_) j7.1 t65.To) fun t72 =>
 k68 t72
 else
 k68 false
 else
 some (Sum.inl s64.2)

theorem enforce_duties_l1f_le {k_ : Nat} {g_0 : T_api_Graph} {j7 : Int × Int × (List Int) × (List Int)} {s64 : Int × (List (List T_api_Pair))} : Le (enforce_duties_l1f k_ g_0 j7 s64) (enforce_duties_l1 g_0 j7 s64) := by
  unfold enforce_duties_l1f enforce_duties_l1
  repeat' with_reducible (first | exact Le.refl _ | refine network_Set_Has_f_le | refine Le.bind ?_ (fun _ => ?_) | refine Le.cond ?_ ?_ | refine Le.join (fun _ => ?_) (fun _ _ hj => ?_) | exact hj _)

def network_Set_List_l1f (k_ : Nat) (s10 : Int × (List Int)) : Option (Sum ((List Int)) (Int × (List Int))) :=
 bif (s10.1 : Int) != 0 then
 Option.bind (tzM s10.1) fun t11 =>
 Option.bind (appM 8 s10.2 [t11]) fun out12 =>
 some (Sum.inr ((iand .u64 s10.1 (isub .u64 s10.1 1), out12)))
 else
 some (Sum.inl s10.2)

theorem network_Set_List_l1f_le {k_ : Nat} {s10 : Int × (List Int)} : Le (network_Set_List_l1f k_ s10) (network_Set_List_l1 s10) := by
  unfold network_Set_List_l1f network_Set_List_l1
  repeat' with_reducible (first | exact Le.refl _ | refine Le.bind ?_ (fun _ => ?_) | refine Le.cond ?_ ?_)

def network_Set_List_f (k_ : Nat) (s_0 : Int) : Option ((List Int)) :=
 Option.bind (loopF k_ (network_Set_List_l1f k_) ((s_0, []))) fun q13 : (List Int) =>
 some q13

theorem network_Set_List_f_le {k_ : Nat} {s_0 : Int} : Le (network_Set_List_f k_ s_0) (network_Set_List_m s_0) := by
  unfold network_Set_List_f network_Set_List_m
  repeat' with_reducible (first | exact Le.refl _ | refine Le.loop (fun _ => network_Set_List_l1f_le) | refine Le.bind ?_ (fun _ => ?_))

def network_Net_Hit_l1f (k_ : Nat) (n_0 : T_network_Net) (t1 : ((List Int))) (s8 : Int × Int) : Option (Sum (Int) (Int × Int)) :=
 bif decide (s8.2 < ((t1.length : Int))) then
 Option.bind (idxM t1 s8.2) fun t9 =>
 Option.bind (idxM n_0.Out t9) fun t10 =>
 some (Sum.inr ((ior .u64 s8.1 t10, iadd .i64 s8.2 1)))
 else
 some (Sum.inl s8.1)

theorem network_Net_Hit_l1f_le {k_ : Nat} {n_0 : T_network_Net} {t1 : ((List Int))} {s8 : Int × Int} : Le (network_Net_Hit_l1f k_ n_0 t1 s8) (network_Net_Hit_l1 n_0 t1 s8) := by
  unfold network_Net_Hit_l1f network_Net_Hit_l1
  repeat' with_reducible (first | exact Le.refl _ | refine Le.bind ?_ (fun _ => ?_) | refine Le.cond ?_ ?_)

def network_Net_Hit_f (k_ : Nat) (n_0 : T_network_Net) (s_1 : Int) : Option (Int) :=
 Option.bind ((network_Set_List_f k_) s_1) fun t1 =>
 Option.bind (loopF k_ ((network_Net_Hit_l1f k_) n_0 t1) ((0, 0))) fun q11 : Int =>
 some q11

theorem network_Net_Hit_f_le {k_ : Nat} {n_0 : T_network_Net} {s_1 : Int} : Le (network_Net_Hit_f k_ n_0 s_1) (network_Net_Hit_m n_0 s_1) := by
  unfold network_Net_Hit_f network_Net_Hit_m
  repeat' with_reducible (first | exact Le.refl _ | refine network_Set_List_f_le | refine Le.loop (fun _ => network_Net_Hit_l1f_le) | refine Le.bind ?_ (fun _ => ?_))

def enforce_duties_l2f (k_ : Nat) (s_1 : (List Int)) (s165 : Int × (List (List T_api_Pair))) (s191 : Int × (List T_api_Pair)) : Option (Sum ((List T_api_Pair)) (Int × (List T_api_Pair))) :=
 bif decide (s191.1 < ((s_1.length : Int))) then
 Option.bind (idxM s_1 s191.1) fun t192 =>
 Option.bind (appM 16 s191.2 [(T_api_Pair.mk t192 s165.1)]) fun l193 =>
 some (Sum.inr ((iadd .i64 s191.1 1, l193)))
 else
 some (Sum.inl s191.2)

theorem enforce_duties_l2f_le {k_ : Nat} {s_1 : (List Int)} {s165 : Int × (List (List T_api_Pair))} {s191 : Int × (List T_api_Pair)} : Le (enforce_duties_l2f k_ s_1 s165 s191) (enforce_duties_l2 s_1 s165 s191) := by
  unfold enforce_duties_l2f enforce_duties_l2
  repeat' with_reducible (first | exact Le.refl _ | refine Le.bind ?_ (fun _ => ?_) | refine Le.cond ?_ ?_)

def enforce_duties_l3f (k_ : Nat) (s165 : Int × (List (List T_api_Pair))) (t196 : ((List Int))) (s203 : Int × (List T_api_Pair)) : Option (Sum ((List T_api_Pair)) (Int × (List T_api_Pair))) :=
 bif decide (s203.1 < ((t196.length : Int))) then
 Option.bind (idxM t196 s203.1) fun t204 =>
 Option.bind (appM 16 s203.2 [(T_api_Pair.mk s165.1 t204)]) fun l205 =>
 some (Sum.inr ((iadd .i64 s203.1 1, l205)))
 else
 some (Sum.inl s203.2)

theorem enforce_duties_l3f_le {k_ : Nat} {s165 : Int × (List (List T_api_Pair))} {t196 : ((List Int))} {s203 : Int × (List T_api_Pair)} : Le (enforce_duties_l3f k_ s165 t196 s203) (enforce_duties_l3 s165 t196 s203) := by
  unfold enforce_duties_l3f enforce_duties_l3
  repeat' with_reducible (first | exact Le.refl _ | refine Le.bind ?_ (fun _ => ?_) | refine Le.cond ?_ ?_)

def enforce_compare_f (k_ : Nat) (a_0 : T_api_Pair) (b_1 : T_api_Pair) : Option (Int) :=
 Option.bind ((cmp_Compare_int_f k_) a_0.From b_1.From) fun t1 =>
 Option.bind ((cmp_Compare_int_f k_) a_0.To b_1.To) fun t2 =>
 Option.bind ((cmp_Or_int_f k_) [t1, t2]) fun t3 =>
 some t3

theorem enforce_compare_f_le {k_ : Nat} {a_0 : T_api_Pair} {b_1 : T_api_Pair} : Le (enforce_compare_f k_ a_0 b_1) (enforce_compare_m a_0 b_1) := by
  unfold enforce_compare_f enforce_compare_m
  repeat' with_reducible (first | exact Le.refl _ | refine cmp_Compare_int_f_le | refine cmp_Or_int_f_le | refine Le.bind ?_ (fun _ => ?_))

def enforce_duties_l4f (k_ : Nat) (g_0 : T_api_Graph) (s_1 : (List Int)) (kind_2 : Int) (j7 : Int × Int × (List Int) × (List Int)) (hit74 : (Int)) (s165 : Int × (List (List T_api_Pair))) : Option (Sum ((List (List T_api_Pair))) (Int × (List (List T_api_Pair)))) :=
 bif decide (s165.1 < g_0.N) then
 joinM (fun j170 : Int × Int × Bool × Int × Bool × Bool × Bool =>
 Option.bind (loopF k_ ((enforce_duties_l2f k_) s_1 s165) ((0, []))) fun q194 : (List T_api_Pair) =>
 bif (kind_2 : Int) == 1 then
 Option.bind (idxM j7.2.2.2 s165.1) fun t195 =>
 Option.bind ((network_Set_List_f k_) (iand .u64 t195 j7.1)) fun t196 =>
 Option.bind (loopF k_ ((enforce_duties_l3f k_) s165 t196) ((0, q194))) fun q206 : (List T_api_Pair) =>
 Option.bind (sortEF q206) fun t207 =>
 Option.bind (appM 24 s165.2 [t207]) fun out208 =>
 some (Sum.inr ((iadd .i64 s165.1 1, out208)))
 else
 Option.bind (sortEF q194) fun t209 =>
 Option.bind (appM 24 s165.2 [t209]) fun out210 =>
 some (Sum.inr ((iadd .i64 s165.1 1, out210)))) fun k169 =>
 Option.bind ((network_Set_Has_f k_) j7.1 s165.1) fun t211 =>
 bif t211 then
 some (Sum.inr ((iadd .i64 s165.1 1, s165.2)))
 else
 Option.bind ((network_Set_Has_f k_) hit74 s165.1) fun t212 =>
 bif t212 then
 some (Sum.inr ((iadd .i64 s165.1 1, s165.2)))
 else
 bif (kind_2 : Int) == 1 then
 Option.bind (idxM j7.2.2.2 s165.1) fun t213 =>
 bif (iand .u64 t213 j7.1 : Int) == 0 then
 some (Sum.inr ((iadd .i64 s165.1 1, s165.2)))
 else
 k169 ((hit74, s165.1, t212, kind_2, (kind_2 : Int) == 1, true, (iand .u64 t213 j7.1 : Int) == 0))
 else
 k169 ((hit74, s165.1, t212, kind_2, (kind_2 : Int) == 1, false, false))
 else
 some (Sum.inl s165.2)

theorem enforce_duties_l4f_le {k_ : Nat} {g_0 : T_api_Graph} {s_1 : (List Int)} {kind_2 : Int} {j7 : Int × Int × (List Int) × (List Int)} {hit74 : (Int)} {s165 : Int × (List (List T_api_Pair))} : Le (enforce_duties_l4f k_ g_0 s_1 kind_2 j7 hit74 s165) (enforce_duties_l4 g_0 s_1 kind_2 j7 hit74 s165) := by
  unfold enforce_duties_l4f enforce_duties_l4
  repeat' with_reducible (first | exact Le.refl _ | exact sortEF_le | refine network_Set_List_f_le | refine enforce_compare_f_le | refine network_Set_Has_f_le | refine Le.loop (fun _ => enforce_duties_l2f_le) | refine Le.loop (fun _ => enforce_duties_l3f_le) | refine Le.bind ?_ (fun _ => ?_) | refine Le.cond ?_ ?_ | refine Le.join (fun _ => ?_) (fun _ _ hj => ?_) | exact hj _)

def network_New_l1f (k_ : Nat) (g_0 : T_api_Graph) (s23 : Int × Int) : Option (Sum (Int) (Int × Int)) :=
 bif decide (s23.1 < g_0.N) then
 Option.bind ((network_Set_With_f k_) s23.2 s23.1) fun t24 =>
 some (Sum.inr ((iadd .i64 s23.1 1, t24)))
 else
 some (Sum.inl s23.2)

theorem network_New_l1f_le {k_ : Nat} {g_0 : T_api_Graph} {s23 : Int × Int} : Le (network_New_l1f k_ g_0 s23) (network_New_l1 g_0 s23) := by
  unfold network_New_l1f network_New_l1
  repeat' with_reducible (first | exact Le.refl _ | refine network_Set_With_f_le | refine Le.bind ?_ (fun _ => ?_) | refine Le.cond ?_ ?_)

def network_New_l2f (k_ : Nat) (g_0 : T_api_Graph) (s48 : Int × (List Int) × (List Int)) : Option (Sum ((List Int) × (List Int)) (Int × (List Int) × (List Int))) :=
 bif decide (s48.1 < ((g_0.L.length : Int))) then
 Option.bind (idxM g_0.L s48.1) fun t49 =>
 Option.bind (idxM s48.2.1 t49.To) fun t53 =>
 Option.bind ((network_Set_With_f k_) t53 t49.From) fun t54 =>
 Option.bind (idxM s48.2.1 t49.To) fun t55 =>
 Option.bind (idxM s48.2.2 t49.From) fun t56 =>
 Option.bind ((network_Set_With_f k_) t56 t49.To) fun t57 =>
 Option.bind (idxM s48.2.2 t49.From) fun t58 =>
 some (Sum.inr ((iadd .i64 s48.1 1, s48.2.1.set (Int.toNat t49.To) t54, s48.2.2.set (Int.toNat t49.From) t57)))
 else
 some (Sum.inl ((s48.2.1, s48.2.2)))

theorem network_New_l2f_le {k_ : Nat} {g_0 : T_api_Graph} {s48 : Int × (List Int) × (List Int)} : Le (network_New_l2f k_ g_0 s48) (network_New_l2 g_0 s48) := by
  unfold network_New_l2f network_New_l2
  repeat' with_reducible (first | exact Le.refl _ | refine network_Set_With_f_le | refine Le.bind ?_ (fun _ => ?_) | refine Le.cond ?_ ?_)

def network_New_f (k_ : Nat) (g_0 : T_api_Graph) : Option (T_network_Net) :=
 joinM (fun j12 : (List Int) × (List Int) =>
 Option.bind (loopF k_ ((network_New_l1f k_) g_0) ((0, 0))) fun q25 : Int =>
 Option.bind (loopF k_ ((network_New_l2f k_) g_0) ((0, j12.1, j12.2))) fun q59 : (List Int) × (List Int) =>
 some ((T_network_Net.mk q25 q59.1 q59.2))) fun k11 =>
 meetF (
 Option.bind (mkM 8 0 g_0.N) fun t60 =>
 meetF (
 Option.bind (mkM 8 0 g_0.N) fun t61 =>
 k11 ((t60, t61))) (
 Option.bind (mkM 8 0 g_0.N) fun t62 =>
 k11 ((t60, t62)))) (
 meetF (
 Option.bind (mkM 8 0 g_0.N) fun t63 =>
 meetF (
 Option.bind (mkM 8 0 g_0.N) fun t64 =>
 k11 ((t64, t63))) (
 Option.bind (mkM 8 0 g_0.N) fun t65 =>
 k11 ((t65, t63)))) (
 meetF (
 Option.bind (mkM 8 0 g_0.N) fun t66 =>
 Option.bind (mkM 8 0 g_0.N) fun t67 =>
 k11 ((t66, t67))) (
 Option.bind (mkM 8 0 g_0.N) fun t68 =>
 Option.bind (mkM 8 0 g_0.N) fun t69 =>
 k11 ((t69, t68)))))

theorem network_New_f_le {k_ : Nat} {g_0 : T_api_Graph} : Le (network_New_f k_ g_0) (network_New_m g_0) := by
  unfold network_New_f network_New_m
  repeat' with_reducible (first | exact Le.refl _ | refine Le.loop (fun _ => network_New_l1f_le) | refine Le.loop (fun _ => network_New_l2f_le) | refine Le.meet ?_ ?_ | refine Le.bind ?_ (fun _ => ?_) | refine Le.join (fun _ => ?_) (fun _ _ hj => ?_) | exact hj _)

def enforce_duties_f (k_ : Nat) (g_0 : T_api_Graph) (s_1 : (List Int)) (kind_2 : Int) : Option ((List (List T_api_Pair))) :=
 joinM (fun j7 : Int × Int × (List Int) × (List Int) =>
 Option.bind (loopF k_ ((enforce_duties_l1f k_) g_0 j7) ((0, []))) fun q73 : (List (List T_api_Pair)) =>
 Option.bind ((network_Net_Hit_f k_) ((T_network_Net.mk j7.2.1 j7.2.2.1 j7.2.2.2)) j7.1) fun hit74 =>
 Option.bind (loopF k_ ((enforce_duties_l4f k_) g_0 s_1 kind_2 j7 hit74) ((0, q73))) fun q214 : (List (List T_api_Pair)) =>
 some q214) fun k6 =>
 meetF (
 Option.bind ((network_Of_f k_) s_1) fun in_215 =>
 meetF (
 Option.bind ((network_New_f k_) g_0) fun t216 =>
 k6 ((in_215, t216.All, t216.By, t216.Out))) (
 Option.bind ((network_New_f k_) g_0) fun t217 =>
 k6 ((in_215, t217.All, t217.By, t217.Out)))) (
 Option.bind ((network_Of_f k_) s_1) fun in_218 =>
 Option.bind ((network_New_f k_) g_0) fun t219 =>
 k6 ((in_218, t219.All, t219.By, t219.Out)))

theorem enforce_duties_f_le {k_ : Nat} {g_0 : T_api_Graph} {s_1 : (List Int)} {kind_2 : Int} : Le (enforce_duties_f k_ g_0 s_1 kind_2) (enforce_duties_m g_0 s_1 kind_2) := by
  unfold enforce_duties_f enforce_duties_m
  repeat' with_reducible (first | exact Le.refl _ | refine network_Net_Hit_f_le | refine network_Of_f_le | refine network_New_f_le | refine Le.loop (fun _ => enforce_duties_l1f_le) | refine Le.loop (fun _ => enforce_duties_l4f_le) | refine Le.meet ?_ ?_ | refine Le.bind ?_ (fun _ => ?_) | refine Le.join (fun _ => ?_) (fun _ _ hj => ?_) | exact hj _)

def enforce_strict_f (k_ : Nat) (g_0 : T_api_Graph) (s_1 : (List Int)) (kind_2 : Int) : Option (T_api_Enforcement) :=
 Option.bind ((network_Of_f k_) s_1) fun in_1 =>
 joinM (fun j8 : (List Int) × (List (List T_api_Pair)) =>
 Option.bind (loopF k_ ((enforce_strict_l1f k_) s_1 in_1 j8) ((0, []))) fun q105 : (List T_api_Pair) =>
 some ((T_api_Enforcement.mk j8.1 q105 j8.2))) fun k7 =>
 meetF (
 Option.bind ((slices_Clone_int_int_f k_) s_1) fun t106 =>
 meetF (
 Option.bind ((enforce_duties_f k_) g_0 s_1 kind_2) fun t107 =>
 k7 ((t106, t107))) (
 Option.bind ((enforce_duties_f k_) g_0 s_1 kind_2) fun t108 =>
 k7 ((t106, t108)))) (
 Option.bind ((slices_Clone_int_int_f k_) s_1) fun t109 =>
 Option.bind ((enforce_duties_f k_) g_0 s_1 kind_2) fun t110 =>
 k7 ((t109, t110)))

theorem enforce_strict_f_le {k_ : Nat} {g_0 : T_api_Graph} {s_1 : (List Int)} {kind_2 : Int} : Le (enforce_strict_f k_ g_0 s_1 kind_2) (enforce_strict_m g_0 s_1 kind_2) := by
  unfold enforce_strict_f enforce_strict_m
  repeat' with_reducible (first | exact Le.refl _ | refine network_Of_f_le | refine slices_Clone_int_int_f_le | refine enforce_duties_f_le | refine Le.loop (fun _ => enforce_strict_l1f_le) | refine Le.meet ?_ ?_ | refine Le.bind ?_ (fun _ => ?_) | refine Le.join (fun _ => ?_) (fun _ _ hj => ?_) | exact hj _)

def enforce_Strict_f (k_ : Nat) (g_0 : T_api_Graph) (s_1 : (List Int)) (kind_2 : Int) : Option (T_api_Enforcement × Int) :=
 Option.bind ((enforce_arguments_f k_) g_0 s_1 kind_2) fun e2 =>
 bif (e2 : Int) != 0 then
 some (((T_api_Enforcement.mk [] [] []), e2))
 else
 Option.bind ((enforce_hopeless_f k_) g_0 s_1 kind_2) fun t3 =>
 bif t3 then
 some (((T_api_Enforcement.mk [] [] []), 9))
 else
 Option.bind ((enforce_strict_f k_) g_0 s_1 kind_2) fun t4 =>
 some ((t4, 0))

theorem enforce_Strict_f_le {k_ : Nat} {g_0 : T_api_Graph} {s_1 : (List Int)} {kind_2 : Int} : Le (enforce_Strict_f k_ g_0 s_1 kind_2) (enforce_Strict_m g_0 s_1 kind_2) := by
  unfold enforce_Strict_f enforce_Strict_m
  repeat' with_reducible (first | exact Le.refl _ | refine enforce_arguments_f_le | refine enforce_hopeless_f_le | refine enforce_strict_f_le | refine Le.bind ?_ (fun _ => ?_) | refine Le.cond ?_ ?_)

def network_Question_f (k_ : Nat) (q_0 : Int) : Option (Bool) :=
 bif decide (q_0 ≥ 1) then
 some (decide (q_0 ≤ 4))
 else
 some false

theorem network_Question_f_le {k_ : Nat} {q_0 : Int} : Le (network_Question_f k_ q_0) (network_Question_m q_0) := by
  unfold network_Question_f network_Question_m
  repeat' with_reducible (first | exact Le.refl _ | refine Le.cond ?_ ?_)

def network_Net_Grounded_l1f (k_ : Nat) (n_0 : T_network_Net) (out77 : (Int)) (t89 : ((List Int))) (s98 : Int × Int) : Option (Sum (Int) (Int × Int)) :=
 bif decide (s98.2 < ((t89.length : Int))) then
 Option.bind (idxM t89 s98.2) fun t99 =>
 Option.bind (idxM n_0.By t99) fun t100 =>
 bif (iandn .u64 t100 out77 : Int) == 0 then
 Option.bind ((network_Set_With_f k_) s98.1 t99) fun next101 =>
 some (Sum.inr ((next101, iadd .i64 s98.2 1)))
 else
 some (Sum.inr ((s98.1, iadd .i64 s98.2 1)))
 else
 some (Sum.inl s98.1)

theorem network_Net_Grounded_l1f_le {k_ : Nat} {n_0 : T_network_Net} {out77 : (Int)} {t89 : ((List Int))} {s98 : Int × Int} : Le (network_Net_Grounded_l1f k_ n_0 out77 t89 s98) (network_Net_Grounded_l1 n_0 out77 t89 s98) := by
  unfold network_Net_Grounded_l1f network_Net_Grounded_l1
  repeat' with_reducible (first | exact Le.refl _ | refine network_Set_With_f_le | refine Le.bind ?_ (fun _ => ?_) | refine Le.cond ?_ ?_)

def network_Net_Grounded_l2f (k_ : Nat) (n_0 : T_network_Net) (s76 : Int × (List Int)) : Option (Sum ((List Int)) (Int × (List Int))) :=
 Option.bind ((network_Net_Hit_f k_) n_0 s76.1) fun out77 =>
 Option.bind ((network_Set_List_f k_) n_0.All) fun t89 =>
 Option.bind (loopF k_ ((network_Net_Grounded_l1f k_) n_0 out77 t89) ((s76.1, 0))) fun q102 : Int =>
 bif (q102 : Int) == s76.1 then
 some (Sum.inl s76.2)
 else
 Option.bind (appM 8 s76.2 [q102]) fun rounds103 =>
 some (Sum.inr ((q102, rounds103)))

theorem network_Net_Grounded_l2f_le {k_ : Nat} {n_0 : T_network_Net} {s76 : Int × (List Int)} : Le (network_Net_Grounded_l2f k_ n_0 s76) (network_Net_Grounded_l2 n_0 s76) := by
  unfold network_Net_Grounded_l2f network_Net_Grounded_l2
  repeat' with_reducible (first | exact Le.refl _ | refine network_Net_Hit_f_le | refine network_Set_List_f_le | refine Le.loop (fun _ => network_Net_Grounded_l1f_le) | refine Le.bind ?_ (fun _ => ?_) | refine Le.cond ?_ ?_)

def network_Net_Grounded_f (k_ : Nat) (n_0 : T_network_Net) : Option ((List Int)) :=
 Option.bind (loopF k_ ((network_Net_Grounded_l2f k_) n_0) ((0, []))) (fun a : (List Int) => some a)

theorem network_Net_Grounded_f_le {k_ : Nat} {n_0 : T_network_Net} : Le (network_Net_Grounded_f k_ n_0) (network_Net_Grounded_m n_0) := by
  unfold network_Net_Grounded_f network_Net_Grounded_m
  repeat' with_reducible (first | exact Le.refl _ | refine Le.loop (fun _ => network_Net_Grounded_l2f_le) | refine Le.bind ?_ (fun _ => ?_))

def network_Net_In_f (k_ : Nat) (n_0 : T_network_Net) : Option (Int) :=
 Option.bind ((network_Net_Grounded_f k_) n_0) fun l1 =>
 bif ((l1.length : Int) : Int) == 0 then
 some 0
 else
 Option.bind (idxM l1 (isub .i64 ((l1.length : Int)) 1)) fun t2 =>
 some t2

theorem network_Net_In_f_le {k_ : Nat} {n_0 : T_network_Net} : Le (network_Net_In_f k_ n_0) (network_Net_In_m n_0) := by
  unfold network_Net_In_f network_Net_In_m
  repeat' with_reducible (first | exact Le.refl _ | refine network_Net_Grounded_f_le | refine Le.bind ?_ (fun _ => ?_) | refine Le.cond ?_ ?_)

def network_Net_Free_f (k_ : Nat) (n_0 : T_network_Net) (s_1 : Int) : Option (Bool) :=
 Option.bind ((network_Net_Hit_f k_) n_0 s_1) fun t1 =>
 some ((iand .u64 t1 s_1 : Int) == 0)

theorem network_Net_Free_f_le {k_ : Nat} {n_0 : T_network_Net} {s_1 : Int} : Le (network_Net_Free_f k_ n_0 s_1) (network_Net_Free_m n_0 s_1) := by
  unfold network_Net_Free_f network_Net_Free_m
  repeat' with_reducible (first | exact Le.refl _ | refine network_Net_Hit_f_le | refine Le.bind ?_ (fun _ => ?_))

def network_Net_Attackers_l1f (k_ : Nat) (n_0 : T_network_Net) (t1 : ((List Int))) (s8 : Int × Int) : Option (Sum (Int) (Int × Int)) :=
 bif decide (s8.2 < ((t1.length : Int))) then
 Option.bind (idxM t1 s8.2) fun t9 =>
 Option.bind (idxM n_0.By t9) fun t10 =>
 some (Sum.inr ((ior .u64 s8.1 t10, iadd .i64 s8.2 1)))
 else
 some (Sum.inl s8.1)

theorem network_Net_Attackers_l1f_le {k_ : Nat} {n_0 : T_network_Net} {t1 : ((List Int))} {s8 : Int × Int} : Le (network_Net_Attackers_l1f k_ n_0 t1 s8) (network_Net_Attackers_l1 n_0 t1 s8) := by
  unfold network_Net_Attackers_l1f network_Net_Attackers_l1
  repeat' with_reducible (first | exact Le.refl _ | refine Le.bind ?_ (fun _ => ?_) | refine Le.cond ?_ ?_)

def network_Net_Attackers_f (k_ : Nat) (n_0 : T_network_Net) (s_1 : Int) : Option (Int) :=
 Option.bind ((network_Set_List_f k_) s_1) fun t1 =>
 Option.bind (loopF k_ ((network_Net_Attackers_l1f k_) n_0 t1) ((0, 0))) fun q11 : Int =>
 some q11

theorem network_Net_Attackers_f_le {k_ : Nat} {n_0 : T_network_Net} {s_1 : Int} : Le (network_Net_Attackers_f k_ n_0 s_1) (network_Net_Attackers_m n_0 s_1) := by
  unfold network_Net_Attackers_f network_Net_Attackers_m
  repeat' with_reducible (first | exact Le.refl _ | refine network_Set_List_f_le | refine Le.loop (fun _ => network_Net_Attackers_l1f_le) | refine Le.bind ?_ (fun _ => ?_))

def network_Net_Admissible_f (k_ : Nat) (n_0 : T_network_Net) (s_1 : Int) : Option (Bool) :=
 Option.bind ((network_Net_Free_f k_) n_0 s_1) fun t1 =>
 bif t1 then
 Option.bind ((network_Net_Attackers_f k_) n_0 s_1) fun t2 =>
 Option.bind ((network_Net_Hit_f k_) n_0 s_1) fun t3 =>
 some ((iandn .u64 t2 t3 : Int) == 0)
 else
 some false

theorem network_Net_Admissible_f_le {k_ : Nat} {n_0 : T_network_Net} {s_1 : Int} : Le (network_Net_Admissible_f k_ n_0 s_1) (network_Net_Admissible_m n_0 s_1) := by
  unfold network_Net_Admissible_f network_Net_Admissible_m
  repeat' with_reducible (first | exact Le.refl _ | refine network_Net_Free_f_le | refine network_Net_Attackers_f_le | refine network_Net_Hit_f_le | refine Le.bind ?_ (fun _ => ?_) | refine Le.cond ?_ ?_)

def network_Net_Stable_f (k_ : Nat) (n_0 : T_network_Net) (s_1 : Int) : Option (Bool) :=
 Option.bind ((network_Net_Free_f k_) n_0 s_1) fun t1 =>
 bif t1 then
 Option.bind ((network_Net_Hit_f k_) n_0 s_1) fun t2 =>
 some ((iandn .u64 (iandn .u64 n_0.All s_1) t2 : Int) == 0)
 else
 some false

theorem network_Net_Stable_f_le {k_ : Nat} {n_0 : T_network_Net} {s_1 : Int} : Le (network_Net_Stable_f k_ n_0 s_1) (network_Net_Stable_m n_0 s_1) := by
  unfold network_Net_Stable_f network_Net_Stable_m
  repeat' with_reducible (first | exact Le.refl _ | refine network_Net_Free_f_le | refine network_Net_Hit_f_le | refine Le.bind ?_ (fun _ => ?_) | refine Le.cond ?_ ?_)

def network_Net_Answer_1_f (k_ : Nat) (s_0 : Int) (p_1_0 : Int) (p_2_0 : Int) (p_2_1 : (List Int)) (p_2_2 : (List Int)) (p_3_0 : Int) (p_4_0 : Bool) (p_5_0 : Bool) : Option (Bool × Bool) :=
 joinM (fun j5 : Bool =>
 joinM (fun j8 : Bool =>
 bif j8 then
 some ((false, !p_4_0))
 else
 some ((true, p_5_0))) fun k7 =>
 bif j5 then
 Option.bind ((network_Set_Has_f k_) s_0 p_3_0) fun t9 =>
 k7 (!(t9 == p_4_0))
 else
 k7 false) fun k4 =>
 bif (p_1_0 : Int) == 1 then
 Option.bind ((network_Net_Admissible_f k_) ((T_network_Net.mk p_2_0 p_2_1 p_2_2)) s_0) fun t10 =>
 bif t10 then
 k4 true
 else
 bif (p_1_0 : Int) != 1 then
 Option.bind ((network_Net_Stable_f k_) ((T_network_Net.mk p_2_0 p_2_1 p_2_2)) s_0) fun t11 =>
 k4 t11
 else
 k4 false
 else
 bif (p_1_0 : Int) != 1 then
 Option.bind ((network_Net_Stable_f k_) ((T_network_Net.mk p_2_0 p_2_1 p_2_2)) s_0) fun t12 =>
 k4 t12
 else
 k4 false

theorem network_Net_Answer_1_f_le {k_ : Nat} {s_0 : Int} {p_1_0 : Int} {p_2_0 : Int} {p_2_1 : (List Int)} {p_2_2 : (List Int)} {p_3_0 : Int} {p_4_0 : Bool} {p_5_0 : Bool} : Le (network_Net_Answer_1_f k_ s_0 p_1_0 p_2_0 p_2_1 p_2_2 p_3_0 p_4_0 p_5_0) (network_Net_Answer_1_m s_0 p_1_0 p_2_0 p_2_1 p_2_2 p_3_0 p_4_0 p_5_0) := by
  unfold network_Net_Answer_1_f network_Net_Answer_1_m
  repeat' with_reducible (first | exact Le.refl _ | refine network_Set_Has_f_le | refine network_Net_Admissible_f_le | refine network_Net_Stable_f_le | refine Le.bind ?_ (fun _ => ?_) | refine Le.cond ?_ ?_ | refine Le.join (fun _ => ?_) (fun _ _ hj => ?_) | exact hj _)

def network_subsets_l1f (k_ : Nat) (s_0 : Int) (each_1_0_0 : Int) (each_1_1_0 : Int) (each_1_1_1 : (List Int)) (each_1_1_2 : (List Int)) (each_1_2_0 : Int) (each_1_3_0 : Bool) (s5 : Int × Bool) : Option (Sum (Bool) (Int × Bool)) :=
 Option.bind ((network_Net_Answer_1_f k_) s5.1 each_1_0_0 each_1_1_0 each_1_1_1 each_1_1_2 each_1_2_0 each_1_3_0 s5.2) fun t6 =>
 bif !t6.1 then
 some (Sum.inl t6.2)
 else
 bif (s5.1 : Int) == 0 then
 some (Sum.inl t6.2)
 else
 some (Sum.inr ((iand .u64 (isub .u64 s5.1 1) s_0, t6.2)))

theorem network_subsets_l1f_le {k_ : Nat} {s_0 : Int} {each_1_0_0 : Int} {each_1_1_0 : Int} {each_1_1_1 : (List Int)} {each_1_1_2 : (List Int)} {each_1_2_0 : Int} {each_1_3_0 : Bool} {s5 : Int × Bool} : Le (network_subsets_l1f k_ s_0 each_1_0_0 each_1_1_0 each_1_1_1 each_1_1_2 each_1_2_0 each_1_3_0 s5) (network_subsets_l1 s_0 each_1_0_0 each_1_1_0 each_1_1_1 each_1_1_2 each_1_2_0 each_1_3_0 s5) := by
  unfold network_subsets_l1f network_subsets_l1
  repeat' with_reducible (first | exact Le.refl _ | refine network_Net_Answer_1_f_le | refine Le.bind ?_ (fun _ => ?_) | refine Le.cond ?_ ?_)

def network_subsets_f (k_ : Nat) (s_0 : Int) (each_1_0_0 : Int) (each_1_1_0 : Int) (each_1_1_1 : (List Int)) (each_1_1_2 : (List Int)) (each_1_2_0 : Int) (each_1_3_0 : Bool) (each_1_4_0 : Bool) : Option (Bool) :=
 Option.bind (loopF k_ ((network_subsets_l1f k_) s_0 each_1_0_0 each_1_1_0 each_1_1_1 each_1_1_2 each_1_2_0 each_1_3_0) ((s_0, each_1_4_0))) (fun a : Bool => some a)

theorem network_subsets_f_le {k_ : Nat} {s_0 : Int} {each_1_0_0 : Int} {each_1_1_0 : Int} {each_1_1_1 : (List Int)} {each_1_1_2 : (List Int)} {each_1_2_0 : Int} {each_1_3_0 : Bool} {each_1_4_0 : Bool} : Le (network_subsets_f k_ s_0 each_1_0_0 each_1_1_0 each_1_1_1 each_1_1_2 each_1_2_0 each_1_3_0 each_1_4_0) (network_subsets_m s_0 each_1_0_0 each_1_1_0 each_1_1_1 each_1_1_2 each_1_2_0 each_1_3_0 each_1_4_0) := by
  unfold network_subsets_f network_subsets_m
  repeat' with_reducible (first | exact Le.refl _ | refine Le.loop (fun _ => network_subsets_l1f_le) | refine Le.bind ?_ (fun _ => ?_))

def network_Net_Answer_f (k_ : Nat) (n_0 : T_network_Net) (question_1 : Int) (node_2 : Int) : Option (Bool) :=
 bif (question_1 : Int) == 4 then
 Option.bind ((network_Net_In_f k_) n_0) fun t3 =>
 Option.bind ((network_Set_Has_f k_) t3 node_2) fun t4 =>
 some t4
 else
 Option.bind ((network_subsets_f k_) n_0.All question_1 n_0.All n_0.By n_0.Out node_2 ((question_1 : Int) == 3) ((question_1 : Int) == 3)) fun t5 =>
 some t5

theorem network_Net_Answer_f_le {k_ : Nat} {n_0 : T_network_Net} {question_1 : Int} {node_2 : Int} : Le (network_Net_Answer_f k_ n_0 question_1 node_2) (network_Net_Answer_m n_0 question_1 node_2) := by
  unfold network_Net_Answer_f network_Net_Answer_m
  repeat' with_reducible (first | exact Le.refl _ | refine network_Net_In_f_le | refine network_Set_Has_f_le | refine network_subsets_f_le | refine Le.bind ?_ (fun _ => ?_) | refine Le.cond ?_ ?_)

def explain_Removals_1_f (k_ : Nat) (x_0 : Int) (p_1_0 : Int) : Option (Bool) :=
 some ((x_0 : Int) == p_1_0)

theorem explain_Removals_1_f_le {k_ : Nat} {x_0 : Int} {p_1_0 : Int} : Le (explain_Removals_1_f k_ x_0 p_1_0) (explain_Removals_1_m x_0 p_1_0) := by
  unfold explain_Removals_1_f explain_Removals_1_m
  repeat' with_reducible (first | exact Le.refl _)

def slices_IndexFunc_int_int_s4_l1f (k_ : Nat) (s_0 : (List Int)) (f_1_0_0 : Int) (s7 : Int) : Option (Sum (Sum (Int) (Unit)) (Int)) :=
 bif decide (s7 < ((s_0.length : Int))) then
 Option.bind (idxM s_0 s7) fun t8 =>
 Option.bind ((explain_Removals_1_f k_) t8 f_1_0_0) fun t9 =>
 bif t9 then
 some (Sum.inl (Sum.inl s7))
 else
 some (Sum.inr (iadd .i64 s7 1))
 else
 some (Sum.inl (Sum.inr (())))

theorem slices_IndexFunc_int_int_s4_l1f_le {k_ : Nat} {s_0 : (List Int)} {f_1_0_0 : Int} {s7 : Int} : Le (slices_IndexFunc_int_int_s4_l1f k_ s_0 f_1_0_0 s7) (slices_IndexFunc_int_int_s4_l1 s_0 f_1_0_0 s7) := by
  unfold slices_IndexFunc_int_int_s4_l1f slices_IndexFunc_int_int_s4_l1
  repeat' with_reducible (first | exact Le.refl _ | refine explain_Removals_1_f_le | refine Le.bind ?_ (fun _ => ?_) | refine Le.cond ?_ ?_)

def slices_IndexFunc_int_int_s4_f (k_ : Nat) (s_0 : (List Int)) (f_1_0_0 : Int) : Option (Int) :=
 Option.bind (loopF k_ ((slices_IndexFunc_int_int_s4_l1f k_) s_0 f_1_0_0) 0) (sumK (fun a : Int => some a) fun q10 : Unit =>
 some ((-1)))

theorem slices_IndexFunc_int_int_s4_f_le {k_ : Nat} {s_0 : (List Int)} {f_1_0_0 : Int} : Le (slices_IndexFunc_int_int_s4_f k_ s_0 f_1_0_0) (slices_IndexFunc_int_int_s4_m s_0 f_1_0_0) := by
  unfold slices_IndexFunc_int_int_s4_f slices_IndexFunc_int_int_s4_m
  repeat' with_reducible (first | exact Le.refl _ | refine Le.loop (fun _ => slices_IndexFunc_int_int_s4_l1f_le) | refine Le.bind ?_ (Le.sumKK (fun _ => ?_) fun _ => ?_) | refine Le.bind ?_ (Le.sumK fun _ => ?_) | refine Le.bind ?_ (fun _ => ?_))

def slices_DeleteFunc_int_int_l1f (k_ : Nat) (del_1_0_0 : Int) (s10 : Int × Int × (List Int)) : Option (Sum (Int × (List Int)) (Int × Int × (List Int))) :=
 bif decide (s10.2.1 < ((s10.2.2.length : Int))) then
 Option.bind (idxM s10.2.2 s10.2.1) fun t11 =>
 Option.bind ((explain_Removals_1_f k_) t11 del_1_0_0) fun t12 =>
 bif !t12 then
 Option.bind (idxM s10.2.2 s10.1) fun t13 =>
 some (Sum.inr ((iadd .i64 s10.1 1, iadd .i64 s10.2.1 1, s10.2.2.set (Int.toNat s10.1) t11)))
 else
 some (Sum.inr ((s10.1, iadd .i64 s10.2.1 1, s10.2.2)))
 else
 some (Sum.inl ((s10.1, s10.2.2)))

theorem slices_DeleteFunc_int_int_l1f_le {k_ : Nat} {del_1_0_0 : Int} {s10 : Int × Int × (List Int)} : Le (slices_DeleteFunc_int_int_l1f k_ del_1_0_0 s10) (slices_DeleteFunc_int_int_l1 del_1_0_0 s10) := by
  unfold slices_DeleteFunc_int_int_l1f slices_DeleteFunc_int_int_l1
  repeat' with_reducible (first | exact Le.refl _ | refine explain_Removals_1_f_le | refine Le.bind ?_ (fun _ => ?_) | refine Le.cond ?_ ?_)

def slices_DeleteFunc_int_int_f (k_ : Nat) (s_0 : (List Int)) (del_1_0_0 : Int) : Option ((List Int)) :=
 Option.bind ((slices_IndexFunc_int_int_s4_f k_) s_0 del_1_0_0) fun i1 =>
 bif (i1 : Int) == ((-1)) then
 some s_0
 else
 Option.bind (loopF k_ ((slices_DeleteFunc_int_int_l1f k_) del_1_0_0) ((i1, iadd .i64 i1 1, s_0))) fun q14 : Int × (List Int) =>
 Option.bind (slM q14.2 q14.1 q14.2.length) fun t15 =>
 Option.bind (slM q14.2 q14.1 q14.2.length) fun t16 =>
 Option.bind (slM (q14.2.take (Int.toNat q14.1) ++ List.replicate (Int.toNat q14.2.length - Int.toNat q14.1) 0 ++ q14.2.drop (Int.toNat q14.2.length)) 0 q14.1) fun t17 =>
 some t17

theorem slices_DeleteFunc_int_int_f_le {k_ : Nat} {s_0 : (List Int)} {del_1_0_0 : Int} : Le (slices_DeleteFunc_int_int_f k_ s_0 del_1_0_0) (slices_DeleteFunc_int_int_m s_0 del_1_0_0) := by
  unfold slices_DeleteFunc_int_int_f slices_DeleteFunc_int_int_m
  repeat' with_reducible (first | exact Le.refl _ | refine slices_IndexFunc_int_int_s4_f_le | refine Le.loop (fun _ => slices_DeleteFunc_int_int_l1f_le) | refine Le.bind ?_ (fun _ => ?_) | refine Le.cond ?_ ?_)

def explain_all_l1f (k_ : Nat) (l_0 : (List Int)) (s30 : Int × (List (List Int))) (s41 : Int × (List Int)) : Option (Sum ((List Int)) (Int × (List Int))) :=
 bif decide (s41.1 < ((l_0.length : Int))) then
 Option.bind (idxM l_0 s41.1) fun t42 =>
 Option.bind (ishrM .i64 s30.1 s41.1) fun t43 =>
 bif (iand .i64 t43 1 : Int) == 1 then
 Option.bind (appM 8 s41.2 [t42]) fun s44 =>
 some (Sum.inr ((iadd .i64 s41.1 1, s44)))
 else
 some (Sum.inr ((iadd .i64 s41.1 1, s41.2)))
 else
 some (Sum.inl s41.2)

theorem explain_all_l1f_le {k_ : Nat} {l_0 : (List Int)} {s30 : Int × (List (List Int))} {s41 : Int × (List Int)} : Le (explain_all_l1f k_ l_0 s30 s41) (explain_all_l1 l_0 s30 s41) := by
  unfold explain_all_l1f explain_all_l1
  repeat' with_reducible (first | exact Le.refl _ | refine Le.bind ?_ (fun _ => ?_) | refine Le.cond ?_ ?_)

def network_Net_Within_l1f (k_ : Nat) (n_0 : T_network_Net) (s_1 : Int) (j12 : Int × (List Int) × (List Int)) (s25 : Int × (List Int) × (List Int)) : Option (Sum ((List Int) × (List Int)) (Int × (List Int) × (List Int))) :=
 bif decide (s25.1 < ((n_0.By.length : Int))) then
 Option.bind ((network_Set_Has_f k_) j12.1 s25.1) fun t26 =>
 bif t26 then
 Option.bind (idxM n_0.By s25.1) fun t27 =>
 Option.bind (idxM n_0.Out s25.1) fun t28 =>
 Option.bind (idxM s25.2.1 s25.1) fun t29 =>
 Option.bind (idxM s25.2.2 s25.1) fun t30 =>
 some (Sum.inr ((iadd .i64 s25.1 1, s25.2.1.set (Int.toNat s25.1) (iand .u64 t27 s_1), s25.2.2.set (Int.toNat s25.1) (iand .u64 t28 s_1))))
 else
 some (Sum.inr ((iadd .i64 s25.1 1, s25.2.1, s25.2.2)))
 else
 some (Sum.inl ((s25.2.1, s25.2.2)))

theorem network_Net_Within_l1f_le {k_ : Nat} {n_0 : T_network_Net} {s_1 : Int} {j12 : Int × (List Int) × (List Int)} {s25 : Int × (List Int) × (List Int)} : Le (network_Net_Within_l1f k_ n_0 s_1 j12 s25) (network_Net_Within_l1 n_0 s_1 j12 s25) := by
  unfold network_Net_Within_l1f network_Net_Within_l1
  repeat' with_reducible (first | exact Le.refl _ | refine network_Set_Has_f_le | refine Le.bind ?_ (fun _ => ?_) | refine Le.cond ?_ ?_)

def network_Net_Within_f (k_ : Nat) (n_0 : T_network_Net) (s_1 : Int) : Option (T_network_Net) :=
 joinM (fun j12 : Int × (List Int) × (List Int) =>
 Option.bind (loopF k_ ((network_Net_Within_l1f k_) n_0 s_1 j12) ((0, j12.2.1, j12.2.2))) fun q31 : (List Int) × (List Int) =>
 some ((T_network_Net.mk j12.1 q31.1 q31.2))) fun k11 =>
 meetF (
 Option.bind (mkM 8 0 ((n_0.By.length : Int))) fun t32 =>
 meetF (
 Option.bind (mkM 8 0 ((n_0.By.length : Int))) fun t33 =>
 k11 ((iand .u64 n_0.All s_1, t32, t33))) (
 Option.bind (mkM 8 0 ((n_0.By.length : Int))) fun t34 =>
 k11 ((iand .u64 n_0.All s_1, t32, t34)))) (
 meetF (
 Option.bind (mkM 8 0 ((n_0.By.length : Int))) fun t35 =>
 meetF (
 Option.bind (mkM 8 0 ((n_0.By.length : Int))) fun t36 =>
 k11 ((iand .u64 n_0.All s_1, t36, t35))) (
 Option.bind (mkM 8 0 ((n_0.By.length : Int))) fun t37 =>
 k11 ((iand .u64 n_0.All s_1, t37, t35)))) (
 meetF (
 Option.bind (mkM 8 0 ((n_0.By.length : Int))) fun t38 =>
 Option.bind (mkM 8 0 ((n_0.By.length : Int))) fun t39 =>
 k11 ((iand .u64 n_0.All s_1, t38, t39))) (
 Option.bind (mkM 8 0 ((n_0.By.length : Int))) fun t40 =>
 Option.bind (mkM 8 0 ((n_0.By.length : Int))) fun t41 =>
 k11 ((iand .u64 n_0.All s_1, t41, t40)))))

theorem network_Net_Within_f_le {k_ : Nat} {n_0 : T_network_Net} {s_1 : Int} : Le (network_Net_Within_f k_ n_0 s_1) (network_Net_Within_m n_0 s_1) := by
  unfold network_Net_Within_f network_Net_Within_m
  repeat' with_reducible (first | exact Le.refl _ | refine Le.loop (fun _ => network_Net_Within_l1f_le) | refine Le.meet ?_ ?_ | refine Le.bind ?_ (fun _ => ?_) | refine Le.join (fun _ => ?_) (fun _ _ hj => ?_) | exact hj _)

def explain_Removals_2_s1_f (k_ : Nat) (s_0 : (List Int)) (p_1_0 : Int) (p_1_1 : (List Int)) (p_1_2 : (List Int)) (p_2_0 : Int) (p_3_0 : Int) (p_4_0 : Bool) : Option (Bool) :=
 Option.bind ((network_Of_f k_) s_0) fun t1 =>
 Option.bind ((network_Net_Within_f k_) ((T_network_Net.mk p_1_0 p_1_1 p_1_2)) (iandn .u64 p_1_0 t1)) fun t2 =>
 Option.bind ((network_Net_Answer_f k_) t2 p_2_0 p_3_0) fun t3 =>
 some (!(t3 == p_4_0))

theorem explain_Removals_2_s1_f_le {k_ : Nat} {s_0 : (List Int)} {p_1_0 : Int} {p_1_1 : (List Int)} {p_1_2 : (List Int)} {p_2_0 : Int} {p_3_0 : Int} {p_4_0 : Bool} : Le (explain_Removals_2_s1_f k_ s_0 p_1_0 p_1_1 p_1_2 p_2_0 p_3_0 p_4_0) (explain_Removals_2_s1_m s_0 p_1_0 p_1_1 p_1_2 p_2_0 p_3_0 p_4_0) := by
  unfold explain_Removals_2_s1_f explain_Removals_2_s1_m
  repeat' with_reducible (first | exact Le.refl _ | refine network_Of_f_le | refine network_Net_Within_f_le | refine network_Net_Answer_f_le | refine Le.bind ?_ (fun _ => ?_))

def explain_least_1_s1_f (k_ : Nat) (s_0 : (List Int)) (p_1_0 : (List (List Int))) (p_2_0_0_0 : Int) (p_2_0_0_1 : (List Int)) (p_2_0_0_2 : (List Int)) (p_2_0_1_0 : Int) (p_2_0_2_0 : Int) (p_2_0_3_0 : Bool) : Option ((List (List Int))) :=
 joinM (fun j5 : Unit =>
 bif decide (((p_1_0.length : Int)) > 0) then
 Option.bind (idxM p_1_0 0) fun t6 =>
 bif decide (((s_0.length : Int)) < ((t6.length : Int))) then
 Option.bind (appM 24 [] [s_0]) fun t7 =>
 some t7
 else
 Option.bind (appM 24 p_1_0 [s_0]) fun t8 =>
 some t8
 else
 Option.bind (appM 24 p_1_0 [s_0]) fun t9 =>
 some t9) fun k4 =>
 bif decide (((p_1_0.length : Int)) > 0) then
 Option.bind (idxM p_1_0 0) fun t10 =>
 bif decide (((s_0.length : Int)) > ((t10.length : Int))) then
 some p_1_0
 else
 Option.bind ((explain_Removals_2_s1_f k_) s_0 p_2_0_0_0 p_2_0_0_1 p_2_0_0_2 p_2_0_1_0 p_2_0_2_0 p_2_0_3_0) fun t11 =>
 bif !t11 then
 some p_1_0
 else
 k4 (())
 else
 Option.bind ((explain_Removals_2_s1_f k_) s_0 p_2_0_0_0 p_2_0_0_1 p_2_0_0_2 p_2_0_1_0 p_2_0_2_0 p_2_0_3_0) fun t12 =>
 bif !t12 then
 some p_1_0
 else
 k4 (())

theorem explain_least_1_s1_f_le {k_ : Nat} {s_0 : (List Int)} {p_1_0 : (List (List Int))} {p_2_0_0_0 : Int} {p_2_0_0_1 : (List Int)} {p_2_0_0_2 : (List Int)} {p_2_0_1_0 : Int} {p_2_0_2_0 : Int} {p_2_0_3_0 : Bool} : Le (explain_least_1_s1_f k_ s_0 p_1_0 p_2_0_0_0 p_2_0_0_1 p_2_0_0_2 p_2_0_1_0 p_2_0_2_0 p_2_0_3_0) (explain_least_1_s1_m s_0 p_1_0 p_2_0_0_0 p_2_0_0_1 p_2_0_0_2 p_2_0_1_0 p_2_0_2_0 p_2_0_3_0) := by
  unfold explain_least_1_s1_f explain_least_1_s1_m
  repeat' with_reducible (first | exact Le.refl _ | refine explain_Removals_2_s1_f_le | refine Le.bind ?_ (fun _ => ?_) | refine Le.cond ?_ ?_ | refine Le.join (fun _ => ?_) (fun _ _ hj => ?_) | exact hj _)

def explain_all_l2f (k_ : Nat) (l_0 : (List Int)) (each_1_1_0_0_0 : Int) (each_1_1_0_0_1 : (List Int)) (each_1_1_0_0_2 : (List Int)) (each_1_1_0_1_0 : Int) (each_1_1_0_2_0 : Int) (each_1_1_0_3_0 : Bool) (t1 : Int) (s30 : Int × (List (List Int))) : Option (Sum ((List (List Int))) (Int × (List (List Int)))) :=
 bif decide (s30.1 < t1) then
 Option.bind (loopF k_ ((explain_all_l1f k_) l_0 s30) ((0, []))) fun q45 : (List Int) =>
 Option.bind ((explain_least_1_s1_f k_) q45 s30.2 each_1_1_0_0_0 each_1_1_0_0_1 each_1_1_0_0_2 each_1_1_0_1_0 each_1_1_0_2_0 each_1_1_0_3_0) fun t46 =>
 some (Sum.inr ((iadd .i64 s30.1 1, t46)))
 else
 some (Sum.inl s30.2)

theorem explain_all_l2f_le {k_ : Nat} {l_0 : (List Int)} {each_1_1_0_0_0 : Int} {each_1_1_0_0_1 : (List Int)} {each_1_1_0_0_2 : (List Int)} {each_1_1_0_1_0 : Int} {each_1_1_0_2_0 : Int} {each_1_1_0_3_0 : Bool} {t1 : Int} {s30 : Int × (List (List Int))} : Le (explain_all_l2f k_ l_0 each_1_1_0_0_0 each_1_1_0_0_1 each_1_1_0_0_2 each_1_1_0_1_0 each_1_1_0_2_0 each_1_1_0_3_0 t1 s30) (explain_all_l2 l_0 each_1_1_0_0_0 each_1_1_0_0_1 each_1_1_0_0_2 each_1_1_0_1_0 each_1_1_0_2_0 each_1_1_0_3_0 t1 s30) := by
  unfold explain_all_l2f explain_all_l2
  repeat' with_reducible (first | exact Le.refl _ | refine explain_least_1_s1_f_le | refine Le.loop (fun _ => explain_all_l1f_le) | refine Le.bind ?_ (fun _ => ?_) | refine Le.cond ?_ ?_)

def explain_all_f (k_ : Nat) (l_0 : (List Int)) (each_1_1_0_0_0 : Int) (each_1_1_0_0_1 : (List Int)) (each_1_1_0_0_2 : (List Int)) (each_1_1_0_1_0 : Int) (each_1_1_0_2_0 : Int) (each_1_1_0_3_0 : Bool) : Option ((List (List Int))) :=
 Option.bind (ishlM .i64 1 ((l_0.length : Int))) fun t1 =>
 Option.bind (loopF k_ ((explain_all_l2f k_) l_0 each_1_1_0_0_0 each_1_1_0_0_1 each_1_1_0_0_2 each_1_1_0_1_0 each_1_1_0_2_0 each_1_1_0_3_0 t1) ((0, []))) fun q47 : (List (List Int)) =>
 some q47

theorem explain_all_f_le {k_ : Nat} {l_0 : (List Int)} {each_1_1_0_0_0 : Int} {each_1_1_0_0_1 : (List Int)} {each_1_1_0_0_2 : (List Int)} {each_1_1_0_1_0 : Int} {each_1_1_0_2_0 : Int} {each_1_1_0_3_0 : Bool} : Le (explain_all_f k_ l_0 each_1_1_0_0_0 each_1_1_0_0_1 each_1_1_0_0_2 each_1_1_0_1_0 each_1_1_0_2_0 each_1_1_0_3_0) (explain_all_m l_0 each_1_1_0_0_0 each_1_1_0_0_1 each_1_1_0_0_2 each_1_1_0_1_0 each_1_1_0_2_0 each_1_1_0_3_0) := by
  unfold explain_all_f explain_all_m
  repeat' with_reducible (first | exact Le.refl _ | refine Le.loop (fun _ => explain_all_l2f_le) | refine Le.bind ?_ (fun _ => ?_))

def slices_Compare_int_int_s1_l1f (k_ : Nat) (s1_0 : (List Int)) (s2_1 : (List Int)) (s19 : Int) : Option (Sum (Sum (Int) (Unit)) (Int)) :=
 bif decide (s19 < ((s1_0.length : Int))) then
 Option.bind (idxM s1_0 s19) fun t20 =>
 bif decide (s19 ≥ ((s2_1.length : Int))) then
 some (Sum.inl (Sum.inl 1))
 else
 Option.bind (idxM s2_1 s19) fun t21 =>
 Option.bind ((cmp_Compare_int_f k_) t20 t21) fun c22 =>
 bif (c22 : Int) != 0 then
 some (Sum.inl (Sum.inl c22))
 else
 some (Sum.inr (iadd .i64 s19 1))
 else
 some (Sum.inl (Sum.inr (())))

theorem slices_Compare_int_int_s1_l1f_le {k_ : Nat} {s1_0 : (List Int)} {s2_1 : (List Int)} {s19 : Int} : Le (slices_Compare_int_int_s1_l1f k_ s1_0 s2_1 s19) (slices_Compare_int_int_s1_l1 s1_0 s2_1 s19) := by
  unfold slices_Compare_int_int_s1_l1f slices_Compare_int_int_s1_l1
  repeat' with_reducible (first | exact Le.refl _ | refine cmp_Compare_int_f_le | refine Le.bind ?_ (fun _ => ?_) | refine Le.cond ?_ ?_)

def slices_Compare_int_int_s1_f (k_ : Nat) (s1_0 : (List Int)) (s2_1 : (List Int)) : Option (Int) :=
 Option.bind (loopF k_ ((slices_Compare_int_int_s1_l1f k_) s1_0 s2_1) 0) (sumK (fun a : Int => some a) fun q23 : Unit =>
 bif decide (((s1_0.length : Int)) < ((s2_1.length : Int))) then
 some ((-1))
 else
 some 0)

theorem slices_Compare_int_int_s1_f_le {k_ : Nat} {s1_0 : (List Int)} {s2_1 : (List Int)} : Le (slices_Compare_int_int_s1_f k_ s1_0 s2_1) (slices_Compare_int_int_s1_m s1_0 s2_1) := by
  unfold slices_Compare_int_int_s1_f slices_Compare_int_int_s1_m
  repeat' with_reducible (first | exact Le.refl _ | refine Le.loop (fun _ => slices_Compare_int_int_s1_l1f_le) | refine Le.bind ?_ (Le.sumKK (fun _ => ?_) fun _ => ?_) | refine Le.bind ?_ (Le.sumK fun _ => ?_) | refine Le.bind ?_ (fun _ => ?_) | refine Le.cond ?_ ?_)

def explain_least_2_f (k_ : Nat) (a_0 : (List Int)) (b_1 : (List Int)) : Option (Int) :=
 Option.bind ((slices_Compare_int_int_s1_f k_) a_0 b_1) fun t1 =>
 some t1

theorem explain_least_2_f_le {k_ : Nat} {a_0 : (List Int)} {b_1 : (List Int)} : Le (explain_least_2_f k_ a_0 b_1) (explain_least_2_m a_0 b_1) := by
  unfold explain_least_2_f explain_least_2_m
  repeat' with_reducible (first | exact Le.refl _ | refine slices_Compare_int_int_s1_f_le | refine Le.bind ?_ (fun _ => ?_))

def explain_least_f (k_ : Nat) (l_0 : (List Int)) (is_1_0_0 : Int) (is_1_0_1 : (List Int)) (is_1_0_2 : (List Int)) (is_1_1_0 : Int) (is_1_2_0 : Int) (is_1_3_0 : Bool) : Option ((List (List Int))) :=
 Option.bind ((explain_all_f k_) l_0 is_1_0_0 is_1_0_1 is_1_0_2 is_1_1_0 is_1_2_0 is_1_3_0) fun t1 =>
 Option.bind (sortNF t1) fun t2 =>
 some t2

theorem explain_least_f_le {k_ : Nat} {l_0 : (List Int)} {is_1_0_0 : Int} {is_1_0_1 : (List Int)} {is_1_0_2 : (List Int)} {is_1_1_0 : Int} {is_1_2_0 : Int} {is_1_3_0 : Bool} : Le (explain_least_f k_ l_0 is_1_0_0 is_1_0_1 is_1_0_2 is_1_1_0 is_1_2_0 is_1_3_0) (explain_least_m l_0 is_1_0_0 is_1_0_1 is_1_0_2 is_1_1_0 is_1_2_0 is_1_3_0) := by
  unfold explain_least_f explain_least_m
  repeat' with_reducible (first | exact Le.refl _ | exact sortNF_le | refine explain_all_f_le | refine explain_least_2_f_le | refine Le.bind ?_ (fun _ => ?_))

def explain_Removals_f (k_ : Nat) (g_0 : T_api_Graph) (question_1 : Int) (node_2 : Int) : Option (Int × (List (List Int))) :=
 Option.bind ((graph_Validate_f k_) g_0) fun e2 =>
 bif (e2 : Int) != 0 then
 some ((e2, []))
 else
 Option.bind ((network_Question_f k_) question_1) fun t6 =>
 bif !t6 then
 some ((4, []))
 else
 joinM (fun j8 : Bool =>
 bif j8 then
 some ((1, []))
 else
 bif decide (g_0.N > 10) then
 some ((2, []))
 else
 Option.bind ((network_New_f k_) g_0) fun t9 =>
 Option.bind ((network_Net_Answer_f k_) t9 question_1 node_2) fun t10 =>
 Option.bind ((network_Set_List_f k_) t9.All) fun t11 =>
 Option.bind ((slices_DeleteFunc_int_int_f k_) t11 node_2) fun others12 =>
 Option.bind ((explain_least_f k_) others12 t9.All t9.By t9.Out question_1 node_2 t10) fun out13 =>
 bif ((out13.length : Int) : Int) == 0 then
 some ((9, []))
 else
 some ((0, out13))) fun k7 =>
 bif decide (node_2 < 0) then
 k7 true
 else
 k7 (decide (node_2 ≥ g_0.N))

theorem explain_Removals_f_le {k_ : Nat} {g_0 : T_api_Graph} {question_1 : Int} {node_2 : Int} : Le (explain_Removals_f k_ g_0 question_1 node_2) (explain_Removals_m g_0 question_1 node_2) := by
  unfold explain_Removals_f explain_Removals_m
  repeat' with_reducible (first | exact Le.refl _ | refine graph_Validate_f_le | refine network_Question_f_le | refine network_New_f_le | refine network_Net_Answer_f_le | refine network_Set_List_f_le | refine slices_DeleteFunc_int_int_f_le | refine explain_least_f_le | refine Le.bind ?_ (fun _ => ?_) | refine Le.cond ?_ ?_ | refine Le.join (fun _ => ?_) (fun _ _ hj => ?_) | exact hj _)

def keep_Ints_l1f (k_ : Nat) (a_0 : (List Int)) (b_1 : (List Int)) (s7 : Int) : Option (Sum (Sum (Bool) (Unit)) (Int)) :=
 bif decide (s7 < ((a_0.length : Int))) then
 Option.bind (idxM a_0 s7) fun t8 =>
 Option.bind (idxM b_1 s7) fun t9 =>
 bif (t8 : Int) != t9 then
 some (Sum.inl (Sum.inl false))
 else
 some (Sum.inr (iadd .i64 s7 1))
 else
 some (Sum.inl (Sum.inr (())))

theorem keep_Ints_l1f_le {k_ : Nat} {a_0 : (List Int)} {b_1 : (List Int)} {s7 : Int} : Le (keep_Ints_l1f k_ a_0 b_1 s7) (keep_Ints_l1 a_0 b_1 s7) := by
  unfold keep_Ints_l1f keep_Ints_l1
  repeat' with_reducible (first | exact Le.refl _ | refine Le.bind ?_ (fun _ => ?_) | refine Le.cond ?_ ?_)

def keep_Ints_f (k_ : Nat) (a_0 : (List Int)) (b_1 : (List Int)) : Option (Bool) :=
 bif ((a_0.length : Int) : Int) != ((b_1.length : Int)) then
 some false
 else
 Option.bind (loopF k_ ((keep_Ints_l1f k_) a_0 b_1) 0) (sumK (fun a : Bool => some a) fun q10 : Unit =>
 some true)

theorem keep_Ints_f_le {k_ : Nat} {a_0 : (List Int)} {b_1 : (List Int)} : Le (keep_Ints_f k_ a_0 b_1) (keep_Ints_m a_0 b_1) := by
  unfold keep_Ints_f keep_Ints_m
  repeat' with_reducible (first | exact Le.refl _ | refine Le.loop (fun _ => keep_Ints_l1f_le) | refine Le.bind ?_ (Le.sumKK (fun _ => ?_) fun _ => ?_) | refine Le.bind ?_ (Le.sumK fun _ => ?_) | refine Le.bind ?_ (fun _ => ?_) | refine Le.cond ?_ ?_)

def keep_Lists_l1f (k_ : Nat) (a_0 : (List (List Int))) (b_1 : (List (List Int))) (s9 : Int) : Option (Sum (Sum (Bool) (Unit)) (Int)) :=
 bif decide (s9 < ((a_0.length : Int))) then
 Option.bind (idxM a_0 s9) fun t10 =>
 Option.bind (idxM b_1 s9) fun t11 =>
 Option.bind ((keep_Ints_f k_) t10 t11) fun t12 =>
 bif !t12 then
 some (Sum.inl (Sum.inl false))
 else
 some (Sum.inr (iadd .i64 s9 1))
 else
 some (Sum.inl (Sum.inr (())))

theorem keep_Lists_l1f_le {k_ : Nat} {a_0 : (List (List Int))} {b_1 : (List (List Int))} {s9 : Int} : Le (keep_Lists_l1f k_ a_0 b_1 s9) (keep_Lists_l1 a_0 b_1 s9) := by
  unfold keep_Lists_l1f keep_Lists_l1
  repeat' with_reducible (first | exact Le.refl _ | refine keep_Ints_f_le | refine Le.bind ?_ (fun _ => ?_) | refine Le.cond ?_ ?_)

def keep_Lists_f (k_ : Nat) (a_0 : (List (List Int))) (b_1 : (List (List Int))) : Option (Bool) :=
 bif ((a_0.length : Int) : Int) != ((b_1.length : Int)) then
 some false
 else
 Option.bind (loopF k_ ((keep_Lists_l1f k_) a_0 b_1) 0) (sumK (fun a : Bool => some a) fun q13 : Unit =>
 some true)

theorem keep_Lists_f_le {k_ : Nat} {a_0 : (List (List Int))} {b_1 : (List (List Int))} : Le (keep_Lists_f k_ a_0 b_1) (keep_Lists_m a_0 b_1) := by
  unfold keep_Lists_f keep_Lists_m
  repeat' with_reducible (first | exact Le.refl _ | refine Le.loop (fun _ => keep_Lists_l1f_le) | refine Le.bind ?_ (Le.sumKK (fun _ => ?_) fun _ => ?_) | refine Le.bind ?_ (Le.sumK fun _ => ?_) | refine Le.bind ?_ (fun _ => ?_) | refine Le.cond ?_ ?_)

def top_awake25_f (k_ : Nat) : Option (Bool) :=
 Option.bind ((enforce_Strict_f k_) ((T_api_Graph.mk 2 [(T_api_Pair.mk 0 1)])) [1] 1) fun t1 =>
 Option.bind ((explain_Removals_f k_) ((T_api_Graph.mk 2 [(T_api_Pair.mk 0 1)])) 4 1) fun t2 =>
 bif (t1.2 : Int) == 0 then
 bif ((t1.1.Changes.length : Int) : Int) == 1 then
 bif (t2.1 : Int) == 0 then
 Option.bind ((keep_Lists_f k_) t2.2 ([[0]])) fun t3 =>
 some t3
 else
 some false
 else
 some false
 else
 some false

theorem top_awake25_f_le {k_ : Nat}  : Le (top_awake25_f k_ ) (top_awake25_m ) := by
  unfold top_awake25_f top_awake25_m
  repeat' with_reducible (first | exact Le.refl _ | refine enforce_Strict_f_le | refine explain_Removals_f_le | refine keep_Lists_f_le | refine Le.bind ?_ (fun _ => ?_) | refine Le.cond ?_ ?_)

def math_bits_Mul64_f (k_ : Nat) (x_0 : Int) (y_1 : Int) : Option (Int × Int) :=
  letM (iand .u64 x_0 4294967295) fun x01 =>
  letM (ishr .u64 x_0 32) fun x12 =>
  letM (iand .u64 y_1 4294967295) fun y03 =>
  letM (ishr .u64 y_1 32) fun y14 =>
  letM (imul .u64 x01 y03) fun w05 =>
  letM (iadd .u64 (imul .u64 x12 y03) (ishr .u64 w05 32)) fun t6 =>
  letM (iand .u64 t6 4294967295) fun w17 =>
  letM (ishr .u64 t6 32) fun w28 =>
  letM (iadd .u64 w17 (imul .u64 x01 y14)) fun w19 =>
  letM (iadd .u64 (iadd .u64 (imul .u64 x12 y14) w28) (ishr .u64 w19 32)) fun hi10 =>
  letM (imul .u64 x_0 y_1) fun lo11 =>
  some (hi10, lo11)

theorem math_bits_Mul64_f_le {k_ : Nat} {x_0 : Int} {y_1 : Int} : Le (math_bits_Mul64_f k_ x_0 y_1) (math_bits_Mul64_m x_0 y_1) := by
  unfold math_bits_Mul64_f math_bits_Mul64_m
  repeat' with_reducible (first | exact Le.refl _ | refine Le.letM (fun _ => ?_))

def math_bits_Mul_f (k_ : Nat) (x_0 : Int) (y_1 : Int) : Option (Int × Int) :=
  Option.bind ((math_bits_Mul64_f k_) x_0 y_1) fun t1 =>
  some (t1.1, t1.2)

theorem math_bits_Mul_f_le {k_ : Nat} {x_0 : Int} {y_1 : Int} : Le (math_bits_Mul_f k_ x_0 y_1) (math_bits_Mul_m x_0 y_1) := by
  unfold math_bits_Mul_f math_bits_Mul_m
  repeat' with_reducible (first | exact Le.refl _ | refine math_bits_Mul64_f_le | refine Le.bind ?_ (fun _ => ?_))

def slices_Repeat_int_int_l1f (k_ : Nat) (s17 : Int × (List Int)) : Option (Sum ((List Int)) (Int × (List Int))) :=
  bif decide (s17.1 < (s17.2.length : Int)) then
    Option.bind (slM s17.2 s17.1 (s17.2.length : Int)) fun t20 =>
    Option.bind (slM s17.2 0 s17.1) fun t21 =>
    some (Sum.inr (iadd .i64 s17.1 ((min t21.length t20.length : Nat) : Int), cpO s17.2 s17.1 (s17.2.length : Int) 0 s17.1))
  else
    some (Sum.inl s17.2)

theorem slices_Repeat_int_int_l1f_le {k_ : Nat} {s17 : Int × (List Int)} : Le (slices_Repeat_int_int_l1f k_ s17) (slices_Repeat_int_int_l1 s17) := by
  unfold slices_Repeat_int_int_l1f slices_Repeat_int_int_l1
  repeat' with_reducible (first | exact Le.refl _ | refine Le.bind ?_ (fun _ => ?_) | refine Le.cond ?_ ?_)

def slices_Repeat_int_int_f (k_ : Nat) (x_0 : (List Int)) (count_1 : Int) : Option (List Int) :=
  bif decide (count_1 < 0) then
    none
  else
    Option.bind ((math_bits_Mul_f k_) (IntKind.wrap .u64 (x_0.length : Int)) (IntKind.wrap .u64 count_1)) fun t2 =>
    bif decide (t2.1 > 0) then
      none
    else
      bif decide (t2.2 > 9223372036854775807) then
        none
      else
        Option.bind (mkM 8 0 (IntKind.wrap .i64 t2.2)) fun newslice4 =>
        letM (((min x_0.length newslice4.length : Nat) : Int)) fun n6 =>
        Option.bind (loopF k_ ((slices_Repeat_int_int_l1f k_)) (n6, cpA newslice4 x_0)) fun q22 : (List Int) =>
        some q22

theorem slices_Repeat_int_int_f_le {k_ : Nat} {x_0 : (List Int)} {count_1 : Int} : Le (slices_Repeat_int_int_f k_ x_0 count_1) (slices_Repeat_int_int_m x_0 count_1) := by
  unfold slices_Repeat_int_int_f slices_Repeat_int_int_m
  repeat' with_reducible (first | exact Le.refl _ | refine math_bits_Mul_f_le | refine Le.loop (fun _ => slices_Repeat_int_int_l1f_le) | refine Le.bind ?_ (fun _ => ?_) | refine Le.cond ?_ ?_ | refine Le.letM (fun _ => ?_))

def game_reply_1_f (k_ : Nat) (r_0 : T_api_Reply) (n_1 : Int) : Option (Int) :=
 some (isub .i64 r_0.To n_1)

def slices_BinarySearchFunc_api_Reply_api_Reply_int_l1f (k_ : Nat) (x_0 : (List T_api_Reply)) (target_1 : Int) (s15 : Int × Int) : Option (Sum (Int) (Int × Int)) :=
 bif decide (s15.1 < s15.2) then
 Option.bind (idxM x_0 (IntKind.wrap .i64 (ishr .u64 (IntKind.wrap .u64 (iadd .i64 s15.1 s15.2)) 1))) fun t16 =>
 Option.bind ((game_reply_1_f k_) t16 target_1) fun t17 =>
 bif decide (t17 < 0) then
 some (Sum.inr ((iadd .i64 (IntKind.wrap .i64 (ishr .u64 (IntKind.wrap .u64 (iadd .i64 s15.1 s15.2)) 1)) 1, s15.2)))
 else
 some (Sum.inr ((s15.1, IntKind.wrap .i64 (ishr .u64 (IntKind.wrap .u64 (iadd .i64 s15.1 s15.2)) 1))))
 else
 some (Sum.inl s15.1)

def slices_BinarySearchFunc_api_Reply_api_Reply_int_f (k_ : Nat) (x_0 : (List T_api_Reply)) (target_1 : Int) : Option (Int × Bool) :=
 Option.bind (loopF k_ ((slices_BinarySearchFunc_api_Reply_api_Reply_int_l1f k_) x_0 target_1) ((0, (x_0.length : Int)))) fun q18 : Int =>
 bif decide (q18 < ((x_0.length : Int))) then
 Option.bind (idxM x_0 q18) fun t19 =>
 Option.bind ((game_reply_1_f k_) t19 target_1) fun t20 =>
 some ((q18, (t20 : Int) == 0))
 else
 some ((q18, false))

def game_reply_f (k_ : Nat) (s_0 : T_api_Strategy) (to__1 : Int) : Option (Int × Bool) :=
 Option.bind ((slices_BinarySearchFunc_api_Reply_api_Reply_int_f k_) s_0.Replies to__1) fun t1 =>
 bif !t1.2 then
 some ((0, false))
 else
 Option.bind (idxM s_0.Replies t1.1) fun t2 =>
 some ((t2.Node, true))

def game_checker_visit_l1f (k_ : Nat) (game_checker_visit_r : Int → (List Int) → (List Int) → Int → Int → Int → (List T_api_Reply) → Int → (List Int) → Int → Option (Bool × (List Int) × Int × (List Int) × (List Int) × Int × Int × Int × (List T_api_Reply) × Int)) (t34 : ((List Int))) (s59 : Int × Int × (List Int) × (List Int) × Int × Int × Int × (List T_api_Reply) × Int × (List Int)) : Option (Sum (Sum (Bool × (List Int) × Int × (List Int) × (List Int) × Int × Int × Int × (List T_api_Reply) × Int) (Int × (List Int) × (List Int) × Int × Int × Int × (List T_api_Reply) × Int × (List Int))) (Int × Int × (List Int) × (List Int) × Int × Int × Int × (List T_api_Reply) × Int × (List Int))) :=
 bif decide (s59.1 < ((t34.length : Int))) then
 Option.bind (idxM t34 s59.1) fun t60 =>
 Option.bind ((game_reply_f k_) ((T_api_Strategy.mk s59.2.2.2.2.1 s59.2.2.2.2.2.1 s59.2.2.2.2.2.2.1 s59.2.2.2.2.2.2.2.1)) t60) fun t61 =>
 bif !t61.2 then
 some (Sum.inl (Sum.inl ((false, s59.2.2.2.2.2.2.2.2.2, s59.2.1, s59.2.2.1, s59.2.2.2.1, s59.2.2.2.2.1, s59.2.2.2.2.2.1, s59.2.2.2.2.2.2.1, s59.2.2.2.2.2.2.2.1, s59.2.2.2.2.2.2.2.2.1))))
 else
 Option.bind (idxM s59.2.2.1 t60) fun t64 =>
 Option.bind ((network_Set_Has_f k_) t64 t61.1) fun t65 =>
 bif !t65 then
 some (Sum.inl (Sum.inl ((false, s59.2.2.2.2.2.2.2.2.2, s59.2.1, s59.2.2.1, s59.2.2.2.1, s59.2.2.2.2.1, s59.2.2.2.2.2.1, s59.2.2.2.2.2.2.1, s59.2.2.2.2.2.2.2.1, s59.2.2.2.2.2.2.2.2.1))))
 else
 Option.bind (idxM s59.2.2.2.2.2.2.2.2.2 t61.1) fun t66 =>
 bif (t66 : Int) == 1 then
 bif (s59.2.2.2.2.1 : Int) == 1 then
 some (Sum.inl (Sum.inl ((false, s59.2.2.2.2.2.2.2.2.2, s59.2.1, s59.2.2.1, s59.2.2.2.1, s59.2.2.2.2.1, s59.2.2.2.2.2.1, s59.2.2.2.2.2.2.1, s59.2.2.2.2.2.2.2.1, s59.2.2.2.2.2.2.2.2.1))))
 else
 Option.bind (idxM s59.2.2.2.2.2.2.2.2.2 t61.1) fun t67 =>
 bif (t67 : Int) == 0 then
 Option.bind (game_checker_visit_r s59.2.1 s59.2.2.1 s59.2.2.2.1 s59.2.2.2.2.1 s59.2.2.2.2.2.1 s59.2.2.2.2.2.2.1 s59.2.2.2.2.2.2.2.1 s59.2.2.2.2.2.2.2.2.1 s59.2.2.2.2.2.2.2.2.2 t61.1) fun t68 =>
 bif !t68.1 then
 some (Sum.inl (Sum.inl ((false, t68.2.1, t68.2.2.1, t68.2.2.2.1, t68.2.2.2.2.1, t68.2.2.2.2.2.1, t68.2.2.2.2.2.2.1, t68.2.2.2.2.2.2.2.1, t68.2.2.2.2.2.2.2.2.1, t68.2.2.2.2.2.2.2.2.2))))
 else
 some (Sum.inr ((iadd .i64 s59.1 1, t68.2.2.1, t68.2.2.2.1, t68.2.2.2.2.1, t68.2.2.2.2.2.1, t68.2.2.2.2.2.2.1, t68.2.2.2.2.2.2.2.1, t68.2.2.2.2.2.2.2.2.1, t68.2.2.2.2.2.2.2.2.2, t68.2.1)))
 else
 some (Sum.inr ((iadd .i64 s59.1 1, s59.2.1, s59.2.2.1, s59.2.2.2.1, s59.2.2.2.2.1, s59.2.2.2.2.2.1, s59.2.2.2.2.2.2.1, s59.2.2.2.2.2.2.2.1, s59.2.2.2.2.2.2.2.2.1, s59.2.2.2.2.2.2.2.2.2)))
 else
 Option.bind (idxM s59.2.2.2.2.2.2.2.2.2 t61.1) fun t69 =>
 bif (t69 : Int) == 0 then
 Option.bind (game_checker_visit_r s59.2.1 s59.2.2.1 s59.2.2.2.1 s59.2.2.2.2.1 s59.2.2.2.2.2.1 s59.2.2.2.2.2.2.1 s59.2.2.2.2.2.2.2.1 s59.2.2.2.2.2.2.2.2.1 s59.2.2.2.2.2.2.2.2.2 t61.1) fun t70 =>
 bif !t70.1 then
 some (Sum.inl (Sum.inl ((false, t70.2.1, t70.2.2.1, t70.2.2.2.1, t70.2.2.2.2.1, t70.2.2.2.2.2.1, t70.2.2.2.2.2.2.1, t70.2.2.2.2.2.2.2.1, t70.2.2.2.2.2.2.2.2.1, t70.2.2.2.2.2.2.2.2.2))))
 else
 some (Sum.inr ((iadd .i64 s59.1 1, t70.2.2.1, t70.2.2.2.1, t70.2.2.2.2.1, t70.2.2.2.2.2.1, t70.2.2.2.2.2.2.1, t70.2.2.2.2.2.2.2.1, t70.2.2.2.2.2.2.2.2.1, t70.2.2.2.2.2.2.2.2.2, t70.2.1)))
 else
 some (Sum.inr ((iadd .i64 s59.1 1, s59.2.1, s59.2.2.1, s59.2.2.2.1, s59.2.2.2.2.1, s59.2.2.2.2.2.1, s59.2.2.2.2.2.2.1, s59.2.2.2.2.2.2.2.1, s59.2.2.2.2.2.2.2.2.1, s59.2.2.2.2.2.2.2.2.2)))
 else
 some (Sum.inl (Sum.inr ((s59.2.1, s59.2.2.1, s59.2.2.2.1, s59.2.2.2.2.1, s59.2.2.2.2.2.1, s59.2.2.2.2.2.2.1, s59.2.2.2.2.2.2.2.1, s59.2.2.2.2.2.2.2.2.1, s59.2.2.2.2.2.2.2.2.2))))

theorem game_checker_visit_l1_mono {game_checker_visit_r game_checker_visit_r' : Int → (List Int) → (List Int) → Int → Int → Int → (List T_api_Reply) → Int → (List Int) → Int → Option (Bool × (List Int) × Int × (List Int) × (List Int) × Int × Int × Int × (List T_api_Reply) × Int)} (h_game_checker_visit_r : ∀ a0 a1 a2 a3 a4 a5 a6 a7 a8 a9, Le (game_checker_visit_r a0 a1 a2 a3 a4 a5 a6 a7 a8 a9) (game_checker_visit_r' a0 a1 a2 a3 a4 a5 a6 a7 a8 a9)) {t34 : ((List Int))} {s59 : Int × Int × (List Int) × (List Int) × Int × Int × Int × (List T_api_Reply) × Int × (List Int)} : Le (game_checker_visit_l1 game_checker_visit_r t34 s59) (game_checker_visit_l1 game_checker_visit_r' t34 s59) := by
  unfold game_checker_visit_l1
  repeat' with_reducible (first | exact Le.refl _ | exact h_game_checker_visit_r _ _ _ _ _ _ _ _ _ _ | refine Le.bind ?_ (fun _ => ?_) | refine Le.cond ?_ ?_)

def game_checker_visit_bf (k_ : Nat) (game_checker_visit_r : Int → (List Int) → (List Int) → Int → Int → Int → (List T_api_Reply) → Int → (List Int) → Int → Option (Bool × (List Int) × Int × (List Int) × (List Int) × Int × Int × Int × (List T_api_Reply) × Int)) (c_0_n_All : Int) (c_0_n_By : (List Int)) (c_0_n_Out : (List Int)) (c_0_s_Game : Int) (c_0_s_Root : Int) (c_0_s_By : Int) (c_0_s_Replies : (List T_api_Reply)) (c_0_reached : Int) (c_0_state : (List Int)) (node_1 : Int) : Option (Bool × (List Int) × Int × (List Int) × (List Int) × Int × Int × Int × (List T_api_Reply) × Int) :=
 Option.bind ((network_Set_With_f k_) c_0_reached node_1) fun t3 =>
 Option.bind (idxM c_0_state node_1) fun t4 =>
 Option.bind (idxM c_0_n_By node_1) fun t33 =>
 Option.bind ((network_Set_List_f k_) t33) fun t34 =>
 Option.bind (loopF k_ ((game_checker_visit_l1f k_) game_checker_visit_r t34) ((0, c_0_n_All, c_0_n_By, c_0_n_Out, c_0_s_Game, c_0_s_Root, c_0_s_By, c_0_s_Replies, t3, c_0_state.set (Int.toNat node_1) 1))) (sumK (fun a : Bool × (List Int) × Int × (List Int) × (List Int) × Int × Int × Int × (List T_api_Reply) × Int => some a) fun q71 : Int × (List Int) × (List Int) × Int × Int × Int × (List T_api_Reply) × Int × (List Int) =>
 Option.bind (idxM q71.2.2.2.2.2.2.2.2 node_1) fun t72 =>
 some ((true, q71.2.2.2.2.2.2.2.2.set (Int.toNat node_1) 2, q71.1, q71.2.1, q71.2.2.1, q71.2.2.2.1, q71.2.2.2.2.1, q71.2.2.2.2.2.1, q71.2.2.2.2.2.2.1, q71.2.2.2.2.2.2.2.1)))

theorem game_checker_visit_b_mono {game_checker_visit_r game_checker_visit_r' : Int → (List Int) → (List Int) → Int → Int → Int → (List T_api_Reply) → Int → (List Int) → Int → Option (Bool × (List Int) × Int × (List Int) × (List Int) × Int × Int × Int × (List T_api_Reply) × Int)} (h_game_checker_visit_r : ∀ a0 a1 a2 a3 a4 a5 a6 a7 a8 a9, Le (game_checker_visit_r a0 a1 a2 a3 a4 a5 a6 a7 a8 a9) (game_checker_visit_r' a0 a1 a2 a3 a4 a5 a6 a7 a8 a9)) {c_0_n_All : Int} {c_0_n_By : (List Int)} {c_0_n_Out : (List Int)} {c_0_s_Game : Int} {c_0_s_Root : Int} {c_0_s_By : Int} {c_0_s_Replies : (List T_api_Reply)} {c_0_reached : Int} {c_0_state : (List Int)} {node_1 : Int} : Le (game_checker_visit_b game_checker_visit_r c_0_n_All c_0_n_By c_0_n_Out c_0_s_Game c_0_s_Root c_0_s_By c_0_s_Replies c_0_reached c_0_state node_1) (game_checker_visit_b game_checker_visit_r' c_0_n_All c_0_n_By c_0_n_Out c_0_s_Game c_0_s_Root c_0_s_By c_0_s_Replies c_0_reached c_0_state node_1) := by
  unfold game_checker_visit_b
  repeat' with_reducible (first | exact Le.refl _ | exact h_game_checker_visit_r _ _ _ _ _ _ _ _ _ _ | refine Le.loopC (fun _ => game_checker_visit_l1_mono h_game_checker_visit_r) | refine Le.bind ?_ (Le.sumKK (fun _ => ?_) fun _ => ?_) | refine Le.bind ?_ (Le.sumK fun _ => ?_) | refine Le.bind ?_ (fun _ => ?_))

def game_checker_visit_nf (k_ : Nat) : Nat → Int → (List Int) → (List Int) → Int → Int → Int → (List T_api_Reply) → Int → (List Int) → Int → Option (Bool × (List Int) × Int × (List Int) × (List Int) × Int × Int × Int × (List T_api_Reply) × Int)
  | 0 => fun _ _ _ _ _ _ _ _ _ _ => none
  | n_ + 1 => game_checker_visit_bf k_ (game_checker_visit_nf k_ n_)

theorem game_checker_visit_n_mono : ∀ (n_ : Nat) a0 a1 a2 a3 a4 a5 a6 a7 a8 a9, Le (game_checker_visit_n n_ a0 a1 a2 a3 a4 a5 a6 a7 a8 a9) (game_checker_visit_n (n_ + 1) a0 a1 a2 a3 a4 a5 a6 a7 a8 a9)
  | 0, _, _, _, _, _, _, _, _, _, _ => fun _ h => by cases h
  | n_ + 1, _, _, _, _, _, _, _, _, _, _ => game_checker_visit_b_mono (game_checker_visit_n_mono n_)

def game_checker_visit_f (k_ : Nat) (c_0_n_All : Int) (c_0_n_By : (List Int)) (c_0_n_Out : (List Int)) (c_0_s_Game : Int) (c_0_s_Root : Int) (c_0_s_By : Int) (c_0_s_Replies : (List T_api_Reply)) (c_0_reached : Int) (c_0_state : (List Int)) (node_1 : Int) : Option (Bool × (List Int) × Int × (List Int) × (List Int) × Int × Int × Int × (List T_api_Reply) × Int) := game_checker_visit_nf k_ k_ c_0_n_All c_0_n_By c_0_n_Out c_0_s_Game c_0_s_Root c_0_s_By c_0_s_Replies c_0_reached c_0_state node_1

theorem game_checker_visit_m_at {n_ : Nat} {c_0_n_All : Int} {c_0_n_By : (List Int)} {c_0_n_Out : (List Int)} {c_0_s_Game : Int} {c_0_s_Root : Int} {c_0_s_By : Int} {c_0_s_Replies : (List T_api_Reply)} {c_0_reached : Int} {c_0_state : (List Int)} {node_1 : Int} {r} (h : game_checker_visit_n n_ c_0_n_All c_0_n_By c_0_n_Out c_0_s_Game c_0_s_Root c_0_s_By c_0_s_Replies c_0_reached c_0_state node_1 = some r) : game_checker_visit_m c_0_n_All c_0_n_By c_0_n_Out c_0_s_Game c_0_s_Root c_0_s_By c_0_s_Replies c_0_reached c_0_state node_1 = some r :=
  (limM_iff (m := fun n (a : Int × (List Int) × (List Int) × Int × Int × Int × (List T_api_Reply) × Int × (List Int) × Int) => game_checker_visit_n n a.1 a.2.1 a.2.2.1 a.2.2.2.1 a.2.2.2.2.1 a.2.2.2.2.2.1 a.2.2.2.2.2.2.1 a.2.2.2.2.2.2.2.1 a.2.2.2.2.2.2.2.2.1 a.2.2.2.2.2.2.2.2.2) (fun n a r h => game_checker_visit_n_mono n _ _ _ _ _ _ _ _ _ _ r h)).2 ⟨n_, h⟩

end Go.Dc
