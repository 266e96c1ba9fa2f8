/- Part LAW28C.F of a proof: lemmas. -/
import Derived.Test.YtodnndlcnignbaaLAW28CA3
import Derived.Test.YtodnndlcnignbaaDcFuel
set_option linter.unusedVariables false
set_option maxRecDepth 100000
namespace Go.Dc

def ref10_Validate_l1f (k_ : Nat) (g_0 : T_api_Graph) (s13 : Int) : Option (Sum ((Sum (Int) (Unit))) (Int)) :=
  bif decide (s13 < (g_0.L.length : Int)) then
    Option.bind (idxM g_0.L s13) fun t16 =>
    bif decide (t16.From < 0) then
      some (Sum.inl (Sum.inl 1))
    else
      bif decide (t16.From ≥ g_0.N) then
        some (Sum.inl (Sum.inl 1))
      else
        bif decide (t16.To < 0) then
          some (Sum.inl (Sum.inl 1))
        else
          bif decide (t16.To ≥ g_0.N) then
            some (Sum.inl (Sum.inl 1))
          else
            bif decide (s13 > 0) then
              Option.bind (idxM g_0.L (isub .i64 s13 1)) fun t19 =>
              bif decide (t19.From > t16.From) then
                some (Sum.inl (Sum.inl 8))
              else
                Option.bind (idxM g_0.L (isub .i64 s13 1)) fun t20 =>
                bif t20.From == t16.From then
                  Option.bind (idxM g_0.L (isub .i64 s13 1)) fun t21 =>
                  bif decide (t21.To ≥ t16.To) then
                    some (Sum.inl (Sum.inl 8))
                  else
                    letM (iadd .i64 s13 1) fun i23 =>
                    some (Sum.inr i23)
                else
                  letM (iadd .i64 s13 1) fun i24 =>
                  some (Sum.inr i24)
            else
              letM (iadd .i64 s13 1) fun i25 =>
              some (Sum.inr i25)
  else
    some (Sum.inl (Sum.inr ()))

theorem ref10_Validate_l1f_le {k_ : Nat} {g_0 : T_api_Graph} {s13 : Int} : Le (ref10_Validate_l1f k_ g_0 s13) (ref10_Validate_l1 g_0 s13) := by
  unfold ref10_Validate_l1f ref10_Validate_l1
  repeat' with_reducible (first | exact Le.refl _ | refine Le.bind ?_ (Le.sumK fun _ => ?_) | refine Le.bind ?_ (fun _ => ?_) | refine Le.cond ?_ ?_ | refine Le.letM (fun _ => ?_) | refine Le.join (fun _ => ?_) (fun _ _ hj => ?_) | exact hj _)

def ref10_Validate_f (k_ : Nat) (g_0 : T_api_Graph) : Option (Int) :=
  bif decide (g_0.N < 0) then
    some 1
  else
    bif decide (g_0.N > 40) then
      some 1
    else
      Option.bind (loopF k_ (ref10_Validate_l1f k_ g_0) 0) (sumK (fun a : Int => some a) fun q26 : Unit =>
        some 0)

theorem ref10_Validate_f_le {k_ : Nat} {g_0 : T_api_Graph} : Le (ref10_Validate_f k_ g_0) (ref10_Validate_m g_0) := by
  unfold ref10_Validate_f ref10_Validate_m
  repeat' with_reducible (first | exact Le.refl _ | refine Le.loop (fun _ => ref10_Validate_l1f_le) | refine Le.bind ?_ (Le.sumK fun _ => ?_) | refine Le.bind ?_ (fun _ => ?_) | refine Le.cond ?_ ?_ | refine Le.letM (fun _ => ?_) | refine Le.join (fun _ => ?_) (fun _ _ hj => ?_) | exact hj _)

def ref27_New_f (k_ : Nat) (g_0 : T_api_Graph) (root_1 : Int) (limits_2 : T_arr2_3) : Option (T_api_Dialogue × Int) :=
  Option.bind (ref10_Validate_f k_ g_0) fun e4 =>
  bif e4 != 0 then
    some ((T_api_Dialogue.mk (T_api_Graph.mk 0 []) 0 (T_arr2_3.mk 0 0) []), e4)
  else
    bif decide (root_1 < 0) then
      some ((T_api_Dialogue.mk (T_api_Graph.mk 0 []) 0 (T_arr2_3.mk 0 0) []), 1)
    else
      bif decide (root_1 ≥ g_0.N) then
        some ((T_api_Dialogue.mk (T_api_Graph.mk 0 []) 0 (T_arr2_3.mk 0 0) []), 1)
      else
        bif decide (limits_2.i0 < 1) then
          some ((T_api_Dialogue.mk (T_api_Graph.mk 0 []) 0 (T_arr2_3.mk 0 0) []), 1)
        else
          bif decide (limits_2.i0 > 200) then
            some ((T_api_Dialogue.mk (T_api_Graph.mk 0 []) 0 (T_arr2_3.mk 0 0) []), 1)
          else
            bif decide (limits_2.i1 < 0) then
              some ((T_api_Dialogue.mk (T_api_Graph.mk 0 []) 0 (T_arr2_3.mk 0 0) []), 1)
            else
              bif decide (limits_2.i1 > 200) then
                some ((T_api_Dialogue.mk (T_api_Graph.mk 0 []) 0 (T_arr2_3.mk 0 0) []), 1)
              else
                some ((T_api_Dialogue.mk g_0 root_1 limits_2 [(T_api_Move.mk 1 1 root_1 0)]), 0)

theorem ref27_New_f_le {k_ : Nat} {g_0 : T_api_Graph} {root_1 : Int} {limits_2 : T_arr2_3} : Le (ref27_New_f k_ g_0 root_1 limits_2) (ref27_New_m g_0 root_1 limits_2) := by
  unfold ref27_New_f ref27_New_m
  repeat' with_reducible (first | exact Le.refl _ | refine ref10_Validate_f_le | refine Le.bind ?_ (Le.sumK fun _ => ?_) | refine Le.bind ?_ (fun _ => ?_) | refine Le.cond ?_ ?_ | refine Le.letM (fun _ => ?_) | refine Le.join (fun _ => ?_) (fun _ _ hj => ?_) | exact hj _)

def cmp_isNaN_int_f (k_ : Nat) (x_0 : Int) : Option (Bool) :=
  some (x_0 != x_0)

theorem cmp_isNaN_int_f_le {k_ : Nat} {x_0 : Int} : Le (cmp_isNaN_int_f k_ x_0) (cmp_isNaN_int_m x_0) := by
  unfold cmp_isNaN_int_f cmp_isNaN_int_m
  repeat' with_reducible (first | exact Le.refl _ | refine Le.bind ?_ (Le.sumK fun _ => ?_) | refine Le.bind ?_ (fun _ => ?_) | refine Le.cond ?_ ?_ | refine Le.letM (fun _ => ?_) | refine Le.join (fun _ => ?_) (fun _ _ hj => ?_) | exact hj _)

def cmp_Compare_int_f (k_ : Nat) (x_0 : Int) (y_1 : Int) : Option (Int) :=
  Option.bind (cmp_isNaN_int_f k_ x_0) fun xNaN1 =>
  Option.bind (cmp_isNaN_int_f k_ y_1) fun yNaN2 =>
  bif xNaN1 then
    bif yNaN2 then
      some 0
    else
      some (-1)
  else
    bif yNaN2 then
      some 1
    else
      bif decide (x_0 < y_1) then
        some (-1)
      else
        bif decide (x_0 > y_1) then
          some 1
        else
          some 0

theorem cmp_Compare_int_f_le {k_ : Nat} {x_0 : Int} {y_1 : Int} : Le (cmp_Compare_int_f k_ x_0 y_1) (cmp_Compare_int_m x_0 y_1) := by
  unfold cmp_Compare_int_f cmp_Compare_int_m
  repeat' with_reducible (first | exact Le.refl _ | refine cmp_isNaN_int_f_le | refine Le.bind ?_ (Le.sumK fun _ => ?_) | refine Le.bind ?_ (fun _ => ?_) | refine Le.cond ?_ ?_ | refine Le.letM (fun _ => ?_) | refine Le.join (fun _ => ?_) (fun _ _ hj => ?_) | exact hj _)

def cmp_Or_int_l1f (k_ : Nat) (vals_0 : (List Int)) (s6 : Int) : Option (Sum ((Sum (Int) (Unit))) (Int)) :=
  bif decide (s6 < (vals_0.length : Int)) then
    Option.bind (idxM vals_0 s6) fun val9 =>
    bif val9 != 0 then
      some (Sum.inl (Sum.inl val9))
    else
      some (Sum.inr (iadd .i64 s6 1))
  else
    some (Sum.inl (Sum.inr ()))

theorem cmp_Or_int_l1f_le {k_ : Nat} {vals_0 : (List Int)} {s6 : Int} : Le (cmp_Or_int_l1f k_ vals_0 s6) (cmp_Or_int_l1 vals_0 s6) := by
  unfold cmp_Or_int_l1f cmp_Or_int_l1
  repeat' with_reducible (first | exact Le.refl _ | refine Le.bind ?_ (Le.sumK fun _ => ?_) | refine Le.bind ?_ (fun _ => ?_) | refine Le.cond ?_ ?_ | refine Le.letM (fun _ => ?_) | refine Le.join (fun _ => ?_) (fun _ _ hj => ?_) | exact hj _)

def cmp_Or_int_f (k_ : Nat) (vals_0 : (List Int)) : Option (Int) :=
  Option.bind (loopF k_ (cmp_Or_int_l1f k_ vals_0) 0) (sumK (fun a : Int => some a) fun q11 : Unit =>
    some 0)

theorem cmp_Or_int_f_le {k_ : Nat} {vals_0 : (List Int)} : Le (cmp_Or_int_f k_ vals_0) (cmp_Or_int_m vals_0) := by
  unfold cmp_Or_int_f cmp_Or_int_m
  repeat' with_reducible (first | exact Le.refl _ | refine Le.loop (fun _ => cmp_Or_int_l1f_le) | refine Le.bind ?_ (Le.sumK fun _ => ?_) | refine Le.bind ?_ (fun _ => ?_) | refine Le.cond ?_ ?_ | refine Le.letM (fun _ => ?_) | refine Le.join (fun _ => ?_) (fun _ _ hj => ?_) | exact hj _)

def graph_compare_f (k_ : Nat) (a__0 : T_api_Pair) (b_1 : T_api_Pair) : Option (Int) :=
  Option.bind (cmp_Compare_int_f k_ a__0.From b_1.From) fun t3 =>
  Option.bind (cmp_Compare_int_f k_ a__0.To b_1.To) fun t4 =>
  Option.bind (cmp_Or_int_f k_ [t3, t4]) fun t5 =>
  some t5

theorem graph_compare_f_le {k_ : Nat} {a__0 : T_api_Pair} {b_1 : T_api_Pair} : Le (graph_compare_f k_ a__0 b_1) (graph_compare_m a__0 b_1) := by
  unfold graph_compare_f graph_compare_m
  repeat' with_reducible (first | exact Le.refl _ | refine cmp_Compare_int_f_le | refine cmp_Or_int_f_le | refine Le.bind ?_ (Le.sumK fun _ => ?_) | refine Le.bind ?_ (fun _ => ?_) | refine Le.cond ?_ ?_ | refine Le.letM (fun _ => ?_) | refine Le.join (fun _ => ?_) (fun _ _ hj => ?_) | exact hj _)

def graph_Validate_l1f (k_ : Nat) (g_0 : T_api_Graph) (s12 : Int) : Option (Sum ((Sum (Int) (Unit))) (Int)) :=
  bif decide (s12 < (g_0.L.length : Int)) then
    Option.bind (idxM g_0.L s12) fun t15 =>
    bif decide ((imin t15.From t15.To) < 0) then
      some (Sum.inl (Sum.inl 1))
    else
      bif decide ((imax t15.From t15.To) ≥ g_0.N) then
        some (Sum.inl (Sum.inl 1))
      else
        bif decide (s12 > 0) then
          Option.bind (idxM g_0.L (isub .i64 s12 1)) fun t18 =>
          Option.bind (graph_compare_f k_ t18 t15) fun t19 =>
          bif decide (t19 ≥ 0) then
            some (Sum.inl (Sum.inl 8))
          else
            some (Sum.inr (iadd .i64 s12 1))
        else
          some (Sum.inr (iadd .i64 s12 1))
  else
    some (Sum.inl (Sum.inr ()))

theorem graph_Validate_l1f_le {k_ : Nat} {g_0 : T_api_Graph} {s12 : Int} : Le (graph_Validate_l1f k_ g_0 s12) (graph_Validate_l1 g_0 s12) := by
  unfold graph_Validate_l1f graph_Validate_l1
  repeat' with_reducible (first | exact Le.refl _ | refine graph_compare_f_le | refine Le.bind ?_ (Le.sumK fun _ => ?_) | refine Le.bind ?_ (fun _ => ?_) | refine Le.cond ?_ ?_ | refine Le.letM (fun _ => ?_) | refine Le.join (fun _ => ?_) (fun _ _ hj => ?_) | exact hj _)

def graph_Validate_f (k_ : Nat) (g_0 : T_api_Graph) : Option (Int) :=
  bif decide (g_0.N < 0) then
    some 1
  else
    bif decide (g_0.N > 40) then
      some 1
    else
      Option.bind (loopF k_ (graph_Validate_l1f k_ g_0) 0) (sumK (fun a : Int => some a) fun q21 : Unit =>
        some 0)

theorem graph_Validate_f_le {k_ : Nat} {g_0 : T_api_Graph} : Le (graph_Validate_f k_ g_0) (graph_Validate_m g_0) := by
  unfold graph_Validate_f graph_Validate_m
  repeat' with_reducible (first | exact Le.refl _ | refine Le.loop (fun _ => graph_Validate_l1f_le) | refine Le.bind ?_ (Le.sumK fun _ => ?_) | refine Le.bind ?_ (fun _ => ?_) | refine Le.cond ?_ ?_ | refine Le.letM (fun _ => ?_) | refine Le.join (fun _ => ?_) (fun _ _ hj => ?_) | exact hj _)

def participant_Full_l1f (k_ : Nat) (g_0 : T_api_Graph) (s21 : Int × (List Int)) : Option (Sum ((List Int)) (Int × (List Int))) :=
  bif decide (s21.1 < g_0.N) then
    Option.bind (appM 8 s21.2 [s21.1]) fun t24 =>
    some (Sum.inr (iadd .i64 s21.1 1, t24))
  else
    some (Sum.inl s21.2)

theorem participant_Full_l1f_le {k_ : Nat} {g_0 : T_api_Graph} {s21 : Int × (List Int)} : Le (participant_Full_l1f k_ g_0 s21) (participant_Full_l1 g_0 s21) := by
  unfold participant_Full_l1f participant_Full_l1
  repeat' with_reducible (first | exact Le.refl _ | refine Le.bind ?_ (Le.sumK fun _ => ?_) | refine Le.bind ?_ (fun _ => ?_) | refine Le.cond ?_ ?_ | refine Le.letM (fun _ => ?_) | refine Le.join (fun _ => ?_) (fun _ _ hj => ?_) | exact hj _)

def participant_Full_f (k_ : Nat) (g_0 : T_api_Graph) (style_1 : Int) : Option (T_api_Player) :=
  Option.bind (graph_Validate_f k_ g_0) fun t3 =>
  bif t3 != 0 then
    some (T_api_Player.mk [] [] [] 0)
  else
    Option.bind (loopF k_ (participant_Full_l1f k_ g_0) (0, [])) fun q26 : (List Int) =>
    some (T_api_Player.mk q26 [] [] style_1)

theorem participant_Full_f_le {k_ : Nat} {g_0 : T_api_Graph} {style_1 : Int} : Le (participant_Full_f k_ g_0 style_1) (participant_Full_m g_0 style_1) := by
  unfold participant_Full_f participant_Full_m
  repeat' with_reducible (first | exact Le.refl _ | refine graph_Validate_f_le | refine Le.loop (fun _ => participant_Full_l1f_le) | refine Le.bind ?_ (Le.sumK fun _ => ?_) | refine Le.bind ?_ (fun _ => ?_) | refine Le.cond ?_ ?_ | refine Le.letM (fun _ => ?_) | refine Le.join (fun _ => ?_) (fun _ _ hj => ?_) | exact hj _)

def network_Ascending_l1f (k_ : Nat) (l_0 : (List Int)) (nodes_1 : Int) (s7 : Int) : Option (Sum ((Sum (Bool) (Unit))) (Int)) :=
  bif decide (s7 < (l_0.length : Int)) then
    Option.bind (idxM l_0 s7) fun n10 =>
    bif decide (n10 < 0) then
      some (Sum.inl (Sum.inl false))
    else
      bif decide (n10 ≥ nodes_1) then
        some (Sum.inl (Sum.inl false))
      else
        bif decide (s7 > 0) then
          Option.bind (idxM l_0 (isub .i64 s7 1)) fun t11 =>
          bif decide (n10 ≤ t11) then
            some (Sum.inl (Sum.inl false))
          else
            some (Sum.inr (iadd .i64 s7 1))
        else
          some (Sum.inr (iadd .i64 s7 1))
  else
    some (Sum.inl (Sum.inr ()))

theorem network_Ascending_l1f_le {k_ : Nat} {l_0 : (List Int)} {nodes_1 : Int} {s7 : Int} : Le (network_Ascending_l1f k_ l_0 nodes_1 s7) (network_Ascending_l1 l_0 nodes_1 s7) := by
  unfold network_Ascending_l1f network_Ascending_l1
  repeat' with_reducible (first | exact Le.refl _ | refine Le.bind ?_ (Le.sumK fun _ => ?_) | refine Le.bind ?_ (fun _ => ?_) | refine Le.cond ?_ ?_ | refine Le.letM (fun _ => ?_) | refine Le.join (fun _ => ?_) (fun _ _ hj => ?_) | exact hj _)

def network_Ascending_f (k_ : Nat) (l_0 : (List Int)) (nodes_1 : Int) : Option (Bool) :=
  Option.bind (loopF k_ (network_Ascending_l1f k_ l_0 nodes_1) 0) (sumK (fun a : Bool => some a) fun q13 : Unit =>
    some true)

theorem network_Ascending_f_le {k_ : Nat} {l_0 : (List Int)} {nodes_1 : Int} : Le (network_Ascending_f k_ l_0 nodes_1) (network_Ascending_m l_0 nodes_1) := by
  unfold network_Ascending_f network_Ascending_m
  repeat' with_reducible (first | exact Le.refl _ | refine Le.loop (fun _ => network_Ascending_l1f_le) | refine Le.bind ?_ (Le.sumK fun _ => ?_) | refine Le.bind ?_ (fun _ => ?_) | refine Le.cond ?_ ?_ | refine Le.letM (fun _ => ?_) | refine Le.join (fun _ => ?_) (fun _ _ hj => ?_) | exact hj _)

def participant_valid_f (k_ : Nat) (d_0 : T_api_Dialogue) (p_1 : T_api_Player) : Option (Int) :=
  joinM (fun j5 : Bool =>
      bif j5 then
        some 1
      else
        bif decide (p_1.Style < 1) then
          some 4
        else
          letM (decide (p_1.Style > 3)) fun t9 =>
          bif t9 then
            some 4
          else
            some 0) fun k7 =>
  Option.bind (network_Ascending_f k_ p_1.Pool d_0.Graph.N) fun t3 =>
  bif !t3 then
    k7 true
  else
    Option.bind (network_Ascending_f k_ p_1.Withheld d_0.Graph.N) fun t4 =>
    k7 (!t4)

theorem participant_valid_f_le {k_ : Nat} {d_0 : T_api_Dialogue} {p_1 : T_api_Player} : Le (participant_valid_f k_ d_0 p_1) (participant_valid_m d_0 p_1) := by
  unfold participant_valid_f participant_valid_m
  repeat' with_reducible (first | exact Le.refl _ | refine network_Ascending_f_le | refine Le.bind ?_ (Le.sumK fun _ => ?_) | refine Le.bind ?_ (fun _ => ?_) | refine Le.cond ?_ ?_ | refine Le.letM (fun _ => ?_) | refine Le.join (fun _ => ?_) (fun _ _ hj => ?_) | exact hj _)

def slices_Clone_api_Pair_api_Pair_f (k_ : Nat) (d_0 : List T_api_Pair) : Option (List T_api_Pair) := appM 16 [] d_0

theorem slices_Clone_api_Pair_api_Pair_f_le {k_ : Nat} {d_0 : List T_api_Pair} : Le (slices_Clone_api_Pair_api_Pair_f k_ d_0) (slices_Clone_api_Pair_api_Pair_m d_0) := by
  unfold slices_Clone_api_Pair_api_Pair_f slices_Clone_api_Pair_api_Pair_m
  repeat' with_reducible (first | exact Le.refl _ | refine Le.bind ?_ (Le.sumK fun _ => ?_) | refine Le.bind ?_ (fun _ => ?_) | refine Le.cond ?_ ?_ | refine Le.letM (fun _ => ?_) | refine Le.join (fun _ => ?_) (fun _ _ hj => ?_) | exact hj _)

def slices_Clone_api_Move_api_Move_f (k_ : Nat) (d_0 : List T_api_Move) : Option (List T_api_Move) := appM 32 [] d_0

theorem slices_Clone_api_Move_api_Move_f_le {k_ : Nat} {d_0 : List T_api_Move} : Le (slices_Clone_api_Move_api_Move_f k_ d_0) (slices_Clone_api_Move_api_Move_m d_0) := by
  unfold slices_Clone_api_Move_api_Move_f slices_Clone_api_Move_api_Move_m
  repeat' with_reducible (first | exact Le.refl _ | refine Le.bind ?_ (Le.sumK fun _ => ?_) | refine Le.bind ?_ (fun _ => ?_) | refine Le.cond ?_ ?_ | refine Le.letM (fun _ => ?_) | refine Le.join (fun _ => ?_) (fun _ _ hj => ?_) | exact hj _)

def protocol_attacks_f (k_ : Nat) (l_0 : (List T_api_Move)) (i_1 : Int) : Option (Bool) :=
  Option.bind (idxM l_0 i_1) fun t1 =>
  bif t1.Kind == 2 then
    Option.bind (idxM l_0 i_1) fun t2 =>
    bif decide (t2.Target ≥ 0) then
      Option.bind (idxM l_0 i_1) fun t3 =>
      letM (decide (t3.Target < i_1)) fun t4 =>
      some t4
    else
      some false
  else
    some false

theorem protocol_attacks_f_le {k_ : Nat} {l_0 : (List T_api_Move)} {i_1 : Int} : Le (protocol_attacks_f k_ l_0 i_1) (protocol_attacks_m l_0 i_1) := by
  unfold protocol_attacks_f protocol_attacks_m
  repeat' with_reducible (first | exact Le.refl _ | refine Le.bind ?_ (Le.sumK fun _ => ?_) | refine Le.bind ?_ (fun _ => ?_) | refine Le.cond ?_ ?_ | refine Le.letM (fun _ => ?_) | refine Le.join (fun _ => ?_) (fun _ _ hj => ?_) | exact hj _)

def protocol_Status_l1f (k_ : Nat) (d_0 : T_api_Dialogue) (s26 : Int × (List Bool)) : Option (Sum ((List Bool)) (Int × (List Bool))) :=
  bif decide (s26.1 < (d_0.Moves.length : Int)) then
    Option.bind (idxM d_0.Moves s26.1) fun t29 =>
    joinM (fun j31 : Bool =>
        bif j31 then
          Option.bind (idxM s26.2 t29.Target) fun t35 =>
          some (Sum.inr (iadd .i64 s26.1 1, s26.2.set (Int.toNat t29.Target) true))
        else
          some (Sum.inr (iadd .i64 s26.1 1, s26.2))) fun k33 =>
    bif t29.Kind == 3 then
      bif decide (t29.Target ≥ 0) then
        k33 (decide (t29.Target < (s26.2.length : Int)))
      else
        k33 false
    else
      k33 false
  else
    some (Sum.inl s26.2)

theorem protocol_Status_l1f_le {k_ : Nat} {d_0 : T_api_Dialogue} {s26 : Int × (List Bool)} : Le (protocol_Status_l1f k_ d_0 s26) (protocol_Status_l1 d_0 s26) := by
  unfold protocol_Status_l1f protocol_Status_l1
  repeat' with_reducible (first | exact Le.refl _ | refine Le.bind ?_ (Le.sumK fun _ => ?_) | refine Le.bind ?_ (fun _ => ?_) | refine Le.cond ?_ ?_ | refine Le.letM (fun _ => ?_) | refine Le.join (fun _ => ?_) (fun _ _ hj => ?_) | exact hj _)

def protocol_Status_l2f (k_ : Nat) (d_0 : T_api_Dialogue) (q36 : (List Bool)) (s48 : Int × (List Int)) : Option (Sum ((List Int)) (Int × (List Int))) :=
  bif decide (s48.1 < (d_0.Moves.length : Int)) then
    bif s48.1 == 0 then
      Option.bind (idxM s48.2 s48.1) fun t55 =>
      some (Sum.inr (iadd .i64 s48.1 1, s48.2.set (Int.toNat s48.1) 1))
    else
      Option.bind (protocol_attacks_f k_ d_0.Moves s48.1) fun t51 =>
      bif t51 then
        Option.bind (idxM q36 s48.1) fun t52 =>
        bif !t52 then
          Option.bind (idxM d_0.Moves s48.1) fun t53 =>
          Option.bind (idxM s48.2 t53.Target) fun t54 =>
          bif t54 != 0 then
            Option.bind (idxM s48.2 s48.1) fun t57 =>
            some (Sum.inr (iadd .i64 s48.1 1, s48.2.set (Int.toNat s48.1) 1))
          else
            some (Sum.inr (iadd .i64 s48.1 1, s48.2))
        else
          some (Sum.inr (iadd .i64 s48.1 1, s48.2))
      else
        some (Sum.inr (iadd .i64 s48.1 1, s48.2))
  else
    some (Sum.inl s48.2)

theorem protocol_Status_l2f_le {k_ : Nat} {d_0 : T_api_Dialogue} {q36 : (List Bool)} {s48 : Int × (List Int)} : Le (protocol_Status_l2f k_ d_0 q36 s48) (protocol_Status_l2 d_0 q36 s48) := by
  unfold protocol_Status_l2f protocol_Status_l2
  repeat' with_reducible (first | exact Le.refl _ | refine protocol_attacks_f_le | refine Le.bind ?_ (Le.sumK fun _ => ?_) | refine Le.bind ?_ (fun _ => ?_) | refine Le.cond ?_ ?_ | refine Le.letM (fun _ => ?_) | refine Le.join (fun _ => ?_) (fun _ _ hj => ?_) | exact hj _)

def protocol_Status_l3f (k_ : Nat) (d_0 : T_api_Dialogue) (s79 : Int × (List Int)) : Option (Sum ((List Int)) (Int × (List Int))) :=
  bif decide (s79.1 > 0) then
    Option.bind (idxM s79.2 s79.1) fun t82 =>
    bif t82 == 1 then
      Option.bind (idxM d_0.Moves s79.1) fun t84 =>
      Option.bind (idxM s79.2 t84.Target) fun t85 =>
      letM (isub .i64 s79.1 1) fun i86 =>
      some (Sum.inr (i86, s79.2.set (Int.toNat t84.Target) 2))
    else
      letM (isub .i64 s79.1 1) fun i87 =>
      some (Sum.inr (i87, s79.2))
  else
    some (Sum.inl s79.2)

theorem protocol_Status_l3f_le {k_ : Nat} {d_0 : T_api_Dialogue} {s79 : Int × (List Int)} : Le (protocol_Status_l3f k_ d_0 s79) (protocol_Status_l3 d_0 s79) := by
  unfold protocol_Status_l3f protocol_Status_l3
  repeat' with_reducible (first | exact Le.refl _ | refine Le.bind ?_ (Le.sumK fun _ => ?_) | refine Le.bind ?_ (fun _ => ?_) | refine Le.cond ?_ ?_ | refine Le.letM (fun _ => ?_) | refine Le.join (fun _ => ?_) (fun _ _ hj => ?_) | exact hj _)

def protocol_Status_f (k_ : Nat) (d_0 : T_api_Dialogue) : Option (List Int) :=
  Option.bind (mkM 8 0 (d_0.Moves.length : Int)) fun out2 =>
  Option.bind (mkM 1 false (d_0.Moves.length : Int)) fun retracted4 =>
  Option.bind (loopF k_ (protocol_Status_l1f k_ d_0) (0, retracted4)) fun q36 : (List Bool) =>
  Option.bind (loopF k_ (protocol_Status_l2f k_ d_0 q36) (0, out2)) fun q58 : (List Int) =>
  letM (isub .i64 (q58.length : Int) 1) fun i60 =>
  Option.bind (loopF k_ (protocol_Status_l3f k_ d_0) (i60, q58)) fun q88 : (List Int) =>
  some q88

theorem protocol_Status_f_le {k_ : Nat} {d_0 : T_api_Dialogue} : Le (protocol_Status_f k_ d_0) (protocol_Status_m d_0) := by
  unfold protocol_Status_f protocol_Status_m
  repeat' with_reducible (first | exact Le.refl _ | refine Le.loop (fun _ => protocol_Status_l1f_le) | refine Le.loop (fun _ => protocol_Status_l2f_le) | refine Le.loop (fun _ => protocol_Status_l3f_le) | refine Le.bind ?_ (Le.sumK fun _ => ?_) | refine Le.bind ?_ (fun _ => ?_) | refine Le.cond ?_ ?_ | refine Le.letM (fun _ => ?_) | refine Le.join (fun _ => ?_) (fun _ _ hj => ?_) | exact hj _)

def protocol_of_l1f (k_ : Nat) (d_0 : T_api_Dialogue) (t4 : List Int) (j11 : Int) (s27 : Int × (List Bool)) : Option (Sum ((List Bool)) (Int × (List Bool))) :=
  bif decide (s27.1 < (d_0.Moves.length : Int)) then
    Option.bind (idxM t4 s27.1) fun t30 =>
    bif t30 == 0 then
      letM (iadd .i64 s27.1 1) fun i39 =>
      some (Sum.inr (i39, s27.2))
    else
      Option.bind (idxM d_0.Moves s27.1) fun t31 =>
      Option.bind (idxM s27.2 t31.Target) fun t32 =>
      bif !t32 then
        letM (iadd .i64 s27.1 1) fun i40 =>
        some (Sum.inr (i40, s27.2))
      else
        Option.bind (idxM d_0.Moves s27.1) fun t34 =>
        Option.bind (idxM d_0.Moves t34.Target) fun t35 =>
        bif t35.By == j11 then
          Option.bind (idxM s27.2 s27.1) fun t36 =>
          letM (iadd .i64 s27.1 1) fun i41 =>
          some (Sum.inr (i41, s27.2.set (Int.toNat s27.1) true))
        else
          Option.bind (idxM t4 s27.1) fun t37 =>
          Option.bind (idxM s27.2 s27.1) fun t38 =>
          letM (iadd .i64 s27.1 1) fun i42 =>
          some (Sum.inr (i42, s27.2.set (Int.toNat s27.1) (t37 == 1)))
  else
    some (Sum.inl s27.2)

theorem protocol_of_l1f_le {k_ : Nat} {d_0 : T_api_Dialogue} {t4 : List Int} {j11 : Int} {s27 : Int × (List Bool)} : Le (protocol_of_l1f k_ d_0 t4 j11 s27) (protocol_of_l1 d_0 t4 j11 s27) := by
  unfold protocol_of_l1f protocol_of_l1
  repeat' with_reducible (first | exact Le.refl _ | refine Le.bind ?_ (Le.sumK fun _ => ?_) | refine Le.bind ?_ (fun _ => ?_) | refine Le.cond ?_ ?_ | refine Le.letM (fun _ => ?_) | refine Le.join (fun _ => ?_) (fun _ _ hj => ?_) | exact hj _)

def protocol_of_f (k_ : Nat) (d_0 : T_api_Dialogue) : Option (T_protocol_table) :=
  Option.bind (protocol_Status_f k_ d_0) fun t4 =>
  Option.bind (mkM 1 false (d_0.Moves.length : Int)) fun t6 =>
  joinM (fun j11 : Int =>
      Option.bind (idxM t6 0) fun t14 =>
      Option.bind (loopF k_ (protocol_of_l1f k_ d_0 t4 j11) (1, t6.set (Int.toNat 0) true)) fun q43 : (List Bool) =>
      some (T_protocol_table.mk d_0 t4 j11 q43)) fun k13 =>
  Option.bind (idxM t4 0) fun t9 =>
  bif t9 == 2 then
    k13 2
  else
    k13 1

theorem protocol_of_f_le {k_ : Nat} {d_0 : T_api_Dialogue} : Le (protocol_of_f k_ d_0) (protocol_of_m d_0) := by
  unfold protocol_of_f protocol_of_m
  repeat' with_reducible (first | exact Le.refl _ | refine protocol_Status_f_le | refine Le.loop (fun _ => protocol_of_l1f_le) | refine Le.bind ?_ (Le.sumK fun _ => ?_) | refine Le.bind ?_ (fun _ => ?_) | refine Le.cond ?_ ?_ | refine Le.letM (fun _ => ?_) | refine Le.join (fun _ => ?_) (fun _ _ hj => ?_) | exact hj _)

def protocol_other_f (k_ : Nat) (player_0 : Int) : Option (Int) :=
  letM (isub .i64 3 player_0) fun t1 =>
  some t1

theorem protocol_other_f_le {k_ : Nat} {player_0 : Int} : Le (protocol_other_f k_ player_0) (protocol_other_m player_0) := by
  unfold protocol_other_f protocol_other_m
  repeat' with_reducible (first | exact Le.refl _ | refine Le.bind ?_ (Le.sumK fun _ => ?_) | refine Le.bind ?_ (fun _ => ?_) | refine Le.cond ?_ ?_ | refine Le.letM (fun _ => ?_) | refine Le.join (fun _ => ?_) (fun _ _ hj => ?_) | exact hj _)

def slices_Index_api_Move_api_Move_l1f (k_ : Nat) (s_0 : (List T_api_Move)) (v_1 : T_api_Move) (s7 : Int) : Option (Sum ((Sum (Int) (Unit))) (Int)) :=
  bif decide (s7 < (s_0.length : Int)) then
    Option.bind (idxM s_0 s7) fun t10 =>
    bif decide (v_1 = t10) then
      some (Sum.inl (Sum.inl s7))
    else
      some (Sum.inr (iadd .i64 s7 1))
  else
    some (Sum.inl (Sum.inr ()))

theorem slices_Index_api_Move_api_Move_l1f_le {k_ : Nat} {s_0 : (List T_api_Move)} {v_1 : T_api_Move} {s7 : Int} : Le (slices_Index_api_Move_api_Move_l1f k_ s_0 v_1 s7) (slices_Index_api_Move_api_Move_l1 s_0 v_1 s7) := by
  unfold slices_Index_api_Move_api_Move_l1f slices_Index_api_Move_api_Move_l1
  repeat' with_reducible (first | exact Le.refl _ | refine Le.bind ?_ (Le.sumK fun _ => ?_) | refine Le.bind ?_ (fun _ => ?_) | refine Le.cond ?_ ?_ | refine Le.letM (fun _ => ?_) | refine Le.join (fun _ => ?_) (fun _ _ hj => ?_) | exact hj _)

def slices_Index_api_Move_api_Move_f (k_ : Nat) (s_0 : (List T_api_Move)) (v_1 : T_api_Move) : Option (Int) :=
  Option.bind (loopF k_ (slices_Index_api_Move_api_Move_l1f k_ s_0 v_1) 0) (sumK (fun a : Int => some a) fun q12 : Unit =>
    some (-1))

theorem slices_Index_api_Move_api_Move_f_le {k_ : Nat} {s_0 : (List T_api_Move)} {v_1 : T_api_Move} : Le (slices_Index_api_Move_api_Move_f k_ s_0 v_1) (slices_Index_api_Move_api_Move_m s_0 v_1) := by
  unfold slices_Index_api_Move_api_Move_f slices_Index_api_Move_api_Move_m
  repeat' with_reducible (first | exact Le.refl _ | refine Le.loop (fun _ => slices_Index_api_Move_api_Move_l1f_le) | refine Le.bind ?_ (Le.sumK fun _ => ?_) | refine Le.bind ?_ (fun _ => ?_) | refine Le.cond ?_ ?_ | refine Le.letM (fun _ => ?_) | refine Le.join (fun _ => ?_) (fun _ _ hj => ?_) | exact hj _)

def slices_Contains_api_Move_api_Move_f (k_ : Nat) (s_0 : (List T_api_Move)) (v_1 : T_api_Move) : Option (Bool) :=
  Option.bind (slices_Index_api_Move_api_Move_f k_ s_0 v_1) fun t2 =>
  letM (decide (t2 ≥ 0)) fun t3 =>
  some t3

theorem slices_Contains_api_Move_api_Move_f_le {k_ : Nat} {s_0 : (List T_api_Move)} {v_1 : T_api_Move} : Le (slices_Contains_api_Move_api_Move_f k_ s_0 v_1) (slices_Contains_api_Move_api_Move_m s_0 v_1) := by
  unfold slices_Contains_api_Move_api_Move_f slices_Contains_api_Move_api_Move_m
  repeat' with_reducible (first | exact Le.refl _ | refine slices_Index_api_Move_api_Move_f_le | refine Le.bind ?_ (Le.sumK fun _ => ?_) | refine Le.bind ?_ (fun _ => ?_) | refine Le.cond ?_ ?_ | refine Le.letM (fun _ => ?_) | refine Le.join (fun _ => ?_) (fun _ _ hj => ?_) | exact hj _)

def protocol_table_moved_l1f (k_ : Nat) (t_0 : T_protocol_table) (node_2 : Int) (s11 : Int) : Option (Sum (Bool) (Int)) :=
  Option.bind (idxM t_0.d.Moves s11) fun t13 =>
  joinM (fun j16 : Unit =>
      bif s11 == 0 then
        some (Sum.inl false)
      else
        some (Sum.inr t13.Target)) fun k18 =>
  bif t13.By == 1 then
    bif t13.Node == node_2 then
      some (Sum.inl true)
    else
      k18 ()
  else
    k18 ()

theorem protocol_table_moved_l1f_le {k_ : Nat} {t_0 : T_protocol_table} {node_2 : Int} {s11 : Int} : Le (protocol_table_moved_l1f k_ t_0 node_2 s11) (protocol_table_moved_l1 t_0 node_2 s11) := by
  unfold protocol_table_moved_l1f protocol_table_moved_l1
  repeat' with_reducible (first | exact Le.refl _ | refine Le.bind ?_ (Le.sumK fun _ => ?_) | refine Le.bind ?_ (fun _ => ?_) | refine Le.cond ?_ ?_ | refine Le.letM (fun _ => ?_) | refine Le.join (fun _ => ?_) (fun _ _ hj => ?_) | exact hj _)

def protocol_table_moved_f (k_ : Nat) (t_0 : T_protocol_table) (move_1 : Int) (node_2 : Int) : Option (Bool) :=
  Option.bind (loopF k_ (protocol_table_moved_l1f k_ t_0 node_2) move_1) (fun a : Bool => some a)

theorem protocol_table_moved_f_le {k_ : Nat} {t_0 : T_protocol_table} {move_1 : Int} {node_2 : Int} : Le (protocol_table_moved_f k_ t_0 move_1 node_2) (protocol_table_moved_m t_0 move_1 node_2) := by
  unfold protocol_table_moved_f protocol_table_moved_m
  repeat' with_reducible (first | exact Le.refl _ | refine Le.loop (fun _ => protocol_table_moved_l1f_le) | refine Le.bind ?_ (Le.sumK fun _ => ?_) | refine Le.bind ?_ (fun _ => ?_) | refine Le.cond ?_ ?_ | refine Le.letM (fun _ => ?_) | refine Le.join (fun _ => ?_) (fun _ _ hj => ?_) | exact hj _)

def protocol_table_legal_l2f (k_ : Nat) (t_0 : T_protocol_table) (behind2 : Int) (s86 : Int × (List T_api_Move)) (t89 : T_api_Move) (s106 : Int × (List T_api_Move)) : Option (Sum ((List T_api_Move)) (Int × (List T_api_Move))) :=
  bif decide (s106.1 < (t_0.d.Graph.L.length : Int)) then
    Option.bind (idxM t_0.d.Graph.L s106.1) fun t109 =>
    bif t109.To != t89.Node then
      some (Sum.inr (iadd .i64 s106.1 1, s106.2))
    else
      Option.bind (slices_Contains_api_Move_api_Move_f k_ t_0.d.Moves (T_api_Move.mk behind2 2 t109.From s86.1)) fun t112 =>
      bif t112 then
        some (Sum.inr (iadd .i64 s106.1 1, s106.2))
      else
        bif behind2 == 1 then
          Option.bind (protocol_table_moved_f k_ t_0 s86.1 t109.From) fun t113 =>
          bif t113 then
            some (Sum.inr (iadd .i64 s106.1 1, s106.2))
          else
            Option.bind (appM 32 s106.2 [(T_api_Move.mk behind2 2 t109.From s86.1)]) fun out115 =>
            some (Sum.inr (iadd .i64 s106.1 1, out115))
        else
          Option.bind (appM 32 s106.2 [(T_api_Move.mk behind2 2 t109.From s86.1)]) fun out117 =>
          some (Sum.inr (iadd .i64 s106.1 1, out117))
  else
    some (Sum.inl s106.2)

theorem protocol_table_legal_l2f_le {k_ : Nat} {t_0 : T_protocol_table} {behind2 : Int} {s86 : Int × (List T_api_Move)} {t89 : T_api_Move} {s106 : Int × (List T_api_Move)} : Le (protocol_table_legal_l2f k_ t_0 behind2 s86 t89 s106) (protocol_table_legal_l2 t_0 behind2 s86 t89 s106) := by
  unfold protocol_table_legal_l2f protocol_table_legal_l2
  repeat' with_reducible (first | exact Le.refl _ | refine slices_Contains_api_Move_api_Move_f_le | refine protocol_table_moved_f_le | refine Le.bind ?_ (Le.sumK fun _ => ?_) | refine Le.bind ?_ (fun _ => ?_) | refine Le.cond ?_ ?_ | refine Le.letM (fun _ => ?_) | refine Le.join (fun _ => ?_) (fun _ _ hj => ?_) | exact hj _)

def protocol_table_legal_l1f (k_ : Nat) (t_0 : T_protocol_table) (behind2 : Int) (s86 : Int × (List T_api_Move)) : Option (Sum ((List T_api_Move)) (Int × (List T_api_Move))) :=
  bif decide (s86.1 < (t_0.d.Moves.length : Int)) then
    Option.bind (idxM t_0.d.Moves s86.1) fun t89 =>
    Option.bind (idxM t_0.leading s86.1) fun t91 =>
    bif !t91 then
      some (Sum.inr (iadd .i64 s86.1 1, s86.2))
    else
      bif t89.By != t_0.leader then
        some (Sum.inr (iadd .i64 s86.1 1, s86.2))
      else
        Option.bind (loopF k_ (protocol_table_legal_l2f k_ t_0 behind2 s86 t89) (0, s86.2)) fun q119 : (List T_api_Move) =>
        some (Sum.inr (iadd .i64 s86.1 1, q119))
  else
    some (Sum.inl s86.2)

theorem protocol_table_legal_l1f_le {k_ : Nat} {t_0 : T_protocol_table} {behind2 : Int} {s86 : Int × (List T_api_Move)} : Le (protocol_table_legal_l1f k_ t_0 behind2 s86) (protocol_table_legal_l1 t_0 behind2 s86) := by
  unfold protocol_table_legal_l1f protocol_table_legal_l1
  repeat' with_reducible (first | exact Le.refl _ | refine Le.loop (fun _ => protocol_table_legal_l2f_le) | refine Le.bind ?_ (Le.sumK fun _ => ?_) | refine Le.bind ?_ (fun _ => ?_) | refine Le.cond ?_ ?_ | refine Le.letM (fun _ => ?_) | refine Le.join (fun _ => ?_) (fun _ _ hj => ?_) | exact hj _)

def protocol_table_legal_f (k_ : Nat) (t_0 : T_protocol_table) : Option (List T_api_Move) :=
  Option.bind (protocol_other_f k_ t_0.leader) fun behind2 =>
  Option.bind (loopF k_ (protocol_table_legal_l1f k_ t_0 behind2) (0, [])) fun q121 : (List T_api_Move) =>
  some q121

theorem protocol_table_legal_f_le {k_ : Nat} {t_0 : T_protocol_table} : Le (protocol_table_legal_f k_ t_0) (protocol_table_legal_m t_0) := by
  unfold protocol_table_legal_f protocol_table_legal_m
  repeat' with_reducible (first | exact Le.refl _ | refine protocol_other_f_le | refine Le.loop (fun _ => protocol_table_legal_l1f_le) | refine Le.bind ?_ (Le.sumK fun _ => ?_) | refine Le.bind ?_ (fun _ => ?_) | refine Le.cond ?_ ?_ | refine Le.letM (fun _ => ?_) | refine Le.join (fun _ => ?_) (fun _ _ hj => ?_) | exact hj _)

def protocol_table_end_l1f (k_ : Nat) (t_0 : T_protocol_table) (s10 : Int × Int) : Option (Sum (Int) (Int × Int)) :=
  bif decide (s10.2 < (t_0.d.Moves.length : Int)) then
    Option.bind (idxM t_0.d.Moves s10.2) fun t13 =>
    Option.bind (protocol_other_f k_ t_0.leader) fun t15 =>
    bif t13.By == t15 then
      letM (iadd .i64 s10.1 1) fun made17 =>
      some (Sum.inr (made17, iadd .i64 s10.2 1))
    else
      some (Sum.inr (s10.1, iadd .i64 s10.2 1))
  else
    some (Sum.inl s10.1)

theorem protocol_table_end_l1f_le {k_ : Nat} {t_0 : T_protocol_table} {s10 : Int × Int} : Le (protocol_table_end_l1f k_ t_0 s10) (protocol_table_end_l1 t_0 s10) := by
  unfold protocol_table_end_l1f protocol_table_end_l1
  repeat' with_reducible (first | exact Le.refl _ | refine protocol_other_f_le | refine Le.bind ?_ (Le.sumK fun _ => ?_) | refine Le.bind ?_ (fun _ => ?_) | refine Le.cond ?_ ?_ | refine Le.letM (fun _ => ?_) | refine Le.join (fun _ => ?_) (fun _ _ hj => ?_) | exact hj _)

def protocol_table_end_f (k_ : Nat) (t_0 : T_protocol_table) : Option (T_api_Outcome) :=
  Option.bind (loopF k_ (protocol_table_end_l1f k_ t_0) (0, 0)) fun q18 : Int =>
  Option.bind (idxM t_0.d.Moves (isub .i64 (t_0.d.Moves.length : Int) 1)) fun t20 =>
  bif t20.Kind == 4 then
    Option.bind (protocol_other_f k_ t20.By) fun t23 =>
    some (T_api_Outcome.mk t23 3)
  else
    letM (decide ((t_0.d.Moves.length : Int) ≥ 200)) fun t24 =>
    bif t24 then
      some (T_api_Outcome.mk t_0.leader 4)
    else
      Option.bind (protocol_other_f k_ t_0.leader) fun t26 =>
      Option.bind (idxM [t_0.d.Limits.i0, t_0.d.Limits.i1] (isub .i64 t26 1)) fun t27 =>
      letM (decide (q18 ≥ t27)) fun t28 =>
      bif t28 then
        some (T_api_Outcome.mk t_0.leader 2)
      else
        Option.bind (protocol_table_legal_f k_ t_0) fun t30 =>
        letM ((t30.length : Int) == 0) fun t32 =>
        bif t32 then
          some (T_api_Outcome.mk t_0.leader 1)
        else
          some (T_api_Outcome.mk 0 0)

theorem protocol_table_end_f_le {k_ : Nat} {t_0 : T_protocol_table} : Le (protocol_table_end_f k_ t_0) (protocol_table_end_m t_0) := by
  unfold protocol_table_end_f protocol_table_end_m
  repeat' with_reducible (first | exact Le.refl _ | refine protocol_other_f_le | refine protocol_table_legal_f_le | refine Le.loop (fun _ => protocol_table_end_l1f_le) | refine Le.bind ?_ (Le.sumK fun _ => ?_) | refine Le.bind ?_ (fun _ => ?_) | refine Le.cond ?_ ?_ | refine Le.letM (fun _ => ?_) | refine Le.join (fun _ => ?_) (fun _ _ hj => ?_) | exact hj _)

def protocol_End_f (k_ : Nat) (d_0 : T_api_Dialogue) : Option (T_api_Outcome) :=
  bif (d_0.Moves.length : Int) == 0 then
    some (T_api_Outcome.mk 0 0)
  else
    Option.bind (protocol_of_f k_ d_0) fun t4 =>
    Option.bind (protocol_table_end_f k_ t4) fun t5 =>
    some t5

theorem protocol_End_f_le {k_ : Nat} {d_0 : T_api_Dialogue} : Le (protocol_End_f k_ d_0) (protocol_End_m d_0) := by
  unfold protocol_End_f protocol_End_m
  repeat' with_reducible (first | exact Le.refl _ | refine protocol_of_f_le | refine protocol_table_end_f_le | refine Le.bind ?_ (Le.sumK fun _ => ?_) | refine Le.bind ?_ (fun _ => ?_) | refine Le.cond ?_ ?_ | refine Le.letM (fun _ => ?_) | refine Le.join (fun _ => ?_) (fun _ _ hj => ?_) | exact hj _)

def protocol_Turn_f (k_ : Nat) (d_0 : T_api_Dialogue) : Option (Int) :=
  bif (d_0.Moves.length : Int) == 0 then
    some 0
  else
    Option.bind (protocol_End_f k_ d_0) fun t2 =>
    bif t2.Reason != 0 then
      some 0
    else
      Option.bind (protocol_of_f k_ d_0) fun t4 =>
      Option.bind (protocol_other_f k_ t4.leader) fun t5 =>
      some t5

theorem protocol_Turn_f_le {k_ : Nat} {d_0 : T_api_Dialogue} : Le (protocol_Turn_f k_ d_0) (protocol_Turn_m d_0) := by
  unfold protocol_Turn_f protocol_Turn_m
  repeat' with_reducible (first | exact Le.refl _ | refine protocol_End_f_le | refine protocol_of_f_le | refine protocol_other_f_le | refine Le.bind ?_ (Le.sumK fun _ => ?_) | refine Le.bind ?_ (fun _ => ?_) | refine Le.cond ?_ ?_ | refine Le.letM (fun _ => ?_) | refine Le.join (fun _ => ?_) (fun _ _ hj => ?_) | exact hj _)

def protocol_Legal_f (k_ : Nat) (d_0 : T_api_Dialogue) : Option (List T_api_Move) :=
  Option.bind (protocol_Turn_f k_ d_0) fun t2 =>
  bif t2 == 0 then
    some []
  else
    Option.bind (protocol_of_f k_ d_0) fun t4 =>
    Option.bind (protocol_table_legal_f k_ t4) fun t5 =>
    some t5

theorem protocol_Legal_f_le {k_ : Nat} {d_0 : T_api_Dialogue} : Le (protocol_Legal_f k_ d_0) (protocol_Legal_m d_0) := by
  unfold protocol_Legal_f protocol_Legal_m
  repeat' with_reducible (first | exact Le.refl _ | refine protocol_Turn_f_le | refine protocol_of_f_le | refine protocol_table_legal_f_le | refine Le.bind ?_ (Le.sumK fun _ => ?_) | refine Le.bind ?_ (fun _ => ?_) | refine Le.cond ?_ ?_ | refine Le.letM (fun _ => ?_) | refine Le.join (fun _ => ?_) (fun _ _ hj => ?_) | exact hj _)

def protocol_table_judged_f (k_ : Nat) (t_0 : T_protocol_table) (m_1 : T_api_Move) : Option (T_api_Move × Int) :=
  joinM (fun j9 : Unit =>
      Option.bind (protocol_other_f k_ t_0.leader) fun t12 =>
      bif m_1.By != t12 then
        some (m_1, 8)
      else
        bif m_1.Kind == 4 then
          some ((T_api_Move.mk m_1.By m_1.Kind 0 0), 0)
        else
          joinM (fun j16 : Unit =>
              bif m_1.Kind == 2 then
                Option.bind (protocol_table_legal_f k_ t_0) fun t20 =>
                Option.bind (slices_Contains_api_Move_api_Move_f k_ t20 m_1) fun t22 =>
                bif !t22 then
                  some (m_1, 9)
                else
                  some (m_1, 0)
              else
                Option.bind (idxM t_0.d.Moves m_1.Target) fun t24 =>
                bif t24.By != m_1.By then
                  some (m_1, 6)
                else
                  bif t24.Kind != 2 then
                    some (m_1, 6)
                  else
                    Option.bind (idxM t_0.status m_1.Target) fun t26 =>
                    bif t26 == 0 then
                      some (m_1, 6)
                    else
                      some ((T_api_Move.mk m_1.By m_1.Kind 0 m_1.Target), 0)) fun k18 =>
          bif decide (m_1.Target < 0) then
            some (m_1, 1)
          else
            bif decide (m_1.Target ≥ (t_0.d.Moves.length : Int)) then
              some (m_1, 1)
            else
              bif m_1.Kind == 2 then
                bif decide (m_1.Node < 0) then
                  some (m_1, 1)
                else
                  bif decide (m_1.Node ≥ t_0.d.Graph.N) then
                    some (m_1, 1)
                  else
                    k18 ()
              else
                k18 ()) fun k11 =>
  bif m_1.Kind == 2 then
    bif m_1.Kind == 2 then
      k11 ()
    else
      some (m_1, 4)
  else
    bif m_1.Kind == 3 then
      bif m_1.Kind == 3 then
        k11 ()
      else
        some (m_1, 4)
    else
      bif m_1.Kind == 4 then
        k11 ()
      else
        some (m_1, 4)

theorem protocol_table_judged_f_le {k_ : Nat} {t_0 : T_protocol_table} {m_1 : T_api_Move} : Le (protocol_table_judged_f k_ t_0 m_1) (protocol_table_judged_m t_0 m_1) := by
  unfold protocol_table_judged_f protocol_table_judged_m
  repeat' with_reducible (first | exact Le.refl _ | refine protocol_other_f_le | refine protocol_table_legal_f_le | refine slices_Contains_api_Move_api_Move_f_le | refine Le.bind ?_ (Le.sumK fun _ => ?_) | refine Le.bind ?_ (fun _ => ?_) | refine Le.cond ?_ ?_ | refine Le.letM (fun _ => ?_) | refine Le.join (fun _ => ?_) (fun _ _ hj => ?_) | exact hj _)

def protocol_Apply_f (k_ : Nat) (d_0 : T_api_Dialogue) (m_1 : T_api_Move) : Option (T_api_Dialogue × Int) :=
  Option.bind (protocol_Turn_f k_ d_0) fun t4 =>
  bif t4 == 0 then
    some ((T_api_Dialogue.mk (T_api_Graph.mk 0 []) 0 (T_arr2_3.mk 0 0) []), 7)
  else
    Option.bind (protocol_of_f k_ d_0) fun t7 =>
    Option.bind (protocol_table_judged_f k_ t7 m_1) fun t8 =>
    bif t8.2 != 0 then
      some ((T_api_Dialogue.mk (T_api_Graph.mk 0 []) 0 (T_arr2_3.mk 0 0) []), t8.2)
    else
      Option.bind (slices_Clone_api_Pair_api_Pair_f k_ d_0.Graph.L) fun t12 =>
      Option.bind (slices_Clone_api_Move_api_Move_f k_ d_0.Moves) fun t15 =>
      Option.bind (appM 32 t15 [t8.1]) fun t17 =>
      some ((T_api_Dialogue.mk (T_api_Graph.mk d_0.Graph.N t12) d_0.Root d_0.Limits t17), 0)

theorem protocol_Apply_f_le {k_ : Nat} {d_0 : T_api_Dialogue} {m_1 : T_api_Move} : Le (protocol_Apply_f k_ d_0 m_1) (protocol_Apply_m d_0 m_1) := by
  unfold protocol_Apply_f protocol_Apply_m
  repeat' with_reducible (first | exact Le.refl _ | refine protocol_Turn_f_le | refine protocol_of_f_le | refine protocol_table_judged_f_le | refine slices_Clone_api_Pair_api_Pair_f_le | refine slices_Clone_api_Move_api_Move_f_le | refine Le.bind ?_ (Le.sumK fun _ => ?_) | refine Le.bind ?_ (fun _ => ?_) | refine Le.cond ?_ ?_ | refine Le.letM (fun _ => ?_) | refine Le.join (fun _ => ?_) (fun _ _ hj => ?_) | exact hj _)

def participant_scripted_l1f (k_ : Nat) (d_0 : T_api_Dialogue) (behind4 : Int) (s11 : Int × Int) : Option (Sum (Int) (Int × Int)) :=
  bif decide (s11.2 < (d_0.Moves.length : Int)) then
    Option.bind (idxM d_0.Moves s11.2) fun t14 =>
    bif t14.By == behind4 then
      bif t14.Kind != 1 then
        letM (iadd .i64 s11.1 1) fun k17 =>
        some (Sum.inr (k17, iadd .i64 s11.2 1))
      else
        some (Sum.inr (s11.1, iadd .i64 s11.2 1))
    else
      some (Sum.inr (s11.1, iadd .i64 s11.2 1))
  else
    some (Sum.inl s11.1)

theorem participant_scripted_l1f_le {k_ : Nat} {d_0 : T_api_Dialogue} {behind4 : Int} {s11 : Int × Int} : Le (participant_scripted_l1f k_ d_0 behind4 s11) (participant_scripted_l1 d_0 behind4 s11) := by
  unfold participant_scripted_l1f participant_scripted_l1
  repeat' with_reducible (first | exact Le.refl _ | refine Le.bind ?_ (Le.sumK fun _ => ?_) | refine Le.bind ?_ (fun _ => ?_) | refine Le.cond ?_ ?_ | refine Le.letM (fun _ => ?_) | refine Le.join (fun _ => ?_) (fun _ _ hj => ?_) | exact hj _)

def participant_scripted_f (k_ : Nat) (d_0 : T_api_Dialogue) (p_1 : T_api_Player) (attacks_2 : (List T_api_Move)) : Option (T_api_Move × Bool) :=
  Option.bind (protocol_Turn_f k_ d_0) fun behind4 =>
  Option.bind (loopF k_ (participant_scripted_l1f k_ d_0 behind4) (0, 0)) fun q18 : Int =>
  bif decide (q18 ≥ (p_1.Script.length : Int)) then
    some ((T_api_Move.mk 0 0 0 0), false)
  else
    Option.bind (idxM p_1.Script q18) fun t21 =>
    bif t21.Kind == 2 then
      Option.bind (slices_Contains_api_Move_api_Move_f k_ attacks_2 (T_api_Move.mk behind4 t21.Kind t21.Node t21.Target)) fun t24 =>
      some ((T_api_Move.mk behind4 t21.Kind t21.Node t21.Target), t24)
    else
      Option.bind (protocol_Apply_f k_ d_0 (T_api_Move.mk behind4 t21.Kind t21.Node t21.Target)) fun t25 =>
      bif t25.2 != 0 then
        some ((T_api_Move.mk 0 0 0 0), false)
      else
        Option.bind (idxM t25.1.Moves (isub .i64 (t25.1.Moves.length : Int) 1)) fun t28 =>
        some (t28, true)

theorem participant_scripted_f_le {k_ : Nat} {d_0 : T_api_Dialogue} {p_1 : T_api_Player} {attacks_2 : (List T_api_Move)} : Le (participant_scripted_f k_ d_0 p_1 attacks_2) (participant_scripted_m d_0 p_1 attacks_2) := by
  unfold participant_scripted_f participant_scripted_m
  repeat' with_reducible (first | exact Le.refl _ | refine protocol_Turn_f_le | refine slices_Contains_api_Move_api_Move_f_le | refine protocol_Apply_f_le | refine Le.loop (fun _ => participant_scripted_l1f_le) | refine Le.bind ?_ (Le.sumK fun _ => ?_) | refine Le.bind ?_ (fun _ => ?_) | refine Le.cond ?_ ?_ | refine Le.letM (fun _ => ?_) | refine Le.join (fun _ => ?_) (fun _ _ hj => ?_) | exact hj _)

def participant_style_2_f (k_ : Nat) (a__0 : T_api_Move) (b_1 : T_api_Move) : Option (Int) :=
  Option.bind (cmp_Compare_int_f k_ b_1.Target a__0.Target) fun t3 =>
  some t3

theorem participant_style_2_f_le {k_ : Nat} {a__0 : T_api_Move} {b_1 : T_api_Move} : Le (participant_style_2_f k_ a__0 b_1) (participant_style_2_m a__0 b_1) := by
  unfold participant_style_2_f participant_style_2_m
  repeat' with_reducible (first | exact Le.refl _ | refine cmp_Compare_int_f_le | refine Le.bind ?_ (Le.sumK fun _ => ?_) | refine Le.bind ?_ (fun _ => ?_) | refine Le.cond ?_ ?_ | refine Le.letM (fun _ => ?_) | refine Le.join (fun _ => ?_) (fun _ _ hj => ?_) | exact hj _)

def participant_style_4_f (k_ : Nat) (a__0 : T_api_Move) (b_1 : T_api_Move) : Option (Int) :=
  some 0

theorem participant_style_4_f_le {k_ : Nat} {a__0 : T_api_Move} {b_1 : T_api_Move} : Le (participant_style_4_f k_ a__0 b_1) (participant_style_4_m a__0 b_1) := by
  unfold participant_style_4_f participant_style_4_m
  repeat' with_reducible (first | exact Le.refl _ | refine Le.bind ?_ (Le.sumK fun _ => ?_) | refine Le.bind ?_ (fun _ => ?_) | refine Le.cond ?_ ?_ | refine Le.letM (fun _ => ?_) | refine Le.join (fun _ => ?_) (fun _ _ hj => ?_) | exact hj _)

def participant_style_f (k_ : Nat) (d_0 : T_api_Dialogue) (kind_1 : Int) : Option (T_api_Dialogue × Bool × Bool) :=
  bif kind_1 == 2 then
    some (d_0, true, false)
  else
    bif kind_1 == 3 then
      some (d_0, false, true)
    else
      some (d_0, false, false)

theorem participant_style_f_le {k_ : Nat} {d_0 : T_api_Dialogue} {kind_1 : Int} : Le (participant_style_f k_ d_0 kind_1) (participant_style_m d_0 kind_1) := by
  unfold participant_style_f participant_style_m
  repeat' with_reducible (first | exact Le.refl _ | refine Le.bind ?_ (Le.sumK fun _ => ?_) | refine Le.bind ?_ (fun _ => ?_) | refine Le.cond ?_ ?_ | refine Le.letM (fun _ => ?_) | refine Le.join (fun _ => ?_) (fun _ _ hj => ?_) | exact hj _)

def slices_Index_int_int_l1f (k_ : Nat) (s_0 : (List Int)) (v_1 : Int) (s6 : Int) : Option (Sum ((Sum (Int) (Unit))) (Int)) :=
  bif decide (s6 < (s_0.length : Int)) then
    Option.bind (idxM s_0 s6) fun t9 =>
    bif v_1 == t9 then
      some (Sum.inl (Sum.inl s6))
    else
      some (Sum.inr (iadd .i64 s6 1))
  else
    some (Sum.inl (Sum.inr ()))

theorem slices_Index_int_int_l1f_le {k_ : Nat} {s_0 : (List Int)} {v_1 : Int} {s6 : Int} : Le (slices_Index_int_int_l1f k_ s_0 v_1 s6) (slices_Index_int_int_l1 s_0 v_1 s6) := by
  unfold slices_Index_int_int_l1f slices_Index_int_int_l1
  repeat' with_reducible (first | exact Le.refl _ | refine Le.bind ?_ (Le.sumK fun _ => ?_) | refine Le.bind ?_ (fun _ => ?_) | refine Le.cond ?_ ?_ | refine Le.letM (fun _ => ?_) | refine Le.join (fun _ => ?_) (fun _ _ hj => ?_) | exact hj _)

def slices_Index_int_int_f (k_ : Nat) (s_0 : (List Int)) (v_1 : Int) : Option (Int) :=
  Option.bind (loopF k_ (slices_Index_int_int_l1f k_ s_0 v_1) 0) (sumK (fun a : Int => some a) fun q11 : Unit =>
    some (-1))

theorem slices_Index_int_int_f_le {k_ : Nat} {s_0 : (List Int)} {v_1 : Int} : Le (slices_Index_int_int_f k_ s_0 v_1) (slices_Index_int_int_m s_0 v_1) := by
  unfold slices_Index_int_int_f slices_Index_int_int_m
  repeat' with_reducible (first | exact Le.refl _ | refine Le.loop (fun _ => slices_Index_int_int_l1f_le) | refine Le.bind ?_ (Le.sumK fun _ => ?_) | refine Le.bind ?_ (fun _ => ?_) | refine Le.cond ?_ ?_ | refine Le.letM (fun _ => ?_) | refine Le.join (fun _ => ?_) (fun _ _ hj => ?_) | exact hj _)

def slices_Contains_int_int_f (k_ : Nat) (s_0 : (List Int)) (v_1 : Int) : Option (Bool) :=
  Option.bind (slices_Index_int_int_f k_ s_0 v_1) fun t1 =>
  letM (decide (t1 ≥ 0)) fun t2 =>
  some t2

theorem slices_Contains_int_int_f_le {k_ : Nat} {s_0 : (List Int)} {v_1 : Int} : Le (slices_Contains_int_int_f k_ s_0 v_1) (slices_Contains_int_int_m s_0 v_1) := by
  unfold slices_Contains_int_int_f slices_Contains_int_int_m
  repeat' with_reducible (first | exact Le.refl _ | refine slices_Index_int_int_f_le | refine Le.bind ?_ (Le.sumK fun _ => ?_) | refine Le.bind ?_ (fun _ => ?_) | refine Le.cond ?_ ?_ | refine Le.letM (fun _ => ?_) | refine Le.join (fun _ => ?_) (fun _ _ hj => ?_) | exact hj _)

def participant_Choose_1_f (k_ : Nat) (m_0 : T_api_Move) (p_1 : T_api_Player) : Option (Bool) :=
  Option.bind (slices_Contains_int_int_f k_ p_1.Pool m_0.Node) fun t2 =>
  bif !t2 then
    some true
  else
    Option.bind (slices_Contains_int_int_f k_ p_1.Withheld m_0.Node) fun t3 =>
    some t3

theorem participant_Choose_1_f_le {k_ : Nat} {m_0 : T_api_Move} {p_1 : T_api_Player} : Le (participant_Choose_1_f k_ m_0 p_1) (participant_Choose_1_m m_0 p_1) := by
  unfold participant_Choose_1_f participant_Choose_1_m
  repeat' with_reducible (first | exact Le.refl _ | refine slices_Contains_int_int_f_le | refine Le.bind ?_ (Le.sumK fun _ => ?_) | refine Le.bind ?_ (fun _ => ?_) | refine Le.cond ?_ ?_ | refine Le.letM (fun _ => ?_) | refine Le.join (fun _ => ?_) (fun _ _ hj => ?_) | exact hj _)

def slices_IndexFunc_api_Move_api_Move_l1f (k_ : Nat) (s_0 : (List T_api_Move)) (e_1 : T_api_Player) (s7 : Int) : Option (Sum ((Sum (Int) (Unit))) (Int)) :=
  bif decide (s7 < (s_0.length : Int)) then
    Option.bind (idxM s_0 s7) fun t10 =>
    Option.bind (participant_Choose_1_f k_ t10 e_1) fun t11 =>
    bif t11 then
      some (Sum.inl (Sum.inl s7))
    else
      some (Sum.inr (iadd .i64 s7 1))
  else
    some (Sum.inl (Sum.inr ()))

theorem slices_IndexFunc_api_Move_api_Move_l1f_le {k_ : Nat} {s_0 : (List T_api_Move)} {e_1 : T_api_Player} {s7 : Int} : Le (slices_IndexFunc_api_Move_api_Move_l1f k_ s_0 e_1 s7) (slices_IndexFunc_api_Move_api_Move_l1 s_0 e_1 s7) := by
  unfold slices_IndexFunc_api_Move_api_Move_l1f slices_IndexFunc_api_Move_api_Move_l1
  repeat' with_reducible (first | exact Le.refl _ | refine participant_Choose_1_f_le | refine Le.bind ?_ (Le.sumK fun _ => ?_) | refine Le.bind ?_ (fun _ => ?_) | refine Le.cond ?_ ?_ | refine Le.letM (fun _ => ?_) | refine Le.join (fun _ => ?_) (fun _ _ hj => ?_) | exact hj _)

def slices_IndexFunc_api_Move_api_Move_f (k_ : Nat) (s_0 : (List T_api_Move)) (e_1 : T_api_Player) : Option (Int) :=
  Option.bind (loopF k_ (slices_IndexFunc_api_Move_api_Move_l1f k_ s_0 e_1) 0) (sumK (fun a : Int => some a) fun q13 : Unit =>
    some (-1))

theorem slices_IndexFunc_api_Move_api_Move_f_le {k_ : Nat} {s_0 : (List T_api_Move)} {e_1 : T_api_Player} : Le (slices_IndexFunc_api_Move_api_Move_f k_ s_0 e_1) (slices_IndexFunc_api_Move_api_Move_m s_0 e_1) := by
  unfold slices_IndexFunc_api_Move_api_Move_f slices_IndexFunc_api_Move_api_Move_m
  repeat' with_reducible (first | exact Le.refl _ | refine Le.loop (fun _ => slices_IndexFunc_api_Move_api_Move_l1f_le) | refine Le.bind ?_ (Le.sumK fun _ => ?_) | refine Le.bind ?_ (fun _ => ?_) | refine Le.cond ?_ ?_ | refine Le.letM (fun _ => ?_) | refine Le.join (fun _ => ?_) (fun _ _ hj => ?_) | exact hj _)

def slices_DeleteFunc_api_Move_api_Move_l1f (k_ : Nat) (e_1 : T_api_Player) (s24 : Int × Int × (List T_api_Move)) : Option (Sum ((List T_api_Move) × Int) (Int × Int × (List T_api_Move))) :=
  bif decide (s24.2.1 < (s24.2.2.length : Int)) then
    Option.bind (idxM s24.2.2 s24.2.1) fun t27 =>
    Option.bind (participant_Choose_1_f k_ t27 e_1) fun t29 =>
    bif !t29 then
      Option.bind (idxM s24.2.2 s24.1) fun t31 =>
      letM (iadd .i64 s24.1 1) fun i32x =>
      letM (iadd .i64 s24.2.1 1) fun j33 =>
      some (Sum.inr (i32x, j33, s24.2.2.set (Int.toNat s24.1) t27))
    else
      letM (iadd .i64 s24.2.1 1) fun j34 =>
      some (Sum.inr (s24.1, j34, s24.2.2))
  else
    some (Sum.inl (s24.2.2, s24.1))

theorem slices_DeleteFunc_api_Move_api_Move_l1f_le {k_ : Nat} {e_1 : T_api_Player} {s24 : Int × Int × (List T_api_Move)} : Le (slices_DeleteFunc_api_Move_api_Move_l1f k_ e_1 s24) (slices_DeleteFunc_api_Move_api_Move_l1 e_1 s24) := by
  unfold slices_DeleteFunc_api_Move_api_Move_l1f slices_DeleteFunc_api_Move_api_Move_l1
  repeat' with_reducible (first | exact Le.refl _ | refine participant_Choose_1_f_le | refine Le.bind ?_ (Le.sumK fun _ => ?_) | refine Le.bind ?_ (fun _ => ?_) | refine Le.cond ?_ ?_ | refine Le.letM (fun _ => ?_) | refine Le.join (fun _ => ?_) (fun _ _ hj => ?_) | exact hj _)

def slices_DeleteFunc_api_Move_api_Move_f (k_ : Nat) (s_0 : (List T_api_Move)) (e_1 : T_api_Player) : Option (List T_api_Move) :=
  Option.bind (slices_IndexFunc_api_Move_api_Move_f k_ s_0 e_1) fun i1 =>
  bif i1 == (-1) then
    some s_0
  else
    Option.bind (loopF k_ (slices_DeleteFunc_api_Move_api_Move_l1f k_ e_1) (i1, iadd .i64 i1 1, s_0)) fun q35 : (List T_api_Move) × Int =>
    Option.bind (slM q35.1 q35.2 (q35.1.length : Int)) fun t37 =>
    Option.bind (slM (q35.1.take (Int.toNat q35.2) ++ List.replicate (Int.toNat (q35.1.length : Int) - Int.toNat q35.2) (T_api_Move.mk 0 0 0 0) ++ q35.1.drop (Int.toNat (q35.1.length : Int))) 0 q35.2) fun t38 =>
    some t38

theorem slices_DeleteFunc_api_Move_api_Move_f_le {k_ : Nat} {s_0 : (List T_api_Move)} {e_1 : T_api_Player} : Le (slices_DeleteFunc_api_Move_api_Move_f k_ s_0 e_1) (slices_DeleteFunc_api_Move_api_Move_m s_0 e_1) := by
  unfold slices_DeleteFunc_api_Move_api_Move_f slices_DeleteFunc_api_Move_api_Move_m
  repeat' with_reducible (first | exact Le.refl _ | refine slices_IndexFunc_api_Move_api_Move_f_le | refine Le.loop (fun _ => slices_DeleteFunc_api_Move_api_Move_l1f_le) | refine Le.bind ?_ (Le.sumK fun _ => ?_) | refine Le.bind ?_ (fun _ => ?_) | refine Le.cond ?_ ?_ | refine Le.letM (fun _ => ?_) | refine Le.join (fun _ => ?_) (fun _ _ hj => ?_) | exact hj _)

def slices_MinFunc_api_Move_api_Move_l1f (k_ : Nat) (x_0 : (List T_api_Move)) (s21 : Int × T_api_Move) : Option (Sum (T_api_Move) (Int × T_api_Move)) :=
  bif decide (s21.1 < (x_0.length : Int)) then
    Option.bind (idxM x_0 s21.1) fun t24 =>
    Option.bind (participant_style_2_f k_ t24 s21.2) fun t25 =>
    bif decide (t25 < 0) then
      Option.bind (idxM x_0 s21.1) fun t27 =>
      letM (iadd .i64 s21.1 1) fun i28 =>
      some (Sum.inr (i28, t27))
    else
      letM (iadd .i64 s21.1 1) fun i29 =>
      some (Sum.inr (i29, s21.2))
  else
    some (Sum.inl s21.2)

theorem slices_MinFunc_api_Move_api_Move_l1f_le {k_ : Nat} {x_0 : (List T_api_Move)} {s21 : Int × T_api_Move} : Le (slices_MinFunc_api_Move_api_Move_l1f k_ x_0 s21) (slices_MinFunc_api_Move_api_Move_l1 x_0 s21) := by
  unfold slices_MinFunc_api_Move_api_Move_l1f slices_MinFunc_api_Move_api_Move_l1
  repeat' with_reducible (first | exact Le.refl _ | refine participant_style_2_f_le | refine Le.bind ?_ (Le.sumK fun _ => ?_) | refine Le.bind ?_ (fun _ => ?_) | refine Le.cond ?_ ?_ | refine Le.letM (fun _ => ?_) | refine Le.join (fun _ => ?_) (fun _ _ hj => ?_) | exact hj _)

def slices_MinFunc_api_Move_api_Move_f (k_ : Nat) (x_0 : (List T_api_Move)) : Option (T_api_Move) :=
  bif decide ((x_0.length : Int) < 1) then
    none
  else
    Option.bind (idxM x_0 0) fun t3 =>
    Option.bind (loopF k_ (slices_MinFunc_api_Move_api_Move_l1f k_ x_0) (1, t3)) fun q30 : T_api_Move =>
    some q30

theorem slices_MinFunc_api_Move_api_Move_f_le {k_ : Nat} {x_0 : (List T_api_Move)} : Le (slices_MinFunc_api_Move_api_Move_f k_ x_0) (slices_MinFunc_api_Move_api_Move_m x_0) := by
  unfold slices_MinFunc_api_Move_api_Move_f slices_MinFunc_api_Move_api_Move_m
  repeat' with_reducible (first | exact Le.refl _ | refine Le.loop (fun _ => slices_MinFunc_api_Move_api_Move_l1f_le) | refine Le.bind ?_ (Le.sumK fun _ => ?_) | refine Le.bind ?_ (fun _ => ?_) | refine Le.cond ?_ ?_ | refine Le.letM (fun _ => ?_) | refine Le.join (fun _ => ?_) (fun _ _ hj => ?_) | exact hj _)

def participant_style_1_l1f (k_ : Nat) (node_0 : Int) (p_1 : T_api_Dialogue) (s7 : Int × Int) : Option (Sum (Int) (Int × Int)) :=
  bif decide (s7.2 < (p_1.Graph.L.length : Int)) then
    Option.bind (idxM p_1.Graph.L s7.2) fun t10 =>
    bif t10.To == node_0 then
      letM (iadd .i64 s7.1 1) fun n13 =>
      some (Sum.inr (n13, iadd .i64 s7.2 1))
    else
      some (Sum.inr (s7.1, iadd .i64 s7.2 1))
  else
    some (Sum.inl s7.1)

theorem participant_style_1_l1f_le {k_ : Nat} {node_0 : Int} {p_1 : T_api_Dialogue} {s7 : Int × Int} : Le (participant_style_1_l1f k_ node_0 p_1 s7) (participant_style_1_l1 node_0 p_1 s7) := by
  unfold participant_style_1_l1f participant_style_1_l1
  repeat' with_reducible (first | exact Le.refl _ | refine Le.bind ?_ (Le.sumK fun _ => ?_) | refine Le.bind ?_ (fun _ => ?_) | refine Le.cond ?_ ?_ | refine Le.letM (fun _ => ?_) | refine Le.join (fun _ => ?_) (fun _ _ hj => ?_) | exact hj _)

def participant_style_1_f (k_ : Nat) (node_0 : Int) (p_1 : T_api_Dialogue) : Option (Int) :=
  Option.bind (loopF k_ (participant_style_1_l1f k_ node_0 p_1) (0, 0)) fun q14 : Int =>
  some q14

theorem participant_style_1_f_le {k_ : Nat} {node_0 : Int} {p_1 : T_api_Dialogue} : Le (participant_style_1_f k_ node_0 p_1) (participant_style_1_m node_0 p_1) := by
  unfold participant_style_1_f participant_style_1_m
  repeat' with_reducible (first | exact Le.refl _ | refine Le.loop (fun _ => participant_style_1_l1f_le) | refine Le.bind ?_ (Le.sumK fun _ => ?_) | refine Le.bind ?_ (fun _ => ?_) | refine Le.cond ?_ ?_ | refine Le.letM (fun _ => ?_) | refine Le.join (fun _ => ?_) (fun _ _ hj => ?_) | exact hj _)

def participant_style_3_f (k_ : Nat) (a__0 : T_api_Move) (b_1 : T_api_Move) (e_1 : T_api_Dialogue) : Option (Int) :=
  Option.bind (participant_style_1_f k_ a__0.Node e_1) fun t3 =>
  Option.bind (participant_style_1_f k_ b_1.Node e_1) fun t4 =>
  Option.bind (cmp_Compare_int_f k_ t3 t4) fun t5 =>
  some t5

theorem participant_style_3_f_le {k_ : Nat} {a__0 : T_api_Move} {b_1 : T_api_Move} {e_1 : T_api_Dialogue} : Le (participant_style_3_f k_ a__0 b_1 e_1) (participant_style_3_m a__0 b_1 e_1) := by
  unfold participant_style_3_f participant_style_3_m
  repeat' with_reducible (first | exact Le.refl _ | refine participant_style_1_f_le | refine cmp_Compare_int_f_le | refine Le.bind ?_ (Le.sumK fun _ => ?_) | refine Le.bind ?_ (fun _ => ?_) | refine Le.cond ?_ ?_ | refine Le.letM (fun _ => ?_) | refine Le.join (fun _ => ?_) (fun _ _ hj => ?_) | exact hj _)

def slices_MinFunc_api_Move_api_Move_1_l1f (k_ : Nat) (x_0 : (List T_api_Move)) (e_1 : T_api_Dialogue) (s21 : Int × T_api_Move) : Option (Sum (T_api_Move) (Int × T_api_Move)) :=
  bif decide (s21.1 < (x_0.length : Int)) then
    Option.bind (idxM x_0 s21.1) fun t24 =>
    Option.bind (participant_style_3_f k_ t24 s21.2 e_1) fun t25 =>
    bif decide (t25 < 0) then
      Option.bind (idxM x_0 s21.1) fun t27 =>
      letM (iadd .i64 s21.1 1) fun i28 =>
      some (Sum.inr (i28, t27))
    else
      letM (iadd .i64 s21.1 1) fun i29 =>
      some (Sum.inr (i29, s21.2))
  else
    some (Sum.inl s21.2)

theorem slices_MinFunc_api_Move_api_Move_1_l1f_le {k_ : Nat} {x_0 : (List T_api_Move)} {e_1 : T_api_Dialogue} {s21 : Int × T_api_Move} : Le (slices_MinFunc_api_Move_api_Move_1_l1f k_ x_0 e_1 s21) (slices_MinFunc_api_Move_api_Move_1_l1 x_0 e_1 s21) := by
  unfold slices_MinFunc_api_Move_api_Move_1_l1f slices_MinFunc_api_Move_api_Move_1_l1
  repeat' with_reducible (first | exact Le.refl _ | refine participant_style_3_f_le | refine Le.bind ?_ (Le.sumK fun _ => ?_) | refine Le.bind ?_ (fun _ => ?_) | refine Le.cond ?_ ?_ | refine Le.letM (fun _ => ?_) | refine Le.join (fun _ => ?_) (fun _ _ hj => ?_) | exact hj _)

def slices_MinFunc_api_Move_api_Move_1_f (k_ : Nat) (x_0 : (List T_api_Move)) (e_1 : T_api_Dialogue) : Option (T_api_Move) :=
  bif decide ((x_0.length : Int) < 1) then
    none
  else
    Option.bind (idxM x_0 0) fun t3 =>
    Option.bind (loopF k_ (slices_MinFunc_api_Move_api_Move_1_l1f k_ x_0 e_1) (1, t3)) fun q30 : T_api_Move =>
    some q30

theorem slices_MinFunc_api_Move_api_Move_1_f_le {k_ : Nat} {x_0 : (List T_api_Move)} {e_1 : T_api_Dialogue} : Le (slices_MinFunc_api_Move_api_Move_1_f k_ x_0 e_1) (slices_MinFunc_api_Move_api_Move_1_m x_0 e_1) := by
  unfold slices_MinFunc_api_Move_api_Move_1_f slices_MinFunc_api_Move_api_Move_1_m
  repeat' with_reducible (first | exact Le.refl _ | refine Le.loop (fun _ => slices_MinFunc_api_Move_api_Move_1_l1f_le) | refine Le.bind ?_ (Le.sumK fun _ => ?_) | refine Le.bind ?_ (fun _ => ?_) | refine Le.cond ?_ ?_ | refine Le.letM (fun _ => ?_) | refine Le.join (fun _ => ?_) (fun _ _ hj => ?_) | exact hj _)

def slices_MinFunc_api_Move_api_Move_2_l1f (k_ : Nat) (x_0 : (List T_api_Move)) (s21 : Int × T_api_Move) : Option (Sum (T_api_Move) (Int × T_api_Move)) :=
  bif decide (s21.1 < (x_0.length : Int)) then
    Option.bind (idxM x_0 s21.1) fun t24 =>
    Option.bind (participant_style_4_f k_ t24 s21.2) fun t25 =>
    bif decide (t25 < 0) then
      Option.bind (idxM x_0 s21.1) fun t27 =>
      letM (iadd .i64 s21.1 1) fun i28 =>
      some (Sum.inr (i28, t27))
    else
      letM (iadd .i64 s21.1 1) fun i29 =>
      some (Sum.inr (i29, s21.2))
  else
    some (Sum.inl s21.2)

theorem slices_MinFunc_api_Move_api_Move_2_l1f_le {k_ : Nat} {x_0 : (List T_api_Move)} {s21 : Int × T_api_Move} : Le (slices_MinFunc_api_Move_api_Move_2_l1f k_ x_0 s21) (slices_MinFunc_api_Move_api_Move_2_l1 x_0 s21) := by
  unfold slices_MinFunc_api_Move_api_Move_2_l1f slices_MinFunc_api_Move_api_Move_2_l1
  repeat' with_reducible (first | exact Le.refl _ | refine participant_style_4_f_le | refine Le.bind ?_ (Le.sumK fun _ => ?_) | refine Le.bind ?_ (fun _ => ?_) | refine Le.cond ?_ ?_ | refine Le.letM (fun _ => ?_) | refine Le.join (fun _ => ?_) (fun _ _ hj => ?_) | exact hj _)

def slices_MinFunc_api_Move_api_Move_2_f (k_ : Nat) (x_0 : (List T_api_Move)) : Option (T_api_Move) :=
  bif decide ((x_0.length : Int) < 1) then
    none
  else
    Option.bind (idxM x_0 0) fun t3 =>
    Option.bind (loopF k_ (slices_MinFunc_api_Move_api_Move_2_l1f k_ x_0) (1, t3)) fun q30 : T_api_Move =>
    some q30

theorem slices_MinFunc_api_Move_api_Move_2_f_le {k_ : Nat} {x_0 : (List T_api_Move)} : Le (slices_MinFunc_api_Move_api_Move_2_f k_ x_0) (slices_MinFunc_api_Move_api_Move_2_m x_0) := by
  unfold slices_MinFunc_api_Move_api_Move_2_f slices_MinFunc_api_Move_api_Move_2_m
  repeat' with_reducible (first | exact Le.refl _ | refine Le.loop (fun _ => slices_MinFunc_api_Move_api_Move_2_l1f_le) | refine Le.bind ?_ (Le.sumK fun _ => ?_) | refine Le.bind ?_ (fun _ => ?_) | refine Le.cond ?_ ?_ | refine Le.letM (fun _ => ?_) | refine Le.join (fun _ => ?_) (fun _ _ hj => ?_) | exact hj _)

def participant_Choose_f (k_ : Nat) (d_0 : T_api_Dialogue) (p_1 : T_api_Player) : Option (T_api_Move × Int) :=
  Option.bind (protocol_Turn_f k_ d_0) fun behind4 =>
  bif behind4 == 0 then
    some ((T_api_Move.mk 0 0 0 0), 7)
  else
    Option.bind (participant_valid_f k_ d_0 p_1) fun e6 =>
    bif e6 != 0 then
      some ((T_api_Move.mk 0 0 0 0), e6)
    else
      Option.bind (protocol_Legal_f k_ d_0) fun t8 =>
      Option.bind (slices_DeleteFunc_api_Move_api_Move_f k_ t8 p_1) fun attacks10 =>
      Option.bind (participant_scripted_f k_ d_0 p_1 attacks10) fun t11 =>
      bif t11.2 then
        some (t11.1, 0)
      else
        bif (attacks10.length : Int) == 0 then
          some ((T_api_Move.mk behind4 4 0 0), 0)
        else
          Option.bind (participant_style_f k_ d_0 p_1.Style) fun t15 =>
          bif t15.2.1 then
            Option.bind (slices_MinFunc_api_Move_api_Move_f k_ attacks10) fun t17 =>
            some (t17, 0)
          else
            bif t15.2.2 then
              Option.bind (slices_MinFunc_api_Move_api_Move_1_f k_ attacks10 t15.1) fun t18 =>
              some (t18, 0)
            else
              Option.bind (slices_MinFunc_api_Move_api_Move_2_f k_ attacks10) fun t19 =>
              some (t19, 0)

theorem participant_Choose_f_le {k_ : Nat} {d_0 : T_api_Dialogue} {p_1 : T_api_Player} : Le (participant_Choose_f k_ d_0 p_1) (participant_Choose_m d_0 p_1) := by
  unfold participant_Choose_f participant_Choose_m
  repeat' with_reducible (first | exact Le.refl _ | refine protocol_Turn_f_le | refine participant_valid_f_le | refine protocol_Legal_f_le | refine slices_DeleteFunc_api_Move_api_Move_f_le | refine participant_scripted_f_le | refine participant_style_f_le | refine slices_MinFunc_api_Move_api_Move_f_le | refine slices_MinFunc_api_Move_api_Move_1_f_le | refine slices_MinFunc_api_Move_api_Move_2_f_le | refine Le.bind ?_ (Le.sumK fun _ => ?_) | refine Le.bind ?_ (fun _ => ?_) | refine Le.cond ?_ ?_ | refine Le.letM (fun _ => ?_) | refine Le.join (fun _ => ?_) (fun _ _ hj => ?_) | exact hj _)

def participant_Run_l1f (k_ : Nat) (d_0 : T_api_Dialogue) (proponent_1 : T_api_Player) (opponent_2 : T_api_Player) (s13 : Int) : Option (Sum ((Sum (T_api_Dialogue × Int) (Unit))) (Int)) :=
  bif decide (s13 < 2) then
    Option.bind (idxM [proponent_1, opponent_2] s13) fun t16 =>
    Option.bind (participant_valid_f k_ d_0 t16) fun e18 =>
    bif e18 != 0 then
      some (Sum.inl (Sum.inl ((T_api_Dialogue.mk (T_api_Graph.mk 0 []) 0 (T_arr2_3.mk 0 0) []), e18)))
    else
      some (Sum.inr (iadd .i64 s13 1))
  else
    some (Sum.inl (Sum.inr ()))

theorem participant_Run_l1f_le {k_ : Nat} {d_0 : T_api_Dialogue} {proponent_1 : T_api_Player} {opponent_2 : T_api_Player} {s13 : Int} : Le (participant_Run_l1f k_ d_0 proponent_1 opponent_2 s13) (participant_Run_l1 d_0 proponent_1 opponent_2 s13) := by
  unfold participant_Run_l1f participant_Run_l1
  repeat' with_reducible (first | exact Le.refl _ | refine participant_valid_f_le | refine Le.bind ?_ (Le.sumK fun _ => ?_) | refine Le.bind ?_ (fun _ => ?_) | refine Le.cond ?_ ?_ | refine Le.letM (fun _ => ?_) | refine Le.join (fun _ => ?_) (fun _ _ hj => ?_) | exact hj _)

def participant_Run_l2f (k_ : Nat) (proponent_1 : T_api_Player) (opponent_2 : T_api_Player) (s48 : T_api_Dialogue) : Option (Sum (T_api_Dialogue × Int) (T_api_Dialogue)) :=
  Option.bind (protocol_Turn_f k_ s48) fun turn50 =>
  bif turn50 == 0 then
    some (Sum.inl (s48, 0))
  else
    Option.bind (idxM [proponent_1, opponent_2] (isub .i64 turn50 1)) fun t53 =>
    Option.bind (participant_Choose_f k_ s48 t53) fun t54 =>
    bif t54.2 != 0 then
      some (Sum.inl ((T_api_Dialogue.mk (T_api_Graph.mk 0 []) 0 (T_arr2_3.mk 0 0) []), t54.2))
    else
      Option.bind (protocol_Apply_f k_ s48 t54.1) fun t57 =>
      bif t57.2 != 0 then
        some (Sum.inl ((T_api_Dialogue.mk (T_api_Graph.mk 0 []) 0 (T_arr2_3.mk 0 0) []), t57.2))
      else
        some (Sum.inr t57.1)

theorem participant_Run_l2f_le {k_ : Nat} {proponent_1 : T_api_Player} {opponent_2 : T_api_Player} {s48 : T_api_Dialogue} : Le (participant_Run_l2f k_ proponent_1 opponent_2 s48) (participant_Run_l2 proponent_1 opponent_2 s48) := by
  unfold participant_Run_l2f participant_Run_l2
  repeat' with_reducible (first | exact Le.refl _ | refine protocol_Turn_f_le | refine participant_Choose_f_le | refine protocol_Apply_f_le | refine Le.bind ?_ (Le.sumK fun _ => ?_) | refine Le.bind ?_ (fun _ => ?_) | refine Le.cond ?_ ?_ | refine Le.letM (fun _ => ?_) | refine Le.join (fun _ => ?_) (fun _ _ hj => ?_) | exact hj _)

def participant_Run_f (k_ : Nat) (d_0 : T_api_Dialogue) (proponent_1 : T_api_Player) (opponent_2 : T_api_Player) : Option (T_api_Dialogue × Int) :=
  Option.bind (loopF k_ (participant_Run_l1f k_ d_0 proponent_1 opponent_2) 0) (sumK (fun a : T_api_Dialogue × Int => some a) fun q20 : Unit =>
    Option.bind (slices_Clone_api_Pair_api_Pair_f k_ d_0.Graph.L) fun t22 =>
    Option.bind (slices_Clone_api_Move_api_Move_f k_ d_0.Moves) fun t24 =>
    Option.bind (loopF k_ (participant_Run_l2f k_ proponent_1 opponent_2) (T_api_Dialogue.mk (T_api_Graph.mk d_0.Graph.N t22) d_0.Root d_0.Limits t24)) (fun a : T_api_Dialogue × Int => some a))

theorem participant_Run_f_le {k_ : Nat} {d_0 : T_api_Dialogue} {proponent_1 : T_api_Player} {opponent_2 : T_api_Player} : Le (participant_Run_f k_ d_0 proponent_1 opponent_2) (participant_Run_m d_0 proponent_1 opponent_2) := by
  unfold participant_Run_f participant_Run_m
  repeat' with_reducible (first | exact Le.refl _ | refine slices_Clone_api_Pair_api_Pair_f_le | refine slices_Clone_api_Move_api_Move_f_le | refine Le.loop (fun _ => participant_Run_l1f_le) | refine Le.loop (fun _ => participant_Run_l2f_le) | refine Le.bind ?_ (Le.sumK fun _ => ?_) | refine Le.bind ?_ (fun _ => ?_) | refine Le.cond ?_ ?_ | refine Le.letM (fun _ => ?_) | refine Le.join (fun _ => ?_) (fun _ _ hj => ?_) | exact hj _)

def ref27_gone_l2f (k_ : Nat) (d_0 : T_api_Dialogue) (s45 : Int × (List Bool)) (s68 : Int × (List Bool)) : Option (Sum ((List Bool)) (Int × (List Bool))) :=
  bif decide (s68.1 < (d_0.Moves.length : Int)) then
    Option.bind (idxM s68.2 s45.1) fun t71 =>
    bif t71 then
      Option.bind (idxM s68.2 s45.1) fun t72 =>
      letM (iadd .i64 s68.1 1) fun k77 =>
      some (Sum.inr (k77, s68.2.set (Int.toNat s45.1) true))
    else
      Option.bind (idxM d_0.Moves s68.1) fun t73 =>
      bif t73.Kind == 3 then
        Option.bind (idxM d_0.Moves s68.1) fun t74 =>
        Option.bind (idxM s68.2 s45.1) fun t75 =>
        letM (iadd .i64 s68.1 1) fun k78 =>
        some (Sum.inr (k78, s68.2.set (Int.toNat s45.1) (t74.Target == s45.1)))
      else
        Option.bind (idxM s68.2 s45.1) fun t76 =>
        letM (iadd .i64 s68.1 1) fun k79 =>
        some (Sum.inr (k79, s68.2.set (Int.toNat s45.1) false))
  else
    some (Sum.inl s68.2)

theorem ref27_gone_l2f_le {k_ : Nat} {d_0 : T_api_Dialogue} {s45 : Int × (List Bool)} {s68 : Int × (List Bool)} : Le (ref27_gone_l2f k_ d_0 s45 s68) (ref27_gone_l2 d_0 s45 s68) := by
  unfold ref27_gone_l2f ref27_gone_l2
  repeat' with_reducible (first | exact Le.refl _ | refine Le.bind ?_ (Le.sumK fun _ => ?_) | refine Le.bind ?_ (fun _ => ?_) | refine Le.cond ?_ ?_ | refine Le.letM (fun _ => ?_) | refine Le.join (fun _ => ?_) (fun _ _ hj => ?_) | exact hj _)

def ref27_gone_l1f (k_ : Nat) (d_0 : T_api_Dialogue) (s45 : Int × (List Bool)) : Option (Sum ((List Bool)) (Int × (List Bool))) :=
  bif decide (s45.1 < (d_0.Moves.length : Int)) then
    Option.bind (idxM d_0.Moves s45.1) fun t48 =>
    joinM (fun j52 : (List Bool) =>
        letM (iadd .i64 s45.1 1) fun k55 =>
        Option.bind (loopF k_ (ref27_gone_l2f k_ d_0 s45) (k55, j52)) fun q80 : (List Bool) =>
        bif t48.Kind == 2 then
          Option.bind (idxM q80 s45.1) fun t83 =>
          bif t83 then
            Option.bind (idxM q80 s45.1) fun t84 =>
            letM (iadd .i64 s45.1 1) fun i87 =>
            some (Sum.inr (i87, q80.set (Int.toNat s45.1) true))
          else
            Option.bind (idxM q80 t48.Target) fun t85 =>
            Option.bind (idxM q80 s45.1) fun t86 =>
            letM (iadd .i64 s45.1 1) fun i88 =>
            some (Sum.inr (i88, q80.set (Int.toNat s45.1) t85))
        else
          letM (iadd .i64 s45.1 1) fun i89 =>
          some (Sum.inr (i89, q80))) fun k54 =>
    bif t48.Kind == 3 then
      Option.bind (idxM s45.2 s45.1) fun t50 =>
      k54 (s45.2.set (Int.toNat s45.1) true)
    else
      Option.bind (idxM s45.2 s45.1) fun t51 =>
      k54 (s45.2.set (Int.toNat s45.1) (t48.Kind == 4))
  else
    some (Sum.inl s45.2)

theorem ref27_gone_l1f_le {k_ : Nat} {d_0 : T_api_Dialogue} {s45 : Int × (List Bool)} : Le (ref27_gone_l1f k_ d_0 s45) (ref27_gone_l1 d_0 s45) := by
  unfold ref27_gone_l1f ref27_gone_l1
  repeat' with_reducible (first | exact Le.refl _ | refine Le.loop (fun _ => ref27_gone_l2f_le) | refine Le.bind ?_ (Le.sumK fun _ => ?_) | refine Le.bind ?_ (fun _ => ?_) | refine Le.cond ?_ ?_ | refine Le.letM (fun _ => ?_) | refine Le.join (fun _ => ?_) (fun _ _ hj => ?_) | exact hj _)

def ref27_gone_f (k_ : Nat) (d_0 : T_api_Dialogue) : Option (List Bool) :=
  Option.bind (mkM 1 false (d_0.Moves.length : Int)) fun out2 =>
  Option.bind (loopF k_ (ref27_gone_l1f k_ d_0) (0, out2)) fun q90 : (List Bool) =>
  some q90

theorem ref27_gone_f_le {k_ : Nat} {d_0 : T_api_Dialogue} : Le (ref27_gone_f k_ d_0) (ref27_gone_m d_0) := by
  unfold ref27_gone_f ref27_gone_m
  repeat' with_reducible (first | exact Le.refl _ | refine Le.loop (fun _ => ref27_gone_l1f_le) | refine Le.bind ?_ (Le.sumK fun _ => ?_) | refine Le.bind ?_ (fun _ => ?_) | refine Le.cond ?_ ?_ | refine Le.letM (fun _ => ?_) | refine Le.join (fun _ => ?_) (fun _ _ hj => ?_) | exact hj _)

def ref27_Status_l2f (k_ : Nat) (d_0 : T_api_Dialogue) (s51 : Int × (List Int)) (s82 : Int × (List Int)) : Option (Sum ((List Int)) (Int × (List Int))) :=
  bif decide (s82.1 < (d_0.Moves.length : Int)) then
    Option.bind (idxM d_0.Moves s82.1) fun t85 =>
    bif t85.Kind == 2 then
      Option.bind (idxM d_0.Moves s82.1) fun t86 =>
      bif t86.Target == s51.1 then
        Option.bind (idxM s82.2 s82.1) fun t87 =>
        bif t87 == 1 then
          Option.bind (idxM s82.2 s51.1) fun t89 =>
          letM (iadd .i64 s82.1 1) fun k90 =>
          some (Sum.inr (k90, s82.2.set (Int.toNat s51.1) 2))
        else
          letM (iadd .i64 s82.1 1) fun k91 =>
          some (Sum.inr (k91, s82.2))
      else
        letM (iadd .i64 s82.1 1) fun k92 =>
        some (Sum.inr (k92, s82.2))
    else
      letM (iadd .i64 s82.1 1) fun k93 =>
      some (Sum.inr (k93, s82.2))
  else
    some (Sum.inl s82.2)

theorem ref27_Status_l2f_le {k_ : Nat} {d_0 : T_api_Dialogue} {s51 : Int × (List Int)} {s82 : Int × (List Int)} : Le (ref27_Status_l2f k_ d_0 s51 s82) (ref27_Status_l2 d_0 s51 s82) := by
  unfold ref27_Status_l2f ref27_Status_l2
  repeat' with_reducible (first | exact Le.refl _ | refine Le.bind ?_ (Le.sumK fun _ => ?_) | refine Le.bind ?_ (fun _ => ?_) | refine Le.cond ?_ ?_ | refine Le.letM (fun _ => ?_) | refine Le.join (fun _ => ?_) (fun _ _ hj => ?_) | exact hj _)

def ref27_Status_l1f (k_ : Nat) (d_0 : T_api_Dialogue) (away2 : List Bool) (s51 : Int × (List Int)) : Option (Sum ((List Int)) (Int × (List Int))) :=
  bif decide (s51.1 ≥ 0) then
    Option.bind (idxM away2 s51.1) fun t54 =>
    bif t54 then
      letM (isub .i64 s51.1 1) fun i96 =>
      some (Sum.inr (i96, s51.2))
    else
      Option.bind (idxM s51.2 s51.1) fun t56 =>
      letM (iadd .i64 s51.1 1) fun k57 =>
      Option.bind (loopF k_ (ref27_Status_l2f k_ d_0 s51) (k57, s51.2.set (Int.toNat s51.1) 1)) fun q94 : (List Int) =>
      letM (isub .i64 s51.1 1) fun i97 =>
      some (Sum.inr (i97, q94))
  else
    some (Sum.inl s51.2)

theorem ref27_Status_l1f_le {k_ : Nat} {d_0 : T_api_Dialogue} {away2 : List Bool} {s51 : Int × (List Int)} : Le (ref27_Status_l1f k_ d_0 away2 s51) (ref27_Status_l1 d_0 away2 s51) := by
  unfold ref27_Status_l1f ref27_Status_l1
  repeat' with_reducible (first | exact Le.refl _ | refine Le.loop (fun _ => ref27_Status_l2f_le) | refine Le.bind ?_ (Le.sumK fun _ => ?_) | refine Le.bind ?_ (fun _ => ?_) | refine Le.cond ?_ ?_ | refine Le.letM (fun _ => ?_) | refine Le.join (fun _ => ?_) (fun _ _ hj => ?_) | exact hj _)

def ref27_Status_f (k_ : Nat) (d_0 : T_api_Dialogue) : Option (List Int) :=
  Option.bind (ref27_gone_f k_ d_0) fun away2 =>
  Option.bind (mkM 8 0 (d_0.Moves.length : Int)) fun out4 =>
  letM (isub .i64 (d_0.Moves.length : Int) 1) fun i6 =>
  Option.bind (loopF k_ (ref27_Status_l1f k_ d_0 away2) (i6, out4)) fun q98 : (List Int) =>
  some q98

theorem ref27_Status_f_le {k_ : Nat} {d_0 : T_api_Dialogue} : Le (ref27_Status_f k_ d_0) (ref27_Status_m d_0) := by
  unfold ref27_Status_f ref27_Status_m
  repeat' with_reducible (first | exact Le.refl _ | refine ref27_gone_f_le | refine Le.loop (fun _ => ref27_Status_l1f_le) | refine Le.bind ?_ (Le.sumK fun _ => ?_) | refine Le.bind ?_ (fun _ => ?_) | refine Le.cond ?_ ?_ | refine Le.letM (fun _ => ?_) | refine Le.join (fun _ => ?_) (fun _ _ hj => ?_) | exact hj _)

def ref27_leader_f (k_ : Nat) (status_0 : (List Int)) : Option (Int) :=
  Option.bind (idxM status_0 0) fun t1 =>
  bif t1 == 1 then
    some 1
  else
    some 2

theorem ref27_leader_f_le {k_ : Nat} {status_0 : (List Int)} : Le (ref27_leader_f k_ status_0) (ref27_leader_m status_0) := by
  unfold ref27_leader_f ref27_leader_m
  repeat' with_reducible (first | exact Le.refl _ | refine Le.bind ?_ (Le.sumK fun _ => ?_) | refine Le.bind ?_ (fun _ => ?_) | refine Le.cond ?_ ?_ | refine Le.letM (fun _ => ?_) | refine Le.join (fun _ => ?_) (fun _ _ hj => ?_) | exact hj _)

def net_In_l1f (k_ : Nat) (l_0 : (List Int)) (x_1 : Int) (s6 : Int) : Option (Sum ((Sum (Bool) (Unit))) (Int)) :=
  bif decide (s6 < (l_0.length : Int)) then
    Option.bind (idxM l_0 s6) fun t9 =>
    bif t9 == x_1 then
      some (Sum.inl (Sum.inl true))
    else
      some (Sum.inr (iadd .i64 s6 1))
  else
    some (Sum.inl (Sum.inr ()))

theorem net_In_l1f_le {k_ : Nat} {l_0 : (List Int)} {x_1 : Int} {s6 : Int} : Le (net_In_l1f k_ l_0 x_1 s6) (net_In_l1 l_0 x_1 s6) := by
  unfold net_In_l1f net_In_l1
  repeat' with_reducible (first | exact Le.refl _ | refine Le.bind ?_ (Le.sumK fun _ => ?_) | refine Le.bind ?_ (fun _ => ?_) | refine Le.cond ?_ ?_ | refine Le.letM (fun _ => ?_) | refine Le.join (fun _ => ?_) (fun _ _ hj => ?_) | exact hj _)

def net_In_f (k_ : Nat) (l_0 : (List Int)) (x_1 : Int) : Option (Bool) :=
  Option.bind (loopF k_ (net_In_l1f k_ l_0 x_1) 0) (sumK (fun a : Bool => some a) fun q11 : Unit =>
    some false)

theorem net_In_f_le {k_ : Nat} {l_0 : (List Int)} {x_1 : Int} : Le (net_In_f k_ l_0 x_1) (net_In_m l_0 x_1) := by
  unfold net_In_f net_In_m
  repeat' with_reducible (first | exact Le.refl _ | refine Le.loop (fun _ => net_In_l1f_le) | refine Le.bind ?_ (Le.sumK fun _ => ?_) | refine Le.bind ?_ (fun _ => ?_) | refine Le.cond ?_ ?_ | refine Le.letM (fun _ => ?_) | refine Le.join (fun _ => ?_) (fun _ _ hj => ?_) | exact hj _)

def ref27_Leading_l1f (k_ : Nat) (d_0 : T_api_Dialogue) (status2 : List Int) (s22 : Int × (List Int)) : Option (Sum ((List Int)) (Int × (List Int))) :=
  bif decide (s22.1 < (d_0.Moves.length : Int)) then
    Option.bind (idxM d_0.Moves s22.1) fun t25 =>
    Option.bind (idxM status2 s22.1) fun t27 =>
    bif t27 == 0 then
      letM (iadd .i64 s22.1 1) fun i39 =>
      some (Sum.inr (i39, s22.2))
    else
      Option.bind (net_In_f k_ s22.2 t25.Target) fun t28 =>
      bif !t28 then
        letM (iadd .i64 s22.1 1) fun i40 =>
        some (Sum.inr (i40, s22.2))
      else
        joinM (fun j33 : Bool =>
            bif j33 then
              Option.bind (appM 8 s22.2 [s22.1]) fun out37 =>
              letM (iadd .i64 s22.1 1) fun i41 =>
              some (Sum.inr (i41, out37))
            else
              letM (iadd .i64 s22.1 1) fun i42 =>
              some (Sum.inr (i42, s22.2))) fun k35 =>
        Option.bind (idxM d_0.Moves t25.Target) fun t30 =>
        Option.bind (ref27_leader_f k_ status2) fun t31 =>
        bif t30.By == t31 then
          k35 true
        else
          Option.bind (idxM status2 s22.1) fun t32 =>
          k35 (t32 == 1)
  else
    some (Sum.inl s22.2)

theorem ref27_Leading_l1f_le {k_ : Nat} {d_0 : T_api_Dialogue} {status2 : List Int} {s22 : Int × (List Int)} : Le (ref27_Leading_l1f k_ d_0 status2 s22) (ref27_Leading_l1 d_0 status2 s22) := by
  unfold ref27_Leading_l1f ref27_Leading_l1
  repeat' with_reducible (first | exact Le.refl _ | refine net_In_f_le | refine ref27_leader_f_le | refine Le.bind ?_ (Le.sumK fun _ => ?_) | refine Le.bind ?_ (fun _ => ?_) | refine Le.cond ?_ ?_ | refine Le.letM (fun _ => ?_) | refine Le.join (fun _ => ?_) (fun _ _ hj => ?_) | exact hj _)

def ref27_Leading_f (k_ : Nat) (d_0 : T_api_Dialogue) : Option (List Int) :=
  Option.bind (ref27_Status_f k_ d_0) fun status2 =>
  Option.bind (loopF k_ (ref27_Leading_l1f k_ d_0 status2) (1, [0])) fun q43 : (List Int) =>
  some q43

theorem ref27_Leading_f_le {k_ : Nat} {d_0 : T_api_Dialogue} : Le (ref27_Leading_f k_ d_0) (ref27_Leading_m d_0) := by
  unfold ref27_Leading_f ref27_Leading_m
  repeat' with_reducible (first | exact Le.refl _ | refine ref27_Status_f_le | refine Le.loop (fun _ => ref27_Leading_l1f_le) | refine Le.bind ?_ (Le.sumK fun _ => ?_) | refine Le.bind ?_ (fun _ => ?_) | refine Le.cond ?_ ?_ | refine Le.letM (fun _ => ?_) | refine Le.join (fun _ => ?_) (fun _ _ hj => ?_) | exact hj _)

def net_Has_l1f (k_ : Nat) (g_0 : T_api_Graph) (from__1 : Int) (to__2 : Int) (s8 : Int) : Option (Sum ((Sum (Bool) (Unit))) (Int)) :=
  bif decide (s8 < (g_0.L.length : Int)) then
    Option.bind (idxM g_0.L s8) fun t11 =>
    bif t11.From == from__1 then
      Option.bind (idxM g_0.L s8) fun t12 =>
      bif t12.To == to__2 then
        some (Sum.inl (Sum.inl true))
      else
        some (Sum.inr (iadd .i64 s8 1))
    else
      some (Sum.inr (iadd .i64 s8 1))
  else
    some (Sum.inl (Sum.inr ()))

theorem net_Has_l1f_le {k_ : Nat} {g_0 : T_api_Graph} {from__1 : Int} {to__2 : Int} {s8 : Int} : Le (net_Has_l1f k_ g_0 from__1 to__2 s8) (net_Has_l1 g_0 from__1 to__2 s8) := by
  unfold net_Has_l1f net_Has_l1
  repeat' with_reducible (first | exact Le.refl _ | refine Le.bind ?_ (Le.sumK fun _ => ?_) | refine Le.bind ?_ (fun _ => ?_) | refine Le.cond ?_ ?_ | refine Le.letM (fun _ => ?_) | refine Le.join (fun _ => ?_) (fun _ _ hj => ?_) | exact hj _)

def net_Has_f (k_ : Nat) (g_0 : T_api_Graph) (from__1 : Int) (to__2 : Int) : Option (Bool) :=
  Option.bind (loopF k_ (net_Has_l1f k_ g_0 from__1 to__2) 0) (sumK (fun a : Bool => some a) fun q14 : Unit =>
    some false)

theorem net_Has_f_le {k_ : Nat} {g_0 : T_api_Graph} {from__1 : Int} {to__2 : Int} : Le (net_Has_f k_ g_0 from__1 to__2) (net_Has_m g_0 from__1 to__2) := by
  unfold net_Has_f net_Has_m
  repeat' with_reducible (first | exact Le.refl _ | refine Le.loop (fun _ => net_Has_l1f_le) | refine Le.bind ?_ (Le.sumK fun _ => ?_) | refine Le.bind ?_ (fun _ => ?_) | refine Le.cond ?_ ?_ | refine Le.letM (fun _ => ?_) | refine Le.join (fun _ => ?_) (fun _ _ hj => ?_) | exact hj _)

def ref27_repeated_l1f (k_ : Nat) (d_0 : T_api_Dialogue) (node_2 : Int) (s12 : Int) : Option (Sum ((Sum (Bool) (Unit))) (Int)) :=
  bif decide (s12 > 0) then
    joinM (fun j18 : Unit =>
        Option.bind (idxM d_0.Moves s12) fun t21 =>
        some (Sum.inr t21.Target)) fun k20 =>
    Option.bind (idxM d_0.Moves s12) fun t15 =>
    bif t15.By == 1 then
      Option.bind (idxM d_0.Moves s12) fun t16 =>
      bif t16.Node == node_2 then
        some (Sum.inl (Sum.inl true))
      else
        k20 ()
    else
      k20 ()
  else
    some (Sum.inl (Sum.inr ()))

theorem ref27_repeated_l1f_le {k_ : Nat} {d_0 : T_api_Dialogue} {node_2 : Int} {s12 : Int} : Le (ref27_repeated_l1f k_ d_0 node_2 s12) (ref27_repeated_l1 d_0 node_2 s12) := by
  unfold ref27_repeated_l1f ref27_repeated_l1
  repeat' with_reducible (first | exact Le.refl _ | refine Le.bind ?_ (Le.sumK fun _ => ?_) | refine Le.bind ?_ (fun _ => ?_) | refine Le.cond ?_ ?_ | refine Le.letM (fun _ => ?_) | refine Le.join (fun _ => ?_) (fun _ _ hj => ?_) | exact hj _)

def ref27_repeated_f (k_ : Nat) (d_0 : T_api_Dialogue) (at__1 : Int) (node_2 : Int) : Option (Bool) :=
  Option.bind (loopF k_ (ref27_repeated_l1f k_ d_0 node_2) at__1) (sumK (fun a : Bool => some a) fun q22 : Unit =>
    Option.bind (idxM d_0.Moves 0) fun t24 =>
    letM (t24.Node == node_2) fun t25 =>
    some t25)

theorem ref27_repeated_f_le {k_ : Nat} {d_0 : T_api_Dialogue} {at__1 : Int} {node_2 : Int} : Le (ref27_repeated_f k_ d_0 at__1 node_2) (ref27_repeated_m d_0 at__1 node_2) := by
  unfold ref27_repeated_f ref27_repeated_m
  repeat' with_reducible (first | exact Le.refl _ | refine Le.loop (fun _ => ref27_repeated_l1f_le) | refine Le.bind ?_ (Le.sumK fun _ => ?_) | refine Le.bind ?_ (fun _ => ?_) | refine Le.cond ?_ ?_ | refine Le.letM (fun _ => ?_) | refine Le.join (fun _ => ?_) (fun _ _ hj => ?_) | exact hj _)

def ref27_attacks_l3f (k_ : Nat) (d_0 : T_api_Dialogue) (t226 : Int) (s295 : Int × (List T_api_Move)) (s307 : Bool × Int) : Option (Sum (Bool) (Bool × Int)) :=
  bif decide (s307.2 < (d_0.Moves.length : Int)) then
    bif s307.1 then
      Option.bind (idxM d_0.Moves s307.2) fun t310 =>
      bif t310.Kind == 2 then
        Option.bind (idxM d_0.Moves s307.2) fun t311 =>
        bif t311.Target == t226 then
          Option.bind (idxM d_0.Moves s307.2) fun t312 =>
          letM (!(t312.Node == s295.1)) fun ok313 =>
          letM (iadd .i64 s307.2 1) fun k314 =>
          some (Sum.inr (ok313, k314))
        else
          letM (iadd .i64 s307.2 1) fun k315 =>
          some (Sum.inr (!false, k315))
      else
        letM (iadd .i64 s307.2 1) fun k316 =>
        some (Sum.inr (!false, k316))
    else
      letM (iadd .i64 s307.2 1) fun k317 =>
      some (Sum.inr (false, k317))
  else
    some (Sum.inl s307.1)

theorem ref27_attacks_l3f_le {k_ : Nat} {d_0 : T_api_Dialogue} {t226 : Int} {s295 : Int × (List T_api_Move)} {s307 : Bool × Int} : Le (ref27_attacks_l3f k_ d_0 t226 s295 s307) (ref27_attacks_l3 d_0 t226 s295 s307) := by
  unfold ref27_attacks_l3f ref27_attacks_l3
  repeat' with_reducible (first | exact Le.refl _ | refine Le.bind ?_ (Le.sumK fun _ => ?_) | refine Le.bind ?_ (fun _ => ?_) | refine Le.cond ?_ ?_ | refine Le.letM (fun _ => ?_) | refine Le.join (fun _ => ?_) (fun _ _ hj => ?_) | exact hj _)

def ref27_attacks_l2f (k_ : Nat) (d_0 : T_api_Dialogue) (t4 : Int) (t226 : Int) (s295 : Int × (List T_api_Move)) : Option (Sum ((List T_api_Move)) (Int × (List T_api_Move))) :=
  bif decide (s295.1 < d_0.Graph.N) then
    Option.bind (idxM d_0.Moves t226) fun t298 =>
    Option.bind (net_Has_f k_ d_0.Graph s295.1 t298.Node) fun ok299 =>
    Option.bind (loopF k_ (ref27_attacks_l3f k_ d_0 t226 s295) (ok299, 0)) fun q318 : Bool =>
    joinM (fun j321 : Bool =>
        bif j321 then
          Option.bind (appM 32 s295.2 [(T_api_Move.mk (isub .i64 3 t4) 2 s295.1 t226)]) fun out325 =>
          letM (iadd .i64 s295.1 1) fun a_327 =>
          some (Sum.inr (a_327, out325))
        else
          letM (iadd .i64 s295.1 1) fun a_328 =>
          some (Sum.inr (a_328, s295.2))) fun k323 =>
    bif q318 then
      bif (isub .i64 3 t4) == 2 then
        k323 true
      else
        Option.bind (ref27_repeated_f k_ d_0 t226 s295.1) fun t320 =>
        k323 (!t320)
    else
      k323 false
  else
    some (Sum.inl s295.2)

theorem ref27_attacks_l2f_le {k_ : Nat} {d_0 : T_api_Dialogue} {t4 : Int} {t226 : Int} {s295 : Int × (List T_api_Move)} : Le (ref27_attacks_l2f k_ d_0 t4 t226 s295) (ref27_attacks_l2 d_0 t4 t226 s295) := by
  unfold ref27_attacks_l2f ref27_attacks_l2
  repeat' with_reducible (first | exact Le.refl _ | refine net_Has_f_le | refine ref27_repeated_f_le | refine Le.loop (fun _ => ref27_attacks_l3f_le) | refine Le.bind ?_ (Le.sumK fun _ => ?_) | refine Le.bind ?_ (fun _ => ?_) | refine Le.cond ?_ ?_ | refine Le.letM (fun _ => ?_) | refine Le.join (fun _ => ?_) (fun _ _ hj => ?_) | exact hj _)

def ref27_attacks_l1f (k_ : Nat) (d_0 : T_api_Dialogue) (t4 : Int) (t5 : List Int) (s223 : Int × (List T_api_Move)) : Option (Sum ((List T_api_Move)) (Int × (List T_api_Move))) :=
  bif decide (s223.1 < (t5.length : Int)) then
    Option.bind (idxM t5 s223.1) fun t226 =>
    Option.bind (idxM d_0.Moves t226) fun t227 =>
    bif t227.By == (isub .i64 3 t4) then
      some (Sum.inr (iadd .i64 s223.1 1, s223.2))
    else
      Option.bind (loopF k_ (ref27_attacks_l2f k_ d_0 t4 t226) (0, s223.2)) fun q329 : (List T_api_Move) =>
      some (Sum.inr (iadd .i64 s223.1 1, q329))
  else
    some (Sum.inl s223.2)

theorem ref27_attacks_l1f_le {k_ : Nat} {d_0 : T_api_Dialogue} {t4 : Int} {t5 : List Int} {s223 : Int × (List T_api_Move)} : Le (ref27_attacks_l1f k_ d_0 t4 t5 s223) (ref27_attacks_l1 d_0 t4 t5 s223) := by
  unfold ref27_attacks_l1f ref27_attacks_l1
  repeat' with_reducible (first | exact Le.refl _ | refine Le.loop (fun _ => ref27_attacks_l2f_le) | refine Le.bind ?_ (Le.sumK fun _ => ?_) | refine Le.bind ?_ (fun _ => ?_) | refine Le.cond ?_ ?_ | refine Le.letM (fun _ => ?_) | refine Le.join (fun _ => ?_) (fun _ _ hj => ?_) | exact hj _)

def ref27_attacks_f (k_ : Nat) (d_0 : T_api_Dialogue) : Option (List T_api_Move) :=
  Option.bind (ref27_Status_f k_ d_0) fun status2 =>
  Option.bind (ref27_leader_f k_ status2) fun t4 =>
  Option.bind (ref27_Leading_f k_ d_0) fun t5 =>
  Option.bind (loopF k_ (ref27_attacks_l1f k_ d_0 t4 t5) (0, [])) fun q331 : (List T_api_Move) =>
  some q331

theorem ref27_attacks_f_le {k_ : Nat} {d_0 : T_api_Dialogue} : Le (ref27_attacks_f k_ d_0) (ref27_attacks_m d_0) := by
  unfold ref27_attacks_f ref27_attacks_m
  repeat' with_reducible (first | exact Le.refl _ | refine ref27_Status_f_le | refine ref27_leader_f_le | refine ref27_Leading_f_le | refine Le.loop (fun _ => ref27_attacks_l1f_le) | refine Le.bind ?_ (Le.sumK fun _ => ?_) | refine Le.bind ?_ (fun _ => ?_) | refine Le.cond ?_ ?_ | refine Le.letM (fun _ => ?_) | refine Le.join (fun _ => ?_) (fun _ _ hj => ?_) | exact hj _)

def ref27_End_l1f (k_ : Nat) (d_0 : T_api_Dialogue) (lead8 : Int) (s14 : Int × Int) : Option (Sum (Int) (Int × Int)) :=
  bif decide (s14.2 < (d_0.Moves.length : Int)) then
    Option.bind (idxM d_0.Moves s14.2) fun t17 =>
    bif t17.By != lead8 then
      letM (iadd .i64 s14.1 1) fun made19 =>
      letM (iadd .i64 s14.2 1) fun i20 =>
      some (Sum.inr (made19, i20))
    else
      letM (iadd .i64 s14.2 1) fun i21 =>
      some (Sum.inr (s14.1, i21))
  else
    some (Sum.inl s14.1)

theorem ref27_End_l1f_le {k_ : Nat} {d_0 : T_api_Dialogue} {lead8 : Int} {s14 : Int × Int} : Le (ref27_End_l1f k_ d_0 lead8 s14) (ref27_End_l1 d_0 lead8 s14) := by
  unfold ref27_End_l1f ref27_End_l1
  repeat' with_reducible (first | exact Le.refl _ | refine Le.bind ?_ (Le.sumK fun _ => ?_) | refine Le.bind ?_ (fun _ => ?_) | refine Le.cond ?_ ?_ | refine Le.letM (fun _ => ?_) | refine Le.join (fun _ => ?_) (fun _ _ hj => ?_) | exact hj _)

def ref27_End_f (k_ : Nat) (d_0 : T_api_Dialogue) : Option (T_api_Outcome) :=
  Option.bind (idxM d_0.Moves (isub .i64 (d_0.Moves.length : Int) 1)) fun t3 =>
  bif t3.Kind == 4 then
    some (T_api_Outcome.mk (isub .i64 3 t3.By) 3)
  else
    Option.bind (ref27_Status_f k_ d_0) fun t6 =>
    Option.bind (ref27_leader_f k_ t6) fun lead8 =>
    Option.bind (loopF k_ (ref27_End_l1f k_ d_0 lead8) (0, 0)) fun q22 : Int =>
    letM (decide ((d_0.Moves.length : Int) ≥ 200)) fun t24 =>
    bif t24 then
      some (T_api_Outcome.mk lead8 4)
    else
      Option.bind (idxM [d_0.Limits.i0, d_0.Limits.i1] (isub .i64 2 lead8)) fun t26 =>
      letM (decide (q22 ≥ t26)) fun t27 =>
      bif t27 then
        some (T_api_Outcome.mk lead8 2)
      else
        Option.bind (ref27_attacks_f k_ d_0) fun t29 =>
        letM ((t29.length : Int) == 0) fun t31 =>
        bif t31 then
          some (T_api_Outcome.mk lead8 1)
        else
          some (T_api_Outcome.mk 0 0)

theorem ref27_End_f_le {k_ : Nat} {d_0 : T_api_Dialogue} : Le (ref27_End_f k_ d_0) (ref27_End_m d_0) := by
  unfold ref27_End_f ref27_End_m
  repeat' with_reducible (first | exact Le.refl _ | refine ref27_Status_f_le | refine ref27_leader_f_le | refine ref27_attacks_f_le | refine Le.loop (fun _ => ref27_End_l1f_le) | refine Le.bind ?_ (Le.sumK fun _ => ?_) | refine Le.bind ?_ (fun _ => ?_) | refine Le.cond ?_ ?_ | refine Le.letM (fun _ => ?_) | refine Le.join (fun _ => ?_) (fun _ _ hj => ?_) | exact hj _)

def law28_awake_f (k_ : Nat)  : Option (Bool) :=
  Option.bind (ref27_New_f k_ (T_api_Graph.mk 3 [(T_api_Pair.mk 0 1), (T_api_Pair.mk 1 2)]) 2 (T_arr2_3.mk 9 9)) fun t2 =>
  Option.bind (participant_Full_f k_ (T_api_Graph.mk 3 [(T_api_Pair.mk 0 1), (T_api_Pair.mk 1 2)]) 1) fun t4 =>
  Option.bind (participant_Run_f k_ t2.1 t4 t4) fun t6 =>
  bif t6.2 == 0 then
    bif (t6.1.Moves.length : Int) == 3 then
      Option.bind (ref27_End_f k_ t6.1) fun t8 =>
      letM (decide (t8 = (T_api_Outcome.mk 1 1))) fun t9 =>
      some t9
    else
      some false
  else
    some false

theorem law28_awake_f_le {k_ : Nat}  : Le (law28_awake_f k_ ) (law28_awake_m ) := by
  unfold law28_awake_f law28_awake_m
  repeat' with_reducible (first | exact Le.refl _ | refine ref27_New_f_le | refine participant_Full_f_le | refine participant_Run_f_le | refine ref27_End_f_le | refine Le.bind ?_ (Le.sumK fun _ => ?_) | refine Le.bind ?_ (fun _ => ?_) | refine Le.cond ?_ ?_ | refine Le.letM (fun _ => ?_) | refine Le.join (fun _ => ?_) (fun _ _ hj => ?_) | exact hj _)

end Go.Dc
