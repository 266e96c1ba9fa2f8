/- Part LAW27.F of a proof that a law of the program returns true: general lemmas, no condition. -/
import Derived.Test.YtlhfddobimfcbaaLAW27A3
import Derived.Test.YtlhfddobimfcbaaDcFuel
set_option linter.unusedVariables false
set_option maxRecDepth 100000
namespace Go.Dc

def protocol_attacks_f (k_ : Nat) (l_0 : (List T_api_Move)) (i_1 : Int) : Option (Bool) :=
  Option.bind (idxM l_0 i_1) fun t1 =>
  bif t1.Kind == 2 then
    Option.bind (idxM l_0 i_1) fun t2 =>
    bif decide (t2.Target ≥ 0) then
      Option.bind (idxM l_0 i_1) fun t3 =>
      letM (decide (t3.Target < i_1)) fun t4 =>
      some t4
    else
      some false
  else
    some false

theorem protocol_attacks_f_le {k_ : Nat} {l_0 : (List T_api_Move)} {i_1 : Int} : Le (protocol_attacks_f k_ l_0 i_1) (protocol_attacks_m l_0 i_1) := by
  unfold protocol_attacks_f protocol_attacks_m
  repeat' (first | with_reducible exact Le.refl _ | with_reducible refine Le.bind ?_ (Le.sumK fun _ => ?_) | with_reducible refine Le.bind ?_ (fun _ => ?_) | with_reducible refine Le.cond ?_ ?_ | with_reducible refine Le.letM (fun _ => ?_) | with_reducible refine Le.join (fun _ => ?_) (fun _ _ hj => ?_) | with_reducible exact hj _)

def protocol_Status_l1f (k_ : Nat) (d_0 : T_api_Dialogue) (s26 : Int × (List Bool)) : Option (Sum ((List Bool)) (Int × (List Bool))) :=
  bif decide (s26.1 < (d_0.Moves.length : Int)) then
    Option.bind (idxM d_0.Moves s26.1) fun t29 =>
    joinM (fun j31 : Bool =>
        bif j31 then
          Option.bind (idxM s26.2 t29.Target) fun t35 =>
          some (Sum.inr (iadd .i64 s26.1 1, s26.2.set (Int.toNat t29.Target) true))
        else
          some (Sum.inr (iadd .i64 s26.1 1, s26.2))) fun k33 =>
    bif t29.Kind == 3 then
      bif decide (t29.Target ≥ 0) then
        k33 (decide (t29.Target < (s26.2.length : Int)))
      else
        k33 false
    else
      k33 false
  else
    some (Sum.inl s26.2)

theorem protocol_Status_l1f_le {k_ : Nat} {d_0 : T_api_Dialogue} {s26 : Int × (List Bool)} : Le (protocol_Status_l1f k_ d_0 s26) (protocol_Status_l1 d_0 s26) := by
  unfold protocol_Status_l1f protocol_Status_l1
  repeat' (first | with_reducible exact Le.refl _ | with_reducible refine Le.bind ?_ (Le.sumK fun _ => ?_) | with_reducible refine Le.bind ?_ (fun _ => ?_) | with_reducible refine Le.cond ?_ ?_ | with_reducible refine Le.letM (fun _ => ?_) | with_reducible refine Le.join (fun _ => ?_) (fun _ _ hj => ?_) | with_reducible exact hj _)

def protocol_Status_l2f (k_ : Nat) (d_0 : T_api_Dialogue) (q36 : (List Bool)) (s48 : Int × (List Int)) : Option (Sum ((List Int)) (Int × (List Int))) :=
  bif decide (s48.1 < (d_0.Moves.length : Int)) then
    bif s48.1 == 0 then
      Option.bind (idxM s48.2 s48.1) fun t55 =>
      some (Sum.inr (iadd .i64 s48.1 1, s48.2.set (Int.toNat s48.1) 1))
    else
      Option.bind (protocol_attacks_f k_ d_0.Moves s48.1) fun t51 =>
      bif t51 then
        Option.bind (idxM q36 s48.1) fun t52 =>
        bif !t52 then
          Option.bind (idxM d_0.Moves s48.1) fun t53 =>
          Option.bind (idxM s48.2 t53.Target) fun t54 =>
          bif t54 != 0 then
            Option.bind (idxM s48.2 s48.1) fun t57 =>
            some (Sum.inr (iadd .i64 s48.1 1, s48.2.set (Int.toNat s48.1) 1))
          else
            some (Sum.inr (iadd .i64 s48.1 1, s48.2))
        else
          some (Sum.inr (iadd .i64 s48.1 1, s48.2))
      else
        some (Sum.inr (iadd .i64 s48.1 1, s48.2))
  else
    some (Sum.inl s48.2)

theorem protocol_Status_l2f_le {k_ : Nat} {d_0 : T_api_Dialogue} {q36 : (List Bool)} {s48 : Int × (List Int)} : Le (protocol_Status_l2f k_ d_0 q36 s48) (protocol_Status_l2 d_0 q36 s48) := by
  unfold protocol_Status_l2f protocol_Status_l2
  repeat' (first | with_reducible exact Le.refl _ | with_reducible refine protocol_attacks_f_le | with_reducible refine Le.bind ?_ (Le.sumK fun _ => ?_) | with_reducible refine Le.bind ?_ (fun _ => ?_) | with_reducible refine Le.cond ?_ ?_ | with_reducible refine Le.letM (fun _ => ?_) | with_reducible refine Le.join (fun _ => ?_) (fun _ _ hj => ?_) | with_reducible exact hj _)

def protocol_Status_l3f (k_ : Nat) (d_0 : T_api_Dialogue) (s79 : Int × (List Int)) : Option (Sum ((List Int)) (Int × (List Int))) :=
  bif decide (s79.1 > 0) then
    Option.bind (idxM s79.2 s79.1) fun t82 =>
    bif t82 == 1 then
      Option.bind (idxM d_0.Moves s79.1) fun t84 =>
      Option.bind (idxM s79.2 t84.Target) fun t85 =>
      letM (isub .i64 s79.1 1) fun i86 =>
      some (Sum.inr (i86, s79.2.set (Int.toNat t84.Target) 2))
    else
      letM (isub .i64 s79.1 1) fun i87 =>
      some (Sum.inr (i87, s79.2))
  else
    some (Sum.inl s79.2)

theorem protocol_Status_l3f_le {k_ : Nat} {d_0 : T_api_Dialogue} {s79 : Int × (List Int)} : Le (protocol_Status_l3f k_ d_0 s79) (protocol_Status_l3 d_0 s79) := by
  unfold protocol_Status_l3f protocol_Status_l3
  repeat' (first | with_reducible exact Le.refl _ | with_reducible refine Le.bind ?_ (Le.sumK fun _ => ?_) | with_reducible refine Le.bind ?_ (fun _ => ?_) | with_reducible refine Le.cond ?_ ?_ | with_reducible refine Le.letM (fun _ => ?_) | with_reducible refine Le.join (fun _ => ?_) (fun _ _ hj => ?_) | with_reducible exact hj _)

def protocol_Status_f (k_ : Nat) (d_0 : T_api_Dialogue) : Option (List Int) :=
  Option.bind (mkM 8 0 (d_0.Moves.length : Int)) fun out2 =>
  Option.bind (mkM 1 false (d_0.Moves.length : Int)) fun retracted4 =>
  Option.bind (loopF k_ (protocol_Status_l1f k_ d_0) (0, retracted4)) fun q36 : (List Bool) =>
  Option.bind (loopF k_ (protocol_Status_l2f k_ d_0 q36) (0, out2)) fun q58 : (List Int) =>
  letM (isub .i64 (q58.length : Int) 1) fun i60 =>
  Option.bind (loopF k_ (protocol_Status_l3f k_ d_0) (i60, q58)) fun q88 : (List Int) =>
  some q88

theorem protocol_Status_f_le {k_ : Nat} {d_0 : T_api_Dialogue} : Le (protocol_Status_f k_ d_0) (protocol_Status_m d_0) := by
  unfold protocol_Status_f protocol_Status_m
  repeat' (first | with_reducible exact Le.refl _ | with_reducible refine Le.loop (fun _ => protocol_Status_l1f_le) | with_reducible refine Le.loop (fun _ => protocol_Status_l2f_le) | with_reducible refine Le.loop (fun _ => protocol_Status_l3f_le) | with_reducible refine Le.bind ?_ (Le.sumK fun _ => ?_) | with_reducible refine Le.bind ?_ (fun _ => ?_) | with_reducible refine Le.cond ?_ ?_ | with_reducible refine Le.letM (fun _ => ?_) | with_reducible refine Le.join (fun _ => ?_) (fun _ _ hj => ?_) | with_reducible exact hj _)

def protocol_of_l1f (k_ : Nat) (d_0 : T_api_Dialogue) (t4 : List Int) (j11 : Int) (s27 : Int × (List Bool)) : Option (Sum ((List Bool)) (Int × (List Bool))) :=
  bif decide (s27.1 < (d_0.Moves.length : Int)) then
    Option.bind (idxM t4 s27.1) fun t30 =>
    bif t30 == 0 then
      letM (iadd .i64 s27.1 1) fun i39 =>
      some (Sum.inr (i39, s27.2))
    else
      Option.bind (idxM d_0.Moves s27.1) fun t31 =>
      Option.bind (idxM s27.2 t31.Target) fun t32 =>
      bif !t32 then
        letM (iadd .i64 s27.1 1) fun i40 =>
        some (Sum.inr (i40, s27.2))
      else
        Option.bind (idxM d_0.Moves s27.1) fun t34 =>
        Option.bind (idxM d_0.Moves t34.Target) fun t35 =>
        bif t35.By == j11 then
          Option.bind (idxM s27.2 s27.1) fun t36 =>
          letM (iadd .i64 s27.1 1) fun i41 =>
          some (Sum.inr (i41, s27.2.set (Int.toNat s27.1) true))
        else
          Option.bind (idxM t4 s27.1) fun t37 =>
          Option.bind (idxM s27.2 s27.1) fun t38 =>
          letM (iadd .i64 s27.1 1) fun i42 =>
          some (Sum.inr (i42, s27.2.set (Int.toNat s27.1) (t37 == 1)))
  else
    some (Sum.inl s27.2)

theorem protocol_of_l1f_le {k_ : Nat} {d_0 : T_api_Dialogue} {t4 : List Int} {j11 : Int} {s27 : Int × (List Bool)} : Le (protocol_of_l1f k_ d_0 t4 j11 s27) (protocol_of_l1 d_0 t4 j11 s27) := by
  unfold protocol_of_l1f protocol_of_l1
  repeat' (first | with_reducible exact Le.refl _ | with_reducible refine Le.bind ?_ (Le.sumK fun _ => ?_) | with_reducible refine Le.bind ?_ (fun _ => ?_) | with_reducible refine Le.cond ?_ ?_ | with_reducible refine Le.letM (fun _ => ?_) | with_reducible refine Le.join (fun _ => ?_) (fun _ _ hj => ?_) | with_reducible exact hj _)

def protocol_of_f (k_ : Nat) (d_0 : T_api_Dialogue) : Option (T_protocol_table) :=
  Option.bind (protocol_Status_f k_ d_0) fun t4 =>
  Option.bind (mkM 1 false (d_0.Moves.length : Int)) fun t6 =>
  joinM (fun j11 : Int =>
      Option.bind (idxM t6 0) fun t14 =>
      Option.bind (loopF k_ (protocol_of_l1f k_ d_0 t4 j11) (1, t6.set (Int.toNat 0) true)) fun q43 : (List Bool) =>
      some (T_protocol_table.mk d_0 t4 j11 q43)) fun k13 =>
  Option.bind (idxM t4 0) fun t9 =>
  bif t9 == 2 then
    k13 2
  else
    k13 1

theorem protocol_of_f_le {k_ : Nat} {d_0 : T_api_Dialogue} : Le (protocol_of_f k_ d_0) (protocol_of_m d_0) := by
  unfold protocol_of_f protocol_of_m
  repeat' (first | with_reducible exact Le.refl _ | with_reducible refine protocol_Status_f_le | with_reducible refine Le.loop (fun _ => protocol_of_l1f_le) | with_reducible refine Le.bind ?_ (Le.sumK fun _ => ?_) | with_reducible refine Le.bind ?_ (fun _ => ?_) | with_reducible refine Le.cond ?_ ?_ | with_reducible refine Le.letM (fun _ => ?_) | with_reducible refine Le.join (fun _ => ?_) (fun _ _ hj => ?_) | with_reducible exact hj _)

def protocol_other_f (k_ : Nat) (player_0 : Int) : Option (Int) :=
  letM (isub .i64 3 player_0) fun t1 =>
  some t1

theorem protocol_other_f_le {k_ : Nat} {player_0 : Int} : Le (protocol_other_f k_ player_0) (protocol_other_m player_0) := by
  unfold protocol_other_f protocol_other_m
  repeat' (first | with_reducible exact Le.refl _ | with_reducible refine Le.bind ?_ (Le.sumK fun _ => ?_) | with_reducible refine Le.bind ?_ (fun _ => ?_) | with_reducible refine Le.cond ?_ ?_ | with_reducible refine Le.letM (fun _ => ?_) | with_reducible refine Le.join (fun _ => ?_) (fun _ _ hj => ?_) | with_reducible exact hj _)

def slices_Index_api_Move_api_Move_l1f (k_ : Nat) (s_0 : (List T_api_Move)) (v_1 : T_api_Move) (s7 : Int) : Option (Sum ((Sum (Int) (Unit))) (Int)) :=
  bif decide (s7 < (s_0.length : Int)) then
    Option.bind (idxM s_0 s7) fun t10 =>
    bif decide (v_1 = t10) then
      some (Sum.inl (Sum.inl s7))
    else
      some (Sum.inr (iadd .i64 s7 1))
  else
    some (Sum.inl (Sum.inr ()))

theorem slices_Index_api_Move_api_Move_l1f_le {k_ : Nat} {s_0 : (List T_api_Move)} {v_1 : T_api_Move} {s7 : Int} : Le (slices_Index_api_Move_api_Move_l1f k_ s_0 v_1 s7) (slices_Index_api_Move_api_Move_l1 s_0 v_1 s7) := by
  unfold slices_Index_api_Move_api_Move_l1f slices_Index_api_Move_api_Move_l1
  repeat' (first | with_reducible exact Le.refl _ | with_reducible refine Le.bind ?_ (Le.sumK fun _ => ?_) | with_reducible refine Le.bind ?_ (fun _ => ?_) | with_reducible refine Le.cond ?_ ?_ | with_reducible refine Le.letM (fun _ => ?_) | with_reducible refine Le.join (fun _ => ?_) (fun _ _ hj => ?_) | with_reducible exact hj _)

def slices_Index_api_Move_api_Move_f (k_ : Nat) (s_0 : (List T_api_Move)) (v_1 : T_api_Move) : Option (Int) :=
  Option.bind (loopF k_ (slices_Index_api_Move_api_Move_l1f k_ s_0 v_1) 0) (sumK (fun a : Int => some a) fun q12 : Unit =>
    some (-1))

theorem slices_Index_api_Move_api_Move_f_le {k_ : Nat} {s_0 : (List T_api_Move)} {v_1 : T_api_Move} : Le (slices_Index_api_Move_api_Move_f k_ s_0 v_1) (slices_Index_api_Move_api_Move_m s_0 v_1) := by
  unfold slices_Index_api_Move_api_Move_f slices_Index_api_Move_api_Move_m
  repeat' (first | with_reducible exact Le.refl _ | with_reducible refine Le.loop (fun _ => slices_Index_api_Move_api_Move_l1f_le) | with_reducible refine Le.bind ?_ (Le.sumK fun _ => ?_) | with_reducible refine Le.bind ?_ (fun _ => ?_) | with_reducible refine Le.cond ?_ ?_ | with_reducible refine Le.letM (fun _ => ?_) | with_reducible refine Le.join (fun _ => ?_) (fun _ _ hj => ?_) | with_reducible exact hj _)

def slices_Contains_api_Move_api_Move_f (k_ : Nat) (s_0 : (List T_api_Move)) (v_1 : T_api_Move) : Option (Bool) :=
  Option.bind (slices_Index_api_Move_api_Move_f k_ s_0 v_1) fun t2 =>
  letM (decide (t2 ≥ 0)) fun t3 =>
  some t3

theorem slices_Contains_api_Move_api_Move_f_le {k_ : Nat} {s_0 : (List T_api_Move)} {v_1 : T_api_Move} : Le (slices_Contains_api_Move_api_Move_f k_ s_0 v_1) (slices_Contains_api_Move_api_Move_m s_0 v_1) := by
  unfold slices_Contains_api_Move_api_Move_f slices_Contains_api_Move_api_Move_m
  repeat' (first | with_reducible exact Le.refl _ | with_reducible refine slices_Index_api_Move_api_Move_f_le | with_reducible refine Le.bind ?_ (Le.sumK fun _ => ?_) | with_reducible refine Le.bind ?_ (fun _ => ?_) | with_reducible refine Le.cond ?_ ?_ | with_reducible refine Le.letM (fun _ => ?_) | with_reducible refine Le.join (fun _ => ?_) (fun _ _ hj => ?_) | with_reducible exact hj _)

def protocol_table_moved_l1f (k_ : Nat) (t_0 : T_protocol_table) (node_2 : Int) (s11 : Int) : Option (Sum (Bool) (Int)) :=
  Option.bind (idxM t_0.d.Moves s11) fun t13 =>
  joinM (fun j16 : Unit =>
      bif s11 == 0 then
        some (Sum.inl false)
      else
        some (Sum.inr t13.Target)) fun k18 =>
  bif t13.By == 1 then
    bif t13.Node == node_2 then
      some (Sum.inl true)
    else
      k18 ()
  else
    k18 ()

theorem protocol_table_moved_l1f_le {k_ : Nat} {t_0 : T_protocol_table} {node_2 : Int} {s11 : Int} : Le (protocol_table_moved_l1f k_ t_0 node_2 s11) (protocol_table_moved_l1 t_0 node_2 s11) := by
  unfold protocol_table_moved_l1f protocol_table_moved_l1
  repeat' (first | with_reducible exact Le.refl _ | with_reducible refine Le.bind ?_ (Le.sumK fun _ => ?_) | with_reducible refine Le.bind ?_ (fun _ => ?_) | with_reducible refine Le.cond ?_ ?_ | with_reducible refine Le.letM (fun _ => ?_) | with_reducible refine Le.join (fun _ => ?_) (fun _ _ hj => ?_) | with_reducible exact hj _)

def protocol_table_moved_f (k_ : Nat) (t_0 : T_protocol_table) (move_1 : Int) (node_2 : Int) : Option (Bool) :=
  Option.bind (loopF k_ (protocol_table_moved_l1f k_ t_0 node_2) move_1) (fun a : Bool => some a)

theorem protocol_table_moved_f_le {k_ : Nat} {t_0 : T_protocol_table} {move_1 : Int} {node_2 : Int} : Le (protocol_table_moved_f k_ t_0 move_1 node_2) (protocol_table_moved_m t_0 move_1 node_2) := by
  unfold protocol_table_moved_f protocol_table_moved_m
  repeat' (first | with_reducible exact Le.refl _ | with_reducible refine Le.loop (fun _ => protocol_table_moved_l1f_le) | with_reducible refine Le.bind ?_ (Le.sumK fun _ => ?_) | with_reducible refine Le.bind ?_ (fun _ => ?_) | with_reducible refine Le.cond ?_ ?_ | with_reducible refine Le.letM (fun _ => ?_) | with_reducible refine Le.join (fun _ => ?_) (fun _ _ hj => ?_) | with_reducible exact hj _)

def protocol_table_legal_l2f (k_ : Nat) (t_0 : T_protocol_table) (behind2 : Int) (s86 : Int × (List T_api_Move)) (t89 : T_api_Move) (s106 : Int × (List T_api_Move)) : Option (Sum ((List T_api_Move)) (Int × (List T_api_Move))) :=
  bif decide (s106.1 < (t_0.d.Graph.L.length : Int)) then
    Option.bind (idxM t_0.d.Graph.L s106.1) fun t109 =>
    bif t109.To != t89.Node then
      some (Sum.inr (iadd .i64 s106.1 1, s106.2))
    else
      Option.bind (slices_Contains_api_Move_api_Move_f k_ t_0.d.Moves (T_api_Move.mk behind2 2 t109.From s86.1)) fun t112 =>
      bif t112 then
        some (Sum.inr (iadd .i64 s106.1 1, s106.2))
      else
        bif behind2 == 1 then
          Option.bind (protocol_table_moved_f k_ t_0 s86.1 t109.From) fun t113 =>
          bif t113 then
            some (Sum.inr (iadd .i64 s106.1 1, s106.2))
          else
            Option.bind (appM 32 s106.2 [(T_api_Move.mk behind2 2 t109.From s86.1)]) fun out115 =>
            some (Sum.inr (iadd .i64 s106.1 1, out115))
        else
          Option.bind (appM 32 s106.2 [(T_api_Move.mk behind2 2 t109.From s86.1)]) fun out117 =>
          some (Sum.inr (iadd .i64 s106.1 1, out117))
  else
    some (Sum.inl s106.2)

theorem protocol_table_legal_l2f_le {k_ : Nat} {t_0 : T_protocol_table} {behind2 : Int} {s86 : Int × (List T_api_Move)} {t89 : T_api_Move} {s106 : Int × (List T_api_Move)} : Le (protocol_table_legal_l2f k_ t_0 behind2 s86 t89 s106) (protocol_table_legal_l2 t_0 behind2 s86 t89 s106) := by
  unfold protocol_table_legal_l2f protocol_table_legal_l2
  repeat' (first | with_reducible exact Le.refl _ | with_reducible refine slices_Contains_api_Move_api_Move_f_le | with_reducible refine protocol_table_moved_f_le | with_reducible refine Le.bind ?_ (Le.sumK fun _ => ?_) | with_reducible refine Le.bind ?_ (fun _ => ?_) | with_reducible refine Le.cond ?_ ?_ | with_reducible refine Le.letM (fun _ => ?_) | with_reducible refine Le.join (fun _ => ?_) (fun _ _ hj => ?_) | with_reducible exact hj _)

def protocol_table_legal_l1f (k_ : Nat) (t_0 : T_protocol_table) (behind2 : Int) (s86 : Int × (List T_api_Move)) : Option (Sum ((List T_api_Move)) (Int × (List T_api_Move))) :=
  bif decide (s86.1 < (t_0.d.Moves.length : Int)) then
    Option.bind (idxM t_0.d.Moves s86.1) fun t89 =>
    Option.bind (idxM t_0.leading s86.1) fun t91 =>
    bif !t91 then
      some (Sum.inr (iadd .i64 s86.1 1, s86.2))
    else
      bif t89.By != t_0.leader then
        some (Sum.inr (iadd .i64 s86.1 1, s86.2))
      else
        Option.bind (loopF k_ (protocol_table_legal_l2f k_ t_0 behind2 s86 t89) (0, s86.2)) fun q119 : (List T_api_Move) =>
        some (Sum.inr (iadd .i64 s86.1 1, q119))
  else
    some (Sum.inl s86.2)

theorem protocol_table_legal_l1f_le {k_ : Nat} {t_0 : T_protocol_table} {behind2 : Int} {s86 : Int × (List T_api_Move)} : Le (protocol_table_legal_l1f k_ t_0 behind2 s86) (protocol_table_legal_l1 t_0 behind2 s86) := by
  unfold protocol_table_legal_l1f protocol_table_legal_l1
  repeat' (first | with_reducible exact Le.refl _ | with_reducible refine Le.loop (fun _ => protocol_table_legal_l2f_le) | with_reducible refine Le.bind ?_ (Le.sumK fun _ => ?_) | with_reducible refine Le.bind ?_ (fun _ => ?_) | with_reducible refine Le.cond ?_ ?_ | with_reducible refine Le.letM (fun _ => ?_) | with_reducible refine Le.join (fun _ => ?_) (fun _ _ hj => ?_) | with_reducible exact hj _)

def protocol_table_legal_f (k_ : Nat) (t_0 : T_protocol_table) : Option (List T_api_Move) :=
  Option.bind (protocol_other_f k_ t_0.leader) fun behind2 =>
  Option.bind (loopF k_ (protocol_table_legal_l1f k_ t_0 behind2) (0, [])) fun q121 : (List T_api_Move) =>
  some q121

theorem protocol_table_legal_f_le {k_ : Nat} {t_0 : T_protocol_table} : Le (protocol_table_legal_f k_ t_0) (protocol_table_legal_m t_0) := by
  unfold protocol_table_legal_f protocol_table_legal_m
  repeat' (first | with_reducible exact Le.refl _ | with_reducible refine protocol_other_f_le | with_reducible refine Le.loop (fun _ => protocol_table_legal_l1f_le) | with_reducible refine Le.bind ?_ (Le.sumK fun _ => ?_) | with_reducible refine Le.bind ?_ (fun _ => ?_) | with_reducible refine Le.cond ?_ ?_ | with_reducible refine Le.letM (fun _ => ?_) | with_reducible refine Le.join (fun _ => ?_) (fun _ _ hj => ?_) | with_reducible exact hj _)

def protocol_table_end_l1f (k_ : Nat) (t_0 : T_protocol_table) (s10 : Int × Int) : Option (Sum (Int) (Int × Int)) :=
  bif decide (s10.2 < (t_0.d.Moves.length : Int)) then
    Option.bind (idxM t_0.d.Moves s10.2) fun t13 =>
    Option.bind (protocol_other_f k_ t_0.leader) fun t15 =>
    bif t13.By == t15 then
      letM (iadd .i64 s10.1 1) fun made17 =>
      some (Sum.inr (made17, iadd .i64 s10.2 1))
    else
      some (Sum.inr (s10.1, iadd .i64 s10.2 1))
  else
    some (Sum.inl s10.1)

theorem protocol_table_end_l1f_le {k_ : Nat} {t_0 : T_protocol_table} {s10 : Int × Int} : Le (protocol_table_end_l1f k_ t_0 s10) (protocol_table_end_l1 t_0 s10) := by
  unfold protocol_table_end_l1f protocol_table_end_l1
  repeat' (first | with_reducible exact Le.refl _ | with_reducible refine protocol_other_f_le | with_reducible refine Le.bind ?_ (Le.sumK fun _ => ?_) | with_reducible refine Le.bind ?_ (fun _ => ?_) | with_reducible refine Le.cond ?_ ?_ | with_reducible refine Le.letM (fun _ => ?_) | with_reducible refine Le.join (fun _ => ?_) (fun _ _ hj => ?_) | with_reducible exact hj _)

def protocol_table_end_f (k_ : Nat) (t_0 : T_protocol_table) : Option (T_api_Outcome) :=
  Option.bind (loopF k_ (protocol_table_end_l1f k_ t_0) (0, 0)) fun q18 : Int =>
  Option.bind (idxM t_0.d.Moves (isub .i64 (t_0.d.Moves.length : Int) 1)) fun t20 =>
  bif t20.Kind == 4 then
    Option.bind (protocol_other_f k_ t20.By) fun t23 =>
    some (T_api_Outcome.mk t23 3)
  else
    letM (decide ((t_0.d.Moves.length : Int) ≥ 200)) fun t24 =>
    bif t24 then
      some (T_api_Outcome.mk t_0.leader 4)
    else
      Option.bind (protocol_other_f k_ t_0.leader) fun t26 =>
      Option.bind (idxM [t_0.d.Limits.i0, t_0.d.Limits.i1] (isub .i64 t26 1)) fun t27 =>
      letM (decide (q18 ≥ t27)) fun t28 =>
      bif t28 then
        some (T_api_Outcome.mk t_0.leader 2)
      else
        Option.bind (protocol_table_legal_f k_ t_0) fun t30 =>
        letM ((t30.length : Int) == 0) fun t32 =>
        bif t32 then
          some (T_api_Outcome.mk t_0.leader 1)
        else
          some (T_api_Outcome.mk 0 0)

theorem protocol_table_end_f_le {k_ : Nat} {t_0 : T_protocol_table} : Le (protocol_table_end_f k_ t_0) (protocol_table_end_m t_0) := by
  unfold protocol_table_end_f protocol_table_end_m
  repeat' (first | with_reducible exact Le.refl _ | with_reducible refine protocol_other_f_le | with_reducible refine protocol_table_legal_f_le | with_reducible refine Le.loop (fun _ => protocol_table_end_l1f_le) | with_reducible refine Le.bind ?_ (Le.sumK fun _ => ?_) | with_reducible refine Le.bind ?_ (fun _ => ?_) | with_reducible refine Le.cond ?_ ?_ | with_reducible refine Le.letM (fun _ => ?_) | with_reducible refine Le.join (fun _ => ?_) (fun _ _ hj => ?_) | with_reducible exact hj _)

def protocol_End_f (k_ : Nat) (d_0 : T_api_Dialogue) : Option (T_api_Outcome) :=
  bif (d_0.Moves.length : Int) == 0 then
    some (T_api_Outcome.mk 0 0)
  else
    Option.bind (protocol_of_f k_ d_0) fun t4 =>
    Option.bind (protocol_table_end_f k_ t4) fun t5 =>
    some t5

theorem protocol_End_f_le {k_ : Nat} {d_0 : T_api_Dialogue} : Le (protocol_End_f k_ d_0) (protocol_End_m d_0) := by
  unfold protocol_End_f protocol_End_m
  repeat' (first | with_reducible exact Le.refl _ | with_reducible refine protocol_of_f_le | with_reducible refine protocol_table_end_f_le | with_reducible refine Le.bind ?_ (Le.sumK fun _ => ?_) | with_reducible refine Le.bind ?_ (fun _ => ?_) | with_reducible refine Le.cond ?_ ?_ | with_reducible refine Le.letM (fun _ => ?_) | with_reducible refine Le.join (fun _ => ?_) (fun _ _ hj => ?_) | with_reducible exact hj _)

def protocol_Turn_f (k_ : Nat) (d_0 : T_api_Dialogue) : Option (Int) :=
  bif (d_0.Moves.length : Int) == 0 then
    some 0
  else
    Option.bind (protocol_End_f k_ d_0) fun t2 =>
    bif t2.Reason != 0 then
      some 0
    else
      Option.bind (protocol_of_f k_ d_0) fun t4 =>
      Option.bind (protocol_other_f k_ t4.leader) fun t5 =>
      some t5

theorem protocol_Turn_f_le {k_ : Nat} {d_0 : T_api_Dialogue} : Le (protocol_Turn_f k_ d_0) (protocol_Turn_m d_0) := by
  unfold protocol_Turn_f protocol_Turn_m
  repeat' (first | with_reducible exact Le.refl _ | with_reducible refine protocol_End_f_le | with_reducible refine protocol_of_f_le | with_reducible refine protocol_other_f_le | with_reducible refine Le.bind ?_ (Le.sumK fun _ => ?_) | with_reducible refine Le.bind ?_ (fun _ => ?_) | with_reducible refine Le.cond ?_ ?_ | with_reducible refine Le.letM (fun _ => ?_) | with_reducible refine Le.join (fun _ => ?_) (fun _ _ hj => ?_) | with_reducible exact hj _)

def protocol_table_judged_f (k_ : Nat) (t_0 : T_protocol_table) (m_1 : T_api_Move) : Option (T_api_Move × Int) :=
  joinM (fun j9 : Unit =>
      Option.bind (protocol_other_f k_ t_0.leader) fun t12 =>
      bif m_1.By != t12 then
        some (m_1, 8)
      else
        bif m_1.Kind == 4 then
          some ((T_api_Move.mk m_1.By m_1.Kind 0 0), 0)
        else
          joinM (fun j16 : Unit =>
              bif m_1.Kind == 2 then
                Option.bind (protocol_table_legal_f k_ t_0) fun t20 =>
                Option.bind (slices_Contains_api_Move_api_Move_f k_ t20 m_1) fun t22 =>
                bif !t22 then
                  some (m_1, 9)
                else
                  some (m_1, 0)
              else
                Option.bind (idxM t_0.d.Moves m_1.Target) fun t24 =>
                bif t24.By != m_1.By then
                  some (m_1, 6)
                else
                  bif t24.Kind != 2 then
                    some (m_1, 6)
                  else
                    Option.bind (idxM t_0.status m_1.Target) fun t26 =>
                    bif t26 == 0 then
                      some (m_1, 6)
                    else
                      some ((T_api_Move.mk m_1.By m_1.Kind 0 m_1.Target), 0)) fun k18 =>
          bif decide (m_1.Target < 0) then
            some (m_1, 1)
          else
            bif decide (m_1.Target ≥ (t_0.d.Moves.length : Int)) then
              some (m_1, 1)
            else
              bif m_1.Kind == 2 then
                bif decide (m_1.Node < 0) then
                  some (m_1, 1)
                else
                  bif decide (m_1.Node ≥ t_0.d.Graph.N) then
                    some (m_1, 1)
                  else
                    k18 ()
              else
                k18 ()) fun k11 =>
  bif m_1.Kind == 2 then
    bif m_1.Kind == 2 then
      k11 ()
    else
      some (m_1, 4)
  else
    bif m_1.Kind == 3 then
      bif m_1.Kind == 3 then
        k11 ()
      else
        some (m_1, 4)
    else
      bif m_1.Kind == 4 then
        k11 ()
      else
        some (m_1, 4)

theorem protocol_table_judged_f_le {k_ : Nat} {t_0 : T_protocol_table} {m_1 : T_api_Move} : Le (protocol_table_judged_f k_ t_0 m_1) (protocol_table_judged_m t_0 m_1) := by
  unfold protocol_table_judged_f protocol_table_judged_m
  repeat' (first | with_reducible exact Le.refl _ | with_reducible refine protocol_other_f_le | with_reducible refine protocol_table_legal_f_le | with_reducible refine slices_Contains_api_Move_api_Move_f_le | with_reducible refine Le.bind ?_ (Le.sumK fun _ => ?_) | with_reducible refine Le.bind ?_ (fun _ => ?_) | with_reducible refine Le.cond ?_ ?_ | with_reducible refine Le.letM (fun _ => ?_) | with_reducible refine Le.join (fun _ => ?_) (fun _ _ hj => ?_) | with_reducible exact hj _)

def slices_Clone_api_Pair_api_Pair_f (k_ : Nat) (d_0 : List T_api_Pair) : Option (List T_api_Pair) := appM 16 [] d_0

theorem slices_Clone_api_Pair_api_Pair_f_le {k_ : Nat} {d_0 : List T_api_Pair} : Le (slices_Clone_api_Pair_api_Pair_f k_ d_0) (slices_Clone_api_Pair_api_Pair_m d_0) := by
  unfold slices_Clone_api_Pair_api_Pair_f slices_Clone_api_Pair_api_Pair_m
  repeat' (first | with_reducible exact Le.refl _ | with_reducible refine Le.bind ?_ (Le.sumK fun _ => ?_) | with_reducible refine Le.bind ?_ (fun _ => ?_) | with_reducible refine Le.cond ?_ ?_ | with_reducible refine Le.letM (fun _ => ?_) | with_reducible refine Le.join (fun _ => ?_) (fun _ _ hj => ?_) | with_reducible exact hj _)

def slices_Clone_api_Move_api_Move_f (k_ : Nat) (d_0 : List T_api_Move) : Option (List T_api_Move) := appM 32 [] d_0

theorem slices_Clone_api_Move_api_Move_f_le {k_ : Nat} {d_0 : List T_api_Move} : Le (slices_Clone_api_Move_api_Move_f k_ d_0) (slices_Clone_api_Move_api_Move_m d_0) := by
  unfold slices_Clone_api_Move_api_Move_f slices_Clone_api_Move_api_Move_m
  repeat' (first | with_reducible exact Le.refl _ | with_reducible refine Le.bind ?_ (Le.sumK fun _ => ?_) | with_reducible refine Le.bind ?_ (fun _ => ?_) | with_reducible refine Le.cond ?_ ?_ | with_reducible refine Le.letM (fun _ => ?_) | with_reducible refine Le.join (fun _ => ?_) (fun _ _ hj => ?_) | with_reducible exact hj _)

def protocol_Apply_f (k_ : Nat) (d_0 : T_api_Dialogue) (m_1 : T_api_Move) : Option (T_api_Dialogue × Int) :=
  Option.bind (protocol_Turn_f k_ d_0) fun t4 =>
  bif t4 == 0 then
    some ((T_api_Dialogue.mk (T_api_Graph.mk 0 []) 0 (T_arr2_3.mk 0 0) []), 7)
  else
    Option.bind (protocol_of_f k_ d_0) fun t7 =>
    Option.bind (protocol_table_judged_f k_ t7 m_1) fun t8 =>
    bif t8.2 != 0 then
      some ((T_api_Dialogue.mk (T_api_Graph.mk 0 []) 0 (T_arr2_3.mk 0 0) []), t8.2)
    else
      Option.bind (slices_Clone_api_Pair_api_Pair_f k_ d_0.Graph.L) fun t12 =>
      Option.bind (slices_Clone_api_Move_api_Move_f k_ d_0.Moves) fun t15 =>
      Option.bind (appM 32 t15 [t8.1]) fun t17 =>
      some ((T_api_Dialogue.mk (T_api_Graph.mk d_0.Graph.N t12) d_0.Root d_0.Limits t17), 0)

theorem protocol_Apply_f_le {k_ : Nat} {d_0 : T_api_Dialogue} {m_1 : T_api_Move} : Le (protocol_Apply_f k_ d_0 m_1) (protocol_Apply_m d_0 m_1) := by
  unfold protocol_Apply_f protocol_Apply_m
  repeat' (first | with_reducible exact Le.refl _ | with_reducible refine protocol_Turn_f_le | with_reducible refine protocol_of_f_le | with_reducible refine protocol_table_judged_f_le | with_reducible refine slices_Clone_api_Pair_api_Pair_f_le | with_reducible refine slices_Clone_api_Move_api_Move_f_le | with_reducible refine Le.bind ?_ (Le.sumK fun _ => ?_) | with_reducible refine Le.bind ?_ (fun _ => ?_) | with_reducible refine Le.cond ?_ ?_ | with_reducible refine Le.letM (fun _ => ?_) | with_reducible refine Le.join (fun _ => ?_) (fun _ _ hj => ?_) | with_reducible exact hj _)

def keep_Ints_l1f (k_ : Nat) (a__0 : (List Int)) (b_1 : (List Int)) (s8 : Int) : Option (Sum ((Sum (Bool) (Unit))) (Int)) :=
  bif decide (s8 < (a__0.length : Int)) then
    Option.bind (idxM a__0 s8) fun t11 =>
    Option.bind (idxM b_1 s8) fun t12 =>
    bif t11 != t12 then
      some (Sum.inl (Sum.inl false))
    else
      some (Sum.inr (iadd .i64 s8 1))
  else
    some (Sum.inl (Sum.inr ()))

theorem keep_Ints_l1f_le {k_ : Nat} {a__0 : (List Int)} {b_1 : (List Int)} {s8 : Int} : Le (keep_Ints_l1f k_ a__0 b_1 s8) (keep_Ints_l1 a__0 b_1 s8) := by
  unfold keep_Ints_l1f keep_Ints_l1
  repeat' (first | with_reducible exact Le.refl _ | with_reducible refine Le.bind ?_ (Le.sumK fun _ => ?_) | with_reducible refine Le.bind ?_ (fun _ => ?_) | with_reducible refine Le.cond ?_ ?_ | with_reducible refine Le.letM (fun _ => ?_) | with_reducible refine Le.join (fun _ => ?_) (fun _ _ hj => ?_) | with_reducible exact hj _)

def keep_Ints_f (k_ : Nat) (a__0 : (List Int)) (b_1 : (List Int)) : Option (Bool) :=
  bif (a__0.length : Int) != (b_1.length : Int) then
    some false
  else
    Option.bind (loopF k_ (keep_Ints_l1f k_ a__0 b_1) 0) (sumK (fun a : Bool => some a) fun q14 : Unit =>
      some true)

theorem keep_Ints_f_le {k_ : Nat} {a__0 : (List Int)} {b_1 : (List Int)} : Le (keep_Ints_f k_ a__0 b_1) (keep_Ints_m a__0 b_1) := by
  unfold keep_Ints_f keep_Ints_m
  repeat' (first | with_reducible exact Le.refl _ | with_reducible refine Le.loop (fun _ => keep_Ints_l1f_le) | with_reducible refine Le.bind ?_ (Le.sumK fun _ => ?_) | with_reducible refine Le.bind ?_ (fun _ => ?_) | with_reducible refine Le.cond ?_ ?_ | with_reducible refine Le.letM (fun _ => ?_) | with_reducible refine Le.join (fun _ => ?_) (fun _ _ hj => ?_) | with_reducible exact hj _)

def cmp_isNaN_int_f (k_ : Nat) (x_0 : Int) : Option (Bool) :=
  some (x_0 != x_0)

theorem cmp_isNaN_int_f_le {k_ : Nat} {x_0 : Int} : Le (cmp_isNaN_int_f k_ x_0) (cmp_isNaN_int_m x_0) := by
  unfold cmp_isNaN_int_f cmp_isNaN_int_m
  repeat' (first | with_reducible exact Le.refl _ | with_reducible refine Le.bind ?_ (Le.sumK fun _ => ?_) | with_reducible refine Le.bind ?_ (fun _ => ?_) | with_reducible refine Le.cond ?_ ?_ | with_reducible refine Le.letM (fun _ => ?_) | with_reducible refine Le.join (fun _ => ?_) (fun _ _ hj => ?_) | with_reducible exact hj _)

def cmp_Compare_int_f (k_ : Nat) (x_0 : Int) (y_1 : Int) : Option (Int) :=
  Option.bind (cmp_isNaN_int_f k_ x_0) fun xNaN1 =>
  Option.bind (cmp_isNaN_int_f k_ y_1) fun yNaN2 =>
  bif xNaN1 then
    bif yNaN2 then
      some 0
    else
      some (-1)
  else
    bif yNaN2 then
      some 1
    else
      bif decide (x_0 < y_1) then
        some (-1)
      else
        bif decide (x_0 > y_1) then
          some 1
        else
          some 0

theorem cmp_Compare_int_f_le {k_ : Nat} {x_0 : Int} {y_1 : Int} : Le (cmp_Compare_int_f k_ x_0 y_1) (cmp_Compare_int_m x_0 y_1) := by
  unfold cmp_Compare_int_f cmp_Compare_int_m
  repeat' (first | with_reducible exact Le.refl _ | with_reducible refine cmp_isNaN_int_f_le | with_reducible refine Le.bind ?_ (Le.sumK fun _ => ?_) | with_reducible refine Le.bind ?_ (fun _ => ?_) | with_reducible refine Le.cond ?_ ?_ | with_reducible refine Le.letM (fun _ => ?_) | with_reducible refine Le.join (fun _ => ?_) (fun _ _ hj => ?_) | with_reducible exact hj _)

def cmp_Or_int_l1f (k_ : Nat) (vals_0 : (List Int)) (s6 : Int) : Option (Sum ((Sum (Int) (Unit))) (Int)) :=
  bif decide (s6 < (vals_0.length : Int)) then
    Option.bind (idxM vals_0 s6) fun val9 =>
    bif val9 != 0 then
      some (Sum.inl (Sum.inl val9))
    else
      some (Sum.inr (iadd .i64 s6 1))
  else
    some (Sum.inl (Sum.inr ()))

theorem cmp_Or_int_l1f_le {k_ : Nat} {vals_0 : (List Int)} {s6 : Int} : Le (cmp_Or_int_l1f k_ vals_0 s6) (cmp_Or_int_l1 vals_0 s6) := by
  unfold cmp_Or_int_l1f cmp_Or_int_l1
  repeat' (first | with_reducible exact Le.refl _ | with_reducible refine Le.bind ?_ (Le.sumK fun _ => ?_) | with_reducible refine Le.bind ?_ (fun _ => ?_) | with_reducible refine Le.cond ?_ ?_ | with_reducible refine Le.letM (fun _ => ?_) | with_reducible refine Le.join (fun _ => ?_) (fun _ _ hj => ?_) | with_reducible exact hj _)

def cmp_Or_int_f (k_ : Nat) (vals_0 : (List Int)) : Option (Int) :=
  Option.bind (loopF k_ (cmp_Or_int_l1f k_ vals_0) 0) (sumK (fun a : Int => some a) fun q11 : Unit =>
    some 0)

theorem cmp_Or_int_f_le {k_ : Nat} {vals_0 : (List Int)} : Le (cmp_Or_int_f k_ vals_0) (cmp_Or_int_m vals_0) := by
  unfold cmp_Or_int_f cmp_Or_int_m
  repeat' (first | with_reducible exact Le.refl _ | with_reducible refine Le.loop (fun _ => cmp_Or_int_l1f_le) | with_reducible refine Le.bind ?_ (Le.sumK fun _ => ?_) | with_reducible refine Le.bind ?_ (fun _ => ?_) | with_reducible refine Le.cond ?_ ?_ | with_reducible refine Le.letM (fun _ => ?_) | with_reducible refine Le.join (fun _ => ?_) (fun _ _ hj => ?_) | with_reducible exact hj _)

def graph_compare_f (k_ : Nat) (a__0 : T_api_Pair) (b_1 : T_api_Pair) : Option (Int) :=
  Option.bind (cmp_Compare_int_f k_ a__0.From b_1.From) fun t3 =>
  Option.bind (cmp_Compare_int_f k_ a__0.To b_1.To) fun t4 =>
  Option.bind (cmp_Or_int_f k_ [t3, t4]) fun t5 =>
  some t5

theorem graph_compare_f_le {k_ : Nat} {a__0 : T_api_Pair} {b_1 : T_api_Pair} : Le (graph_compare_f k_ a__0 b_1) (graph_compare_m a__0 b_1) := by
  unfold graph_compare_f graph_compare_m
  repeat' (first | with_reducible exact Le.refl _ | with_reducible refine cmp_Compare_int_f_le | with_reducible refine cmp_Or_int_f_le | with_reducible refine Le.bind ?_ (Le.sumK fun _ => ?_) | with_reducible refine Le.bind ?_ (fun _ => ?_) | with_reducible refine Le.cond ?_ ?_ | with_reducible refine Le.letM (fun _ => ?_) | with_reducible refine Le.join (fun _ => ?_) (fun _ _ hj => ?_) | with_reducible exact hj _)

def graph_Validate_l1f (k_ : Nat) (g_0 : T_api_Graph) (s12 : Int) : Option (Sum ((Sum (Int) (Unit))) (Int)) :=
  bif decide (s12 < (g_0.L.length : Int)) then
    Option.bind (idxM g_0.L s12) fun t15 =>
    bif decide ((imin t15.From t15.To) < 0) then
      some (Sum.inl (Sum.inl 1))
    else
      bif decide ((imax t15.From t15.To) ≥ g_0.N) then
        some (Sum.inl (Sum.inl 1))
      else
        bif decide (s12 > 0) then
          Option.bind (idxM g_0.L (isub .i64 s12 1)) fun t18 =>
          Option.bind (graph_compare_f k_ t18 t15) fun t19 =>
          bif decide (t19 ≥ 0) then
            some (Sum.inl (Sum.inl 8))
          else
            some (Sum.inr (iadd .i64 s12 1))
        else
          some (Sum.inr (iadd .i64 s12 1))
  else
    some (Sum.inl (Sum.inr ()))

theorem graph_Validate_l1f_le {k_ : Nat} {g_0 : T_api_Graph} {s12 : Int} : Le (graph_Validate_l1f k_ g_0 s12) (graph_Validate_l1 g_0 s12) := by
  unfold graph_Validate_l1f graph_Validate_l1
  repeat' (first | with_reducible exact Le.refl _ | with_reducible refine graph_compare_f_le | with_reducible refine Le.bind ?_ (Le.sumK fun _ => ?_) | with_reducible refine Le.bind ?_ (fun _ => ?_) | with_reducible refine Le.cond ?_ ?_ | with_reducible refine Le.letM (fun _ => ?_) | with_reducible refine Le.join (fun _ => ?_) (fun _ _ hj => ?_) | with_reducible exact hj _)

def graph_Validate_f (k_ : Nat) (g_0 : T_api_Graph) : Option (Int) :=
  bif decide (g_0.N < 0) then
    some 1
  else
    bif decide (g_0.N > 40) then
      some 1
    else
      Option.bind (loopF k_ (graph_Validate_l1f k_ g_0) 0) (sumK (fun a : Int => some a) fun q21 : Unit =>
        some 0)

theorem graph_Validate_f_le {k_ : Nat} {g_0 : T_api_Graph} : Le (graph_Validate_f k_ g_0) (graph_Validate_m g_0) := by
  unfold graph_Validate_f graph_Validate_m
  repeat' (first | with_reducible exact Le.refl _ | with_reducible refine Le.loop (fun _ => graph_Validate_l1f_le) | with_reducible refine Le.bind ?_ (Le.sumK fun _ => ?_) | with_reducible refine Le.bind ?_ (fun _ => ?_) | with_reducible refine Le.cond ?_ ?_ | with_reducible refine Le.letM (fun _ => ?_) | with_reducible refine Le.join (fun _ => ?_) (fun _ _ hj => ?_) | with_reducible exact hj _)

def protocol_New_f (k_ : Nat) (g_0 : T_api_Graph) (root_1 : Int) (limits_2 : T_arr2_3) : Option (T_api_Dialogue × Int) :=
  Option.bind (graph_Validate_f k_ g_0) fun e4 =>
  bif e4 != 0 then
    some ((T_api_Dialogue.mk (T_api_Graph.mk 0 []) 0 (T_arr2_3.mk 0 0) []), e4)
  else
    bif decide (root_1 < 0) then
      some ((T_api_Dialogue.mk (T_api_Graph.mk 0 []) 0 (T_arr2_3.mk 0 0) []), 1)
    else
      bif decide (root_1 ≥ g_0.N) then
        some ((T_api_Dialogue.mk (T_api_Graph.mk 0 []) 0 (T_arr2_3.mk 0 0) []), 1)
      else
        bif decide (limits_2.i0 < 1) then
          some ((T_api_Dialogue.mk (T_api_Graph.mk 0 []) 0 (T_arr2_3.mk 0 0) []), 1)
        else
          bif decide (limits_2.i0 > 200) then
            some ((T_api_Dialogue.mk (T_api_Graph.mk 0 []) 0 (T_arr2_3.mk 0 0) []), 1)
          else
            bif decide (limits_2.i1 < 0) then
              some ((T_api_Dialogue.mk (T_api_Graph.mk 0 []) 0 (T_arr2_3.mk 0 0) []), 1)
            else
              bif decide (limits_2.i1 > 200) then
                some ((T_api_Dialogue.mk (T_api_Graph.mk 0 []) 0 (T_arr2_3.mk 0 0) []), 1)
              else
                Option.bind (slices_Clone_api_Pair_api_Pair_f k_ g_0.L) fun t9 =>
                some ((T_api_Dialogue.mk (T_api_Graph.mk g_0.N t9) root_1 limits_2 [(T_api_Move.mk 1 1 root_1 0)]), 0)

theorem protocol_New_f_le {k_ : Nat} {g_0 : T_api_Graph} {root_1 : Int} {limits_2 : T_arr2_3} : Le (protocol_New_f k_ g_0 root_1 limits_2) (protocol_New_m g_0 root_1 limits_2) := by
  unfold protocol_New_f protocol_New_m
  repeat' (first | with_reducible exact Le.refl _ | with_reducible refine graph_Validate_f_le | with_reducible refine slices_Clone_api_Pair_api_Pair_f_le | with_reducible refine Le.bind ?_ (Le.sumK fun _ => ?_) | with_reducible refine Le.bind ?_ (fun _ => ?_) | with_reducible refine Le.cond ?_ ?_ | with_reducible refine Le.letM (fun _ => ?_) | with_reducible refine Le.join (fun _ => ?_) (fun _ _ hj => ?_) | with_reducible exact hj _)

def law27_awake_f (k_ : Nat)  : Option (Bool) :=
  Option.bind (protocol_New_f k_ (T_api_Graph.mk 3 [(T_api_Pair.mk 0 1), (T_api_Pair.mk 1 2)]) 2 (T_arr2_3.mk 9 9)) fun t2 =>
  Option.bind (protocol_Apply_f k_ t2.1 (T_api_Move.mk 2 2 1 0)) fun t4 =>
  Option.bind (protocol_Apply_f k_ t4.1 (T_api_Move.mk 1 2 0 1)) fun t5 =>
  bif t2.2 == 0 then
    bif t4.2 == 0 then
      bif t5.2 == 0 then
        bif (t5.1.Moves.length : Int) == 3 then
          Option.bind (protocol_End_f k_ t5.1) fun t6 =>
          bif decide (t6 = (T_api_Outcome.mk 1 1)) then
            Option.bind (protocol_Status_f k_ t5.1) fun t7 =>
            Option.bind (keep_Ints_f k_ t7 [1, 2, 1]) fun t9 =>
            some t9
          else
            some false
        else
          some false
      else
        some false
    else
      some false
  else
    some false

theorem law27_awake_f_le {k_ : Nat}  : Le (law27_awake_f k_ ) (law27_awake_m ) := by
  unfold law27_awake_f law27_awake_m
  repeat' (first | with_reducible exact Le.refl _ | with_reducible refine protocol_New_f_le | with_reducible refine protocol_Apply_f_le | with_reducible refine protocol_End_f_le | with_reducible refine protocol_Status_f_le | with_reducible refine keep_Ints_f_le | with_reducible refine Le.bind ?_ (Le.sumK fun _ => ?_) | with_reducible refine Le.bind ?_ (fun _ => ?_) | with_reducible refine Le.cond ?_ ?_ | with_reducible refine Le.letM (fun _ => ?_) | with_reducible refine Le.join (fun _ => ?_) (fun _ _ hj => ?_) | with_reducible exact hj _)

end Go.Dc
