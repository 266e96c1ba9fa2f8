/- Part LAW29.F of a proof: lemmas. -/
import Derived.Test.YtnbclhmodbmdhaaLAW29A2
import Derived.Test.YtnbclhmodbmdhaaDcFuel
set_option linter.unusedVariables false
set_option maxRecDepth 100000
namespace Go.Dc

def slices_Clone_int_int_f (k_ : Nat) (d_0 : List Int) : Option (List Int) := appM 8 [] d_0

theorem slices_Clone_int_int_f_le {k_ : Nat} {d_0 : List Int} : Le (slices_Clone_int_int_f k_ d_0) (slices_Clone_int_int_m d_0) := by
  unfold slices_Clone_int_int_f slices_Clone_int_int_m
  repeat' with_reducible (first | exact Le.refl _ | refine Le.bind ?_ (Le.sumK fun _ => ?_) | refine Le.bind ?_ (fun _ => ?_) | refine Le.cond ?_ ?_ | refine Le.letM (fun _ => ?_) | refine Le.join (fun _ => ?_) (fun _ _ hj => ?_) | exact hj _)

def channel_New_f (k_ : Nat) (items_0 : (List Int)) (window_1 : Int) : Option (T_api_Channel × Int) :=
  letM (decide ((items_0.length : Int) > 60)) fun t2 =>
  bif t2 then
    some ((T_api_Channel.mk [] 0 0 [] [] []), 2)
  else
    bif decide (window_1 < 1) then
      some ((T_api_Channel.mk [] 0 0 [] [] []), 1)
    else
      letM (decide (window_1 > 8)) fun t4 =>
      bif t4 then
        some ((T_api_Channel.mk [] 0 0 [] [] []), 1)
      else
        Option.bind (slices_Clone_int_int_f k_ items_0) fun t6 =>
        some ((T_api_Channel.mk t6 window_1 0 [] [] []), 0)

theorem channel_New_f_le {k_ : Nat} {items_0 : (List Int)} {window_1 : Int} : Le (channel_New_f k_ items_0 window_1) (channel_New_m items_0 window_1) := by
  unfold channel_New_f channel_New_m
  repeat' with_reducible (first | exact Le.refl _ | refine slices_Clone_int_int_f_le | refine Le.bind ?_ (Le.sumK fun _ => ?_) | refine Le.bind ?_ (fun _ => ?_) | refine Le.cond ?_ ?_ | refine Le.letM (fun _ => ?_) | refine Le.join (fun _ => ?_) (fun _ _ hj => ?_) | exact hj _)

def slices_Clone_api_Packet_api_Packet_f (k_ : Nat) (d_0 : List T_api_Packet) : Option (List T_api_Packet) := appM 24 [] d_0

theorem slices_Clone_api_Packet_api_Packet_f_le {k_ : Nat} {d_0 : List T_api_Packet} : Le (slices_Clone_api_Packet_api_Packet_f k_ d_0) (slices_Clone_api_Packet_api_Packet_m d_0) := by
  unfold slices_Clone_api_Packet_api_Packet_f slices_Clone_api_Packet_api_Packet_m
  repeat' with_reducible (first | exact Le.refl _ | refine Le.bind ?_ (Le.sumK fun _ => ?_) | refine Le.bind ?_ (fun _ => ?_) | refine Le.cond ?_ ?_ | refine Le.letM (fun _ => ?_) | refine Le.join (fun _ => ?_) (fun _ _ hj => ?_) | exact hj _)

def channel_copied_f (k_ : Nat) (c_0 : T_api_Channel) : Option (T_channel_line) :=
  Option.bind (slices_Clone_int_int_f k_ c_0.Items) fun t2 =>
  Option.bind (slices_Clone_int_int_f k_ c_0.Received) fun t4 =>
  Option.bind (slices_Clone_api_Packet_api_Packet_f k_ c_0.Held) fun t6 =>
  Option.bind (slices_Clone_api_Packet_api_Packet_f k_ c_0.Flight) fun t8 =>
  some (T_channel_line.mk (T_api_Channel.mk t2 c_0.Window c_0.Base t4 t6 t8))

theorem channel_copied_f_le {k_ : Nat} {c_0 : T_api_Channel} : Le (channel_copied_f k_ c_0) (channel_copied_m c_0) := by
  unfold channel_copied_f channel_copied_m
  repeat' with_reducible (first | exact Le.refl _ | refine slices_Clone_int_int_f_le | refine slices_Clone_api_Packet_api_Packet_f_le | refine Le.bind ?_ (Le.sumK fun _ => ?_) | refine Le.bind ?_ (fun _ => ?_) | refine Le.cond ?_ ?_ | refine Le.letM (fun _ => ?_) | refine Le.join (fun _ => ?_) (fun _ _ hj => ?_) | exact hj _)

def slices_Delete_api_Packet_api_Packet_f (k_ : Nat) (s : List T_api_Packet) (i j : Int) : Option (List T_api_Packet) := delM s i j

theorem slices_Delete_api_Packet_api_Packet_f_le {k_ : Nat} {s : List T_api_Packet} {i j : Int} : Le (slices_Delete_api_Packet_api_Packet_f k_ s i j) (slices_Delete_api_Packet_api_Packet_m s i j) := by
  unfold slices_Delete_api_Packet_api_Packet_f slices_Delete_api_Packet_api_Packet_m
  repeat' with_reducible (first | exact Le.refl _ | refine Le.bind ?_ (Le.sumK fun _ => ?_) | refine Le.bind ?_ (fun _ => ?_) | refine Le.cond ?_ ?_ | refine Le.letM (fun _ => ?_) | refine Le.join (fun _ => ?_) (fun _ _ hj => ?_) | exact hj _)

def channel_line_receive_1_f (k_ : Nat) (x_0 : T_api_Packet) (n_1 : Int) : Option (Int) :=
  letM (isub .i64 x_0.Number n_1) fun t2 =>
  some t2

theorem channel_line_receive_1_f_le {k_ : Nat} {x_0 : T_api_Packet} {n_1 : Int} : Le (channel_line_receive_1_f k_ x_0 n_1) (channel_line_receive_1_m x_0 n_1) := by
  unfold channel_line_receive_1_f channel_line_receive_1_m
  repeat' with_reducible (first | exact Le.refl _ | refine Le.bind ?_ (Le.sumK fun _ => ?_) | refine Le.bind ?_ (fun _ => ?_) | refine Le.cond ?_ ?_ | refine Le.letM (fun _ => ?_) | refine Le.join (fun _ => ?_) (fun _ _ hj => ?_) | exact hj _)

def slices_Insert_api_Packet_api_Packet_f (k_ : Nat) (s : List T_api_Packet) (i : Int) (v : List T_api_Packet) : Option (List T_api_Packet) := insM 24 s i v

theorem slices_Insert_api_Packet_api_Packet_f_le {k_ : Nat} {s : List T_api_Packet} {i : Int} {v : List T_api_Packet} : Le (slices_Insert_api_Packet_api_Packet_f k_ s i v) (slices_Insert_api_Packet_api_Packet_m s i v) := by
  unfold slices_Insert_api_Packet_api_Packet_f slices_Insert_api_Packet_api_Packet_m
  repeat' with_reducible (first | exact Le.refl _ | refine Le.bind ?_ (Le.sumK fun _ => ?_) | refine Le.bind ?_ (fun _ => ?_) | refine Le.cond ?_ ?_ | refine Le.letM (fun _ => ?_) | refine Le.join (fun _ => ?_) (fun _ _ hj => ?_) | exact hj _)

def channel_line_full_1_f (k_ : Nat) (l_0 : T_channel_line) : Option (Bool) :=
  letM (decide ((l_0.c.Flight.length : Int) ≥ 200)) fun t1 =>
  some t1

theorem channel_line_full_1_f_le {k_ : Nat} {l_0 : T_channel_line} : Le (channel_line_full_1_f k_ l_0) (channel_line_full_1_m l_0) := by
  unfold channel_line_full_1_f channel_line_full_1_m
  repeat' with_reducible (first | exact Le.refl _ | refine Le.bind ?_ (Le.sumK fun _ => ?_) | refine Le.bind ?_ (fun _ => ?_) | refine Le.cond ?_ ?_ | refine Le.letM (fun _ => ?_) | refine Le.join (fun _ => ?_) (fun _ _ hj => ?_) | exact hj _)

def channel_line_send_f (k_ : Nat) (l_0 : T_channel_line) (n_1 : Int) : Option (Int × T_channel_line) :=
  letM (iadd .i64 l_0.c.Base n_1) fun k1 =>
  joinM (fun j3 : Bool =>
      bif j3 then
        some (1, l_0)
      else
        Option.bind (channel_line_full_1_f k_ l_0) fun t7 =>
        bif t7 then
          some (2, l_0)
        else
          Option.bind (idxM l_0.c.Items k1) fun t9 =>
          Option.bind (appM 24 l_0.c.Flight [(T_api_Packet.mk false k1 t9)]) fun t10 =>
          some (0, (T_channel_line.mk (T_api_Channel.mk l_0.c.Items l_0.c.Window l_0.c.Base l_0.c.Received l_0.c.Held t10)))) fun k5 =>
  bif decide (n_1 < 0) then
    k5 true
  else
    bif decide (n_1 ≥ l_0.c.Window) then
      k5 true
    else
      bif decide (k1 < 0) then
        k5 true
      else
        letM (decide (k1 ≥ (l_0.c.Items.length : Int))) fun t2 =>
        k5 t2

theorem channel_line_send_f_le {k_ : Nat} {l_0 : T_channel_line} {n_1 : Int} : Le (channel_line_send_f k_ l_0 n_1) (channel_line_send_m l_0 n_1) := by
  unfold channel_line_send_f channel_line_send_m
  repeat' with_reducible (first | exact Le.refl _ | refine channel_line_full_1_f_le | refine Le.bind ?_ (Le.sumK fun _ => ?_) | refine Le.bind ?_ (fun _ => ?_) | refine Le.cond ?_ ?_ | refine Le.letM (fun _ => ?_) | refine Le.join (fun _ => ?_) (fun _ _ hj => ?_) | exact hj _)

def slices_BinarySearchFunc_api_Packet_api_Packet_int_1_l1f (k_ : Nat) (x_0 : (List T_api_Packet)) (target_1 : Int) (s9 : Int × Int) : Option (Sum (Int) (Int × Int)) :=
  bif decide (s9.1 < s9.2) then
    letM (IntKind.wrap .i64 (ishr .u64 (IntKind.wrap .u64 (iadd .i64 s9.1 s9.2)) 1)) fun h12 =>
    Option.bind (idxM x_0 h12) fun t13 =>
    Option.bind (channel_line_receive_1_f k_ t13 target_1) fun t14 =>
    bif decide (t14 < 0) then
      letM (iadd .i64 h12 1) fun i16x =>
      some (Sum.inr (i16x, s9.2))
    else
      some (Sum.inr (s9.1, h12))
  else
    some (Sum.inl s9.1)

theorem slices_BinarySearchFunc_api_Packet_api_Packet_int_1_l1f_le {k_ : Nat} {x_0 : (List T_api_Packet)} {target_1 : Int} {s9 : Int × Int} : Le (slices_BinarySearchFunc_api_Packet_api_Packet_int_1_l1f k_ x_0 target_1 s9) (slices_BinarySearchFunc_api_Packet_api_Packet_int_1_l1 x_0 target_1 s9) := by
  unfold slices_BinarySearchFunc_api_Packet_api_Packet_int_1_l1f slices_BinarySearchFunc_api_Packet_api_Packet_int_1_l1
  repeat' with_reducible (first | exact Le.refl _ | refine channel_line_receive_1_f_le | refine Le.bind ?_ (Le.sumK fun _ => ?_) | refine Le.bind ?_ (fun _ => ?_) | refine Le.cond ?_ ?_ | refine Le.letM (fun _ => ?_) | refine Le.join (fun _ => ?_) (fun _ _ hj => ?_) | exact hj _)

def slices_BinarySearchFunc_api_Packet_api_Packet_int_1_f (k_ : Nat) (x_0 : (List T_api_Packet)) (target_1 : Int) : Option (Int × Bool) :=
  letM ((x_0.length : Int)) fun n1 =>
  Option.bind (loopF k_ (slices_BinarySearchFunc_api_Packet_api_Packet_int_1_l1f k_ x_0 target_1) (0, n1)) fun q17 : Int =>
  bif decide (q17 < n1) then
    Option.bind (idxM x_0 q17) fun t19 =>
    Option.bind (channel_line_receive_1_f k_ t19 target_1) fun t20 =>
    some (q17, t20 == 0)
  else
    some (q17, false)

theorem slices_BinarySearchFunc_api_Packet_api_Packet_int_1_f_le {k_ : Nat} {x_0 : (List T_api_Packet)} {target_1 : Int} : Le (slices_BinarySearchFunc_api_Packet_api_Packet_int_1_f k_ x_0 target_1) (slices_BinarySearchFunc_api_Packet_api_Packet_int_1_m x_0 target_1) := by
  unfold slices_BinarySearchFunc_api_Packet_api_Packet_int_1_f slices_BinarySearchFunc_api_Packet_api_Packet_int_1_m
  repeat' with_reducible (first | exact Le.refl _ | refine channel_line_receive_1_f_le | refine Le.loop (fun _ => slices_BinarySearchFunc_api_Packet_api_Packet_int_1_l1f_le) | refine Le.bind ?_ (Le.sumK fun _ => ?_) | refine Le.bind ?_ (fun _ => ?_) | refine Le.cond ?_ ?_ | refine Le.letM (fun _ => ?_) | refine Le.join (fun _ => ?_) (fun _ _ hj => ?_) | exact hj _)

def channel_line_receive_l1f (k_ : Nat)  (s23 : (List Int) × (List T_api_Packet)) : Option (Sum ((List Int) × (List T_api_Packet)) ((List Int) × (List T_api_Packet))) :=
  bif decide ((s23.2.length : Int) > 0) then
    Option.bind (idxM s23.2 0) fun t25 =>
    bif t25.Number == (s23.1.length : Int) then
      Option.bind (idxM s23.2 0) fun t27 =>
      Option.bind (appM 8 s23.1 [t27.Value]) fun t28 =>
      Option.bind (slM s23.2 1 (s23.2.length : Int)) fun t30 =>
      some (Sum.inr (t28, t30))
    else
      some (Sum.inl (s23.1, s23.2))
  else
    some (Sum.inl (s23.1, s23.2))

theorem channel_line_receive_l1f_le {k_ : Nat} {s23 : (List Int) × (List T_api_Packet)} : Le (channel_line_receive_l1f k_ s23) (channel_line_receive_l1 s23) := by
  unfold channel_line_receive_l1f channel_line_receive_l1
  repeat' with_reducible (first | exact Le.refl _ | refine Le.bind ?_ (Le.sumK fun _ => ?_) | refine Le.bind ?_ (fun _ => ?_) | refine Le.cond ?_ ?_ | refine Le.letM (fun _ => ?_) | refine Le.join (fun _ => ?_) (fun _ _ hj => ?_) | exact hj _)

def channel_line_receive_f (k_ : Nat) (l_0 : T_channel_line) (p_1 : T_api_Packet) : Option (T_channel_line) :=
  letM ((l_0.c.Received.length : Int)) fun n2 =>
  Option.bind (slices_BinarySearchFunc_api_Packet_api_Packet_int_1_f k_ l_0.c.Held p_1.Number) fun t3 =>
  joinM (fun j11 : (List T_api_Packet) =>
      Option.bind (loopF k_ (channel_line_receive_l1f k_) (l_0.c.Received, j11)) fun q32 : (List Int) × (List T_api_Packet) =>
      Option.bind (channel_line_full_1_f k_ (T_channel_line.mk (T_api_Channel.mk l_0.c.Items l_0.c.Window l_0.c.Base q32.1 q32.2 l_0.c.Flight))) fun t34 =>
      bif !t34 then
        Option.bind (appM 24 (((T_channel_line.mk (T_api_Channel.mk l_0.c.Items l_0.c.Window l_0.c.Base q32.1 q32.2 l_0.c.Flight)).c).Flight) [(T_api_Packet.mk true ((((T_channel_line.mk (T_api_Channel.mk l_0.c.Items l_0.c.Window l_0.c.Base q32.1 q32.2 l_0.c.Flight)).c).Received).length : Int) 0)]) fun t36 =>
        some (T_channel_line.mk (T_api_Channel.mk (((T_channel_line.mk (T_api_Channel.mk l_0.c.Items l_0.c.Window l_0.c.Base q32.1 q32.2 l_0.c.Flight)).c).Items) l_0.c.Window l_0.c.Base (((T_channel_line.mk (T_api_Channel.mk l_0.c.Items l_0.c.Window l_0.c.Base q32.1 q32.2 l_0.c.Flight)).c).Received) (((T_channel_line.mk (T_api_Channel.mk l_0.c.Items l_0.c.Window l_0.c.Base q32.1 q32.2 l_0.c.Flight)).c).Held) t36))
      else
        some (T_channel_line.mk (T_api_Channel.mk (((T_channel_line.mk (T_api_Channel.mk l_0.c.Items l_0.c.Window l_0.c.Base q32.1 q32.2 l_0.c.Flight)).c).Items) l_0.c.Window l_0.c.Base (((T_channel_line.mk (T_api_Channel.mk l_0.c.Items l_0.c.Window l_0.c.Base q32.1 q32.2 l_0.c.Flight)).c).Received) (((T_channel_line.mk (T_api_Channel.mk l_0.c.Items l_0.c.Window l_0.c.Base q32.1 q32.2 l_0.c.Flight)).c).Held) (((T_channel_line.mk (T_api_Channel.mk l_0.c.Items l_0.c.Window l_0.c.Base q32.1 q32.2 l_0.c.Flight)).c).Flight)))) fun k13 =>
  joinM (fun j4 : Bool =>
      bif j4 then
        Option.bind (slices_Insert_api_Packet_api_Packet_f k_ l_0.c.Held t3.1 [p_1]) fun t9 =>
        k13 t9
      else
        k13 l_0.c.Held) fun k6 =>
  bif decide (p_1.Number ≥ n2) then
    bif decide (p_1.Number < (iadd .i64 n2 l_0.c.Window)) then
      k6 (!t3.2)
    else
      k6 false
  else
    k6 false

theorem channel_line_receive_f_le {k_ : Nat} {l_0 : T_channel_line} {p_1 : T_api_Packet} : Le (channel_line_receive_f k_ l_0 p_1) (channel_line_receive_m l_0 p_1) := by
  unfold channel_line_receive_f channel_line_receive_m
  repeat' with_reducible (first | exact Le.refl _ | refine slices_BinarySearchFunc_api_Packet_api_Packet_int_1_f_le | refine channel_line_full_1_f_le | refine slices_Insert_api_Packet_api_Packet_f_le | refine Le.loop (fun _ => channel_line_receive_l1f_le) | refine Le.bind ?_ (Le.sumK fun _ => ?_) | refine Le.bind ?_ (fun _ => ?_) | refine Le.cond ?_ ?_ | refine Le.letM (fun _ => ?_) | refine Le.join (fun _ => ?_) (fun _ _ hj => ?_) | exact hj _)

def channel_line_deliver_f (k_ : Nat) (l_0 : T_channel_line) (n_1 : Int) : Option (T_channel_line) :=
  Option.bind (idxM l_0.c.Flight n_1) fun t1 =>
  Option.bind (slices_Delete_api_Packet_api_Packet_f k_ l_0.c.Flight n_1 (iadd .i64 n_1 1)) fun t3 =>
  bif t1.Ack then
    some (T_channel_line.mk (T_api_Channel.mk l_0.c.Items l_0.c.Window (imax l_0.c.Base t1.Number) l_0.c.Received l_0.c.Held t3))
  else
    Option.bind (channel_line_receive_f k_ (T_channel_line.mk (T_api_Channel.mk l_0.c.Items l_0.c.Window l_0.c.Base l_0.c.Received l_0.c.Held t3)) t1) fun t6 =>
    some t6

theorem channel_line_deliver_f_le {k_ : Nat} {l_0 : T_channel_line} {n_1 : Int} : Le (channel_line_deliver_f k_ l_0 n_1) (channel_line_deliver_m l_0 n_1) := by
  unfold channel_line_deliver_f channel_line_deliver_m
  repeat' with_reducible (first | exact Le.refl _ | refine slices_Delete_api_Packet_api_Packet_f_le | refine channel_line_receive_f_le | refine Le.bind ?_ (Le.sumK fun _ => ?_) | refine Le.bind ?_ (fun _ => ?_) | refine Le.cond ?_ ?_ | refine Le.letM (fun _ => ?_) | refine Le.join (fun _ => ?_) (fun _ _ hj => ?_) | exact hj _)

def channel_Step_f (k_ : Nat) (c_0 : T_api_Channel) (e_1 : T_api_NetEvent) : Option (T_api_Channel × Int) :=
  Option.bind (channel_copied_f k_ c_0) fun l4 =>
  joinM (fun j15 : Unit =>
      bif decide (e_1.N < 0) then
        some ((T_api_Channel.mk [] 0 0 [] [] []), 1)
      else
        bif decide (e_1.N ≥ (c_0.Flight.length : Int)) then
          some ((T_api_Channel.mk [] 0 0 [] [] []), 1)
        else
          joinM (fun j33 : (List Int) × Int × Int × (List Int) × (List T_api_Packet) × (List T_api_Packet) =>
              some ((T_api_Channel.mk j33.1 j33.2.1 j33.2.2.1 j33.2.2.2.1 j33.2.2.2.2.1 j33.2.2.2.2.2), 0)) fun k35 =>
          bif e_1.Kind == 2 then
            Option.bind (channel_line_deliver_f k_ l4 e_1.N) fun t20 =>
            k35 (t20.c.Items, t20.c.Window, t20.c.Base, t20.c.Received, t20.c.Held, t20.c.Flight)
          else
            bif e_1.Kind == 3 then
              Option.bind (slices_Delete_api_Packet_api_Packet_f k_ l4.c.Flight e_1.N (iadd .i64 e_1.N 1)) fun t23 =>
              k35 (l4.c.Items, l4.c.Window, l4.c.Base, l4.c.Received, l4.c.Held, t23)
            else
              Option.bind (channel_line_full_1_f k_ l4) fun t25 =>
              bif t25 then
                some ((T_api_Channel.mk [] 0 0 [] [] []), 2)
              else
                Option.bind (idxM l4.c.Flight e_1.N) fun t30 =>
                Option.bind (appM 24 l4.c.Flight [t30]) fun t31 =>
                k35 (l4.c.Items, l4.c.Window, l4.c.Base, l4.c.Received, l4.c.Held, t31)) fun k17 =>
  bif e_1.Kind == 1 then
    Option.bind (channel_line_send_f k_ l4 e_1.N) fun bad7 =>
    bif bad7.1 != 0 then
      some ((T_api_Channel.mk [] 0 0 [] [] []), bad7.1)
    else
      some (bad7.2.c, 0)
  else
    bif e_1.Kind == 2 then
      bif e_1.Kind == 2 then
        k17 ()
      else
        some ((T_api_Channel.mk [] 0 0 [] [] []), 4)
    else
      bif e_1.Kind == 3 then
        bif e_1.Kind == 3 then
          k17 ()
        else
          some ((T_api_Channel.mk [] 0 0 [] [] []), 4)
      else
        bif e_1.Kind == 4 then
          k17 ()
        else
          some ((T_api_Channel.mk [] 0 0 [] [] []), 4)

theorem channel_Step_f_le {k_ : Nat} {c_0 : T_api_Channel} {e_1 : T_api_NetEvent} : Le (channel_Step_f k_ c_0 e_1) (channel_Step_m c_0 e_1) := by
  unfold channel_Step_f channel_Step_m
  repeat' with_reducible (first | exact Le.refl _ | refine channel_copied_f_le | refine channel_line_deliver_f_le | refine slices_Delete_api_Packet_api_Packet_f_le | refine channel_line_full_1_f_le | refine channel_line_send_f_le | refine Le.bind ?_ (Le.sumK fun _ => ?_) | refine Le.bind ?_ (fun _ => ?_) | refine Le.cond ?_ ?_ | refine Le.letM (fun _ => ?_) | refine Le.join (fun _ => ?_) (fun _ _ hj => ?_) | exact hj _)

def keep_Ints_l1f (k_ : Nat) (a__0 : (List Int)) (b_1 : (List Int)) (s8 : Int) : Option (Sum ((Sum (Bool) (Unit))) (Int)) :=
  bif decide (s8 < (a__0.length : Int)) then
    Option.bind (idxM a__0 s8) fun t11 =>
    Option.bind (idxM b_1 s8) fun t12 =>
    bif t11 != t12 then
      some (Sum.inl (Sum.inl false))
    else
      some (Sum.inr (iadd .i64 s8 1))
  else
    some (Sum.inl (Sum.inr ()))

theorem keep_Ints_l1f_le {k_ : Nat} {a__0 : (List Int)} {b_1 : (List Int)} {s8 : Int} : Le (keep_Ints_l1f k_ a__0 b_1 s8) (keep_Ints_l1 a__0 b_1 s8) := by
  unfold keep_Ints_l1f keep_Ints_l1
  repeat' with_reducible (first | exact Le.refl _ | refine Le.bind ?_ (Le.sumK fun _ => ?_) | refine Le.bind ?_ (fun _ => ?_) | refine Le.cond ?_ ?_ | refine Le.letM (fun _ => ?_) | refine Le.join (fun _ => ?_) (fun _ _ hj => ?_) | exact hj _)

def keep_Ints_f (k_ : Nat) (a__0 : (List Int)) (b_1 : (List Int)) : Option (Bool) :=
  bif (a__0.length : Int) != (b_1.length : Int) then
    some false
  else
    Option.bind (loopF k_ (keep_Ints_l1f k_ a__0 b_1) 0) (sumK (fun a : Bool => some a) fun q14 : Unit =>
      some true)

theorem keep_Ints_f_le {k_ : Nat} {a__0 : (List Int)} {b_1 : (List Int)} : Le (keep_Ints_f k_ a__0 b_1) (keep_Ints_m a__0 b_1) := by
  unfold keep_Ints_f keep_Ints_m
  repeat' with_reducible (first | exact Le.refl _ | refine Le.loop (fun _ => keep_Ints_l1f_le) | refine Le.bind ?_ (Le.sumK fun _ => ?_) | refine Le.bind ?_ (fun _ => ?_) | refine Le.cond ?_ ?_ | refine Le.letM (fun _ => ?_) | refine Le.join (fun _ => ?_) (fun _ _ hj => ?_) | exact hj _)

def law29_awake_f (k_ : Nat)  : Option (Bool) :=
  Option.bind (channel_New_f k_ [7, 8] 2) fun t1 =>
  Option.bind (channel_Step_f k_ t1.1 (T_api_NetEvent.mk 1 0)) fun t3 =>
  Option.bind (channel_Step_f k_ t3.1 (T_api_NetEvent.mk 1 1)) fun t4 =>
  Option.bind (channel_Step_f k_ t4.1 (T_api_NetEvent.mk 2 1)) fun t5 =>
  Option.bind (channel_Step_f k_ t5.1 (T_api_NetEvent.mk 2 0)) fun t6 =>
  bif t1.2 == 0 then
    bif t3.2 == 0 then
      bif t4.2 == 0 then
        bif t5.2 == 0 then
          bif t6.2 == 0 then
            bif (t5.1.Held.length : Int) == 1 then
              bif (t5.1.Received.length : Int) == 0 then
                Option.bind (keep_Ints_f k_ t6.1.Received [7, 8]) fun t8 =>
                bif t8 then
                  letM ((t6.1.Flight.length : Int) == 2) fun t9 =>
                  some t9
                else
                  some false
              else
                some false
            else
              some false
          else
            some false
        else
          some false
      else
        some false
    else
      some false
  else
    some false

theorem law29_awake_f_le {k_ : Nat}  : Le (law29_awake_f k_ ) (law29_awake_m ) := by
  unfold law29_awake_f law29_awake_m
  repeat' with_reducible (first | exact Le.refl _ | refine channel_New_f_le | refine channel_Step_f_le | refine keep_Ints_f_le | refine Le.bind ?_ (Le.sumK fun _ => ?_) | refine Le.bind ?_ (fun _ => ?_) | refine Le.cond ?_ ?_ | refine Le.letM (fun _ => ?_) | refine Le.join (fun _ => ?_) (fun _ _ hj => ?_) | exact hj _)

end Go.Dc
