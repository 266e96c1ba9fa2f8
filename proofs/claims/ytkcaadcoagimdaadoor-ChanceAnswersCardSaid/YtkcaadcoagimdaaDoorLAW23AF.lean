/- Part LAW23A.F of a proof: lemmas. -/
import Derived.Test.YtkcaadcoagimdaaDoorLAW23AA3
import Derived.Test.YtkcaadcoagimdaaDoorDcFuel
set_option linter.unusedVariables false
set_option maxRecDepth 100000
namespace Go.Dc

def cmp_isNaN_int_f (k_ : Nat) (x_0 : Int) : Option (Bool) :=
  some (x_0 != x_0)

theorem cmp_isNaN_int_f_le {k_ : Nat} {x_0 : Int} : Le (cmp_isNaN_int_f k_ x_0) (cmp_isNaN_int_m x_0) := by
  unfold cmp_isNaN_int_f cmp_isNaN_int_m
  repeat' with_reducible (first | exact Le.refl _ | refine Le.bind ?_ (Le.sumK fun _ => ?_) | refine Le.bind ?_ (fun _ => ?_) | refine Le.cond ?_ ?_ | refine Le.letM (fun _ => ?_) | refine Le.join (fun _ => ?_) (fun _ _ hj => ?_) | exact hj _)

def cmp_Compare_int_f (k_ : Nat) (x_0 : Int) (y_1 : Int) : Option (Int) :=
  Option.bind (cmp_isNaN_int_f k_ x_0) fun xNaN1 =>
  Option.bind (cmp_isNaN_int_f k_ y_1) fun yNaN2 =>
  bif xNaN1 then
    bif yNaN2 then
      some 0
    else
      some (-1)
  else
    bif yNaN2 then
      some 1
    else
      bif decide (x_0 < y_1) then
        some (-1)
      else
        bif decide (x_0 > y_1) then
          some 1
        else
          some 0

theorem cmp_Compare_int_f_le {k_ : Nat} {x_0 : Int} {y_1 : Int} : Le (cmp_Compare_int_f k_ x_0 y_1) (cmp_Compare_int_m x_0 y_1) := by
  unfold cmp_Compare_int_f cmp_Compare_int_m
  repeat' with_reducible (first | exact Le.refl _ | refine cmp_isNaN_int_f_le | refine Le.bind ?_ (Le.sumK fun _ => ?_) | refine Le.bind ?_ (fun _ => ?_) | refine Le.cond ?_ ?_ | refine Le.letM (fun _ => ?_) | refine Le.join (fun _ => ?_) (fun _ _ hj => ?_) | exact hj _)

def cmp_Or_int_l1f (k_ : Nat) (vals_0 : (List Int)) (s6 : Int) : Option (Sum ((Sum (Int) (Unit))) (Int)) :=
  bif decide (s6 < (vals_0.length : Int)) then
    Option.bind (idxM vals_0 s6) fun val9 =>
    bif val9 != 0 then
      some (Sum.inl (Sum.inl val9))
    else
      some (Sum.inr (iadd .i64 s6 1))
  else
    some (Sum.inl (Sum.inr ()))

theorem cmp_Or_int_l1f_le {k_ : Nat} {vals_0 : (List Int)} {s6 : Int} : Le (cmp_Or_int_l1f k_ vals_0 s6) (cmp_Or_int_l1 vals_0 s6) := by
  unfold cmp_Or_int_l1f cmp_Or_int_l1
  repeat' with_reducible (first | exact Le.refl _ | refine Le.bind ?_ (Le.sumK fun _ => ?_) | refine Le.bind ?_ (fun _ => ?_) | refine Le.cond ?_ ?_ | refine Le.letM (fun _ => ?_) | refine Le.join (fun _ => ?_) (fun _ _ hj => ?_) | exact hj _)

def cmp_Or_int_f (k_ : Nat) (vals_0 : (List Int)) : Option (Int) :=
  Option.bind (loopF k_ (cmp_Or_int_l1f k_ vals_0) 0) (sumK (fun a : Int => some a) fun q11 : Unit =>
    some 0)

theorem cmp_Or_int_f_le {k_ : Nat} {vals_0 : (List Int)} : Le (cmp_Or_int_f k_ vals_0) (cmp_Or_int_m vals_0) := by
  unfold cmp_Or_int_f cmp_Or_int_m
  repeat' with_reducible (first | exact Le.refl _ | refine Le.loop (fun _ => cmp_Or_int_l1f_le) | refine Le.bind ?_ (Le.sumK fun _ => ?_) | refine Le.bind ?_ (fun _ => ?_) | refine Le.cond ?_ ?_ | refine Le.letM (fun _ => ?_) | refine Le.join (fun _ => ?_) (fun _ _ hj => ?_) | exact hj _)

def graph_compare_f (k_ : Nat) (a__0 : T_api_Pair) (b_1 : T_api_Pair) : Option (Int) :=
  Option.bind (cmp_Compare_int_f k_ a__0.From b_1.From) fun t3 =>
  Option.bind (cmp_Compare_int_f k_ a__0.To b_1.To) fun t4 =>
  Option.bind (cmp_Or_int_f k_ [t3, t4]) fun t5 =>
  some t5

theorem graph_compare_f_le {k_ : Nat} {a__0 : T_api_Pair} {b_1 : T_api_Pair} : Le (graph_compare_f k_ a__0 b_1) (graph_compare_m a__0 b_1) := by
  unfold graph_compare_f graph_compare_m
  repeat' with_reducible (first | exact Le.refl _ | refine cmp_Compare_int_f_le | refine cmp_Or_int_f_le | refine Le.bind ?_ (Le.sumK fun _ => ?_) | refine Le.bind ?_ (fun _ => ?_) | refine Le.cond ?_ ?_ | refine Le.letM (fun _ => ?_) | refine Le.join (fun _ => ?_) (fun _ _ hj => ?_) | exact hj _)

def graph_Validate_l1f (k_ : Nat) (g_0 : T_api_Graph) (s12 : Int) : Option (Sum ((Sum (Int) (Unit))) (Int)) :=
  bif decide (s12 < (g_0.L.length : Int)) then
    Option.bind (idxM g_0.L s12) fun t15 =>
    bif decide ((imin t15.From t15.To) < 0) then
      some (Sum.inl (Sum.inl 1))
    else
      bif decide ((imax t15.From t15.To) ≥ g_0.N) then
        some (Sum.inl (Sum.inl 1))
      else
        bif decide (s12 > 0) then
          Option.bind (idxM g_0.L (isub .i64 s12 1)) fun t18 =>
          Option.bind (graph_compare_f k_ t18 t15) fun t19 =>
          bif decide (t19 ≥ 0) then
            some (Sum.inl (Sum.inl 8))
          else
            some (Sum.inr (iadd .i64 s12 1))
        else
          some (Sum.inr (iadd .i64 s12 1))
  else
    some (Sum.inl (Sum.inr ()))

theorem graph_Validate_l1f_le {k_ : Nat} {g_0 : T_api_Graph} {s12 : Int} : Le (graph_Validate_l1f k_ g_0 s12) (graph_Validate_l1 g_0 s12) := by
  unfold graph_Validate_l1f graph_Validate_l1
  repeat' with_reducible (first | exact Le.refl _ | refine graph_compare_f_le | refine Le.bind ?_ (Le.sumK fun _ => ?_) | refine Le.bind ?_ (fun _ => ?_) | refine Le.cond ?_ ?_ | refine Le.letM (fun _ => ?_) | refine Le.join (fun _ => ?_) (fun _ _ hj => ?_) | exact hj _)

def graph_Validate_f (k_ : Nat) (g_0 : T_api_Graph) : Option (Int) :=
  bif decide (g_0.N < 0) then
    some 1
  else
    bif decide (g_0.N > 40) then
      some 1
    else
      Option.bind (loopF k_ (graph_Validate_l1f k_ g_0) 0) (sumK (fun a : Int => some a) fun q21 : Unit =>
        some 0)

theorem graph_Validate_f_le {k_ : Nat} {g_0 : T_api_Graph} : Le (graph_Validate_f k_ g_0) (graph_Validate_m g_0) := by
  unfold graph_Validate_f graph_Validate_m
  repeat' with_reducible (first | exact Le.refl _ | refine Le.loop (fun _ => graph_Validate_l1f_le) | refine Le.bind ?_ (Le.sumK fun _ => ?_) | refine Le.bind ?_ (fun _ => ?_) | refine Le.cond ?_ ?_ | refine Le.letM (fun _ => ?_) | refine Le.join (fun _ => ?_) (fun _ _ hj => ?_) | exact hj _)

def chance_proper_1_f (k_ : Nat) (f_0 : T_api_Fraction) : Option (Bool) :=
  bif decide (f_0.Den < 1) then
    some true
  else
    bif decide (f_0.Den > 12) then
      some true
    else
      bif decide (f_0.Num < 0) then
        some true
      else
        letM (decide (f_0.Num > f_0.Den)) fun t2 =>
        some t2

theorem chance_proper_1_f_le {k_ : Nat} {f_0 : T_api_Fraction} : Le (chance_proper_1_f k_ f_0) (chance_proper_1_m f_0) := by
  unfold chance_proper_1_f chance_proper_1_m
  repeat' with_reducible (first | exact Le.refl _ | refine Le.bind ?_ (Le.sumK fun _ => ?_) | refine Le.bind ?_ (fun _ => ?_) | refine Le.cond ?_ ?_ | refine Le.letM (fun _ => ?_) | refine Le.join (fun _ => ?_) (fun _ _ hj => ?_) | exact hj _)

def slices_IndexFunc_api_Fraction_api_Fraction_l1f (k_ : Nat) (s_0 : (List T_api_Fraction)) (s7 : Int) : Option (Sum ((Sum (Int) (Unit))) (Int)) :=
  bif decide (s7 < (s_0.length : Int)) then
    Option.bind (idxM s_0 s7) fun t10 =>
    Option.bind (chance_proper_1_f k_ t10) fun t11 =>
    bif t11 then
      some (Sum.inl (Sum.inl s7))
    else
      some (Sum.inr (iadd .i64 s7 1))
  else
    some (Sum.inl (Sum.inr ()))

theorem slices_IndexFunc_api_Fraction_api_Fraction_l1f_le {k_ : Nat} {s_0 : (List T_api_Fraction)} {s7 : Int} : Le (slices_IndexFunc_api_Fraction_api_Fraction_l1f k_ s_0 s7) (slices_IndexFunc_api_Fraction_api_Fraction_l1 s_0 s7) := by
  unfold slices_IndexFunc_api_Fraction_api_Fraction_l1f slices_IndexFunc_api_Fraction_api_Fraction_l1
  repeat' with_reducible (first | exact Le.refl _ | refine chance_proper_1_f_le | refine Le.bind ?_ (Le.sumK fun _ => ?_) | refine Le.bind ?_ (fun _ => ?_) | refine Le.cond ?_ ?_ | refine Le.letM (fun _ => ?_) | refine Le.join (fun _ => ?_) (fun _ _ hj => ?_) | exact hj _)

def slices_IndexFunc_api_Fraction_api_Fraction_f (k_ : Nat) (s_0 : (List T_api_Fraction)) : Option (Int) :=
  Option.bind (loopF k_ (slices_IndexFunc_api_Fraction_api_Fraction_l1f k_ s_0) 0) (sumK (fun a : Int => some a) fun q13 : Unit =>
    some (-1))

theorem slices_IndexFunc_api_Fraction_api_Fraction_f_le {k_ : Nat} {s_0 : (List T_api_Fraction)} : Le (slices_IndexFunc_api_Fraction_api_Fraction_f k_ s_0) (slices_IndexFunc_api_Fraction_api_Fraction_m s_0) := by
  unfold slices_IndexFunc_api_Fraction_api_Fraction_f slices_IndexFunc_api_Fraction_api_Fraction_m
  repeat' with_reducible (first | exact Le.refl _ | refine Le.loop (fun _ => slices_IndexFunc_api_Fraction_api_Fraction_l1f_le) | refine Le.bind ?_ (Le.sumK fun _ => ?_) | refine Le.bind ?_ (fun _ => ?_) | refine Le.cond ?_ ?_ | refine Le.letM (fun _ => ?_) | refine Le.join (fun _ => ?_) (fun _ _ hj => ?_) | exact hj _)

def slices_ContainsFunc_api_Fraction_api_Fraction_f (k_ : Nat) (s_0 : (List T_api_Fraction)) : Option (Bool) :=
  Option.bind (slices_IndexFunc_api_Fraction_api_Fraction_f k_ s_0) fun t1 =>
  letM (decide (t1 ≥ 0)) fun t2 =>
  some t2

theorem slices_ContainsFunc_api_Fraction_api_Fraction_f_le {k_ : Nat} {s_0 : (List T_api_Fraction)} : Le (slices_ContainsFunc_api_Fraction_api_Fraction_f k_ s_0) (slices_ContainsFunc_api_Fraction_api_Fraction_m s_0) := by
  unfold slices_ContainsFunc_api_Fraction_api_Fraction_f slices_ContainsFunc_api_Fraction_api_Fraction_m
  repeat' with_reducible (first | exact Le.refl _ | refine slices_IndexFunc_api_Fraction_api_Fraction_f_le | refine Le.bind ?_ (Le.sumK fun _ => ?_) | refine Le.bind ?_ (fun _ => ?_) | refine Le.cond ?_ ?_ | refine Le.letM (fun _ => ?_) | refine Le.join (fun _ => ?_) (fun _ _ hj => ?_) | exact hj _)

def chance_proper_f (k_ : Nat) (l_0 : (List T_api_Fraction)) : Option (Bool) :=
  Option.bind (slices_ContainsFunc_api_Fraction_api_Fraction_f k_ l_0) fun t1 =>
  some (!t1)

theorem chance_proper_f_le {k_ : Nat} {l_0 : (List T_api_Fraction)} : Le (chance_proper_f k_ l_0) (chance_proper_m l_0) := by
  unfold chance_proper_f chance_proper_m
  repeat' with_reducible (first | exact Le.refl _ | refine slices_ContainsFunc_api_Fraction_api_Fraction_f_le | refine Le.bind ?_ (Le.sumK fun _ => ?_) | refine Le.bind ?_ (fun _ => ?_) | refine Le.cond ?_ ?_ | refine Le.letM (fun _ => ?_) | refine Le.join (fun _ => ?_) (fun _ _ hj => ?_) | exact hj _)

def chance_fits_f (k_ : Nat) (g_0 : T_api_Graph) (o_1 : T_api_Odds) : Option (Bool) :=
  bif (o_1.Nodes.length : Int) == g_0.N then
    bif (o_1.Attacks.length : Int) == (g_0.L.length : Int) then
      Option.bind (chance_proper_f k_ o_1.Nodes) fun t3 =>
      bif t3 then
        Option.bind (chance_proper_f k_ o_1.Attacks) fun t4 =>
        some t4
      else
        some false
    else
      some false
  else
    some false

theorem chance_fits_f_le {k_ : Nat} {g_0 : T_api_Graph} {o_1 : T_api_Odds} : Le (chance_fits_f k_ g_0 o_1) (chance_fits_m g_0 o_1) := by
  unfold chance_fits_f chance_fits_m
  repeat' with_reducible (first | exact Le.refl _ | refine chance_proper_f_le | refine Le.bind ?_ (Le.sumK fun _ => ?_) | refine Le.bind ?_ (fun _ => ?_) | refine Le.cond ?_ ?_ | refine Le.letM (fun _ => ?_) | refine Le.join (fun _ => ?_) (fun _ _ hj => ?_) | exact hj _)

def network_Question_f (k_ : Nat) (q_0 : Int) : Option (Bool) :=
  bif decide (q_0 ≥ 1) then
    letM (decide (q_0 ≤ 4)) fun t1 =>
    some t1
  else
    some false

theorem network_Question_f_le {k_ : Nat} {q_0 : Int} : Le (network_Question_f k_ q_0) (network_Question_m q_0) := by
  unfold network_Question_f network_Question_m
  repeat' with_reducible (first | exact Le.refl _ | refine Le.bind ?_ (Le.sumK fun _ => ?_) | refine Le.bind ?_ (fun _ => ?_) | refine Le.cond ?_ ?_ | refine Le.letM (fun _ => ?_) | refine Le.join (fun _ => ?_) (fun _ _ hj => ?_) | exact hj _)

def network_Ascending_l1f (k_ : Nat) (l_0 : (List Int)) (nodes_1 : Int) (s7 : Int) : Option (Sum ((Sum (Bool) (Unit))) (Int)) :=
  bif decide (s7 < (l_0.length : Int)) then
    Option.bind (idxM l_0 s7) fun n10 =>
    bif decide (n10 < 0) then
      some (Sum.inl (Sum.inl false))
    else
      bif decide (n10 ≥ nodes_1) then
        some (Sum.inl (Sum.inl false))
      else
        bif decide (s7 > 0) then
          Option.bind (idxM l_0 (isub .i64 s7 1)) fun t11 =>
          bif decide (n10 ≤ t11) then
            some (Sum.inl (Sum.inl false))
          else
            some (Sum.inr (iadd .i64 s7 1))
        else
          some (Sum.inr (iadd .i64 s7 1))
  else
    some (Sum.inl (Sum.inr ()))

theorem network_Ascending_l1f_le {k_ : Nat} {l_0 : (List Int)} {nodes_1 : Int} {s7 : Int} : Le (network_Ascending_l1f k_ l_0 nodes_1 s7) (network_Ascending_l1 l_0 nodes_1 s7) := by
  unfold network_Ascending_l1f network_Ascending_l1
  repeat' with_reducible (first | exact Le.refl _ | refine Le.bind ?_ (Le.sumK fun _ => ?_) | refine Le.bind ?_ (fun _ => ?_) | refine Le.cond ?_ ?_ | refine Le.letM (fun _ => ?_) | refine Le.join (fun _ => ?_) (fun _ _ hj => ?_) | exact hj _)

def network_Ascending_f (k_ : Nat) (l_0 : (List Int)) (nodes_1 : Int) : Option (Bool) :=
  Option.bind (loopF k_ (network_Ascending_l1f k_ l_0 nodes_1) 0) (sumK (fun a : Bool => some a) fun q13 : Unit =>
    some true)

theorem network_Ascending_f_le {k_ : Nat} {l_0 : (List Int)} {nodes_1 : Int} : Le (network_Ascending_f k_ l_0 nodes_1) (network_Ascending_m l_0 nodes_1) := by
  unfold network_Ascending_f network_Ascending_m
  repeat' with_reducible (first | exact Le.refl _ | refine Le.loop (fun _ => network_Ascending_l1f_le) | refine Le.bind ?_ (Le.sumK fun _ => ?_) | refine Le.bind ?_ (fun _ => ?_) | refine Le.cond ?_ ?_ | refine Le.letM (fun _ => ?_) | refine Le.join (fun _ => ?_) (fun _ _ hj => ?_) | exact hj _)

def slices_Grow_api_Fraction_api_Fraction_f (k_ : Nat) (n_1 : Int) : Option (List T_api_Fraction) :=
  bif decide (n_1 < 0) then
    none
  else
    letM (isub .i64 n_1 (isub .i64 0 0)) fun n2 =>
    bif decide (n2 > 0) then
      Option.bind (mkM 16 (T_api_Fraction.mk 0 0) n2) fun t4 =>
      Option.bind (slM t4 0 0) fun s6 =>
      some s6
    else
      some []

theorem slices_Grow_api_Fraction_api_Fraction_f_le {k_ : Nat} {n_1 : Int} : Le (slices_Grow_api_Fraction_api_Fraction_f k_ n_1) (slices_Grow_api_Fraction_api_Fraction_m n_1) := by
  unfold slices_Grow_api_Fraction_api_Fraction_f slices_Grow_api_Fraction_api_Fraction_m
  repeat' with_reducible (first | exact Le.refl _ | refine Le.bind ?_ (Le.sumK fun _ => ?_) | refine Le.bind ?_ (fun _ => ?_) | refine Le.cond ?_ ?_ | refine Le.letM (fun _ => ?_) | refine Le.join (fun _ => ?_) (fun _ _ hj => ?_) | exact hj _)

def slices_Concat_api_Fraction_api_Fraction_l1f (k_ : Nat) (slices_0 : (List (List T_api_Fraction))) (s7 : Int × Int) : Option (Sum (Int) (Int × Int)) :=
  bif decide (s7.2 < (slices_0.length : Int)) then
    Option.bind (idxM slices_0 s7.2) fun s10 =>
    letM (iadd .i64 s7.1 (s10.length : Int)) fun size11 =>
    bif decide (size11 < 0) then
      none
    else
      some (Sum.inr (size11, iadd .i64 s7.2 1))
  else
    some (Sum.inl s7.1)

theorem slices_Concat_api_Fraction_api_Fraction_l1f_le {k_ : Nat} {slices_0 : (List (List T_api_Fraction))} {s7 : Int × Int} : Le (slices_Concat_api_Fraction_api_Fraction_l1f k_ slices_0 s7) (slices_Concat_api_Fraction_api_Fraction_l1 slices_0 s7) := by
  unfold slices_Concat_api_Fraction_api_Fraction_l1f slices_Concat_api_Fraction_api_Fraction_l1
  repeat' with_reducible (first | exact Le.refl _ | refine Le.bind ?_ (Le.sumK fun _ => ?_) | refine Le.bind ?_ (fun _ => ?_) | refine Le.cond ?_ ?_ | refine Le.letM (fun _ => ?_) | refine Le.join (fun _ => ?_) (fun _ _ hj => ?_) | exact hj _)

def slices_Concat_api_Fraction_api_Fraction_l2f (k_ : Nat) (slices_0 : (List (List T_api_Fraction))) (s29 : Int × (List T_api_Fraction)) : Option (Sum ((List T_api_Fraction)) (Int × (List T_api_Fraction))) :=
  bif decide (s29.1 < (slices_0.length : Int)) then
    Option.bind (idxM slices_0 s29.1) fun s32 =>
    Option.bind (appM 16 s29.2 s32) fun newslice33 =>
    some (Sum.inr (iadd .i64 s29.1 1, newslice33))
  else
    some (Sum.inl s29.2)

theorem slices_Concat_api_Fraction_api_Fraction_l2f_le {k_ : Nat} {slices_0 : (List (List T_api_Fraction))} {s29 : Int × (List T_api_Fraction)} : Le (slices_Concat_api_Fraction_api_Fraction_l2f k_ slices_0 s29) (slices_Concat_api_Fraction_api_Fraction_l2 slices_0 s29) := by
  unfold slices_Concat_api_Fraction_api_Fraction_l2f slices_Concat_api_Fraction_api_Fraction_l2
  repeat' with_reducible (first | exact Le.refl _ | refine Le.bind ?_ (Le.sumK fun _ => ?_) | refine Le.bind ?_ (fun _ => ?_) | refine Le.cond ?_ ?_ | refine Le.letM (fun _ => ?_) | refine Le.join (fun _ => ?_) (fun _ _ hj => ?_) | exact hj _)

def slices_Concat_api_Fraction_api_Fraction_f (k_ : Nat) (slices_0 : (List (List T_api_Fraction))) : Option (List T_api_Fraction) :=
  Option.bind (loopF k_ (slices_Concat_api_Fraction_api_Fraction_l1f k_ slices_0) (0, 0)) fun q13 : Int =>
  Option.bind (slices_Grow_api_Fraction_api_Fraction_f k_ q13) fun newslice15 =>
  Option.bind (loopF k_ (slices_Concat_api_Fraction_api_Fraction_l2f k_ slices_0) (0, newslice15)) fun q35 : (List T_api_Fraction) =>
  some q35

theorem slices_Concat_api_Fraction_api_Fraction_f_le {k_ : Nat} {slices_0 : (List (List T_api_Fraction))} : Le (slices_Concat_api_Fraction_api_Fraction_f k_ slices_0) (slices_Concat_api_Fraction_api_Fraction_m slices_0) := by
  unfold slices_Concat_api_Fraction_api_Fraction_f slices_Concat_api_Fraction_api_Fraction_m
  repeat' with_reducible (first | exact Le.refl _ | refine slices_Grow_api_Fraction_api_Fraction_f_le | refine Le.loop (fun _ => slices_Concat_api_Fraction_api_Fraction_l1f_le) | refine Le.loop (fun _ => slices_Concat_api_Fraction_api_Fraction_l2f_le) | refine Le.bind ?_ (Le.sumK fun _ => ?_) | refine Le.bind ?_ (fun _ => ?_) | refine Le.cond ?_ ?_ | refine Le.letM (fun _ => ?_) | refine Le.join (fun _ => ?_) (fun _ _ hj => ?_) | exact hj _)

def chance_certain_f (k_ : Nat) (f_0 : T_api_Fraction) : Option (Bool) :=
  bif f_0.Num == 0 then
    some true
  else
    letM (f_0.Num == f_0.Den) fun t2 =>
    some t2

theorem chance_certain_f_le {k_ : Nat} {f_0 : T_api_Fraction} : Le (chance_certain_f k_ f_0) (chance_certain_m f_0) := by
  unfold chance_certain_f chance_certain_m
  repeat' with_reducible (first | exact Le.refl _ | refine Le.bind ?_ (Le.sumK fun _ => ?_) | refine Le.bind ?_ (fun _ => ?_) | refine Le.cond ?_ ?_ | refine Le.letM (fun _ => ?_) | refine Le.join (fun _ => ?_) (fun _ _ hj => ?_) | exact hj _)

def chance_arguments_l1f (k_ : Nat) (t11 : List T_api_Fraction) (s20 : Int × Int) : Option (Sum (Int) (Int × Int)) :=
  bif decide (s20.2 < (t11.length : Int)) then
    Option.bind (idxM t11 s20.2) fun t23 =>
    Option.bind (chance_certain_f k_ t23) fun t25 =>
    bif !t25 then
      letM (iadd .i64 s20.1 1) fun free27 =>
      some (Sum.inr (free27, iadd .i64 s20.2 1))
    else
      some (Sum.inr (s20.1, iadd .i64 s20.2 1))
  else
    some (Sum.inl s20.1)

theorem chance_arguments_l1f_le {k_ : Nat} {t11 : List T_api_Fraction} {s20 : Int × Int} : Le (chance_arguments_l1f k_ t11 s20) (chance_arguments_l1 t11 s20) := by
  unfold chance_arguments_l1f chance_arguments_l1
  repeat' with_reducible (first | exact Le.refl _ | refine chance_certain_f_le | refine Le.bind ?_ (Le.sumK fun _ => ?_) | refine Le.bind ?_ (fun _ => ?_) | refine Le.cond ?_ ?_ | refine Le.letM (fun _ => ?_) | refine Le.join (fun _ => ?_) (fun _ _ hj => ?_) | exact hj _)

def chance_arguments_f (k_ : Nat) (g_0 : T_api_Graph) (o_1 : T_api_Odds) (set__2 : (List Int)) (question_3 : Int) : Option (Int) :=
  Option.bind (graph_Validate_f k_ g_0) fun e3 =>
  bif e3 != 0 then
    some e3
  else
    Option.bind (chance_fits_f k_ g_0 o_1) fun t5 =>
    bif !t5 then
      some 1
    else
      Option.bind (network_Question_f k_ question_3) fun t7 =>
      bif !t7 then
        some 4
      else
        Option.bind (network_Ascending_f k_ set__2 g_0.N) fun t9 =>
        bif !t9 then
          some 1
        else
          Option.bind (slices_Concat_api_Fraction_api_Fraction_f k_ [o_1.Nodes, o_1.Attacks]) fun t11 =>
          Option.bind (loopF k_ (chance_arguments_l1f k_ t11) (0, 0)) fun q28 : Int =>
          bif decide (g_0.N > 10) then
            some 2
          else
            bif decide (q28 > 10) then
              some 2
            else
              some 0

theorem chance_arguments_f_le {k_ : Nat} {g_0 : T_api_Graph} {o_1 : T_api_Odds} {set__2 : (List Int)} {question_3 : Int} : Le (chance_arguments_f k_ g_0 o_1 set__2 question_3) (chance_arguments_m g_0 o_1 set__2 question_3) := by
  unfold chance_arguments_f chance_arguments_m
  repeat' with_reducible (first | exact Le.refl _ | refine graph_Validate_f_le | refine chance_fits_f_le | refine network_Question_f_le | refine network_Ascending_f_le | refine slices_Concat_api_Fraction_api_Fraction_f_le | refine Le.loop (fun _ => chance_arguments_l1f_le) | refine Le.bind ?_ (Le.sumK fun _ => ?_) | refine Le.bind ?_ (fun _ => ?_) | refine Le.cond ?_ ?_ | refine Le.letM (fun _ => ?_) | refine Le.join (fun _ => ?_) (fun _ _ hj => ?_) | exact hj _)

def network_Set_With_f (k_ : Nat) (s_0 : Int) (node_1 : Int) : Option (Int) :=
  Option.bind (ishlM .u64 1 (IntKind.wrap .u64 node_1)) fun t1 =>
  letM (ior .u64 s_0 t1) fun t2 =>
  some t2

theorem network_Set_With_f_le {k_ : Nat} {s_0 : Int} {node_1 : Int} : Le (network_Set_With_f k_ s_0 node_1) (network_Set_With_m s_0 node_1) := by
  unfold network_Set_With_f network_Set_With_m
  repeat' with_reducible (first | exact Le.refl _ | refine Le.bind ?_ (Le.sumK fun _ => ?_) | refine Le.bind ?_ (fun _ => ?_) | refine Le.cond ?_ ?_ | refine Le.letM (fun _ => ?_) | refine Le.join (fun _ => ?_) (fun _ _ hj => ?_) | exact hj _)

def network_Of_l1f (k_ : Nat) (l_0 : (List Int)) (s6 : Int × Int) : Option (Sum (Int) (Int × Int)) :=
  bif decide (s6.2 < (l_0.length : Int)) then
    Option.bind (idxM l_0 s6.2) fun n9 =>
    Option.bind (network_Set_With_f k_ s6.1 n9) fun s10 =>
    some (Sum.inr (s10, iadd .i64 s6.2 1))
  else
    some (Sum.inl s6.1)

theorem network_Of_l1f_le {k_ : Nat} {l_0 : (List Int)} {s6 : Int × Int} : Le (network_Of_l1f k_ l_0 s6) (network_Of_l1 l_0 s6) := by
  unfold network_Of_l1f network_Of_l1
  repeat' with_reducible (first | exact Le.refl _ | refine network_Set_With_f_le | refine Le.bind ?_ (Le.sumK fun _ => ?_) | refine Le.bind ?_ (fun _ => ?_) | refine Le.cond ?_ ?_ | refine Le.letM (fun _ => ?_) | refine Le.join (fun _ => ?_) (fun _ _ hj => ?_) | exact hj _)

def network_Of_f (k_ : Nat) (l_0 : (List Int)) : Option (Int) :=
  Option.bind (loopF k_ (network_Of_l1f k_ l_0) (0, 0)) fun q11 : Int =>
  some q11

theorem network_Of_f_le {k_ : Nat} {l_0 : (List Int)} : Le (network_Of_f k_ l_0) (network_Of_m l_0) := by
  unfold network_Of_f network_Of_m
  repeat' with_reducible (first | exact Le.refl _ | refine Le.loop (fun _ => network_Of_l1f_le) | refine Le.bind ?_ (Le.sumK fun _ => ?_) | refine Le.bind ?_ (fun _ => ?_) | refine Le.cond ?_ ?_ | refine Le.letM (fun _ => ?_) | refine Le.join (fun _ => ?_) (fun _ _ hj => ?_) | exact hj _)

def network_New_l1f (k_ : Nat) (g_0 : T_api_Graph) (s17 : Int × Int) : Option (Sum (Int) (Int × Int)) :=
  bif decide (s17.1 < g_0.N) then
    Option.bind (network_Set_With_f k_ s17.2 s17.1) fun t20 =>
    some (Sum.inr (iadd .i64 s17.1 1, t20))
  else
    some (Sum.inl s17.2)

theorem network_New_l1f_le {k_ : Nat} {g_0 : T_api_Graph} {s17 : Int × Int} : Le (network_New_l1f k_ g_0 s17) (network_New_l1 g_0 s17) := by
  unfold network_New_l1f network_New_l1
  repeat' with_reducible (first | exact Le.refl _ | refine network_Set_With_f_le | refine Le.bind ?_ (Le.sumK fun _ => ?_) | refine Le.bind ?_ (fun _ => ?_) | refine Le.cond ?_ ?_ | refine Le.letM (fun _ => ?_) | refine Le.join (fun _ => ?_) (fun _ _ hj => ?_) | exact hj _)

def network_New_l2f (k_ : Nat) (g_0 : T_api_Graph) (s45 : Int × (List Int) × (List Int)) : Option (Sum ((List Int) × (List Int)) (Int × (List Int) × (List Int))) :=
  bif decide (s45.1 < (g_0.L.length : Int)) then
    Option.bind (idxM g_0.L s45.1) fun t48 =>
    Option.bind (idxM s45.2.1 t48.To) fun t50 =>
    Option.bind (network_Set_With_f k_ t50 t48.From) fun t51 =>
    Option.bind (idxM s45.2.1 t48.To) fun t52 =>
    Option.bind (idxM s45.2.2 t48.From) fun t53 =>
    Option.bind (network_Set_With_f k_ t53 t48.To) fun t54 =>
    Option.bind (idxM s45.2.2 t48.From) fun t55 =>
    some (Sum.inr (iadd .i64 s45.1 1, s45.2.1.set (Int.toNat t48.To) t51, s45.2.2.set (Int.toNat t48.From) t54))
  else
    some (Sum.inl (s45.2.1, s45.2.2))

theorem network_New_l2f_le {k_ : Nat} {g_0 : T_api_Graph} {s45 : Int × (List Int) × (List Int)} : Le (network_New_l2f k_ g_0 s45) (network_New_l2 g_0 s45) := by
  unfold network_New_l2f network_New_l2
  repeat' with_reducible (first | exact Le.refl _ | refine network_Set_With_f_le | refine Le.bind ?_ (Le.sumK fun _ => ?_) | refine Le.bind ?_ (fun _ => ?_) | refine Le.cond ?_ ?_ | refine Le.letM (fun _ => ?_) | refine Le.join (fun _ => ?_) (fun _ _ hj => ?_) | exact hj _)

def network_New_f (k_ : Nat) (g_0 : T_api_Graph) : Option (T_network_Net) :=
  Option.bind (mkM 8 0 g_0.N) fun t4 =>
  Option.bind (mkM 8 0 g_0.N) fun t6 =>
  Option.bind (loopF k_ (network_New_l1f k_ g_0) (0, 0)) fun q21 : Int =>
  Option.bind (loopF k_ (network_New_l2f k_ g_0) (0, t4, t6)) fun q56 : (List Int) × (List Int) =>
  some (T_network_Net.mk q21 q56.1 q56.2)

theorem network_New_f_le {k_ : Nat} {g_0 : T_api_Graph} : Le (network_New_f k_ g_0) (network_New_m g_0) := by
  unfold network_New_f network_New_m
  repeat' with_reducible (first | exact Le.refl _ | refine Le.loop (fun _ => network_New_l1f_le) | refine Le.loop (fun _ => network_New_l2f_le) | refine Le.bind ?_ (Le.sumK fun _ => ?_) | refine Le.bind ?_ (fun _ => ?_) | refine Le.cond ?_ ?_ | refine Le.letM (fun _ => ?_) | refine Le.join (fun _ => ?_) (fun _ _ hj => ?_) | exact hj _)

def network_Set_Has_f (k_ : Nat) (s_0 : Int) (node_1 : Int) : Option (Bool) :=
  Option.bind (ishrM .u64 s_0 (IntKind.wrap .u64 node_1)) fun t1 =>
  letM ((iand .u64 t1 1) == 1) fun t2 =>
  some t2

theorem network_Set_Has_f_le {k_ : Nat} {s_0 : Int} {node_1 : Int} : Le (network_Set_Has_f k_ s_0 node_1) (network_Set_Has_m s_0 node_1) := by
  unfold network_Set_Has_f network_Set_Has_m
  repeat' with_reducible (first | exact Le.refl _ | refine Le.bind ?_ (Le.sumK fun _ => ?_) | refine Le.bind ?_ (fun _ => ?_) | refine Le.cond ?_ ?_ | refine Le.letM (fun _ => ?_) | refine Le.join (fun _ => ?_) (fun _ _ hj => ?_) | exact hj _)

def network_Net_Within_l1f (k_ : Nat) (n_0 : T_network_Net) (s_1 : Int) (s27 : Int × (List Int) × (List Int)) : Option (Sum ((List Int) × (List Int)) (Int × (List Int) × (List Int))) :=
  bif decide (s27.1 < (n_0.By.length : Int)) then
    Option.bind (network_Set_Has_f k_ (iand .u64 n_0.All s_1) s27.1) fun t30 =>
    bif t30 then
      Option.bind (idxM n_0.By s27.1) fun t32 =>
      Option.bind (idxM n_0.Out s27.1) fun t33 =>
      Option.bind (idxM s27.2.1 s27.1) fun t34 =>
      Option.bind (idxM s27.2.2 s27.1) fun t35 =>
      some (Sum.inr (iadd .i64 s27.1 1, s27.2.1.set (Int.toNat s27.1) (iand .u64 t32 s_1), s27.2.2.set (Int.toNat s27.1) (iand .u64 t33 s_1)))
    else
      some (Sum.inr (iadd .i64 s27.1 1, s27.2.1, s27.2.2))
  else
    some (Sum.inl (s27.2.1, s27.2.2))

theorem network_Net_Within_l1f_le {k_ : Nat} {n_0 : T_network_Net} {s_1 : Int} {s27 : Int × (List Int) × (List Int)} : Le (network_Net_Within_l1f k_ n_0 s_1 s27) (network_Net_Within_l1 n_0 s_1 s27) := by
  unfold network_Net_Within_l1f network_Net_Within_l1
  repeat' with_reducible (first | exact Le.refl _ | refine network_Set_Has_f_le | refine Le.bind ?_ (Le.sumK fun _ => ?_) | refine Le.bind ?_ (fun _ => ?_) | refine Le.cond ?_ ?_ | refine Le.letM (fun _ => ?_) | refine Le.join (fun _ => ?_) (fun _ _ hj => ?_) | exact hj _)

def network_Net_Within_f (k_ : Nat) (n_0 : T_network_Net) (s_1 : Int) : Option (T_network_Net) :=
  Option.bind (mkM 8 0 (n_0.By.length : Int)) fun t4 =>
  Option.bind (mkM 8 0 (n_0.By.length : Int)) fun t6 =>
  Option.bind (loopF k_ (network_Net_Within_l1f k_ n_0 s_1) (0, t4, t6)) fun q36 : (List Int) × (List Int) =>
  some (T_network_Net.mk (iand .u64 n_0.All s_1) q36.1 q36.2)

theorem network_Net_Within_f_le {k_ : Nat} {n_0 : T_network_Net} {s_1 : Int} : Le (network_Net_Within_f k_ n_0 s_1) (network_Net_Within_m n_0 s_1) := by
  unfold network_Net_Within_f network_Net_Within_m
  repeat' with_reducible (first | exact Le.refl _ | refine Le.loop (fun _ => network_Net_Within_l1f_le) | refine Le.bind ?_ (Le.sumK fun _ => ?_) | refine Le.bind ?_ (fun _ => ?_) | refine Le.cond ?_ ?_ | refine Le.letM (fun _ => ?_) | refine Le.join (fun _ => ?_) (fun _ _ hj => ?_) | exact hj _)

def chance_world_l1f (k_ : Nat) (g_0 : T_api_Graph) (has_1 : (List Bool)) (s10 : Int × Int) : Option (Sum (Int) (Int × Int)) :=
  bif decide (s10.2 < g_0.N) then
    Option.bind (idxM has_1 s10.2) fun t13 =>
    bif t13 then
      Option.bind (network_Set_With_f k_ s10.1 s10.2) fun nodes15 =>
      some (Sum.inr (nodes15, iadd .i64 s10.2 1))
    else
      some (Sum.inr (s10.1, iadd .i64 s10.2 1))
  else
    some (Sum.inl s10.1)

theorem chance_world_l1f_le {k_ : Nat} {g_0 : T_api_Graph} {has_1 : (List Bool)} {s10 : Int × Int} : Le (chance_world_l1f k_ g_0 has_1 s10) (chance_world_l1 g_0 has_1 s10) := by
  unfold chance_world_l1f chance_world_l1
  repeat' with_reducible (first | exact Le.refl _ | refine network_Set_With_f_le | refine Le.bind ?_ (Le.sumK fun _ => ?_) | refine Le.bind ?_ (fun _ => ?_) | refine Le.cond ?_ ?_ | refine Le.letM (fun _ => ?_) | refine Le.join (fun _ => ?_) (fun _ _ hj => ?_) | exact hj _)

def chance_world_l2f (k_ : Nat) (g_0 : T_api_Graph) (has_1 : (List Bool)) (s45 : Int × (List T_api_Pair)) : Option (Sum ((List T_api_Pair)) (Int × (List T_api_Pair))) :=
  bif decide (s45.1 < (g_0.L.length : Int)) then
    Option.bind (idxM g_0.L s45.1) fun t48 =>
    Option.bind (idxM has_1 (iadd .i64 g_0.N s45.1)) fun t50 =>
    bif t50 then
      Option.bind (appM 16 s45.2 [t48]) fun t52 =>
      some (Sum.inr (iadd .i64 s45.1 1, t52))
    else
      some (Sum.inr (iadd .i64 s45.1 1, s45.2))
  else
    some (Sum.inl s45.2)

theorem chance_world_l2f_le {k_ : Nat} {g_0 : T_api_Graph} {has_1 : (List Bool)} {s45 : Int × (List T_api_Pair)} : Le (chance_world_l2f k_ g_0 has_1 s45) (chance_world_l2 g_0 has_1 s45) := by
  unfold chance_world_l2f chance_world_l2
  repeat' with_reducible (first | exact Le.refl _ | refine Le.bind ?_ (Le.sumK fun _ => ?_) | refine Le.bind ?_ (fun _ => ?_) | refine Le.cond ?_ ?_ | refine Le.letM (fun _ => ?_) | refine Le.join (fun _ => ?_) (fun _ _ hj => ?_) | exact hj _)

def chance_world_f (k_ : Nat) (g_0 : T_api_Graph) (has_1 : (List Bool)) : Option (T_network_Net) :=
  Option.bind (loopF k_ (chance_world_l1f k_ g_0 has_1) (0, 0)) fun q16 : Int =>
  Option.bind (loopF k_ (chance_world_l2f k_ g_0 has_1) (0, [])) fun q54 : (List T_api_Pair) =>
  Option.bind (network_New_f k_ (T_api_Graph.mk g_0.N q54)) fun t56 =>
  Option.bind (network_Net_Within_f k_ t56 q16) fun t57 =>
  some t57

theorem chance_world_f_le {k_ : Nat} {g_0 : T_api_Graph} {has_1 : (List Bool)} : Le (chance_world_f k_ g_0 has_1) (chance_world_m g_0 has_1) := by
  unfold chance_world_f chance_world_m
  repeat' with_reducible (first | exact Le.refl _ | refine network_New_f_le | refine network_Net_Within_f_le | refine Le.loop (fun _ => chance_world_l1f_le) | refine Le.loop (fun _ => chance_world_l2f_le) | refine Le.bind ?_ (Le.sumK fun _ => ?_) | refine Le.bind ?_ (fun _ => ?_) | refine Le.cond ?_ ?_ | refine Le.letM (fun _ => ?_) | refine Le.join (fun _ => ?_) (fun _ _ hj => ?_) | exact hj _)

def math_bits_TrailingZeros64_f (k_ : Nat) (x_0 : Int) : Option (Int) :=
  bif x_0 == 0 then
    some 64
  else
    Option.bind (idxM tab_0 (ishr .u64 (imul .u64 (iand .u64 x_0 (ineg .u64 x_0)) 285870213051353865) 58)) fun t2 =>
    letM (IntKind.wrap .i64 t2) fun t3 =>
    some t3

theorem math_bits_TrailingZeros64_f_le {k_ : Nat} {x_0 : Int} : Le (math_bits_TrailingZeros64_f k_ x_0) (math_bits_TrailingZeros64_m x_0) := by
  unfold math_bits_TrailingZeros64_f math_bits_TrailingZeros64_m
  repeat' with_reducible (first | exact Le.refl _ | refine Le.bind ?_ (Le.sumK fun _ => ?_) | refine Le.bind ?_ (fun _ => ?_) | refine Le.cond ?_ ?_ | refine Le.letM (fun _ => ?_) | refine Le.join (fun _ => ?_) (fun _ _ hj => ?_) | exact hj _)

def network_Set_List_l1f (k_ : Nat)  (s15 : Int × (List Int)) : Option (Sum ((List Int)) (Int × (List Int))) :=
  bif s15.1 != 0 then
    Option.bind (math_bits_TrailingZeros64_f k_ s15.1) fun t18 =>
    Option.bind (appM 8 s15.2 [t18]) fun out19 =>
    letM (iand .u64 s15.1 (isub .u64 s15.1 1)) fun s21 =>
    some (Sum.inr (s21, out19))
  else
    some (Sum.inl s15.2)

theorem network_Set_List_l1f_le {k_ : Nat} {s15 : Int × (List Int)} : Le (network_Set_List_l1f k_ s15) (network_Set_List_l1 s15) := by
  unfold network_Set_List_l1f network_Set_List_l1
  repeat' with_reducible (first | exact Le.refl _ | refine math_bits_TrailingZeros64_f_le | refine Le.bind ?_ (Le.sumK fun _ => ?_) | refine Le.bind ?_ (fun _ => ?_) | refine Le.cond ?_ ?_ | refine Le.letM (fun _ => ?_) | refine Le.join (fun _ => ?_) (fun _ _ hj => ?_) | exact hj _)

def network_Set_List_f (k_ : Nat) (s_0 : Int) : Option (List Int) :=
  Option.bind (loopF k_ (network_Set_List_l1f k_) (s_0, [])) fun q22 : (List Int) =>
  some q22

theorem network_Set_List_f_le {k_ : Nat} {s_0 : Int} : Le (network_Set_List_f k_ s_0) (network_Set_List_m s_0) := by
  unfold network_Set_List_f network_Set_List_m
  repeat' with_reducible (first | exact Le.refl _ | refine Le.loop (fun _ => network_Set_List_l1f_le) | refine Le.bind ?_ (Le.sumK fun _ => ?_) | refine Le.bind ?_ (fun _ => ?_) | refine Le.cond ?_ ?_ | refine Le.letM (fun _ => ?_) | refine Le.join (fun _ => ?_) (fun _ _ hj => ?_) | exact hj _)

def network_Net_Hit_l1f (k_ : Nat) (n_0 : T_network_Net) (t2 : List Int) (s9 : Int × Int) : Option (Sum (Int) (Int × Int)) :=
  bif decide (s9.2 < (t2.length : Int)) then
    Option.bind (idxM t2 s9.2) fun i12 =>
    Option.bind (idxM n_0.Out i12) fun t13 =>
    letM (ior .u64 s9.1 t13) fun out14 =>
    some (Sum.inr (out14, iadd .i64 s9.2 1))
  else
    some (Sum.inl s9.1)

theorem network_Net_Hit_l1f_le {k_ : Nat} {n_0 : T_network_Net} {t2 : List Int} {s9 : Int × Int} : Le (network_Net_Hit_l1f k_ n_0 t2 s9) (network_Net_Hit_l1 n_0 t2 s9) := by
  unfold network_Net_Hit_l1f network_Net_Hit_l1
  repeat' with_reducible (first | exact Le.refl _ | refine Le.bind ?_ (Le.sumK fun _ => ?_) | refine Le.bind ?_ (fun _ => ?_) | refine Le.cond ?_ ?_ | refine Le.letM (fun _ => ?_) | refine Le.join (fun _ => ?_) (fun _ _ hj => ?_) | exact hj _)

def network_Net_Hit_f (k_ : Nat) (n_0 : T_network_Net) (s_1 : Int) : Option (Int) :=
  Option.bind (network_Set_List_f k_ s_1) fun t2 =>
  Option.bind (loopF k_ (network_Net_Hit_l1f k_ n_0 t2) (0, 0)) fun q15 : Int =>
  some q15

theorem network_Net_Hit_f_le {k_ : Nat} {n_0 : T_network_Net} {s_1 : Int} : Le (network_Net_Hit_f k_ n_0 s_1) (network_Net_Hit_m n_0 s_1) := by
  unfold network_Net_Hit_f network_Net_Hit_m
  repeat' with_reducible (first | exact Le.refl _ | refine network_Set_List_f_le | refine Le.loop (fun _ => network_Net_Hit_l1f_le) | refine Le.bind ?_ (Le.sumK fun _ => ?_) | refine Le.bind ?_ (fun _ => ?_) | refine Le.cond ?_ ?_ | refine Le.letM (fun _ => ?_) | refine Le.join (fun _ => ?_) (fun _ _ hj => ?_) | exact hj _)

def network_Net_Grounded_l2f (k_ : Nat) (n_0 : T_network_Net) (out52 : Int) (t53 : List Int) (s62 : Int × Int) : Option (Sum (Int) (Int × Int)) :=
  bif decide (s62.2 < (t53.length : Int)) then
    Option.bind (idxM t53 s62.2) fun i65 =>
    Option.bind (idxM n_0.By i65) fun t66 =>
    bif (iandn .u64 t66 out52) == 0 then
      Option.bind (network_Set_With_f k_ s62.1 i65) fun next68 =>
      some (Sum.inr (next68, iadd .i64 s62.2 1))
    else
      some (Sum.inr (s62.1, iadd .i64 s62.2 1))
  else
    some (Sum.inl s62.1)

theorem network_Net_Grounded_l2f_le {k_ : Nat} {n_0 : T_network_Net} {out52 : Int} {t53 : List Int} {s62 : Int × Int} : Le (network_Net_Grounded_l2f k_ n_0 out52 t53 s62) (network_Net_Grounded_l2 n_0 out52 t53 s62) := by
  unfold network_Net_Grounded_l2f network_Net_Grounded_l2
  repeat' with_reducible (first | exact Le.refl _ | refine network_Set_With_f_le | refine Le.bind ?_ (Le.sumK fun _ => ?_) | refine Le.bind ?_ (fun _ => ?_) | refine Le.cond ?_ ?_ | refine Le.letM (fun _ => ?_) | refine Le.join (fun _ => ?_) (fun _ _ hj => ?_) | exact hj _)

def network_Net_Grounded_l1f (k_ : Nat) (n_0 : T_network_Net) (s50 : Int × (List Int)) : Option (Sum (List Int) (Int × (List Int))) :=
  Option.bind (network_Net_Hit_f k_ n_0 s50.1) fun out52 =>
  Option.bind (network_Set_List_f k_ n_0.All) fun t53 =>
  Option.bind (loopF k_ (network_Net_Grounded_l2f k_ n_0 out52 t53) (s50.1, 0)) fun q69 : Int =>
  bif q69 == s50.1 then
    some (Sum.inl s50.2)
  else
    Option.bind (appM 8 s50.2 [q69]) fun rounds72 =>
    some (Sum.inr (q69, rounds72))

theorem network_Net_Grounded_l1f_le {k_ : Nat} {n_0 : T_network_Net} {s50 : Int × (List Int)} : Le (network_Net_Grounded_l1f k_ n_0 s50) (network_Net_Grounded_l1 n_0 s50) := by
  unfold network_Net_Grounded_l1f network_Net_Grounded_l1
  repeat' with_reducible (first | exact Le.refl _ | refine network_Net_Hit_f_le | refine network_Set_List_f_le | refine Le.loop (fun _ => network_Net_Grounded_l2f_le) | refine Le.bind ?_ (Le.sumK fun _ => ?_) | refine Le.bind ?_ (fun _ => ?_) | refine Le.cond ?_ ?_ | refine Le.letM (fun _ => ?_) | refine Le.join (fun _ => ?_) (fun _ _ hj => ?_) | exact hj _)

def network_Net_Grounded_f (k_ : Nat) (n_0 : T_network_Net) : Option (List Int) :=
  Option.bind (loopF k_ (network_Net_Grounded_l1f k_ n_0) (0, [])) (fun a : List Int => some a)

theorem network_Net_Grounded_f_le {k_ : Nat} {n_0 : T_network_Net} : Le (network_Net_Grounded_f k_ n_0) (network_Net_Grounded_m n_0) := by
  unfold network_Net_Grounded_f network_Net_Grounded_m
  repeat' with_reducible (first | exact Le.refl _ | refine Le.loop (fun _ => network_Net_Grounded_l1f_le) | refine Le.bind ?_ (Le.sumK fun _ => ?_) | refine Le.bind ?_ (fun _ => ?_) | refine Le.cond ?_ ?_ | refine Le.letM (fun _ => ?_) | refine Le.join (fun _ => ?_) (fun _ _ hj => ?_) | exact hj _)

def network_Net_In_f (k_ : Nat) (n_0 : T_network_Net) : Option (Int) :=
  Option.bind (network_Net_Grounded_f k_ n_0) fun l2 =>
  bif (l2.length : Int) == 0 then
    some 0
  else
    Option.bind (idxM l2 (isub .i64 (l2.length : Int) 1)) fun t5 =>
    some t5

theorem network_Net_In_f_le {k_ : Nat} {n_0 : T_network_Net} : Le (network_Net_In_f k_ n_0) (network_Net_In_m n_0) := by
  unfold network_Net_In_f network_Net_In_m
  repeat' with_reducible (first | exact Le.refl _ | refine network_Net_Grounded_f_le | refine Le.bind ?_ (Le.sumK fun _ => ?_) | refine Le.bind ?_ (fun _ => ?_) | refine Le.cond ?_ ?_ | refine Le.letM (fun _ => ?_) | refine Le.join (fun _ => ?_) (fun _ _ hj => ?_) | exact hj _)

def network_Net_Free_f (k_ : Nat) (n_0 : T_network_Net) (s_1 : Int) : Option (Bool) :=
  Option.bind (network_Net_Hit_f k_ n_0 s_1) fun t2 =>
  letM ((iand .u64 t2 s_1) == 0) fun t3 =>
  some t3

theorem network_Net_Free_f_le {k_ : Nat} {n_0 : T_network_Net} {s_1 : Int} : Le (network_Net_Free_f k_ n_0 s_1) (network_Net_Free_m n_0 s_1) := by
  unfold network_Net_Free_f network_Net_Free_m
  repeat' with_reducible (first | exact Le.refl _ | refine network_Net_Hit_f_le | refine Le.bind ?_ (Le.sumK fun _ => ?_) | refine Le.bind ?_ (fun _ => ?_) | refine Le.cond ?_ ?_ | refine Le.letM (fun _ => ?_) | refine Le.join (fun _ => ?_) (fun _ _ hj => ?_) | exact hj _)

def network_Net_Attackers_l1f (k_ : Nat) (n_0 : T_network_Net) (t2 : List Int) (s9 : Int × Int) : Option (Sum (Int) (Int × Int)) :=
  bif decide (s9.2 < (t2.length : Int)) then
    Option.bind (idxM t2 s9.2) fun i12 =>
    Option.bind (idxM n_0.By i12) fun t13 =>
    letM (ior .u64 s9.1 t13) fun out14 =>
    some (Sum.inr (out14, iadd .i64 s9.2 1))
  else
    some (Sum.inl s9.1)

theorem network_Net_Attackers_l1f_le {k_ : Nat} {n_0 : T_network_Net} {t2 : List Int} {s9 : Int × Int} : Le (network_Net_Attackers_l1f k_ n_0 t2 s9) (network_Net_Attackers_l1 n_0 t2 s9) := by
  unfold network_Net_Attackers_l1f network_Net_Attackers_l1
  repeat' with_reducible (first | exact Le.refl _ | refine Le.bind ?_ (Le.sumK fun _ => ?_) | refine Le.bind ?_ (fun _ => ?_) | refine Le.cond ?_ ?_ | refine Le.letM (fun _ => ?_) | refine Le.join (fun _ => ?_) (fun _ _ hj => ?_) | exact hj _)

def network_Net_Attackers_f (k_ : Nat) (n_0 : T_network_Net) (s_1 : Int) : Option (Int) :=
  Option.bind (network_Set_List_f k_ s_1) fun t2 =>
  Option.bind (loopF k_ (network_Net_Attackers_l1f k_ n_0 t2) (0, 0)) fun q15 : Int =>
  some q15

theorem network_Net_Attackers_f_le {k_ : Nat} {n_0 : T_network_Net} {s_1 : Int} : Le (network_Net_Attackers_f k_ n_0 s_1) (network_Net_Attackers_m n_0 s_1) := by
  unfold network_Net_Attackers_f network_Net_Attackers_m
  repeat' with_reducible (first | exact Le.refl _ | refine network_Set_List_f_le | refine Le.loop (fun _ => network_Net_Attackers_l1f_le) | refine Le.bind ?_ (Le.sumK fun _ => ?_) | refine Le.bind ?_ (fun _ => ?_) | refine Le.cond ?_ ?_ | refine Le.letM (fun _ => ?_) | refine Le.join (fun _ => ?_) (fun _ _ hj => ?_) | exact hj _)

def network_Net_Admissible_f (k_ : Nat) (n_0 : T_network_Net) (s_1 : Int) : Option (Bool) :=
  Option.bind (network_Net_Free_f k_ n_0 s_1) fun t2 =>
  bif t2 then
    Option.bind (network_Net_Attackers_f k_ n_0 s_1) fun t3 =>
    Option.bind (network_Net_Hit_f k_ n_0 s_1) fun t4 =>
    some ((iandn .u64 t3 t4) == 0)
  else
    some false

theorem network_Net_Admissible_f_le {k_ : Nat} {n_0 : T_network_Net} {s_1 : Int} : Le (network_Net_Admissible_f k_ n_0 s_1) (network_Net_Admissible_m n_0 s_1) := by
  unfold network_Net_Admissible_f network_Net_Admissible_m
  repeat' with_reducible (first | exact Le.refl _ | refine network_Net_Free_f_le | refine network_Net_Attackers_f_le | refine network_Net_Hit_f_le | refine Le.bind ?_ (Le.sumK fun _ => ?_) | refine Le.bind ?_ (fun _ => ?_) | refine Le.cond ?_ ?_ | refine Le.letM (fun _ => ?_) | refine Le.join (fun _ => ?_) (fun _ _ hj => ?_) | exact hj _)

def network_Net_Stable_f (k_ : Nat) (n_0 : T_network_Net) (s_1 : Int) : Option (Bool) :=
  Option.bind (network_Net_Free_f k_ n_0 s_1) fun t2 =>
  bif t2 then
    Option.bind (network_Net_Hit_f k_ n_0 s_1) fun t3 =>
    some ((iandn .u64 (iandn .u64 n_0.All s_1) t3) == 0)
  else
    some false

theorem network_Net_Stable_f_le {k_ : Nat} {n_0 : T_network_Net} {s_1 : Int} : Le (network_Net_Stable_f k_ n_0 s_1) (network_Net_Stable_m n_0 s_1) := by
  unfold network_Net_Stable_f network_Net_Stable_m
  repeat' with_reducible (first | exact Le.refl _ | refine network_Net_Free_f_le | refine network_Net_Hit_f_le | refine Le.bind ?_ (Le.sumK fun _ => ?_) | refine Le.bind ?_ (fun _ => ?_) | refine Le.cond ?_ ?_ | refine Le.letM (fun _ => ?_) | refine Le.join (fun _ => ?_) (fun _ _ hj => ?_) | exact hj _)

def network_Net_Answer_1_f (k_ : Nat) (s_0 : Int) (p_1 : Int) (p_2 : T_network_Net) (p_3 : Int) (p_4 : Bool) (p_5 : Bool) : Option (Bool × Bool) :=
  joinM (fun j4 : Bool =>
      joinM (fun j8 : Bool =>
          bif j8 then
            some (false, !p_4)
          else
            some (true, p_5)) fun k10 =>
      bif j4 then
        Option.bind (network_Set_Has_f k_ s_0 p_3) fun t7 =>
        k10 (!(t7 == p_4))
      else
        k10 false) fun k6 =>
  bif p_1 == 1 then
    Option.bind (network_Net_Admissible_f k_ p_2 s_0) fun t1 =>
    bif t1 then
      k6 true
    else
      bif p_1 != 1 then
        Option.bind (network_Net_Stable_f k_ p_2 s_0) fun t2 =>
        k6 t2
      else
        k6 false
  else
    bif p_1 != 1 then
      Option.bind (network_Net_Stable_f k_ p_2 s_0) fun t3 =>
      k6 t3
    else
      k6 false

theorem network_Net_Answer_1_f_le {k_ : Nat} {s_0 : Int} {p_1 : Int} {p_2 : T_network_Net} {p_3 : Int} {p_4 : Bool} {p_5 : Bool} : Le (network_Net_Answer_1_f k_ s_0 p_1 p_2 p_3 p_4 p_5) (network_Net_Answer_1_m s_0 p_1 p_2 p_3 p_4 p_5) := by
  unfold network_Net_Answer_1_f network_Net_Answer_1_m
  repeat' with_reducible (first | exact Le.refl _ | refine network_Set_Has_f_le | refine network_Net_Admissible_f_le | refine network_Net_Stable_f_le | refine Le.bind ?_ (Le.sumK fun _ => ?_) | refine Le.bind ?_ (fun _ => ?_) | refine Le.cond ?_ ?_ | refine Le.letM (fun _ => ?_) | refine Le.join (fun _ => ?_) (fun _ _ hj => ?_) | exact hj _)

def network_subsets_l1f (k_ : Nat) (s_0 : Int) (e_0 : Int) (e_1 : T_network_Net) (e_2 : Int) (e_3 : Bool) (s11 : Int × Bool) : Option (Sum (Bool) (Int × Bool)) :=
  Option.bind (network_Net_Answer_1_f k_ s11.1 e_0 e_1 e_2 e_3 s11.2) fun t13 =>
  bif !t13.1 then
    some (Sum.inl t13.2)
  else
    bif s11.1 == 0 then
      some (Sum.inl t13.2)
    else
      letM (iand .u64 (isub .u64 s11.1 1) s_0) fun x15 =>
      some (Sum.inr (x15, t13.2))

theorem network_subsets_l1f_le {k_ : Nat} {s_0 : Int} {e_0 : Int} {e_1 : T_network_Net} {e_2 : Int} {e_3 : Bool} {s11 : Int × Bool} : Le (network_subsets_l1f k_ s_0 e_0 e_1 e_2 e_3 s11) (network_subsets_l1 s_0 e_0 e_1 e_2 e_3 s11) := by
  unfold network_subsets_l1f network_subsets_l1
  repeat' with_reducible (first | exact Le.refl _ | refine network_Net_Answer_1_f_le | refine Le.bind ?_ (Le.sumK fun _ => ?_) | refine Le.bind ?_ (fun _ => ?_) | refine Le.cond ?_ ?_ | refine Le.letM (fun _ => ?_) | refine Le.join (fun _ => ?_) (fun _ _ hj => ?_) | exact hj _)

def network_subsets_f (k_ : Nat) (s_0 : Int) (e_0 : Int) (e_1 : T_network_Net) (e_2 : Int) (e_3 : Bool) (e_4 : Bool) : Option (Bool) :=
  Option.bind (loopF k_ (network_subsets_l1f k_ s_0 e_0 e_1 e_2 e_3) (s_0, e_4)) (fun a : Bool => some a)

theorem network_subsets_f_le {k_ : Nat} {s_0 : Int} {e_0 : Int} {e_1 : T_network_Net} {e_2 : Int} {e_3 : Bool} {e_4 : Bool} : Le (network_subsets_f k_ s_0 e_0 e_1 e_2 e_3 e_4) (network_subsets_m s_0 e_0 e_1 e_2 e_3 e_4) := by
  unfold network_subsets_f network_subsets_m
  repeat' with_reducible (first | exact Le.refl _ | refine Le.loop (fun _ => network_subsets_l1f_le) | refine Le.bind ?_ (Le.sumK fun _ => ?_) | refine Le.bind ?_ (fun _ => ?_) | refine Le.cond ?_ ?_ | refine Le.letM (fun _ => ?_) | refine Le.join (fun _ => ?_) (fun _ _ hj => ?_) | exact hj _)

def network_Net_Answer_f (k_ : Nat) (n_0 : T_network_Net) (question_1 : Int) (node_2 : Int) : Option (Bool) :=
  bif question_1 == 4 then
    Option.bind (network_Net_In_f k_ n_0) fun t5 =>
    Option.bind (network_Set_Has_f k_ t5 node_2) fun t6 =>
    some t6
  else
    Option.bind (network_subsets_f k_ n_0.All question_1 n_0 node_2 (question_1 == 3) (question_1 == 3)) fun t9 =>
    some t9

theorem network_Net_Answer_f_le {k_ : Nat} {n_0 : T_network_Net} {question_1 : Int} {node_2 : Int} : Le (network_Net_Answer_f k_ n_0 question_1 node_2) (network_Net_Answer_m n_0 question_1 node_2) := by
  unfold network_Net_Answer_f network_Net_Answer_m
  repeat' with_reducible (first | exact Le.refl _ | refine network_Net_In_f_le | refine network_Set_Has_f_le | refine network_subsets_f_le | refine Le.bind ?_ (Le.sumK fun _ => ?_) | refine Le.bind ?_ (fun _ => ?_) | refine Le.cond ?_ ?_ | refine Le.letM (fun _ => ?_) | refine Le.join (fun _ => ?_) (fun _ _ hj => ?_) | exact hj _)

def chance_joint_1_l1f (k_ : Nat) (n_0 : T_network_Net) (p_3 : Int) (p_4 : Int) (t3 : List Int) (s11 : Int) : Option (Sum ((Sum (Int) (Unit))) (Int)) :=
  bif decide (s11 < (t3.length : Int)) then
    Option.bind (idxM t3 s11) fun x14 =>
    Option.bind (network_Net_Answer_f k_ n_0 p_3 x14) fun t15 =>
    bif !t15 then
      some (Sum.inl (Sum.inl p_4))
    else
      some (Sum.inr (iadd .i64 s11 1))
  else
    some (Sum.inl (Sum.inr ()))

theorem chance_joint_1_l1f_le {k_ : Nat} {n_0 : T_network_Net} {p_3 : Int} {p_4 : Int} {t3 : List Int} {s11 : Int} : Le (chance_joint_1_l1f k_ n_0 p_3 p_4 t3 s11) (chance_joint_1_l1 n_0 p_3 p_4 t3 s11) := by
  unfold chance_joint_1_l1f chance_joint_1_l1
  repeat' with_reducible (first | exact Le.refl _ | refine network_Net_Answer_f_le | refine Le.bind ?_ (Le.sumK fun _ => ?_) | refine Le.bind ?_ (fun _ => ?_) | refine Le.cond ?_ ?_ | refine Le.letM (fun _ => ?_) | refine Le.join (fun _ => ?_) (fun _ _ hj => ?_) | exact hj _)

def chance_joint_1_f (k_ : Nat) (n_0 : T_network_Net) (weight_1 : Int) (p_2 : Int) (p_3 : Int) (p_4 : Int) : Option (Int) :=
  bif (iandn .u64 p_2 n_0.All) != 0 then
    some p_4
  else
    Option.bind (network_Set_List_f k_ p_2) fun t3 =>
    Option.bind (loopF k_ (chance_joint_1_l1f k_ n_0 p_3 p_4 t3) 0) (sumK (fun a : Int => some a) fun q17 : Unit =>
      some (iadd .i64 p_4 weight_1))

theorem chance_joint_1_f_le {k_ : Nat} {n_0 : T_network_Net} {weight_1 : Int} {p_2 : Int} {p_3 : Int} {p_4 : Int} : Le (chance_joint_1_f k_ n_0 weight_1 p_2 p_3 p_4) (chance_joint_1_m n_0 weight_1 p_2 p_3 p_4) := by
  unfold chance_joint_1_f chance_joint_1_m
  repeat' with_reducible (first | exact Le.refl _ | refine network_Set_List_f_le | refine Le.loop (fun _ => chance_joint_1_l1f_le) | refine Le.bind ?_ (Le.sumK fun _ => ?_) | refine Le.bind ?_ (fun _ => ?_) | refine Le.cond ?_ ?_ | refine Le.letM (fun _ => ?_) | refine Le.join (fun _ => ?_) (fun _ _ hj => ?_) | exact hj _)

def chance_worlds_1_bf (k_ : Nat) (rec_ : Int → Int → (List T_api_Fraction) → Int → Int → Int → T_api_Graph → (List Bool) → Option (Int × (List Bool))) (i_0 : Int) (weight_1 : Int) (p_2 : (List T_api_Fraction)) (e_3 : Int) (e_4 : Int) (e_5 : Int) (p_4 : T_api_Graph) (p_5 : (List Bool)) : Option (Int × (List Bool)) :=
  bif i_0 == (p_2.length : Int) then
    Option.bind (chance_world_f k_ p_4 p_5) fun t2 =>
    Option.bind (chance_joint_1_f k_ t2 weight_1 e_3 e_4 e_5) fun t3 =>
    some (t3, p_5)
  else
    Option.bind (idxM p_2 i_0) fun t4 =>
    Option.bind (chance_certain_f k_ t4) fun t6 =>
    bif t6 then
      Option.bind (idxM p_5 i_0) fun t8 =>
      Option.bind (rec_ (iadd .i64 i_0 1) weight_1 p_2 e_3 e_4 e_5 p_4 (p_5.set (Int.toNat i_0) (t4.Num != 0))) fun t9 =>
      some (t9.1, t9.2)
    else
      Option.bind (idxM p_5 i_0) fun t10 =>
      Option.bind (rec_ (iadd .i64 i_0 1) (imul .i64 weight_1 t4.Num) p_2 e_3 e_4 e_5 p_4 (p_5.set (Int.toNat i_0) true)) fun t11 =>
      Option.bind (idxM t11.2 i_0) fun t12 =>
      Option.bind (rec_ (iadd .i64 i_0 1) (imul .i64 weight_1 (isub .i64 t4.Den t4.Num)) p_2 e_3 e_4 t11.1 p_4 (t11.2.set (Int.toNat i_0) false)) fun t13 =>
      some (t13.1, t13.2)

theorem chance_worlds_1_bf_le {k_ : Nat} {rec_ rec_' : Int → Int → (List T_api_Fraction) → Int → Int → Int → T_api_Graph → (List Bool) → Option (Int × (List Bool))} (h : ∀ a0 a1 a2 a3 a4 a5 a6 a7, Le (rec_ a0 a1 a2 a3 a4 a5 a6 a7) (rec_' a0 a1 a2 a3 a4 a5 a6 a7)) {i_0 : Int} {weight_1 : Int} {p_2 : (List T_api_Fraction)} {e_3 : Int} {e_4 : Int} {e_5 : Int} {p_4 : T_api_Graph} {p_5 : (List Bool)} : Le (chance_worlds_1_bf k_ rec_ i_0 weight_1 p_2 e_3 e_4 e_5 p_4 p_5) (chance_worlds_1_b rec_' i_0 weight_1 p_2 e_3 e_4 e_5 p_4 p_5) := by
  unfold chance_worlds_1_bf chance_worlds_1_b
  repeat' with_reducible (first | exact Le.refl _ | exact h _ _ _ _ _ _ _ _ | refine chance_world_f_le | refine chance_joint_1_f_le | refine chance_certain_f_le | refine Le.bind ?_ (Le.sumK fun _ => ?_) | refine Le.bind ?_ (fun _ => ?_) | refine Le.cond ?_ ?_ | refine Le.letM (fun _ => ?_) | refine Le.join (fun _ => ?_) (fun _ _ hj => ?_) | exact hj _)

def chance_worlds_1_nf (k_ : Nat) : Nat → Int → Int → (List T_api_Fraction) → Int → Int → Int → T_api_Graph → (List Bool) → Option (Int × (List Bool))
  | 0 => fun _ _ _ _ _ _ _ _ => none
  | n_ + 1 => chance_worlds_1_bf k_ (chance_worlds_1_nf k_ n_)

theorem chance_worlds_1_nf_le {k_ : Nat} : ∀ (n_ : Nat) a0 a1 a2 a3 a4 a5 a6 a7, Le (chance_worlds_1_nf k_ n_ a0 a1 a2 a3 a4 a5 a6 a7) (chance_worlds_1_n n_ a0 a1 a2 a3 a4 a5 a6 a7)
  | 0, _, _, _, _, _, _, _, _ => fun _ h => by cases h
  | n_ + 1, _, _, _, _, _, _, _, _ => chance_worlds_1_bf_le (chance_worlds_1_nf_le n_)

def chance_worlds_1_f (k_ : Nat) (i_0 : Int) (weight_1 : Int) (p_2 : (List T_api_Fraction)) (e_3 : Int) (e_4 : Int) (e_5 : Int) (p_4 : T_api_Graph) (p_5 : (List Bool)) : Option (Int × (List Bool)) := chance_worlds_1_nf k_ k_ i_0 weight_1 p_2 e_3 e_4 e_5 p_4 p_5

theorem chance_worlds_1_f_le {k_ : Nat} {i_0 : Int} {weight_1 : Int} {p_2 : (List T_api_Fraction)} {e_3 : Int} {e_4 : Int} {e_5 : Int} {p_4 : T_api_Graph} {p_5 : (List Bool)} : Le (chance_worlds_1_f k_ i_0 weight_1 p_2 e_3 e_4 e_5 p_4 p_5) (chance_worlds_1_m i_0 weight_1 p_2 e_3 e_4 e_5 p_4 p_5) := fun r hr => recC_of (fun n => chance_worlds_1_n_le n _ _ _ _ _ _ _ _) (chance_worlds_1_nf_le k_ _ _ _ _ _ _ _ _ r hr)

def chance_worlds_l1f (k_ : Nat) (t4 : List T_api_Fraction) (s14 : Int × Int) : Option (Sum (Int) (Int × Int)) :=
  bif decide (s14.2 < (t4.length : Int)) then
    Option.bind (idxM t4 s14.2) fun t17 =>
    Option.bind (chance_certain_f k_ t17) fun t19 =>
    bif !t19 then
      letM (imul .i64 s14.1 t17.Den) fun total21 =>
      some (Sum.inr (total21, iadd .i64 s14.2 1))
    else
      some (Sum.inr (s14.1, iadd .i64 s14.2 1))
  else
    some (Sum.inl s14.1)

theorem chance_worlds_l1f_le {k_ : Nat} {t4 : List T_api_Fraction} {s14 : Int × Int} : Le (chance_worlds_l1f k_ t4 s14) (chance_worlds_l1 t4 s14) := by
  unfold chance_worlds_l1f chance_worlds_l1
  repeat' with_reducible (first | exact Le.refl _ | refine chance_certain_f_le | refine Le.bind ?_ (Le.sumK fun _ => ?_) | refine Le.bind ?_ (fun _ => ?_) | refine Le.cond ?_ ?_ | refine Le.letM (fun _ => ?_) | refine Le.join (fun _ => ?_) (fun _ _ hj => ?_) | exact hj _)

def chance_worlds_f (k_ : Nat) (g_0 : T_api_Graph) (o_1 : T_api_Odds) (e_0 : Int) (e_1 : Int) (e_2 : Int) : Option (Int × Int) :=
  Option.bind (slices_Concat_api_Fraction_api_Fraction_f k_ [o_1.Nodes, o_1.Attacks]) fun t4 =>
  Option.bind (loopF k_ (chance_worlds_l1f k_ t4) (1, 0)) fun q22 : Int =>
  Option.bind (slices_Concat_api_Fraction_api_Fraction_f k_ [o_1.Nodes, o_1.Attacks]) fun t24 =>
  Option.bind (mkM 1 false (t24.length : Int)) fun t27 =>
  Option.bind (chance_worlds_1_f k_ 0 1 t24 e_0 e_1 e_2 g_0 t27) fun t31 =>
  some (q22, t31.1)

theorem chance_worlds_f_le {k_ : Nat} {g_0 : T_api_Graph} {o_1 : T_api_Odds} {e_0 : Int} {e_1 : Int} {e_2 : Int} : Le (chance_worlds_f k_ g_0 o_1 e_0 e_1 e_2) (chance_worlds_m g_0 o_1 e_0 e_1 e_2) := by
  unfold chance_worlds_f chance_worlds_m
  repeat' with_reducible (first | exact Le.refl _ | refine slices_Concat_api_Fraction_api_Fraction_f_le | refine chance_worlds_1_f_le | refine Le.loop (fun _ => chance_worlds_l1f_le) | refine Le.bind ?_ (Le.sumK fun _ => ?_) | refine Le.bind ?_ (fun _ => ?_) | refine Le.cond ?_ ?_ | refine Le.letM (fun _ => ?_) | refine Le.join (fun _ => ?_) (fun _ _ hj => ?_) | exact hj _)

def chance_joint_f (k_ : Nat) (g_0 : T_api_Graph) (o_1 : T_api_Odds) (set__2 : Int) (question_3 : Int) : Option (Int × Int) :=
  Option.bind (chance_worlds_f k_ g_0 o_1 set__2 question_3 0) fun total6 =>
  some (total6.2, total6.1)

theorem chance_joint_f_le {k_ : Nat} {g_0 : T_api_Graph} {o_1 : T_api_Odds} {set__2 : Int} {question_3 : Int} : Le (chance_joint_f k_ g_0 o_1 set__2 question_3) (chance_joint_m g_0 o_1 set__2 question_3) := by
  unfold chance_joint_f chance_joint_m
  repeat' with_reducible (first | exact Le.refl _ | refine chance_worlds_f_le | refine Le.bind ?_ (Le.sumK fun _ => ?_) | refine Le.bind ?_ (fun _ => ?_) | refine Le.cond ?_ ?_ | refine Le.letM (fun _ => ?_) | refine Le.join (fun _ => ?_) (fun _ _ hj => ?_) | exact hj _)

def chance_reduced_l1f (k_ : Nat)  (s6 : Int × Int) : Option (Sum (Int) (Int × Int)) :=
  bif s6.2 != 0 then
    Option.bind (iremM .i64 s6.1 s6.2) fun b9 =>
    some (Sum.inr (s6.2, b9))
  else
    some (Sum.inl s6.1)

theorem chance_reduced_l1f_le {k_ : Nat} {s6 : Int × Int} : Le (chance_reduced_l1f k_ s6) (chance_reduced_l1 s6) := by
  unfold chance_reduced_l1f chance_reduced_l1
  repeat' with_reducible (first | exact Le.refl _ | refine Le.bind ?_ (Le.sumK fun _ => ?_) | refine Le.bind ?_ (fun _ => ?_) | refine Le.cond ?_ ?_ | refine Le.letM (fun _ => ?_) | refine Le.join (fun _ => ?_) (fun _ _ hj => ?_) | exact hj _)

def chance_reduced_f (k_ : Nat) (num_0 : Int) (den_1 : Int) : Option (T_api_Fraction) :=
  Option.bind (loopF k_ (chance_reduced_l1f k_) (num_0, den_1)) fun q10 : Int =>
  Option.bind (iquoM .i64 num_0 q10) fun t12 =>
  Option.bind (iquoM .i64 den_1 q10) fun t13 =>
  some (T_api_Fraction.mk t12 t13)

theorem chance_reduced_f_le {k_ : Nat} {num_0 : Int} {den_1 : Int} : Le (chance_reduced_f k_ num_0 den_1) (chance_reduced_m num_0 den_1) := by
  unfold chance_reduced_f chance_reduced_m
  repeat' with_reducible (first | exact Le.refl _ | refine Le.loop (fun _ => chance_reduced_l1f_le) | refine Le.bind ?_ (Le.sumK fun _ => ?_) | refine Le.bind ?_ (fun _ => ?_) | refine Le.cond ?_ ?_ | refine Le.letM (fun _ => ?_) | refine Le.join (fun _ => ?_) (fun _ _ hj => ?_) | exact hj _)

def chance_Joint_f (k_ : Nat) (g_0 : T_api_Graph) (o_1 : T_api_Odds) (set__2 : (List Int)) (question_3 : Int) : Option (T_api_Fraction × Int) :=
  Option.bind (chance_arguments_f k_ g_0 o_1 set__2 question_3) fun e4 =>
  bif e4 != 0 then
    some ((T_api_Fraction.mk 0 0), e4)
  else
    Option.bind (network_Of_f k_ set__2) fun t6 =>
    Option.bind (chance_joint_f k_ g_0 o_1 t6 question_3) fun t7 =>
    Option.bind (chance_reduced_f k_ t7.1 t7.2) fun t8 =>
    some (t8, 0)

theorem chance_Joint_f_le {k_ : Nat} {g_0 : T_api_Graph} {o_1 : T_api_Odds} {set__2 : (List Int)} {question_3 : Int} : Le (chance_Joint_f k_ g_0 o_1 set__2 question_3) (chance_Joint_m g_0 o_1 set__2 question_3) := by
  unfold chance_Joint_f chance_Joint_m
  repeat' with_reducible (first | exact Le.refl _ | refine chance_arguments_f_le | refine network_Of_f_le | refine chance_joint_f_le | refine chance_reduced_f_le | refine Le.bind ?_ (Le.sumK fun _ => ?_) | refine Le.bind ?_ (fun _ => ?_) | refine Le.cond ?_ ?_ | refine Le.letM (fun _ => ?_) | refine Le.join (fun _ => ?_) (fun _ _ hj => ?_) | exact hj _)

def chance_Given_l1f (k_ : Nat) (g_0 : T_api_Graph) (o_1 : T_api_Odds) (a__2 : (List Int)) (b_3 : (List Int)) (question_4 : Int) (s10 : Int) : Option (Sum ((Sum (T_api_Fraction × Int) (Unit))) (Int)) :=
  bif decide (s10 < ([a__2, b_3].length : Int)) then
    Option.bind (idxM [a__2, b_3] s10) fun l13 =>
    Option.bind (chance_arguments_f k_ g_0 o_1 l13 question_4) fun e14 =>
    bif e14 != 0 then
      some (Sum.inl (Sum.inl ((T_api_Fraction.mk 0 0), e14)))
    else
      some (Sum.inr (iadd .i64 s10 1))
  else
    some (Sum.inl (Sum.inr ()))

theorem chance_Given_l1f_le {k_ : Nat} {g_0 : T_api_Graph} {o_1 : T_api_Odds} {a__2 : (List Int)} {b_3 : (List Int)} {question_4 : Int} {s10 : Int} : Le (chance_Given_l1f k_ g_0 o_1 a__2 b_3 question_4 s10) (chance_Given_l1 g_0 o_1 a__2 b_3 question_4 s10) := by
  unfold chance_Given_l1f chance_Given_l1
  repeat' with_reducible (first | exact Le.refl _ | refine chance_arguments_f_le | refine Le.bind ?_ (Le.sumK fun _ => ?_) | refine Le.bind ?_ (fun _ => ?_) | refine Le.cond ?_ ?_ | refine Le.letM (fun _ => ?_) | refine Le.join (fun _ => ?_) (fun _ _ hj => ?_) | exact hj _)

def chance_Given_f (k_ : Nat) (g_0 : T_api_Graph) (o_1 : T_api_Odds) (a__2 : (List Int)) (b_3 : (List Int)) (question_4 : Int) : Option (T_api_Fraction × Int) :=
  Option.bind (loopF k_ (chance_Given_l1f k_ g_0 o_1 a__2 b_3 question_4) 0) (sumK (fun a : T_api_Fraction × Int => some a) fun q16 : Unit =>
    Option.bind (network_Of_f k_ b_3) fun t18 =>
    Option.bind (chance_joint_f k_ g_0 o_1 t18 question_4) fun t19 =>
    bif t19.1 == 0 then
      some ((T_api_Fraction.mk 0 0), 9)
    else
      Option.bind (network_Of_f k_ a__2) fun t21 =>
      Option.bind (network_Of_f k_ b_3) fun t22 =>
      Option.bind (chance_joint_f k_ g_0 o_1 (ior .u64 t21 t22) question_4) fun t23 =>
      Option.bind (chance_reduced_f k_ t23.1 t19.1) fun t24 =>
      some (t24, 0))

theorem chance_Given_f_le {k_ : Nat} {g_0 : T_api_Graph} {o_1 : T_api_Odds} {a__2 : (List Int)} {b_3 : (List Int)} {question_4 : Int} : Le (chance_Given_f k_ g_0 o_1 a__2 b_3 question_4) (chance_Given_m g_0 o_1 a__2 b_3 question_4) := by
  unfold chance_Given_f chance_Given_m
  repeat' with_reducible (first | exact Le.refl _ | refine network_Of_f_le | refine chance_joint_f_le | refine chance_reduced_f_le | refine Le.loop (fun _ => chance_Given_l1f_le) | refine Le.bind ?_ (Le.sumK fun _ => ?_) | refine Le.bind ?_ (fun _ => ?_) | refine Le.cond ?_ ?_ | refine Le.letM (fun _ => ?_) | refine Le.join (fun _ => ?_) (fun _ _ hj => ?_) | exact hj _)

def law23_awake_f (k_ : Nat)  : Option (Bool) :=
  Option.bind (chance_Joint_f k_ (T_api_Graph.mk 2 [(T_api_Pair.mk 0 1)]) (T_api_Odds.mk [(T_api_Fraction.mk 1 2), (T_api_Fraction.mk 1 1)] [(T_api_Fraction.mk 1 1)]) [1] 4) fun t4 =>
  Option.bind (chance_Given_f k_ (T_api_Graph.mk 2 [(T_api_Pair.mk 0 1)]) (T_api_Odds.mk [(T_api_Fraction.mk 1 2), (T_api_Fraction.mk 1 1)] [(T_api_Fraction.mk 1 1)]) [1] [0] 1) fun t6 =>
  bif t4.2 == 0 then
    bif t6.2 == 0 then
      bif decide (t4.1 = (T_api_Fraction.mk 1 2)) then
        letM (decide (t6.1 = (T_api_Fraction.mk 0 1))) fun t8 =>
        some t8
      else
        some false
    else
      some false
  else
    some false

theorem law23_awake_f_le {k_ : Nat}  : Le (law23_awake_f k_ ) (law23_awake_m ) := by
  unfold law23_awake_f law23_awake_m
  repeat' with_reducible (first | exact Le.refl _ | refine chance_Joint_f_le | refine chance_Given_f_le | refine Le.bind ?_ (Le.sumK fun _ => ?_) | refine Le.bind ?_ (fun _ => ?_) | refine Le.cond ?_ ?_ | refine Le.letM (fun _ => ?_) | refine Le.join (fun _ => ?_) (fun _ _ hj => ?_) | exact hj _)

end Go.Dc
