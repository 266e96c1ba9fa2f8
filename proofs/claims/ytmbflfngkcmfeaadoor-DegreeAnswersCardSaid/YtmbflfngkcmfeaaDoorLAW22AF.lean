/- Part LAW22A.F of a proof: lemmas. -/
import Derived.Test.YtmbflfngkcmfeaaDoorLAW22AA2
import Derived.Test.YtmbflfngkcmfeaaDoorDcFuel
import Derived.Test.YtmbflfngkcmfeaaDoorDcSortP
set_option linter.unusedVariables false
set_option maxRecDepth 100000
namespace Go.Dc

def cmp_isNaN_int_f (k_ : Nat) (x_0 : Int) : Option (Bool) :=
  some (x_0 != x_0)

theorem cmp_isNaN_int_f_le {k_ : Nat} {x_0 : Int} : Le (cmp_isNaN_int_f k_ x_0) (cmp_isNaN_int_m x_0) := by
  unfold cmp_isNaN_int_f cmp_isNaN_int_m
  repeat' with_reducible (first | exact Le.refl _ | refine Le.bind ?_ (Le.sumK fun _ => ?_) | refine Le.bind ?_ (fun _ => ?_) | refine Le.cond ?_ ?_ | refine Le.letM (fun _ => ?_) | refine Le.join (fun _ => ?_) (fun _ _ hj => ?_) | exact hj _)

def cmp_Compare_int_f (k_ : Nat) (x_0 : Int) (y_1 : Int) : Option (Int) :=
  Option.bind (cmp_isNaN_int_f k_ x_0) fun xNaN1 =>
  Option.bind (cmp_isNaN_int_f k_ y_1) fun yNaN2 =>
  bif xNaN1 then
    bif yNaN2 then
      some 0
    else
      some (-1)
  else
    bif yNaN2 then
      some 1
    else
      bif decide (x_0 < y_1) then
        some (-1)
      else
        bif decide (x_0 > y_1) then
          some 1
        else
          some 0

theorem cmp_Compare_int_f_le {k_ : Nat} {x_0 : Int} {y_1 : Int} : Le (cmp_Compare_int_f k_ x_0 y_1) (cmp_Compare_int_m x_0 y_1) := by
  unfold cmp_Compare_int_f cmp_Compare_int_m
  repeat' with_reducible (first | exact Le.refl _ | refine cmp_isNaN_int_f_le | refine Le.bind ?_ (Le.sumK fun _ => ?_) | refine Le.bind ?_ (fun _ => ?_) | refine Le.cond ?_ ?_ | refine Le.letM (fun _ => ?_) | refine Le.join (fun _ => ?_) (fun _ _ hj => ?_) | exact hj _)

def cmp_Or_int_l1f (k_ : Nat) (vals_0 : (List Int)) (s6 : Int) : Option (Sum ((Sum (Int) (Unit))) (Int)) :=
  bif decide (s6 < (vals_0.length : Int)) then
    Option.bind (idxM vals_0 s6) fun val9 =>
    bif val9 != 0 then
      some (Sum.inl (Sum.inl val9))
    else
      some (Sum.inr (iadd .i64 s6 1))
  else
    some (Sum.inl (Sum.inr ()))

theorem cmp_Or_int_l1f_le {k_ : Nat} {vals_0 : (List Int)} {s6 : Int} : Le (cmp_Or_int_l1f k_ vals_0 s6) (cmp_Or_int_l1 vals_0 s6) := by
  unfold cmp_Or_int_l1f cmp_Or_int_l1
  repeat' with_reducible (first | exact Le.refl _ | refine Le.bind ?_ (Le.sumK fun _ => ?_) | refine Le.bind ?_ (fun _ => ?_) | refine Le.cond ?_ ?_ | refine Le.letM (fun _ => ?_) | refine Le.join (fun _ => ?_) (fun _ _ hj => ?_) | exact hj _)

def cmp_Or_int_f (k_ : Nat) (vals_0 : (List Int)) : Option (Int) :=
  Option.bind (loopF k_ (cmp_Or_int_l1f k_ vals_0) 0) (sumK (fun a : Int => some a) fun q11 : Unit =>
    some 0)

theorem cmp_Or_int_f_le {k_ : Nat} {vals_0 : (List Int)} : Le (cmp_Or_int_f k_ vals_0) (cmp_Or_int_m vals_0) := by
  unfold cmp_Or_int_f cmp_Or_int_m
  repeat' with_reducible (first | exact Le.refl _ | refine Le.loop (fun _ => cmp_Or_int_l1f_le) | refine Le.bind ?_ (Le.sumK fun _ => ?_) | refine Le.bind ?_ (fun _ => ?_) | refine Le.cond ?_ ?_ | refine Le.letM (fun _ => ?_) | refine Le.join (fun _ => ?_) (fun _ _ hj => ?_) | exact hj _)

def graph_compare_f (k_ : Nat) (a__0 : T_api_Pair) (b_1 : T_api_Pair) : Option (Int) :=
  Option.bind (cmp_Compare_int_f k_ a__0.From b_1.From) fun t3 =>
  Option.bind (cmp_Compare_int_f k_ a__0.To b_1.To) fun t4 =>
  Option.bind (cmp_Or_int_f k_ [t3, t4]) fun t5 =>
  some t5

theorem graph_compare_f_le {k_ : Nat} {a__0 : T_api_Pair} {b_1 : T_api_Pair} : Le (graph_compare_f k_ a__0 b_1) (graph_compare_m a__0 b_1) := by
  unfold graph_compare_f graph_compare_m
  repeat' with_reducible (first | exact Le.refl _ | refine cmp_Compare_int_f_le | refine cmp_Or_int_f_le | refine Le.bind ?_ (Le.sumK fun _ => ?_) | refine Le.bind ?_ (fun _ => ?_) | refine Le.cond ?_ ?_ | refine Le.letM (fun _ => ?_) | refine Le.join (fun _ => ?_) (fun _ _ hj => ?_) | exact hj _)

def graph_Validate_l1f (k_ : Nat) (g_0 : T_api_Graph) (s12 : Int) : Option (Sum ((Sum (Int) (Unit))) (Int)) :=
  bif decide (s12 < (g_0.L.length : Int)) then
    Option.bind (idxM g_0.L s12) fun t15 =>
    bif decide ((imin t15.From t15.To) < 0) then
      some (Sum.inl (Sum.inl 1))
    else
      bif decide ((imax t15.From t15.To) ≥ g_0.N) then
        some (Sum.inl (Sum.inl 1))
      else
        bif decide (s12 > 0) then
          Option.bind (idxM g_0.L (isub .i64 s12 1)) fun t18 =>
          Option.bind (graph_compare_f k_ t18 t15) fun t19 =>
          bif decide (t19 ≥ 0) then
            some (Sum.inl (Sum.inl 8))
          else
            some (Sum.inr (iadd .i64 s12 1))
        else
          some (Sum.inr (iadd .i64 s12 1))
  else
    some (Sum.inl (Sum.inr ()))

theorem graph_Validate_l1f_le {k_ : Nat} {g_0 : T_api_Graph} {s12 : Int} : Le (graph_Validate_l1f k_ g_0 s12) (graph_Validate_l1 g_0 s12) := by
  unfold graph_Validate_l1f graph_Validate_l1
  repeat' with_reducible (first | exact Le.refl _ | refine graph_compare_f_le | refine Le.bind ?_ (Le.sumK fun _ => ?_) | refine Le.bind ?_ (fun _ => ?_) | refine Le.cond ?_ ?_ | refine Le.letM (fun _ => ?_) | refine Le.join (fun _ => ?_) (fun _ _ hj => ?_) | exact hj _)

def graph_Validate_f (k_ : Nat) (g_0 : T_api_Graph) : Option (Int) :=
  bif decide (g_0.N < 0) then
    some 1
  else
    bif decide (g_0.N > 40) then
      some 1
    else
      Option.bind (loopF k_ (graph_Validate_l1f k_ g_0) 0) (sumK (fun a : Int => some a) fun q21 : Unit =>
        some 0)

theorem graph_Validate_f_le {k_ : Nat} {g_0 : T_api_Graph} : Le (graph_Validate_f k_ g_0) (graph_Validate_m g_0) := by
  unfold graph_Validate_f graph_Validate_m
  repeat' with_reducible (first | exact Le.refl _ | refine Le.loop (fun _ => graph_Validate_l1f_le) | refine Le.bind ?_ (Le.sumK fun _ => ?_) | refine Le.bind ?_ (fun _ => ?_) | refine Le.cond ?_ ?_ | refine Le.letM (fun _ => ?_) | refine Le.join (fun _ => ?_) (fun _ _ hj => ?_) | exact hj _)

def degree_weighs_1_f (k_ : Nat) (w__0 : Int) : Option (Bool) :=
  bif decide (w__0 < 0) then
    some true
  else
    letM (decide (w__0 > 1000)) fun t1 =>
    some t1

theorem degree_weighs_1_f_le {k_ : Nat} {w__0 : Int} : Le (degree_weighs_1_f k_ w__0) (degree_weighs_1_m w__0) := by
  unfold degree_weighs_1_f degree_weighs_1_m
  repeat' with_reducible (first | exact Le.refl _ | refine Le.bind ?_ (Le.sumK fun _ => ?_) | refine Le.bind ?_ (fun _ => ?_) | refine Le.cond ?_ ?_ | refine Le.letM (fun _ => ?_) | refine Le.join (fun _ => ?_) (fun _ _ hj => ?_) | exact hj _)

def slices_IndexFunc_int_int_l1f (k_ : Nat) (s_0 : (List Int)) (s7 : Int) : Option (Sum ((Sum (Int) (Unit))) (Int)) :=
  bif decide (s7 < (s_0.length : Int)) then
    Option.bind (idxM s_0 s7) fun t10 =>
    Option.bind (degree_weighs_1_f k_ t10) fun t11 =>
    bif t11 then
      some (Sum.inl (Sum.inl s7))
    else
      some (Sum.inr (iadd .i64 s7 1))
  else
    some (Sum.inl (Sum.inr ()))

theorem slices_IndexFunc_int_int_l1f_le {k_ : Nat} {s_0 : (List Int)} {s7 : Int} : Le (slices_IndexFunc_int_int_l1f k_ s_0 s7) (slices_IndexFunc_int_int_l1 s_0 s7) := by
  unfold slices_IndexFunc_int_int_l1f slices_IndexFunc_int_int_l1
  repeat' with_reducible (first | exact Le.refl _ | refine degree_weighs_1_f_le | refine Le.bind ?_ (Le.sumK fun _ => ?_) | refine Le.bind ?_ (fun _ => ?_) | refine Le.cond ?_ ?_ | refine Le.letM (fun _ => ?_) | refine Le.join (fun _ => ?_) (fun _ _ hj => ?_) | exact hj _)

def slices_IndexFunc_int_int_f (k_ : Nat) (s_0 : (List Int)) : Option (Int) :=
  Option.bind (loopF k_ (slices_IndexFunc_int_int_l1f k_ s_0) 0) (sumK (fun a : Int => some a) fun q13 : Unit =>
    some (-1))

theorem slices_IndexFunc_int_int_f_le {k_ : Nat} {s_0 : (List Int)} : Le (slices_IndexFunc_int_int_f k_ s_0) (slices_IndexFunc_int_int_m s_0) := by
  unfold slices_IndexFunc_int_int_f slices_IndexFunc_int_int_m
  repeat' with_reducible (first | exact Le.refl _ | refine Le.loop (fun _ => slices_IndexFunc_int_int_l1f_le) | refine Le.bind ?_ (Le.sumK fun _ => ?_) | refine Le.bind ?_ (fun _ => ?_) | refine Le.cond ?_ ?_ | refine Le.letM (fun _ => ?_) | refine Le.join (fun _ => ?_) (fun _ _ hj => ?_) | exact hj _)

def slices_ContainsFunc_int_int_f (k_ : Nat) (s_0 : (List Int)) : Option (Bool) :=
  Option.bind (slices_IndexFunc_int_int_f k_ s_0) fun t1 =>
  letM (decide (t1 ≥ 0)) fun t2 =>
  some t2

theorem slices_ContainsFunc_int_int_f_le {k_ : Nat} {s_0 : (List Int)} : Le (slices_ContainsFunc_int_int_f k_ s_0) (slices_ContainsFunc_int_int_m s_0) := by
  unfold slices_ContainsFunc_int_int_f slices_ContainsFunc_int_int_m
  repeat' with_reducible (first | exact Le.refl _ | refine slices_IndexFunc_int_int_f_le | refine Le.bind ?_ (Le.sumK fun _ => ?_) | refine Le.bind ?_ (fun _ => ?_) | refine Le.cond ?_ ?_ | refine Le.letM (fun _ => ?_) | refine Le.join (fun _ => ?_) (fun _ _ hj => ?_) | exact hj _)

def degree_weighs_f (k_ : Nat) (g_0 : T_api_Graph) (weights_1 : (List Int)) : Option (Bool) :=
  bif (weights_1.length : Int) == (g_0.L.length : Int) then
    Option.bind (slices_ContainsFunc_int_int_f k_ weights_1) fun t2 =>
    some (!t2)
  else
    some false

theorem degree_weighs_f_le {k_ : Nat} {g_0 : T_api_Graph} {weights_1 : (List Int)} : Le (degree_weighs_f k_ g_0 weights_1) (degree_weighs_m g_0 weights_1) := by
  unfold degree_weighs_f degree_weighs_m
  repeat' with_reducible (first | exact Le.refl _ | refine slices_ContainsFunc_int_int_f_le | refine Le.bind ?_ (Le.sumK fun _ => ?_) | refine Le.bind ?_ (fun _ => ?_) | refine Le.cond ?_ ?_ | refine Le.letM (fun _ => ?_) | refine Le.join (fun _ => ?_) (fun _ _ hj => ?_) | exact hj _)

def slices_Compare_int_int_l1f (k_ : Nat) (s1_0 : (List Int)) (s2_1 : (List Int)) (s9 : Int) : Option (Sum ((Sum (Int) (Unit))) (Int)) :=
  bif decide (s9 < (s1_0.length : Int)) then
    Option.bind (idxM s1_0 s9) fun v112 =>
    bif decide (s9 ≥ (s2_1.length : Int)) then
      some (Sum.inl (Sum.inl 1))
    else
      Option.bind (idxM s2_1 s9) fun v214 =>
      Option.bind (cmp_Compare_int_f k_ v112 v214) fun c15 =>
      bif c15 != 0 then
        some (Sum.inl (Sum.inl c15))
      else
        some (Sum.inr (iadd .i64 s9 1))
  else
    some (Sum.inl (Sum.inr ()))

theorem slices_Compare_int_int_l1f_le {k_ : Nat} {s1_0 : (List Int)} {s2_1 : (List Int)} {s9 : Int} : Le (slices_Compare_int_int_l1f k_ s1_0 s2_1 s9) (slices_Compare_int_int_l1 s1_0 s2_1 s9) := by
  unfold slices_Compare_int_int_l1f slices_Compare_int_int_l1
  repeat' with_reducible (first | exact Le.refl _ | refine cmp_Compare_int_f_le | refine Le.bind ?_ (Le.sumK fun _ => ?_) | refine Le.bind ?_ (fun _ => ?_) | refine Le.cond ?_ ?_ | refine Le.letM (fun _ => ?_) | refine Le.join (fun _ => ?_) (fun _ _ hj => ?_) | exact hj _)

def slices_Compare_int_int_f (k_ : Nat) (s1_0 : (List Int)) (s2_1 : (List Int)) : Option (Int) :=
  Option.bind (loopF k_ (slices_Compare_int_int_l1f k_ s1_0 s2_1) 0) (sumK (fun a : Int => some a) fun q17 : Unit =>
    bif decide ((s1_0.length : Int) < (s2_1.length : Int)) then
      some (-1)
    else
      some 0)

theorem slices_Compare_int_int_f_le {k_ : Nat} {s1_0 : (List Int)} {s2_1 : (List Int)} : Le (slices_Compare_int_int_f k_ s1_0 s2_1) (slices_Compare_int_int_m s1_0 s2_1) := by
  unfold slices_Compare_int_int_f slices_Compare_int_int_m
  repeat' with_reducible (first | exact Le.refl _ | refine Le.loop (fun _ => slices_Compare_int_int_l1f_le) | refine Le.bind ?_ (Le.sumK fun _ => ?_) | refine Le.bind ?_ (fun _ => ?_) | refine Le.cond ?_ ?_ | refine Le.letM (fun _ => ?_) | refine Le.join (fun _ => ?_) (fun _ _ hj => ?_) | exact hj _)

def network_Set_With_f (k_ : Nat) (s_0 : Int) (node_1 : Int) : Option (Int) :=
  Option.bind (ishlM .u64 1 (IntKind.wrap .u64 node_1)) fun t1 =>
  letM (ior .u64 s_0 t1) fun t2 =>
  some t2

theorem network_Set_With_f_le {k_ : Nat} {s_0 : Int} {node_1 : Int} : Le (network_Set_With_f k_ s_0 node_1) (network_Set_With_m s_0 node_1) := by
  unfold network_Set_With_f network_Set_With_m
  repeat' with_reducible (first | exact Le.refl _ | refine Le.bind ?_ (Le.sumK fun _ => ?_) | refine Le.bind ?_ (fun _ => ?_) | refine Le.cond ?_ ?_ | refine Le.letM (fun _ => ?_) | refine Le.join (fun _ => ?_) (fun _ _ hj => ?_) | exact hj _)

def network_New_l1f (k_ : Nat) (g_0 : T_api_Graph) (s17 : Int × Int) : Option (Sum (Int) (Int × Int)) :=
  bif decide (s17.1 < g_0.N) then
    Option.bind (network_Set_With_f k_ s17.2 s17.1) fun t20 =>
    some (Sum.inr (iadd .i64 s17.1 1, t20))
  else
    some (Sum.inl s17.2)

theorem network_New_l1f_le {k_ : Nat} {g_0 : T_api_Graph} {s17 : Int × Int} : Le (network_New_l1f k_ g_0 s17) (network_New_l1 g_0 s17) := by
  unfold network_New_l1f network_New_l1
  repeat' with_reducible (first | exact Le.refl _ | refine network_Set_With_f_le | refine Le.bind ?_ (Le.sumK fun _ => ?_) | refine Le.bind ?_ (fun _ => ?_) | refine Le.cond ?_ ?_ | refine Le.letM (fun _ => ?_) | refine Le.join (fun _ => ?_) (fun _ _ hj => ?_) | exact hj _)

def network_New_l2f (k_ : Nat) (g_0 : T_api_Graph) (s45 : Int × (List Int) × (List Int)) : Option (Sum ((List Int) × (List Int)) (Int × (List Int) × (List Int))) :=
  bif decide (s45.1 < (g_0.L.length : Int)) then
    Option.bind (idxM g_0.L s45.1) fun t48 =>
    Option.bind (idxM s45.2.1 t48.To) fun t50 =>
    Option.bind (network_Set_With_f k_ t50 t48.From) fun t51 =>
    Option.bind (idxM s45.2.1 t48.To) fun t52 =>
    Option.bind (idxM s45.2.2 t48.From) fun t53 =>
    Option.bind (network_Set_With_f k_ t53 t48.To) fun t54 =>
    Option.bind (idxM s45.2.2 t48.From) fun t55 =>
    some (Sum.inr (iadd .i64 s45.1 1, s45.2.1.set (Int.toNat t48.To) t51, s45.2.2.set (Int.toNat t48.From) t54))
  else
    some (Sum.inl (s45.2.1, s45.2.2))

theorem network_New_l2f_le {k_ : Nat} {g_0 : T_api_Graph} {s45 : Int × (List Int) × (List Int)} : Le (network_New_l2f k_ g_0 s45) (network_New_l2 g_0 s45) := by
  unfold network_New_l2f network_New_l2
  repeat' with_reducible (first | exact Le.refl _ | refine network_Set_With_f_le | refine Le.bind ?_ (Le.sumK fun _ => ?_) | refine Le.bind ?_ (fun _ => ?_) | refine Le.cond ?_ ?_ | refine Le.letM (fun _ => ?_) | refine Le.join (fun _ => ?_) (fun _ _ hj => ?_) | exact hj _)

def network_New_f (k_ : Nat) (g_0 : T_api_Graph) : Option (T_network_Net) :=
  Option.bind (mkM 8 0 g_0.N) fun t4 =>
  Option.bind (mkM 8 0 g_0.N) fun t6 =>
  Option.bind (loopF k_ (network_New_l1f k_ g_0) (0, 0)) fun q21 : Int =>
  Option.bind (loopF k_ (network_New_l2f k_ g_0) (0, t4, t6)) fun q56 : (List Int) × (List Int) =>
  some (T_network_Net.mk q21 q56.1 q56.2)

theorem network_New_f_le {k_ : Nat} {g_0 : T_api_Graph} : Le (network_New_f k_ g_0) (network_New_m g_0) := by
  unfold network_New_f network_New_m
  repeat' with_reducible (first | exact Le.refl _ | refine Le.loop (fun _ => network_New_l1f_le) | refine Le.loop (fun _ => network_New_l2f_le) | refine Le.bind ?_ (Le.sumK fun _ => ?_) | refine Le.bind ?_ (fun _ => ?_) | refine Le.cond ?_ ?_ | refine Le.letM (fun _ => ?_) | refine Le.join (fun _ => ?_) (fun _ _ hj => ?_) | exact hj _)

def math_bits_TrailingZeros64_f (k_ : Nat) (x_0 : Int) : Option (Int) :=
  bif x_0 == 0 then
    some 64
  else
    Option.bind (idxM tab_0 (ishr .u64 (imul .u64 (iand .u64 x_0 (ineg .u64 x_0)) 285870213051353865) 58)) fun t2 =>
    letM (IntKind.wrap .i64 t2) fun t3 =>
    some t3

theorem math_bits_TrailingZeros64_f_le {k_ : Nat} {x_0 : Int} : Le (math_bits_TrailingZeros64_f k_ x_0) (math_bits_TrailingZeros64_m x_0) := by
  unfold math_bits_TrailingZeros64_f math_bits_TrailingZeros64_m
  repeat' with_reducible (first | exact Le.refl _ | refine Le.bind ?_ (Le.sumK fun _ => ?_) | refine Le.bind ?_ (fun _ => ?_) | refine Le.cond ?_ ?_ | refine Le.letM (fun _ => ?_) | refine Le.join (fun _ => ?_) (fun _ _ hj => ?_) | exact hj _)

def network_Set_List_l1f (k_ : Nat)  (s15 : Int × (List Int)) : Option (Sum ((List Int)) (Int × (List Int))) :=
  bif s15.1 != 0 then
    Option.bind (math_bits_TrailingZeros64_f k_ s15.1) fun t18 =>
    Option.bind (appM 8 s15.2 [t18]) fun out19 =>
    letM (iand .u64 s15.1 (isub .u64 s15.1 1)) fun s21 =>
    some (Sum.inr (s21, out19))
  else
    some (Sum.inl s15.2)

theorem network_Set_List_l1f_le {k_ : Nat} {s15 : Int × (List Int)} : Le (network_Set_List_l1f k_ s15) (network_Set_List_l1 s15) := by
  unfold network_Set_List_l1f network_Set_List_l1
  repeat' with_reducible (first | exact Le.refl _ | refine math_bits_TrailingZeros64_f_le | refine Le.bind ?_ (Le.sumK fun _ => ?_) | refine Le.bind ?_ (fun _ => ?_) | refine Le.cond ?_ ?_ | refine Le.letM (fun _ => ?_) | refine Le.join (fun _ => ?_) (fun _ _ hj => ?_) | exact hj _)

def network_Set_List_f (k_ : Nat) (s_0 : Int) : Option (List Int) :=
  Option.bind (loopF k_ (network_Set_List_l1f k_) (s_0, [])) fun q22 : (List Int) =>
  some q22

theorem network_Set_List_f_le {k_ : Nat} {s_0 : Int} : Le (network_Set_List_f k_ s_0) (network_Set_List_m s_0) := by
  unfold network_Set_List_f network_Set_List_m
  repeat' with_reducible (first | exact Le.refl _ | refine Le.loop (fun _ => network_Set_List_l1f_le) | refine Le.bind ?_ (Le.sumK fun _ => ?_) | refine Le.bind ?_ (fun _ => ?_) | refine Le.cond ?_ ?_ | refine Le.letM (fun _ => ?_) | refine Le.join (fun _ => ?_) (fun _ _ hj => ?_) | exact hj _)

def network_Net_Hit_l1f (k_ : Nat) (n_0 : T_network_Net) (t2 : List Int) (s9 : Int × Int) : Option (Sum (Int) (Int × Int)) :=
  bif decide (s9.2 < (t2.length : Int)) then
    Option.bind (idxM t2 s9.2) fun i12 =>
    Option.bind (idxM n_0.Out i12) fun t13 =>
    letM (ior .u64 s9.1 t13) fun out14 =>
    some (Sum.inr (out14, iadd .i64 s9.2 1))
  else
    some (Sum.inl s9.1)

theorem network_Net_Hit_l1f_le {k_ : Nat} {n_0 : T_network_Net} {t2 : List Int} {s9 : Int × Int} : Le (network_Net_Hit_l1f k_ n_0 t2 s9) (network_Net_Hit_l1 n_0 t2 s9) := by
  unfold network_Net_Hit_l1f network_Net_Hit_l1
  repeat' with_reducible (first | exact Le.refl _ | refine Le.bind ?_ (Le.sumK fun _ => ?_) | refine Le.bind ?_ (fun _ => ?_) | refine Le.cond ?_ ?_ | refine Le.letM (fun _ => ?_) | refine Le.join (fun _ => ?_) (fun _ _ hj => ?_) | exact hj _)

def network_Net_Hit_f (k_ : Nat) (n_0 : T_network_Net) (s_1 : Int) : Option (Int) :=
  Option.bind (network_Set_List_f k_ s_1) fun t2 =>
  Option.bind (loopF k_ (network_Net_Hit_l1f k_ n_0 t2) (0, 0)) fun q15 : Int =>
  some q15

theorem network_Net_Hit_f_le {k_ : Nat} {n_0 : T_network_Net} {s_1 : Int} : Le (network_Net_Hit_f k_ n_0 s_1) (network_Net_Hit_m n_0 s_1) := by
  unfold network_Net_Hit_f network_Net_Hit_m
  repeat' with_reducible (first | exact Le.refl _ | refine network_Set_List_f_le | refine Le.loop (fun _ => network_Net_Hit_l1f_le) | refine Le.bind ?_ (Le.sumK fun _ => ?_) | refine Le.bind ?_ (fun _ => ?_) | refine Le.cond ?_ ?_ | refine Le.letM (fun _ => ?_) | refine Le.join (fun _ => ?_) (fun _ _ hj => ?_) | exact hj _)

def network_Net_Grounded_l2f (k_ : Nat) (n_0 : T_network_Net) (out52 : Int) (t53 : List Int) (s62 : Int × Int) : Option (Sum (Int) (Int × Int)) :=
  bif decide (s62.2 < (t53.length : Int)) then
    Option.bind (idxM t53 s62.2) fun i65 =>
    Option.bind (idxM n_0.By i65) fun t66 =>
    bif (iandn .u64 t66 out52) == 0 then
      Option.bind (network_Set_With_f k_ s62.1 i65) fun next68 =>
      some (Sum.inr (next68, iadd .i64 s62.2 1))
    else
      some (Sum.inr (s62.1, iadd .i64 s62.2 1))
  else
    some (Sum.inl s62.1)

theorem network_Net_Grounded_l2f_le {k_ : Nat} {n_0 : T_network_Net} {out52 : Int} {t53 : List Int} {s62 : Int × Int} : Le (network_Net_Grounded_l2f k_ n_0 out52 t53 s62) (network_Net_Grounded_l2 n_0 out52 t53 s62) := by
  unfold network_Net_Grounded_l2f network_Net_Grounded_l2
  repeat' with_reducible (first | exact Le.refl _ | refine network_Set_With_f_le | refine Le.bind ?_ (Le.sumK fun _ => ?_) | refine Le.bind ?_ (fun _ => ?_) | refine Le.cond ?_ ?_ | refine Le.letM (fun _ => ?_) | refine Le.join (fun _ => ?_) (fun _ _ hj => ?_) | exact hj _)

def network_Net_Grounded_l1f (k_ : Nat) (n_0 : T_network_Net) (s50 : Int × (List Int)) : Option (Sum (List Int) (Int × (List Int))) :=
  Option.bind (network_Net_Hit_f k_ n_0 s50.1) fun out52 =>
  Option.bind (network_Set_List_f k_ n_0.All) fun t53 =>
  Option.bind (loopF k_ (network_Net_Grounded_l2f k_ n_0 out52 t53) (s50.1, 0)) fun q69 : Int =>
  bif q69 == s50.1 then
    some (Sum.inl s50.2)
  else
    Option.bind (appM 8 s50.2 [q69]) fun rounds72 =>
    some (Sum.inr (q69, rounds72))

theorem network_Net_Grounded_l1f_le {k_ : Nat} {n_0 : T_network_Net} {s50 : Int × (List Int)} : Le (network_Net_Grounded_l1f k_ n_0 s50) (network_Net_Grounded_l1 n_0 s50) := by
  unfold network_Net_Grounded_l1f network_Net_Grounded_l1
  repeat' with_reducible (first | exact Le.refl _ | refine network_Net_Hit_f_le | refine network_Set_List_f_le | refine Le.loop (fun _ => network_Net_Grounded_l2f_le) | refine Le.bind ?_ (Le.sumK fun _ => ?_) | refine Le.bind ?_ (fun _ => ?_) | refine Le.cond ?_ ?_ | refine Le.letM (fun _ => ?_) | refine Le.join (fun _ => ?_) (fun _ _ hj => ?_) | exact hj _)

def network_Net_Grounded_f (k_ : Nat) (n_0 : T_network_Net) : Option (List Int) :=
  Option.bind (loopF k_ (network_Net_Grounded_l1f k_ n_0) (0, [])) (fun a : List Int => some a)

theorem network_Net_Grounded_f_le {k_ : Nat} {n_0 : T_network_Net} : Le (network_Net_Grounded_f k_ n_0) (network_Net_Grounded_m n_0) := by
  unfold network_Net_Grounded_f network_Net_Grounded_m
  repeat' with_reducible (first | exact Le.refl _ | refine Le.loop (fun _ => network_Net_Grounded_l1f_le) | refine Le.bind ?_ (Le.sumK fun _ => ?_) | refine Le.bind ?_ (fun _ => ?_) | refine Le.cond ?_ ?_ | refine Le.letM (fun _ => ?_) | refine Le.join (fun _ => ?_) (fun _ _ hj => ?_) | exact hj _)

def network_Net_In_f (k_ : Nat) (n_0 : T_network_Net) : Option (Int) :=
  Option.bind (network_Net_Grounded_f k_ n_0) fun l2 =>
  bif (l2.length : Int) == 0 then
    some 0
  else
    Option.bind (idxM l2 (isub .i64 (l2.length : Int) 1)) fun t5 =>
    some t5

theorem network_Net_In_f_le {k_ : Nat} {n_0 : T_network_Net} : Le (network_Net_In_f k_ n_0) (network_Net_In_m n_0) := by
  unfold network_Net_In_f network_Net_In_m
  repeat' with_reducible (first | exact Le.refl _ | refine network_Net_Grounded_f_le | refine Le.bind ?_ (Le.sumK fun _ => ?_) | refine Le.bind ?_ (fun _ => ?_) | refine Le.cond ?_ ?_ | refine Le.letM (fun _ => ?_) | refine Le.join (fun _ => ?_) (fun _ _ hj => ?_) | exact hj _)

def network_Set_Has_f (k_ : Nat) (s_0 : Int) (node_1 : Int) : Option (Bool) :=
  Option.bind (ishrM .u64 s_0 (IntKind.wrap .u64 node_1)) fun t1 =>
  letM ((iand .u64 t1 1) == 1) fun t2 =>
  some t2

theorem network_Set_Has_f_le {k_ : Nat} {s_0 : Int} {node_1 : Int} : Le (network_Set_Has_f k_ s_0 node_1) (network_Set_Has_m s_0 node_1) := by
  unfold network_Set_Has_f network_Set_Has_m
  repeat' with_reducible (first | exact Le.refl _ | refine Le.bind ?_ (Le.sumK fun _ => ?_) | refine Le.bind ?_ (fun _ => ?_) | refine Le.cond ?_ ?_ | refine Le.letM (fun _ => ?_) | refine Le.join (fun _ => ?_) (fun _ _ hj => ?_) | exact hj _)

def degree_Budget_1_f (k_ : Nat) (i_0 : Int) (p_1 : Int) : Option (Bool) :=
  Option.bind (ishrM .i64 p_1 i_0) fun t1 =>
  letM ((iand .i64 t1 1) == 0) fun t2 =>
  some t2

theorem degree_Budget_1_f_le {k_ : Nat} {i_0 : Int} {p_1 : Int} : Le (degree_Budget_1_f k_ i_0 p_1) (degree_Budget_1_m i_0 p_1) := by
  unfold degree_Budget_1_f degree_Budget_1_m
  repeat' with_reducible (first | exact Le.refl _ | refine Le.bind ?_ (Le.sumK fun _ => ?_) | refine Le.bind ?_ (fun _ => ?_) | refine Le.cond ?_ ?_ | refine Le.letM (fun _ => ?_) | refine Le.join (fun _ => ?_) (fun _ _ hj => ?_) | exact hj _)

def degree_without_l1f (k_ : Nat) (g_0 : T_api_Graph) (e_0 : Int) (s31 : Int × (List T_api_Pair)) : Option (Sum ((List T_api_Pair)) (Int × (List T_api_Pair))) :=
  bif decide (s31.1 < (g_0.L.length : Int)) then
    Option.bind (idxM g_0.L s31.1) fun t34 =>
    Option.bind (degree_Budget_1_f k_ s31.1 e_0) fun t36 =>
    bif t36 then
      Option.bind (appM 16 s31.2 [t34]) fun t38 =>
      some (Sum.inr (iadd .i64 s31.1 1, t38))
    else
      some (Sum.inr (iadd .i64 s31.1 1, s31.2))
  else
    some (Sum.inl s31.2)

theorem degree_without_l1f_le {k_ : Nat} {g_0 : T_api_Graph} {e_0 : Int} {s31 : Int × (List T_api_Pair)} : Le (degree_without_l1f k_ g_0 e_0 s31) (degree_without_l1 g_0 e_0 s31) := by
  unfold degree_without_l1f degree_without_l1
  repeat' with_reducible (first | exact Le.refl _ | refine degree_Budget_1_f_le | refine Le.bind ?_ (Le.sumK fun _ => ?_) | refine Le.bind ?_ (fun _ => ?_) | refine Le.cond ?_ ?_ | refine Le.letM (fun _ => ?_) | refine Le.join (fun _ => ?_) (fun _ _ hj => ?_) | exact hj _)

def degree_without_f (k_ : Nat) (g_0 : T_api_Graph) (e_0 : Int) : Option (T_api_Graph) :=
  Option.bind (loopF k_ (degree_without_l1f k_ g_0 e_0) (0, [])) fun q40 : (List T_api_Pair) =>
  some (T_api_Graph.mk g_0.N q40)

theorem degree_without_f_le {k_ : Nat} {g_0 : T_api_Graph} {e_0 : Int} : Le (degree_without_f k_ g_0 e_0) (degree_without_m g_0 e_0) := by
  unfold degree_without_f degree_without_m
  repeat' with_reducible (first | exact Le.refl _ | refine Le.loop (fun _ => degree_without_l1f_le) | refine Le.bind ?_ (Le.sumK fun _ => ?_) | refine Le.bind ?_ (fun _ => ?_) | refine Le.cond ?_ ?_ | refine Le.letM (fun _ => ?_) | refine Le.join (fun _ => ?_) (fun _ _ hj => ?_) | exact hj _)

def degree_Budget_l2f (k_ : Nat) (weights_1 : (List Int)) (s105 : (Option T_api_Budget) × Int) (s133 : Int × Int × (List Int)) : Option (Sum (Int × (List Int)) (Int × Int × (List Int))) :=
  bif decide (s133.1 < (weights_1.length : Int)) then
    Option.bind (idxM weights_1 s133.1) fun w_136 =>
    Option.bind (ishrM .i64 s105.2 s133.1) fun t137 =>
    bif (iand .i64 t137 1) == 1 then
      Option.bind (appM 8 s133.2.2 [s133.1]) fun t139 =>
      some (Sum.inr (iadd .i64 s133.1 1, iadd .i64 s133.2.1 w_136, t139))
    else
      some (Sum.inr (iadd .i64 s133.1 1, s133.2.1, s133.2.2))
  else
    some (Sum.inl (s133.2.1, s133.2.2))

theorem degree_Budget_l2f_le {k_ : Nat} {weights_1 : (List Int)} {s105 : (Option T_api_Budget) × Int} {s133 : Int × Int × (List Int)} : Le (degree_Budget_l2f k_ weights_1 s105 s133) (degree_Budget_l2 weights_1 s105 s133) := by
  unfold degree_Budget_l2f degree_Budget_l2
  repeat' with_reducible (first | exact Le.refl _ | refine Le.bind ?_ (Le.sumK fun _ => ?_) | refine Le.bind ?_ (fun _ => ?_) | refine Le.cond ?_ ?_ | refine Le.letM (fun _ => ?_) | refine Le.join (fun _ => ?_) (fun _ _ hj => ?_) | exact hj _)

def degree_Budget_l1f (k_ : Nat) (g_0 : T_api_Graph) (weights_1 : (List Int)) (node_2 : Int) (t10 : Int) (s105 : (Option T_api_Budget) × Int) : Option (Sum ((Option T_api_Budget)) ((Option T_api_Budget) × Int)) :=
  bif decide (s105.2 < t10) then
    Option.bind (loopF k_ (degree_Budget_l2f k_ weights_1 s105) (0, 0, [])) fun q141 : Int × (List Int) =>
    joinM (fun j148 : Unit =>
        Option.bind (degree_without_f k_ g_0 s105.2) fun t151 =>
        Option.bind (network_New_f k_ t151) fun t152 =>
        Option.bind (network_Net_In_f k_ t152) fun t153 =>
        Option.bind (network_Set_Has_f k_ t153 node_2) fun t154 =>
        bif t154 then
          some (Sum.inr ((some (T_api_Budget.mk q141.1 q141.2)), iadd .i64 s105.2 1))
        else
          some (Sum.inr (s105.1, iadd .i64 s105.2 1))) fun k150 =>
    bif s105.1.isSome then
      Option.bind (s105.1) fun p143 =>
      bif decide (q141.1 > p143.Weight) then
        some (Sum.inr (s105.1, iadd .i64 s105.2 1))
      else
        Option.bind (s105.1) fun p144 =>
        bif q141.1 == p144.Weight then
          Option.bind (s105.1) fun p145 =>
          Option.bind (slices_Compare_int_int_f k_ q141.2 p145.Dropped) fun t146 =>
          bif decide (t146 ≥ 0) then
            some (Sum.inr (s105.1, iadd .i64 s105.2 1))
          else
            k150 ()
        else
          k150 ()
    else
      k150 ()
  else
    some (Sum.inl s105.1)

theorem degree_Budget_l1f_le {k_ : Nat} {g_0 : T_api_Graph} {weights_1 : (List Int)} {node_2 : Int} {t10 : Int} {s105 : (Option T_api_Budget) × Int} : Le (degree_Budget_l1f k_ g_0 weights_1 node_2 t10 s105) (degree_Budget_l1 g_0 weights_1 node_2 t10 s105) := by
  unfold degree_Budget_l1f degree_Budget_l1
  repeat' with_reducible (first | exact Le.refl _ | refine degree_without_f_le | refine network_New_f_le | refine network_Net_In_f_le | refine network_Set_Has_f_le | refine slices_Compare_int_int_f_le | refine Le.loop (fun _ => degree_Budget_l2f_le) | refine Le.bind ?_ (Le.sumK fun _ => ?_) | refine Le.bind ?_ (fun _ => ?_) | refine Le.cond ?_ ?_ | refine Le.letM (fun _ => ?_) | refine Le.join (fun _ => ?_) (fun _ _ hj => ?_) | exact hj _)

def degree_Budget_f (k_ : Nat) (g_0 : T_api_Graph) (weights_1 : (List Int)) (node_2 : Int) : Option (T_api_Budget × Int) :=
  Option.bind (graph_Validate_f k_ g_0) fun e3 =>
  bif e3 != 0 then
    some ((T_api_Budget.mk 0 []), e3)
  else
    letM (decide ((g_0.L.length : Int) > 12)) fun t5 =>
    bif t5 then
      some ((T_api_Budget.mk 0 []), 2)
    else
      Option.bind (degree_weighs_f k_ g_0 weights_1) fun t7 =>
      bif !t7 then
        some ((T_api_Budget.mk 0 []), 1)
      else
        bif decide (node_2 < 0) then
          some ((T_api_Budget.mk 0 []), 1)
        else
          letM (decide (node_2 ≥ g_0.N)) fun t8 =>
          bif t8 then
            some ((T_api_Budget.mk 0 []), 1)
          else
            Option.bind (ishlM .i64 1 (g_0.L.length : Int)) fun t10 =>
            Option.bind (loopF k_ (degree_Budget_l1f k_ g_0 weights_1 node_2 t10) (none, 0)) fun q156 : (Option T_api_Budget) =>
            Option.bind (q156) fun p158 =>
            some (p158, 0)

theorem degree_Budget_f_le {k_ : Nat} {g_0 : T_api_Graph} {weights_1 : (List Int)} {node_2 : Int} : Le (degree_Budget_f k_ g_0 weights_1 node_2) (degree_Budget_m g_0 weights_1 node_2) := by
  unfold degree_Budget_f degree_Budget_m
  repeat' with_reducible (first | exact Le.refl _ | refine graph_Validate_f_le | refine degree_weighs_f_le | refine Le.loop (fun _ => degree_Budget_l1f_le) | refine Le.bind ?_ (Le.sumK fun _ => ?_) | refine Le.bind ?_ (fun _ => ?_) | refine Le.cond ?_ ?_ | refine Le.letM (fun _ => ?_) | refine Le.join (fun _ => ?_) (fun _ _ hj => ?_) | exact hj _)

def slices_Clone_int_int_f (k_ : Nat) (d_0 : List Int) : Option (List Int) := appM 8 [] d_0

theorem slices_Clone_int_int_f_le {k_ : Nat} {d_0 : List Int} : Le (slices_Clone_int_int_f k_ d_0) (slices_Clone_int_int_m d_0) := by
  unfold slices_Clone_int_int_f slices_Clone_int_int_m
  repeat' with_reducible (first | exact Le.refl _ | refine Le.bind ?_ (Le.sumK fun _ => ?_) | refine Le.bind ?_ (fun _ => ?_) | refine Le.cond ?_ ?_ | refine Le.letM (fun _ => ?_) | refine Le.join (fun _ => ?_) (fun _ _ hj => ?_) | exact hj _)

def slices_Values_int_int_f (k_ : Nat) (s_0 : (List Int)) : Option ((List Int)) :=
  some s_0

theorem slices_Values_int_int_f_le {k_ : Nat} {s_0 : (List Int)} : Le (slices_Values_int_int_f k_ s_0) (slices_Values_int_int_m s_0) := by
  unfold slices_Values_int_int_f slices_Values_int_int_m
  repeat' with_reducible (first | exact Le.refl _ | refine Le.bind ?_ (Le.sumK fun _ => ?_) | refine Le.bind ?_ (fun _ => ?_) | refine Le.cond ?_ ?_ | refine Le.letM (fun _ => ?_) | refine Le.join (fun _ => ?_) (fun _ _ hj => ?_) | exact hj _)

def degree_Levels_1_f (k_ : Nat) (i_0 : Int) (p_1 : (List Int)) (p_2 : Int) : Option (Bool) :=
  Option.bind (idxM p_1 i_0) fun t1 =>
  some (decide (t1 ≥ p_2))

theorem degree_Levels_1_f_le {k_ : Nat} {i_0 : Int} {p_1 : (List Int)} {p_2 : Int} : Le (degree_Levels_1_f k_ i_0 p_1 p_2) (degree_Levels_1_m i_0 p_1 p_2) := by
  unfold degree_Levels_1_f degree_Levels_1_m
  repeat' with_reducible (first | exact Le.refl _ | refine Le.bind ?_ (Le.sumK fun _ => ?_) | refine Le.bind ?_ (fun _ => ?_) | refine Le.cond ?_ ?_ | refine Le.letM (fun _ => ?_) | refine Le.join (fun _ => ?_) (fun _ _ hj => ?_) | exact hj _)

def degree_without_1_l1f (k_ : Nat) (g_0 : T_api_Graph) (e_0 : (List Int)) (e_1 : Int) (s31 : Int × (List T_api_Pair)) : Option (Sum ((List T_api_Pair)) (Int × (List T_api_Pair))) :=
  bif decide (s31.1 < (g_0.L.length : Int)) then
    Option.bind (idxM g_0.L s31.1) fun t34 =>
    Option.bind (degree_Levels_1_f k_ s31.1 e_0 e_1) fun t36 =>
    bif t36 then
      Option.bind (appM 16 s31.2 [t34]) fun t38 =>
      some (Sum.inr (iadd .i64 s31.1 1, t38))
    else
      some (Sum.inr (iadd .i64 s31.1 1, s31.2))
  else
    some (Sum.inl s31.2)

theorem degree_without_1_l1f_le {k_ : Nat} {g_0 : T_api_Graph} {e_0 : (List Int)} {e_1 : Int} {s31 : Int × (List T_api_Pair)} : Le (degree_without_1_l1f k_ g_0 e_0 e_1 s31) (degree_without_1_l1 g_0 e_0 e_1 s31) := by
  unfold degree_without_1_l1f degree_without_1_l1
  repeat' with_reducible (first | exact Le.refl _ | refine degree_Levels_1_f_le | refine Le.bind ?_ (Le.sumK fun _ => ?_) | refine Le.bind ?_ (fun _ => ?_) | refine Le.cond ?_ ?_ | refine Le.letM (fun _ => ?_) | refine Le.join (fun _ => ?_) (fun _ _ hj => ?_) | exact hj _)

def degree_without_1_f (k_ : Nat) (g_0 : T_api_Graph) (e_0 : (List Int)) (e_1 : Int) : Option (T_api_Graph) :=
  Option.bind (loopF k_ (degree_without_1_l1f k_ g_0 e_0 e_1) (0, [])) fun q40 : (List T_api_Pair) =>
  some (T_api_Graph.mk g_0.N q40)

theorem degree_without_1_f_le {k_ : Nat} {g_0 : T_api_Graph} {e_0 : (List Int)} {e_1 : Int} : Le (degree_without_1_f k_ g_0 e_0 e_1) (degree_without_1_m g_0 e_0 e_1) := by
  unfold degree_without_1_f degree_without_1_m
  repeat' with_reducible (first | exact Le.refl _ | refine Le.loop (fun _ => degree_without_1_l1f_le) | refine Le.bind ?_ (Le.sumK fun _ => ?_) | refine Le.bind ?_ (fun _ => ?_) | refine Le.cond ?_ ?_ | refine Le.letM (fun _ => ?_) | refine Le.join (fun _ => ?_) (fun _ _ hj => ?_) | exact hj _)

def degree_Levels_l1f (k_ : Nat) (g_0 : T_api_Graph) (weights_1 : (List Int)) (node_2 : Int) (bounds15 : List Int) (s57 : Int × (List Int)) : Option (Sum ((List Int)) (Int × (List Int))) :=
  bif decide (s57.1 < (bounds15.length : Int)) then
    Option.bind (idxM bounds15 s57.1) fun t60 =>
    Option.bind (degree_without_1_f k_ g_0 weights_1 t60) fun t62 =>
    Option.bind (network_New_f k_ t62) fun t63 =>
    Option.bind (network_Net_In_f k_ t63) fun in_65 =>
    Option.bind (network_Set_Has_f k_ in_65 node_2) fun t66 =>
    bif t66 then
      Option.bind (appM 8 s57.2 [1]) fun out71 =>
      some (Sum.inr (iadd .i64 s57.1 1, out71))
    else
      Option.bind (network_Net_Hit_f k_ t63 in_65) fun t68 =>
      Option.bind (network_Set_Has_f k_ t68 node_2) fun t69 =>
      bif t69 then
        Option.bind (appM 8 s57.2 [2]) fun out73 =>
        some (Sum.inr (iadd .i64 s57.1 1, out73))
      else
        Option.bind (appM 8 s57.2 [3]) fun out75 =>
        some (Sum.inr (iadd .i64 s57.1 1, out75))
  else
    some (Sum.inl s57.2)

theorem degree_Levels_l1f_le {k_ : Nat} {g_0 : T_api_Graph} {weights_1 : (List Int)} {node_2 : Int} {bounds15 : List Int} {s57 : Int × (List Int)} : Le (degree_Levels_l1f k_ g_0 weights_1 node_2 bounds15 s57) (degree_Levels_l1 g_0 weights_1 node_2 bounds15 s57) := by
  unfold degree_Levels_l1f degree_Levels_l1
  repeat' with_reducible (first | exact Le.refl _ | refine degree_without_1_f_le | refine network_New_f_le | refine network_Net_In_f_le | refine network_Set_Has_f_le | refine network_Net_Hit_f_le | refine Le.bind ?_ (Le.sumK fun _ => ?_) | refine Le.bind ?_ (fun _ => ?_) | refine Le.cond ?_ ?_ | refine Le.letM (fun _ => ?_) | refine Le.join (fun _ => ?_) (fun _ _ hj => ?_) | exact hj _)

def degree_Levels_f (k_ : Nat) (g_0 : T_api_Graph) (weights_1 : (List Int)) (node_2 : Int) : Option (List Int × Int) :=
  Option.bind (graph_Validate_f k_ g_0) fun e3 =>
  bif e3 != 0 then
    some ([], e3)
  else
    Option.bind (degree_weighs_f k_ g_0 weights_1) fun t5 =>
    bif !t5 then
      some ([], 1)
    else
      bif decide (node_2 < 0) then
        some ([], 1)
      else
        bif decide (node_2 ≥ g_0.N) then
          some ([], 1)
        else
          Option.bind (slices_Clone_int_int_f k_ weights_1) fun t7 =>
          Option.bind (appM 8 t7 [1001]) fun t9 =>
          Option.bind (slices_Values_int_int_f k_ t9) fun t11 =>
          Option.bind (sortedF t11) fun t13 =>
          Option.bind (compactM t13) fun bounds15 =>
          Option.bind (loopF k_ (degree_Levels_l1f k_ g_0 weights_1 node_2 bounds15) (0, [])) fun q77 : (List Int) =>
          some (q77, 0)

theorem degree_Levels_f_le {k_ : Nat} {g_0 : T_api_Graph} {weights_1 : (List Int)} {node_2 : Int} : Le (degree_Levels_f k_ g_0 weights_1 node_2) (degree_Levels_m g_0 weights_1 node_2) := by
  unfold degree_Levels_f degree_Levels_m
  repeat' with_reducible (first | exact Le.refl _ | refine graph_Validate_f_le | refine degree_weighs_f_le | refine slices_Clone_int_int_f_le | refine slices_Values_int_int_f_le | refine Le.loop (fun _ => degree_Levels_l1f_le) | refine sortedF_le | refine Le.bind ?_ (Le.sumK fun _ => ?_) | refine Le.bind ?_ (fun _ => ?_) | refine Le.cond ?_ ?_ | refine Le.letM (fun _ => ?_) | refine Le.join (fun _ => ?_) (fun _ _ hj => ?_) | exact hj _)

def degree_Strength_1_f (k_ : Nat) (f_0 : T_api_Fraction) : Option (Bool) :=
  bif decide (f_0.Den < 1) then
    some true
  else
    bif decide (f_0.Num < 0) then
      some true
    else
      letM (decide (f_0.Num > f_0.Den)) fun t2 =>
      some t2

theorem degree_Strength_1_f_le {k_ : Nat} {f_0 : T_api_Fraction} : Le (degree_Strength_1_f k_ f_0) (degree_Strength_1_m f_0) := by
  unfold degree_Strength_1_f degree_Strength_1_m
  repeat' with_reducible (first | exact Le.refl _ | refine Le.bind ?_ (Le.sumK fun _ => ?_) | refine Le.bind ?_ (fun _ => ?_) | refine Le.cond ?_ ?_ | refine Le.letM (fun _ => ?_) | refine Le.join (fun _ => ?_) (fun _ _ hj => ?_) | exact hj _)

def degree_order_l2f (k_ : Nat) (n_0 : T_network_Net) (t77 : List Int) (s97 : Int × Int × (List Int)) : Option (Sum ((List Int) × Int) (Int × Int × (List Int))) :=
  bif decide (s97.2.1 < (t77.length : Int)) then
    Option.bind (idxM t77 s97.2.1) fun i100 =>
    Option.bind (idxM n_0.By i100) fun t101 =>
    bif (iandn .u64 t101 s97.1) == 0 then
      Option.bind (appM 8 s97.2.2 [i100]) fun out103 =>
      Option.bind (network_Set_With_f k_ s97.1 i100) fun done105 =>
      some (Sum.inr (done105, iadd .i64 s97.2.1 1, out103))
    else
      some (Sum.inr (s97.1, iadd .i64 s97.2.1 1, s97.2.2))
  else
    some (Sum.inl (s97.2.2, s97.1))

theorem degree_order_l2f_le {k_ : Nat} {n_0 : T_network_Net} {t77 : List Int} {s97 : Int × Int × (List Int)} : Le (degree_order_l2f k_ n_0 t77 s97) (degree_order_l2 n_0 t77 s97) := by
  unfold degree_order_l2f degree_order_l2
  repeat' with_reducible (first | exact Le.refl _ | refine network_Set_With_f_le | refine Le.bind ?_ (Le.sumK fun _ => ?_) | refine Le.bind ?_ (fun _ => ?_) | refine Le.cond ?_ ?_ | refine Le.letM (fun _ => ?_) | refine Le.join (fun _ => ?_) (fun _ _ hj => ?_) | exact hj _)

def degree_order_l1f (k_ : Nat) (n_0 : T_network_Net) (s73 : Int × (List Int)) : Option (Sum ((Sum (List Int × Bool) ((List Int)))) (Int × (List Int))) :=
  bif s73.1 != n_0.All then
    letM ((s73.2.length : Int)) fun before76 =>
    Option.bind (network_Set_List_f k_ (iandn .u64 n_0.All s73.1)) fun t77 =>
    Option.bind (loopF k_ (degree_order_l2f k_ n_0 t77) (s73.1, 0, s73.2)) fun q106 : (List Int) × Int =>
    bif (q106.1.length : Int) == before76 then
      some (Sum.inl (Sum.inl ([], false)))
    else
      some (Sum.inr (q106.2, q106.1))
  else
    some (Sum.inl (Sum.inr s73.2))

theorem degree_order_l1f_le {k_ : Nat} {n_0 : T_network_Net} {s73 : Int × (List Int)} : Le (degree_order_l1f k_ n_0 s73) (degree_order_l1 n_0 s73) := by
  unfold degree_order_l1f degree_order_l1
  repeat' with_reducible (first | exact Le.refl _ | refine network_Set_List_f_le | refine Le.loop (fun _ => degree_order_l2f_le) | refine Le.bind ?_ (Le.sumK fun _ => ?_) | refine Le.bind ?_ (fun _ => ?_) | refine Le.cond ?_ ?_ | refine Le.letM (fun _ => ?_) | refine Le.join (fun _ => ?_) (fun _ _ hj => ?_) | exact hj _)

def degree_order_f (k_ : Nat) (n_0 : T_network_Net) : Option (List Int × Bool) :=
  Option.bind (loopF k_ (degree_order_l1f k_ n_0) (0, [])) (sumK (fun a : List Int × Bool => some a) fun q109 : (List Int) =>
    some (q109, true))

theorem degree_order_f_le {k_ : Nat} {n_0 : T_network_Net} : Le (degree_order_f k_ n_0) (degree_order_m n_0) := by
  unfold degree_order_f degree_order_m
  repeat' with_reducible (first | exact Le.refl _ | refine Le.loop (fun _ => degree_order_l1f_le) | refine Le.bind ?_ (Le.sumK fun _ => ?_) | refine Le.bind ?_ (fun _ => ?_) | refine Le.cond ?_ ?_ | refine Le.letM (fun _ => ?_) | refine Le.join (fun _ => ?_) (fun _ _ hj => ?_) | exact hj _)

def math_bits_Mul64_f (k_ : Nat) (x_0 : Int) (y_1 : Int) : Option (Int × Int) :=
  letM (iand .u64 x_0 4294967295) fun x01 =>
  letM (ishr .u64 x_0 32) fun x12 =>
  letM (iand .u64 y_1 4294967295) fun y03 =>
  letM (ishr .u64 y_1 32) fun y14 =>
  letM (imul .u64 x01 y03) fun w05 =>
  letM (iadd .u64 (imul .u64 x12 y03) (ishr .u64 w05 32)) fun t6 =>
  letM (iand .u64 t6 4294967295) fun w17 =>
  letM (ishr .u64 t6 32) fun w28 =>
  letM (iadd .u64 w17 (imul .u64 x01 y14)) fun w19 =>
  letM (iadd .u64 (iadd .u64 (imul .u64 x12 y14) w28) (ishr .u64 w19 32)) fun hi10 =>
  letM (imul .u64 x_0 y_1) fun lo11 =>
  some (hi10, lo11)

theorem math_bits_Mul64_f_le {k_ : Nat} {x_0 : Int} {y_1 : Int} : Le (math_bits_Mul64_f k_ x_0 y_1) (math_bits_Mul64_m x_0 y_1) := by
  unfold math_bits_Mul64_f math_bits_Mul64_m
  repeat' with_reducible (first | exact Le.refl _ | refine Le.bind ?_ (Le.sumK fun _ => ?_) | refine Le.bind ?_ (fun _ => ?_) | refine Le.cond ?_ ?_ | refine Le.letM (fun _ => ?_) | refine Le.join (fun _ => ?_) (fun _ _ hj => ?_) | exact hj _)

def degree_product_f (k_ : Nat) (a__0 : Int) (b_1 : Int) : Option (Int × Bool) :=
  Option.bind (math_bits_Mul64_f k_ (IntKind.wrap .u64 a__0) (IntKind.wrap .u64 b_1)) fun t1 =>
  bif t1.1 != 0 then
    some (0, false)
  else
    bif decide (t1.2 > 4611686018427387904) then
      some (0, false)
    else
      letM (IntKind.wrap .i64 t1.2) fun t3 =>
      some (t3, true)

theorem degree_product_f_le {k_ : Nat} {a__0 : Int} {b_1 : Int} : Le (degree_product_f k_ a__0 b_1) (degree_product_m a__0 b_1) := by
  unfold degree_product_f degree_product_m
  repeat' with_reducible (first | exact Le.refl _ | refine math_bits_Mul64_f_le | refine Le.bind ?_ (Le.sumK fun _ => ?_) | refine Le.bind ?_ (fun _ => ?_) | refine Le.cond ?_ ?_ | refine Le.letM (fun _ => ?_) | refine Le.join (fun _ => ?_) (fun _ _ hj => ?_) | exact hj _)

def degree_reduce_l1f (k_ : Nat)  (s7 : Int × Int) : Option (Sum (Int) (Int × Int)) :=
  bif s7.2 != 0 then
    Option.bind (iremM .i64 s7.1 s7.2) fun b10 =>
    some (Sum.inr (s7.2, b10))
  else
    some (Sum.inl s7.1)

theorem degree_reduce_l1f_le {k_ : Nat} {s7 : Int × Int} : Le (degree_reduce_l1f k_ s7) (degree_reduce_l1 s7) := by
  unfold degree_reduce_l1f degree_reduce_l1
  repeat' with_reducible (first | exact Le.refl _ | refine Le.bind ?_ (Le.sumK fun _ => ?_) | refine Le.bind ?_ (fun _ => ?_) | refine Le.cond ?_ ?_ | refine Le.letM (fun _ => ?_) | refine Le.join (fun _ => ?_) (fun _ _ hj => ?_) | exact hj _)

def degree_reduce_f (k_ : Nat) (f_0 : T_api_Fraction) : Option (T_api_Fraction) :=
  Option.bind (loopF k_ (degree_reduce_l1f k_) (f_0.Num, f_0.Den)) fun q11 : Int =>
  Option.bind (iquoM .i64 f_0.Num q11) fun t13 =>
  Option.bind (iquoM .i64 f_0.Den q11) fun t14 =>
  some (T_api_Fraction.mk t13 t14)

theorem degree_reduce_f_le {k_ : Nat} {f_0 : T_api_Fraction} : Le (degree_reduce_f k_ f_0) (degree_reduce_m f_0) := by
  unfold degree_reduce_f degree_reduce_m
  repeat' with_reducible (first | exact Le.refl _ | refine Le.loop (fun _ => degree_reduce_l1f_le) | refine Le.bind ?_ (Le.sumK fun _ => ?_) | refine Le.bind ?_ (fun _ => ?_) | refine Le.cond ?_ ?_ | refine Le.letM (fun _ => ?_) | refine Le.join (fun _ => ?_) (fun _ _ hj => ?_) | exact hj _)

def degree_small_f (k_ : Nat) (num_0 : Int) (den_1 : Int) : Option (T_api_Fraction × Bool) :=
  Option.bind (degree_reduce_f k_ (T_api_Fraction.mk num_0 den_1)) fun t2 =>
  bif decide (t2.Num ≤ 1099511627776) then
    some (t2, decide (t2.Den ≤ 1099511627776))
  else
    some (t2, false)

theorem degree_small_f_le {k_ : Nat} {num_0 : Int} {den_1 : Int} : Le (degree_small_f k_ num_0 den_1) (degree_small_m num_0 den_1) := by
  unfold degree_small_f degree_small_m
  repeat' with_reducible (first | exact Le.refl _ | refine degree_reduce_f_le | refine Le.bind ?_ (Le.sumK fun _ => ?_) | refine Le.bind ?_ (fun _ => ?_) | refine Le.cond ?_ ?_ | refine Le.letM (fun _ => ?_) | refine Le.join (fun _ => ?_) (fun _ _ hj => ?_) | exact hj _)

def degree_add_f (k_ : Nat) (x_0 : T_api_Fraction) (y_1 : T_api_Fraction) : Option (T_api_Fraction × Bool) :=
  Option.bind (degree_product_f k_ x_0.Num y_1.Den) fun t4 =>
  Option.bind (degree_product_f k_ y_1.Num x_0.Den) fun t5 =>
  Option.bind (degree_product_f k_ x_0.Den y_1.Den) fun t6 =>
  bif !t4.2 then
    some ((T_api_Fraction.mk 0 0), false)
  else
    bif !t5.2 then
      some ((T_api_Fraction.mk 0 0), false)
    else
      bif !t6.2 then
        some ((T_api_Fraction.mk 0 0), false)
      else
        bif decide ((iadd .u64 (IntKind.wrap .u64 t4.1) (IntKind.wrap .u64 t5.1)) > 4611686018427387904) then
          some ((T_api_Fraction.mk 0 0), false)
        else
          Option.bind (degree_small_f k_ (iadd .i64 t4.1 t5.1) t6.1) fun t8 =>
          some (t8.1, t8.2)

theorem degree_add_f_le {k_ : Nat} {x_0 : T_api_Fraction} {y_1 : T_api_Fraction} : Le (degree_add_f k_ x_0 y_1) (degree_add_m x_0 y_1) := by
  unfold degree_add_f degree_add_m
  repeat' with_reducible (first | exact Le.refl _ | refine degree_product_f_le | refine degree_small_f_le | refine Le.bind ?_ (Le.sumK fun _ => ?_) | refine Le.bind ?_ (fun _ => ?_) | refine Le.cond ?_ ?_ | refine Le.letM (fun _ => ?_) | refine Le.join (fun _ => ?_) (fun _ _ hj => ?_) | exact hj _)

def degree_divide_f (k_ : Nat) (x_0 : T_api_Fraction) (y_1 : T_api_Fraction) : Option (T_api_Fraction × Bool) :=
  Option.bind (degree_product_f k_ x_0.Num y_1.Den) fun t4 =>
  Option.bind (degree_product_f k_ x_0.Den y_1.Num) fun t5 =>
  bif !t4.2 then
    some ((T_api_Fraction.mk 0 0), false)
  else
    bif !t5.2 then
      some ((T_api_Fraction.mk 0 0), false)
    else
      Option.bind (degree_small_f k_ t4.1 t5.1) fun t7 =>
      some (t7.1, t7.2)

theorem degree_divide_f_le {k_ : Nat} {x_0 : T_api_Fraction} {y_1 : T_api_Fraction} : Le (degree_divide_f k_ x_0 y_1) (degree_divide_m x_0 y_1) := by
  unfold degree_divide_f degree_divide_m
  repeat' with_reducible (first | exact Le.refl _ | refine degree_product_f_le | refine degree_small_f_le | refine Le.bind ?_ (Le.sumK fun _ => ?_) | refine Le.bind ?_ (fun _ => ?_) | refine Le.cond ?_ ?_ | refine Le.letM (fun _ => ?_) | refine Le.join (fun _ => ?_) (fun _ _ hj => ?_) | exact hj _)

def slices_IndexFunc_api_Fraction_api_Fraction_l1f (k_ : Nat) (s_0 : (List T_api_Fraction)) (s7 : Int) : Option (Sum ((Sum (Int) (Unit))) (Int)) :=
  bif decide (s7 < (s_0.length : Int)) then
    Option.bind (idxM s_0 s7) fun t10 =>
    Option.bind (degree_Strength_1_f k_ t10) fun t11 =>
    bif t11 then
      some (Sum.inl (Sum.inl s7))
    else
      some (Sum.inr (iadd .i64 s7 1))
  else
    some (Sum.inl (Sum.inr ()))

theorem slices_IndexFunc_api_Fraction_api_Fraction_l1f_le {k_ : Nat} {s_0 : (List T_api_Fraction)} {s7 : Int} : Le (slices_IndexFunc_api_Fraction_api_Fraction_l1f k_ s_0 s7) (slices_IndexFunc_api_Fraction_api_Fraction_l1 s_0 s7) := by
  unfold slices_IndexFunc_api_Fraction_api_Fraction_l1f slices_IndexFunc_api_Fraction_api_Fraction_l1
  repeat' with_reducible (first | exact Le.refl _ | refine degree_Strength_1_f_le | refine Le.bind ?_ (Le.sumK fun _ => ?_) | refine Le.bind ?_ (fun _ => ?_) | refine Le.cond ?_ ?_ | refine Le.letM (fun _ => ?_) | refine Le.join (fun _ => ?_) (fun _ _ hj => ?_) | exact hj _)

def slices_IndexFunc_api_Fraction_api_Fraction_f (k_ : Nat) (s_0 : (List T_api_Fraction)) : Option (Int) :=
  Option.bind (loopF k_ (slices_IndexFunc_api_Fraction_api_Fraction_l1f k_ s_0) 0) (sumK (fun a : Int => some a) fun q13 : Unit =>
    some (-1))

theorem slices_IndexFunc_api_Fraction_api_Fraction_f_le {k_ : Nat} {s_0 : (List T_api_Fraction)} : Le (slices_IndexFunc_api_Fraction_api_Fraction_f k_ s_0) (slices_IndexFunc_api_Fraction_api_Fraction_m s_0) := by
  unfold slices_IndexFunc_api_Fraction_api_Fraction_f slices_IndexFunc_api_Fraction_api_Fraction_m
  repeat' with_reducible (first | exact Le.refl _ | refine Le.loop (fun _ => slices_IndexFunc_api_Fraction_api_Fraction_l1f_le) | refine Le.bind ?_ (Le.sumK fun _ => ?_) | refine Le.bind ?_ (fun _ => ?_) | refine Le.cond ?_ ?_ | refine Le.letM (fun _ => ?_) | refine Le.join (fun _ => ?_) (fun _ _ hj => ?_) | exact hj _)

def slices_ContainsFunc_api_Fraction_api_Fraction_f (k_ : Nat) (s_0 : (List T_api_Fraction)) : Option (Bool) :=
  Option.bind (slices_IndexFunc_api_Fraction_api_Fraction_f k_ s_0) fun t1 =>
  letM (decide (t1 ≥ 0)) fun t2 =>
  some t2

theorem slices_ContainsFunc_api_Fraction_api_Fraction_f_le {k_ : Nat} {s_0 : (List T_api_Fraction)} : Le (slices_ContainsFunc_api_Fraction_api_Fraction_f k_ s_0) (slices_ContainsFunc_api_Fraction_api_Fraction_m s_0) := by
  unfold slices_ContainsFunc_api_Fraction_api_Fraction_f slices_ContainsFunc_api_Fraction_api_Fraction_m
  repeat' with_reducible (first | exact Le.refl _ | refine slices_IndexFunc_api_Fraction_api_Fraction_f_le | refine Le.bind ?_ (Le.sumK fun _ => ?_) | refine Le.bind ?_ (fun _ => ?_) | refine Le.cond ?_ ?_ | refine Le.letM (fun _ => ?_) | refine Le.join (fun _ => ?_) (fun _ _ hj => ?_) | exact hj _)

def degree_Strength_l2f (k_ : Nat) (s85 : Int × (List T_api_Fraction)) (t91 : List Int) (s107 : Int × T_api_Fraction) : Option (Sum ((Sum (List T_api_Fraction × Int) (T_api_Fraction))) (Int × T_api_Fraction)) :=
  bif decide (s107.1 < (t91.length : Int)) then
    Option.bind (idxM t91 s107.1) fun a_110 =>
    Option.bind (idxM s85.2 a_110) fun t111 =>
    Option.bind (degree_add_f k_ s107.2 t111) fun t112 =>
    bif !t112.2 then
      some (Sum.inl (Sum.inl ([], 2)))
    else
      some (Sum.inr (iadd .i64 s107.1 1, t112.1))
  else
    some (Sum.inl (Sum.inr s107.2))

theorem degree_Strength_l2f_le {k_ : Nat} {s85 : Int × (List T_api_Fraction)} {t91 : List Int} {s107 : Int × T_api_Fraction} : Le (degree_Strength_l2f k_ s85 t91 s107) (degree_Strength_l2 s85 t91 s107) := by
  unfold degree_Strength_l2f degree_Strength_l2
  repeat' with_reducible (first | exact Le.refl _ | refine degree_add_f_le | refine Le.bind ?_ (Le.sumK fun _ => ?_) | refine Le.bind ?_ (fun _ => ?_) | refine Le.cond ?_ ?_ | refine Le.letM (fun _ => ?_) | refine Le.join (fun _ => ?_) (fun _ _ hj => ?_) | exact hj _)

def degree_Strength_l1f (k_ : Nat) (base_1 : (List T_api_Fraction)) (t6 : T_network_Net) (t8 : List Int × Bool) (s85 : Int × (List T_api_Fraction)) : Option (Sum ((Sum (List T_api_Fraction × Int) ((List T_api_Fraction)))) (Int × (List T_api_Fraction))) :=
  bif decide (s85.1 < (t8.1.length : Int)) then
    Option.bind (idxM t8.1 s85.1) fun i88 =>
    Option.bind (idxM t6.By i88) fun t90 =>
    Option.bind (network_Set_List_f k_ t90) fun t91 =>
    Option.bind (loopF k_ (degree_Strength_l2f k_ s85 t91) (0, (T_api_Fraction.mk 1 1))) (sumK (fun a : List T_api_Fraction × Int => some (Sum.inl (Sum.inl a))) fun q114 : T_api_Fraction =>
      Option.bind (idxM base_1 i88) fun t116 =>
      Option.bind (degree_reduce_f k_ t116) fun t117 =>
      Option.bind (degree_divide_f k_ t117 q114) fun t118 =>
      Option.bind (idxM s85.2 i88) fun t119 =>
      bif !t118.2 then
        some (Sum.inl (Sum.inl ([], 2)))
      else
        some (Sum.inr (iadd .i64 s85.1 1, s85.2.set (Int.toNat i88) t118.1)))
  else
    some (Sum.inl (Sum.inr s85.2))

theorem degree_Strength_l1f_le {k_ : Nat} {base_1 : (List T_api_Fraction)} {t6 : T_network_Net} {t8 : List Int × Bool} {s85 : Int × (List T_api_Fraction)} : Le (degree_Strength_l1f k_ base_1 t6 t8 s85) (degree_Strength_l1 base_1 t6 t8 s85) := by
  unfold degree_Strength_l1f degree_Strength_l1
  repeat' with_reducible (first | exact Le.refl _ | refine network_Set_List_f_le | refine degree_reduce_f_le | refine degree_divide_f_le | refine Le.loop (fun _ => degree_Strength_l2f_le) | refine Le.bind ?_ (Le.sumK fun _ => ?_) | refine Le.bind ?_ (fun _ => ?_) | refine Le.cond ?_ ?_ | refine Le.letM (fun _ => ?_) | refine Le.join (fun _ => ?_) (fun _ _ hj => ?_) | exact hj _)

def degree_Strength_f (k_ : Nat) (g_0 : T_api_Graph) (base_1 : (List T_api_Fraction)) : Option (List T_api_Fraction × Int) :=
  Option.bind (graph_Validate_f k_ g_0) fun e2 =>
  bif e2 != 0 then
    some ([], e2)
  else
    bif (base_1.length : Int) != g_0.N then
      some ([], 1)
    else
      Option.bind (slices_ContainsFunc_api_Fraction_api_Fraction_f k_ base_1) fun t4 =>
      bif t4 then
        some ([], 1)
      else
        Option.bind (network_New_f k_ g_0) fun t6 =>
        Option.bind (degree_order_f k_ t6) fun t8 =>
        bif !t8.2 then
          some ([], 8)
        else
          Option.bind (mkM 16 (T_api_Fraction.mk 0 0) g_0.N) fun out11 =>
          Option.bind (loopF k_ (degree_Strength_l1f k_ base_1 t6 t8) (0, out11)) (sumK (fun a : List T_api_Fraction × Int => some a) fun q121 : (List T_api_Fraction) =>
            some (q121, 0))

theorem degree_Strength_f_le {k_ : Nat} {g_0 : T_api_Graph} {base_1 : (List T_api_Fraction)} : Le (degree_Strength_f k_ g_0 base_1) (degree_Strength_m g_0 base_1) := by
  unfold degree_Strength_f degree_Strength_m
  repeat' with_reducible (first | exact Le.refl _ | refine graph_Validate_f_le | refine slices_ContainsFunc_api_Fraction_api_Fraction_f_le | refine network_New_f_le | refine degree_order_f_le | refine Le.loop (fun _ => degree_Strength_l1f_le) | refine Le.bind ?_ (Le.sumK fun _ => ?_) | refine Le.bind ?_ (fun _ => ?_) | refine Le.cond ?_ ?_ | refine Le.letM (fun _ => ?_) | refine Le.join (fun _ => ?_) (fun _ _ hj => ?_) | exact hj _)

def keep_Ints_l1f (k_ : Nat) (a__0 : (List Int)) (b_1 : (List Int)) (s8 : Int) : Option (Sum ((Sum (Bool) (Unit))) (Int)) :=
  bif decide (s8 < (a__0.length : Int)) then
    Option.bind (idxM a__0 s8) fun t11 =>
    Option.bind (idxM b_1 s8) fun t12 =>
    bif t11 != t12 then
      some (Sum.inl (Sum.inl false))
    else
      some (Sum.inr (iadd .i64 s8 1))
  else
    some (Sum.inl (Sum.inr ()))

theorem keep_Ints_l1f_le {k_ : Nat} {a__0 : (List Int)} {b_1 : (List Int)} {s8 : Int} : Le (keep_Ints_l1f k_ a__0 b_1 s8) (keep_Ints_l1 a__0 b_1 s8) := by
  unfold keep_Ints_l1f keep_Ints_l1
  repeat' with_reducible (first | exact Le.refl _ | refine Le.bind ?_ (Le.sumK fun _ => ?_) | refine Le.bind ?_ (fun _ => ?_) | refine Le.cond ?_ ?_ | refine Le.letM (fun _ => ?_) | refine Le.join (fun _ => ?_) (fun _ _ hj => ?_) | exact hj _)

def keep_Ints_f (k_ : Nat) (a__0 : (List Int)) (b_1 : (List Int)) : Option (Bool) :=
  bif (a__0.length : Int) != (b_1.length : Int) then
    some false
  else
    Option.bind (loopF k_ (keep_Ints_l1f k_ a__0 b_1) 0) (sumK (fun a : Bool => some a) fun q14 : Unit =>
      some true)

theorem keep_Ints_f_le {k_ : Nat} {a__0 : (List Int)} {b_1 : (List Int)} : Le (keep_Ints_f k_ a__0 b_1) (keep_Ints_m a__0 b_1) := by
  unfold keep_Ints_f keep_Ints_m
  repeat' with_reducible (first | exact Le.refl _ | refine Le.loop (fun _ => keep_Ints_l1f_le) | refine Le.bind ?_ (Le.sumK fun _ => ?_) | refine Le.bind ?_ (fun _ => ?_) | refine Le.cond ?_ ?_ | refine Le.letM (fun _ => ?_) | refine Le.join (fun _ => ?_) (fun _ _ hj => ?_) | exact hj _)

def ref22_Same_l1f (k_ : Nat) (a__0 : (List T_api_Fraction)) (b_1 : (List T_api_Fraction)) (s8 : Int) : Option (Sum ((Sum (Bool) (Unit))) (Int)) :=
  bif decide (s8 < (a__0.length : Int)) then
    Option.bind (idxM a__0 s8) fun t11 =>
    Option.bind (idxM b_1 s8) fun t12 =>
    bif !decide (t11 = t12) then
      some (Sum.inl (Sum.inl false))
    else
      some (Sum.inr (iadd .i64 s8 1))
  else
    some (Sum.inl (Sum.inr ()))

theorem ref22_Same_l1f_le {k_ : Nat} {a__0 : (List T_api_Fraction)} {b_1 : (List T_api_Fraction)} {s8 : Int} : Le (ref22_Same_l1f k_ a__0 b_1 s8) (ref22_Same_l1 a__0 b_1 s8) := by
  unfold ref22_Same_l1f ref22_Same_l1
  repeat' with_reducible (first | exact Le.refl _ | refine Le.bind ?_ (Le.sumK fun _ => ?_) | refine Le.bind ?_ (fun _ => ?_) | refine Le.cond ?_ ?_ | refine Le.letM (fun _ => ?_) | refine Le.join (fun _ => ?_) (fun _ _ hj => ?_) | exact hj _)

def ref22_Same_f (k_ : Nat) (a__0 : (List T_api_Fraction)) (b_1 : (List T_api_Fraction)) : Option (Bool) :=
  bif (a__0.length : Int) != (b_1.length : Int) then
    some false
  else
    Option.bind (loopF k_ (ref22_Same_l1f k_ a__0 b_1) 0) (sumK (fun a : Bool => some a) fun q14 : Unit =>
      some true)

theorem ref22_Same_f_le {k_ : Nat} {a__0 : (List T_api_Fraction)} {b_1 : (List T_api_Fraction)} : Le (ref22_Same_f k_ a__0 b_1) (ref22_Same_m a__0 b_1) := by
  unfold ref22_Same_f ref22_Same_m
  repeat' with_reducible (first | exact Le.refl _ | refine Le.loop (fun _ => ref22_Same_l1f_le) | refine Le.bind ?_ (Le.sumK fun _ => ?_) | refine Le.bind ?_ (fun _ => ?_) | refine Le.cond ?_ ?_ | refine Le.letM (fun _ => ?_) | refine Le.join (fun _ => ?_) (fun _ _ hj => ?_) | exact hj _)

def law22_awake_f (k_ : Nat)  : Option (Bool) :=
  Option.bind (degree_Budget_f k_ (T_api_Graph.mk 3 [(T_api_Pair.mk 0 1), (T_api_Pair.mk 1 2)]) [5, 3] 1) fun t3 =>
  Option.bind (degree_Levels_f k_ (T_api_Graph.mk 3 [(T_api_Pair.mk 0 1), (T_api_Pair.mk 1 2)]) [5, 3] 1) fun t5 =>
  Option.bind (degree_Strength_f k_ (T_api_Graph.mk 3 [(T_api_Pair.mk 0 1), (T_api_Pair.mk 1 2)]) [(T_api_Fraction.mk 1 1), (T_api_Fraction.mk 1 1), (T_api_Fraction.mk 1 1)]) fun t7 =>
  bif t3.2 == 0 then
    bif t5.2 == 0 then
      bif t7.2 == 0 then
        bif t3.1.Weight == 5 then
          Option.bind (keep_Ints_f k_ t3.1.Dropped [0]) fun t9 =>
          bif t9 then
            Option.bind (keep_Ints_f k_ t5.1 [2, 2, 1]) fun t10 =>
            bif t10 then
              Option.bind (ref22_Same_f k_ t7.1 [(T_api_Fraction.mk 1 1), (T_api_Fraction.mk 1 2), (T_api_Fraction.mk 2 3)]) fun t11 =>
              some t11
            else
              some false
          else
            some false
        else
          some false
      else
        some false
    else
      some false
  else
    some false

theorem law22_awake_f_le {k_ : Nat}  : Le (law22_awake_f k_ ) (law22_awake_m ) := by
  unfold law22_awake_f law22_awake_m
  repeat' with_reducible (first | exact Le.refl _ | refine degree_Budget_f_le | refine degree_Levels_f_le | refine degree_Strength_f_le | refine keep_Ints_f_le | refine ref22_Same_f_le | refine Le.bind ?_ (Le.sumK fun _ => ?_) | refine Le.bind ?_ (fun _ => ?_) | refine Le.cond ?_ ?_ | refine Le.letM (fun _ => ?_) | refine Le.join (fun _ => ?_) (fun _ _ hj => ?_) | exact hj _)

end Go.Dc
