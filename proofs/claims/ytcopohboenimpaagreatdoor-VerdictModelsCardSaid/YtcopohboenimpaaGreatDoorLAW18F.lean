/- Part LAW18.F of a proof: lemmas. -/
import Derived.Test.YtcopohboenimpaaGreatDoorMFuelM
set_option linter.unusedVariables false
set_option maxRecDepth 100000
set_option maxHeartbeats 1000000
namespace Go.Dc

def cmp_isNaN_int_f (k_ : Nat) (x_0 : Int) : Option (Bool) :=
 some ((x_0 : Int) != x_0)

theorem cmp_isNaN_int_f_le {k_ : Nat} {x_0 : Int} : Le (cmp_isNaN_int_f k_ x_0) (cmp_isNaN_int_m x_0) := by
  unfold cmp_isNaN_int_f cmp_isNaN_int_m
  repeat' with_reducible (first | exact Le.refl _ | refine Le.meet ?_ ?_ | refine Le.bind ?_ (Le.sumKK (fun _ => ?_) fun _ => ?_) | refine Le.bind ?_ (Le.sumK fun _ => ?_) | refine Le.bind ?_ (fun _ => ?_) | refine Le.cond ?_ ?_ | refine Le.letM (fun _ => ?_) | refine Le.join (fun _ => ?_) (fun _ _ hj => ?_) | exact hj _)

def cmp_Compare_int_f (k_ : Nat) (x_0 : Int) (y_1 : Int) : Option (Int) :=
 Option.bind ((cmp_isNaN_int_f k_) x_0) fun xNaN1 =>
 Option.bind ((cmp_isNaN_int_f k_) y_1) fun yNaN2 =>
 bif xNaN1 then
 bif yNaN2 then
 some 0
 else
 some ((-1))
 else
 bif yNaN2 then
 some 1
 else
 bif decide (x_0 < y_1) then
 some ((-1))
 else
 bif decide (x_0 > y_1) then
 some 1
 else
 some 0

theorem cmp_Compare_int_f_le {k_ : Nat} {x_0 : Int} {y_1 : Int} : Le (cmp_Compare_int_f k_ x_0 y_1) (cmp_Compare_int_m x_0 y_1) := by
  unfold cmp_Compare_int_f cmp_Compare_int_m
  repeat' with_reducible (first | exact Le.refl _ | refine cmp_isNaN_int_f_le | refine Le.meet ?_ ?_ | refine Le.bind ?_ (Le.sumKK (fun _ => ?_) fun _ => ?_) | refine Le.bind ?_ (Le.sumK fun _ => ?_) | refine Le.bind ?_ (fun _ => ?_) | refine Le.cond ?_ ?_ | refine Le.letM (fun _ => ?_) | refine Le.join (fun _ => ?_) (fun _ _ hj => ?_) | exact hj _)

def cmp_Or_int_l1f (k_ : Nat) (vals_0 : (List Int)) (s5 : Int) : Option (Sum (Sum (Int) (Unit)) (Int)) :=
 bif decide (s5 < ((vals_0.length : Int))) then
 Option.bind (idxM vals_0 s5) fun t6 =>
 bif (t6 : Int) != 0 then
 some (Sum.inl (Sum.inl t6))
 else
 some (Sum.inr (iadd .i64 s5 1))
 else
 some (Sum.inl (Sum.inr (())))

theorem cmp_Or_int_l1f_le {k_ : Nat} {vals_0 : (List Int)} {s5 : Int} : Le (cmp_Or_int_l1f k_ vals_0 s5) (cmp_Or_int_l1 vals_0 s5) := by
  unfold cmp_Or_int_l1f cmp_Or_int_l1
  repeat' with_reducible (first | exact Le.refl _ | refine Le.meet ?_ ?_ | refine Le.bind ?_ (Le.sumKK (fun _ => ?_) fun _ => ?_) | refine Le.bind ?_ (Le.sumK fun _ => ?_) | refine Le.bind ?_ (fun _ => ?_) | refine Le.cond ?_ ?_ | refine Le.letM (fun _ => ?_) | refine Le.join (fun _ => ?_) (fun _ _ hj => ?_) | exact hj _)

def cmp_Or_int_f (k_ : Nat) (vals_0 : (List Int)) : Option (Int) :=
 Option.bind (loopF k_ ((cmp_Or_int_l1f k_) vals_0) 0) (sumK (fun a : Int => some a) fun q7 : Unit =>
 some 0)

theorem cmp_Or_int_f_le {k_ : Nat} {vals_0 : (List Int)} : Le (cmp_Or_int_f k_ vals_0) (cmp_Or_int_m vals_0) := by
  unfold cmp_Or_int_f cmp_Or_int_m
  repeat' with_reducible (first | exact Le.refl _ | refine Le.loop (fun _ => cmp_Or_int_l1f_le) | refine Le.meet ?_ ?_ | refine Le.bind ?_ (Le.sumKK (fun _ => ?_) fun _ => ?_) | refine Le.bind ?_ (Le.sumK fun _ => ?_) | refine Le.bind ?_ (fun _ => ?_) | refine Le.cond ?_ ?_ | refine Le.letM (fun _ => ?_) | refine Le.join (fun _ => ?_) (fun _ _ hj => ?_) | exact hj _)

def graph_compare_f (k_ : Nat) (a_0 : T_api_Pair) (b_1 : T_api_Pair) : Option (Int) :=
 Option.bind ((cmp_Compare_int_f k_) a_0.From b_1.From) fun t1 =>
 Option.bind ((cmp_Compare_int_f k_) a_0.To b_1.To) fun t2 =>
 Option.bind ((cmp_Or_int_f k_) [t1, t2]) fun t3 =>
 some t3

theorem graph_compare_f_le {k_ : Nat} {a_0 : T_api_Pair} {b_1 : T_api_Pair} : Le (graph_compare_f k_ a_0 b_1) (graph_compare_m a_0 b_1) := by
  unfold graph_compare_f graph_compare_m
  repeat' with_reducible (first | exact Le.refl _ | refine cmp_Compare_int_f_le | refine cmp_Or_int_f_le | refine Le.meet ?_ ?_ | refine Le.bind ?_ (Le.sumKK (fun _ => ?_) fun _ => ?_) | refine Le.bind ?_ (Le.sumK fun _ => ?_) | refine Le.bind ?_ (fun _ => ?_) | refine Le.cond ?_ ?_ | refine Le.letM (fun _ => ?_) | refine Le.join (fun _ => ?_) (fun _ _ hj => ?_) | exact hj _)

def graph_Validate_l1f (k_ : Nat) (g_0 : T_api_Graph) (s9 : Int) : Option (Sum (Sum (Int) (Unit)) (Int)) :=
 bif decide (s9 < ((g_0.L.length : Int))) then
 Option.bind (idxM g_0.L s9) fun t10 =>
 bif decide ((imin t10.From t10.To) < 0) then
 some (Sum.inl (Sum.inl 1))
 else
 bif decide ((imax t10.From t10.To) ≥ g_0.N) then
 some (Sum.inl (Sum.inl 1))
 else
 bif decide (s9 > 0) then
 Option.bind (idxM g_0.L (isub .i64 s9 1)) fun t11 =>
 Option.bind ((graph_compare_f k_) t11 t10) fun t12 =>
 bif decide (t12 ≥ 0) then
 some (Sum.inl (Sum.inl 8))
 else
 some (Sum.inr (iadd .i64 s9 1))
 else
 some (Sum.inr (iadd .i64 s9 1))
 else
 some (Sum.inl (Sum.inr (())))

theorem graph_Validate_l1f_le {k_ : Nat} {g_0 : T_api_Graph} {s9 : Int} : Le (graph_Validate_l1f k_ g_0 s9) (graph_Validate_l1 g_0 s9) := by
  unfold graph_Validate_l1f graph_Validate_l1
  repeat' with_reducible (first | exact Le.refl _ | refine graph_compare_f_le | refine Le.meet ?_ ?_ | refine Le.bind ?_ (Le.sumKK (fun _ => ?_) fun _ => ?_) | refine Le.bind ?_ (Le.sumK fun _ => ?_) | refine Le.bind ?_ (fun _ => ?_) | refine Le.cond ?_ ?_ | refine Le.letM (fun _ => ?_) | refine Le.join (fun _ => ?_) (fun _ _ hj => ?_) | exact hj _)

def graph_Validate_f (k_ : Nat) (g_0 : T_api_Graph) : Option (Int) :=
 bif decide (g_0.N < 0) then
 some 1
 else
 bif decide (g_0.N > 40) then
 some 1
 else
 Option.bind (loopF k_ ((graph_Validate_l1f k_) g_0) 0) (sumK (fun a : Int => some a) fun q13 : Unit =>
 some 0)

theorem graph_Validate_f_le {k_ : Nat} {g_0 : T_api_Graph} : Le (graph_Validate_f k_ g_0) (graph_Validate_m g_0) := by
  unfold graph_Validate_f graph_Validate_m
  repeat' with_reducible (first | exact Le.refl _ | refine Le.loop (fun _ => graph_Validate_l1f_le) | refine Le.meet ?_ ?_ | refine Le.bind ?_ (Le.sumKK (fun _ => ?_) fun _ => ?_) | refine Le.bind ?_ (Le.sumK fun _ => ?_) | refine Le.bind ?_ (fun _ => ?_) | refine Le.cond ?_ ?_ | refine Le.letM (fun _ => ?_) | refine Le.join (fun _ => ?_) (fun _ _ hj => ?_) | exact hj _)

def verdict_asked_f (k_ : Nat) (g_0 : T_api_Graph) (n_1 : Int) : Option (Int) :=
 Option.bind ((graph_Validate_f k_) g_0) fun t1 =>
 bif (t1 : Int) != 0 then
 some 1
 else
 bif decide (n_1 < 0) then
 some 1
 else
 bif decide (n_1 ≥ g_0.N) then
 some 1
 else
 some 0

theorem verdict_asked_f_le {k_ : Nat} {g_0 : T_api_Graph} {n_1 : Int} : Le (verdict_asked_f k_ g_0 n_1) (verdict_asked_m g_0 n_1) := by
  unfold verdict_asked_f verdict_asked_m
  repeat' with_reducible (first | exact Le.refl _ | refine graph_Validate_f_le | refine Le.meet ?_ ?_ | refine Le.bind ?_ (Le.sumKK (fun _ => ?_) fun _ => ?_) | refine Le.bind ?_ (Le.sumK fun _ => ?_) | refine Le.bind ?_ (fun _ => ?_) | refine Le.cond ?_ ?_ | refine Le.letM (fun _ => ?_) | refine Le.join (fun _ => ?_) (fun _ _ hj => ?_) | exact hj _)

def grounded_build_l1f (k_ : Nat) (g_0 : T_api_Graph) (s28 : Int × (List Int)) : Option (Sum ((List Int)) (Int × (List Int))) :=
 bif decide (s28.1 < ((g_0.L.length : Int))) then
 Option.bind (idxM g_0.L s28.1) fun t29 =>
 Option.bind (vidxM 40 s28.2 t29.To) fun t30 =>
 Option.bind (vidxM 40 s28.2 t29.To) fun t31 =>
 some (Sum.inr ((iadd .i64 s28.1 1, s28.2.set (Int.toNat t29.To) (iadd .i64 t30 1))))
 else
 some (Sum.inl s28.2)

theorem grounded_build_l1f_le {k_ : Nat} {g_0 : T_api_Graph} {s28 : Int × (List Int)} : Le (grounded_build_l1f k_ g_0 s28) (grounded_build_l1 g_0 s28) := by
  unfold grounded_build_l1f grounded_build_l1
  repeat' with_reducible (first | exact Le.refl _ | refine Le.meet ?_ ?_ | refine Le.bind ?_ (Le.sumKK (fun _ => ?_) fun _ => ?_) | refine Le.bind ?_ (Le.sumK fun _ => ?_) | refine Le.bind ?_ (fun _ => ?_) | refine Le.cond ?_ ?_ | refine Le.letM (fun _ => ?_) | refine Le.join (fun _ => ?_) (fun _ _ hj => ?_) | exact hj _)

def grounded_build_l2f (k_ : Nat) (g_0 : T_api_Graph) (q32 : (List Int)) (s53 : Int × (List Int)) : Option (Sum ((List Int)) (Int × (List Int))) :=
 bif decide (s53.1 < g_0.N) then
 Option.bind (vidxM 40 q32 s53.1) fun t54 =>
 bif (t54 : Int) == 0 then
 Option.bind (appM 8 s53.2 [s53.1]) fun queue55 =>
 some (Sum.inr ((iadd .i64 s53.1 1, queue55)))
 else
 some (Sum.inr ((iadd .i64 s53.1 1, s53.2)))
 else
 some (Sum.inl s53.2)

theorem grounded_build_l2f_le {k_ : Nat} {g_0 : T_api_Graph} {q32 : (List Int)} {s53 : Int × (List Int)} : Le (grounded_build_l2f k_ g_0 q32 s53) (grounded_build_l2 g_0 q32 s53) := by
  unfold grounded_build_l2f grounded_build_l2
  repeat' with_reducible (first | exact Le.refl _ | refine Le.meet ?_ ?_ | refine Le.bind ?_ (Le.sumKK (fun _ => ?_) fun _ => ?_) | refine Le.bind ?_ (Le.sumK fun _ => ?_) | refine Le.bind ?_ (fun _ => ?_) | refine Le.cond ?_ ?_ | refine Le.letM (fun _ => ?_) | refine Le.join (fun _ => ?_) (fun _ _ hj => ?_) | exact hj _)

def grounded_build_l3f (k_ : Nat) (s469 : Int × (List Int) × (List Int) × (List Int) × (List Int)) (s488 : Int × (List Int) × (List Int)) : Option (Sum ((List Int) × (List Int)) (Int × (List Int) × (List Int))) :=
 bif decide (s488.1 < ((s469.2.2.2.2.length : Int))) then
 Option.bind (idxM s469.2.2.2.2 s488.1) fun t489 =>
 Option.bind (idxM s488.2.1 t489) fun t490 =>
 Option.bind (idxM s488.2.2 t489) fun t491 =>
 some (Sum.inr ((iadd .i64 s488.1 1, s488.2.1.set (Int.toNat t489) 1, s488.2.2.set (Int.toNat t489) s469.1)))
 else
 some (Sum.inl ((s488.2.1, s488.2.2)))

theorem grounded_build_l3f_le {k_ : Nat} {s469 : Int × (List Int) × (List Int) × (List Int) × (List Int)} {s488 : Int × (List Int) × (List Int)} : Le (grounded_build_l3f k_ s469 s488) (grounded_build_l3 s469 s488) := by
  unfold grounded_build_l3f grounded_build_l3
  repeat' with_reducible (first | exact Le.refl _ | refine Le.meet ?_ ?_ | refine Le.bind ?_ (Le.sumKK (fun _ => ?_) fun _ => ?_) | refine Le.bind ?_ (Le.sumK fun _ => ?_) | refine Le.bind ?_ (fun _ => ?_) | refine Le.cond ?_ ?_ | refine Le.letM (fun _ => ?_) | refine Le.join (fun _ => ?_) (fun _ _ hj => ?_) | exact hj _)

def graph_proper_f (k_ : Nat) (g_0 : T_api_Graph) : Option (T_api_Graph) :=
 Option.bind ((graph_Validate_f k_) g_0) fun t1 =>
 bif (t1 : Int) != 0 then
 some ((T_api_Graph.mk 0 []))
 else
 some g_0

theorem graph_proper_f_le {k_ : Nat} {g_0 : T_api_Graph} : Le (graph_proper_f k_ g_0) (graph_proper_m g_0) := by
  unfold graph_proper_f graph_proper_m
  repeat' with_reducible (first | exact Le.refl _ | refine graph_Validate_f_le | refine Le.meet ?_ ?_ | refine Le.bind ?_ (Le.sumKK (fun _ => ?_) fun _ => ?_) | refine Le.bind ?_ (Le.sumK fun _ => ?_) | refine Le.bind ?_ (fun _ => ?_) | refine Le.cond ?_ ?_ | refine Le.letM (fun _ => ?_) | refine Le.join (fun _ => ?_) (fun _ _ hj => ?_) | exact hj _)

def graph_masks_l1f (k_ : Nat) (g_0 : T_api_Graph) (s12 : Int × (List Int)) : Option (Sum ((List Int)) (Int × (List Int))) :=
 bif decide (s12.1 < ((g_0.L.length : Int))) then
 Option.bind (idxM g_0.L s12.1) fun t13 =>
 Option.bind (idxM s12.2 t13.From) fun t14 =>
 Option.bind (ishlM .u64 1 t13.To) fun t15 =>
 Option.bind (idxM s12.2 t13.From) fun t16 =>
 some (Sum.inr ((iadd .i64 s12.1 1, s12.2.set (Int.toNat t13.From) (ior .u64 t14 t15))))
 else
 some (Sum.inl s12.2)

theorem graph_masks_l1f_le {k_ : Nat} {g_0 : T_api_Graph} {s12 : Int × (List Int)} : Le (graph_masks_l1f k_ g_0 s12) (graph_masks_l1 g_0 s12) := by
  unfold graph_masks_l1f graph_masks_l1
  repeat' with_reducible (first | exact Le.refl _ | refine Le.meet ?_ ?_ | refine Le.bind ?_ (Le.sumKK (fun _ => ?_) fun _ => ?_) | refine Le.bind ?_ (Le.sumK fun _ => ?_) | refine Le.bind ?_ (fun _ => ?_) | refine Le.cond ?_ ?_ | refine Le.letM (fun _ => ?_) | refine Le.join (fun _ => ?_) (fun _ _ hj => ?_) | exact hj _)

def graph_masks_f (k_ : Nat) (g_0 : T_api_Graph) : Option ((List Int)) :=
 Option.bind (mkM 8 0 g_0.N) fun out1 =>
 Option.bind (loopF k_ ((graph_masks_l1f k_) g_0) ((0, out1))) fun q17 : (List Int) =>
 some q17

theorem graph_masks_f_le {k_ : Nat} {g_0 : T_api_Graph} : Le (graph_masks_f k_ g_0) (graph_masks_m g_0) := by
  unfold graph_masks_f graph_masks_m
  repeat' with_reducible (first | exact Le.refl _ | refine Le.loop (fun _ => graph_masks_l1f_le) | refine Le.meet ?_ ?_ | refine Le.bind ?_ (Le.sumKK (fun _ => ?_) fun _ => ?_) | refine Le.bind ?_ (Le.sumK fun _ => ?_) | refine Le.bind ?_ (fun _ => ?_) | refine Le.cond ?_ ?_ | refine Le.letM (fun _ => ?_) | refine Le.join (fun _ => ?_) (fun _ _ hj => ?_) | exact hj _)

def graph_list_l1f (k_ : Nat) (s10 : Int × (List Int)) : Option (Sum ((List Int)) (Int × (List Int))) :=
 bif (s10.1 : Int) != 0 then
 Option.bind (tzM s10.1) fun t11 =>
 Option.bind (appM 8 s10.2 [t11]) fun out12 =>
 some (Sum.inr ((iand .u64 s10.1 (isub .u64 s10.1 1), out12)))
 else
 some (Sum.inl s10.2)

theorem graph_list_l1f_le {k_ : Nat} {s10 : Int × (List Int)} : Le (graph_list_l1f k_ s10) (graph_list_l1 s10) := by
  unfold graph_list_l1f graph_list_l1
  repeat' with_reducible (first | exact Le.refl _ | refine Le.meet ?_ ?_ | refine Le.bind ?_ (Le.sumKK (fun _ => ?_) fun _ => ?_) | refine Le.bind ?_ (Le.sumK fun _ => ?_) | refine Le.bind ?_ (fun _ => ?_) | refine Le.cond ?_ ?_ | refine Le.letM (fun _ => ?_) | refine Le.join (fun _ => ?_) (fun _ _ hj => ?_) | exact hj _)

def graph_list_f (k_ : Nat) (set__0 : Int) : Option ((List Int)) :=
 Option.bind (loopF k_ (graph_list_l1f k_) ((set__0, []))) fun q13 : (List Int) =>
 some q13

theorem graph_list_f_le {k_ : Nat} {set__0 : Int} : Le (graph_list_f k_ set__0) (graph_list_m set__0) := by
  unfold graph_list_f graph_list_m
  repeat' with_reducible (first | exact Le.refl _ | refine Le.loop (fun _ => graph_list_l1f_le) | refine Le.meet ?_ ?_ | refine Le.bind ?_ (Le.sumKK (fun _ => ?_) fun _ => ?_) | refine Le.bind ?_ (Le.sumK fun _ => ?_) | refine Le.bind ?_ (fun _ => ?_) | refine Le.cond ?_ ?_ | refine Le.letM (fun _ => ?_) | refine Le.join (fun _ => ?_) (fun _ _ hj => ?_) | exact hj _)

def graph_Attacked_f (k_ : Nat) (g_0 : T_api_Graph) (i_1 : Int) : Option ((List Int)) :=
 Option.bind ((graph_proper_f k_) g_0) fun t1 =>
 bif decide (i_1 < 0) then
 some []
 else
 bif decide (i_1 ≥ t1.N) then
 some []
 else
 Option.bind ((graph_masks_f k_) t1) fun t2 =>
 Option.bind (idxM t2 i_1) fun t3 =>
 Option.bind ((graph_list_f k_) t3) fun t4 =>
 some t4

theorem graph_Attacked_f_le {k_ : Nat} {g_0 : T_api_Graph} {i_1 : Int} : Le (graph_Attacked_f k_ g_0 i_1) (graph_Attacked_m g_0 i_1) := by
  unfold graph_Attacked_f graph_Attacked_m
  repeat' with_reducible (first | exact Le.refl _ | refine graph_proper_f_le | refine graph_masks_f_le | refine graph_list_f_le | refine Le.meet ?_ ?_ | refine Le.bind ?_ (Le.sumKK (fun _ => ?_) fun _ => ?_) | refine Le.bind ?_ (Le.sumK fun _ => ?_) | refine Le.bind ?_ (fun _ => ?_) | refine Le.cond ?_ ?_ | refine Le.letM (fun _ => ?_) | refine Le.join (fun _ => ?_) (fun _ _ hj => ?_) | exact hj _)

def grounded_build_l4f (k_ : Nat) (s725 : Int × (List Int) × (List Int) × (List Int) × (List Int)) (t726 : Int) (t731 : ((List Int))) (s746 : Int × (List Int) × (List Int)) : Option (Sum ((List Int) × (List Int)) (Int × (List Int) × (List Int))) :=
 bif decide (s746.1 < ((t731.length : Int))) then
 Option.bind (idxM t731 s746.1) fun t747 =>
 Option.bind (vidxM 40 s746.2.1 t747) fun t748 =>
 Option.bind (vidxM 40 s746.2.1 t747) fun t749 =>
 Option.bind (vidxM 40 (s746.2.1.set (Int.toNat t747) (isub .i64 t748 1)) t747) fun t750 =>
 bif (t750 : Int) == 0 then
 Option.bind (idxM (s725.2.1.set (Int.toNat t726) 2) t747) fun t751 =>
 bif (t751 : Int) == 3 then
 Option.bind (appM 8 s746.2.2 [t747]) fun next752 =>
 some (Sum.inr ((iadd .i64 s746.1 1, s746.2.1.set (Int.toNat t747) (isub .i64 t748 1), next752)))
 else
 some (Sum.inr ((iadd .i64 s746.1 1, s746.2.1.set (Int.toNat t747) (isub .i64 t748 1), s746.2.2)))
 else
 some (Sum.inr ((iadd .i64 s746.1 1, s746.2.1.set (Int.toNat t747) (isub .i64 t748 1), s746.2.2)))
 else
 some (Sum.inl ((s746.2.1, s746.2.2)))

theorem grounded_build_l4f_le {k_ : Nat} {s725 : Int × (List Int) × (List Int) × (List Int) × (List Int)} {t726 : Int} {t731 : ((List Int))} {s746 : Int × (List Int) × (List Int)} : Le (grounded_build_l4f k_ s725 t726 t731 s746) (grounded_build_l4 s725 t726 t731 s746) := by
  unfold grounded_build_l4f grounded_build_l4
  repeat' with_reducible (first | exact Le.refl _ | refine Le.meet ?_ ?_ | refine Le.bind ?_ (Le.sumKK (fun _ => ?_) fun _ => ?_) | refine Le.bind ?_ (Le.sumK fun _ => ?_) | refine Le.bind ?_ (fun _ => ?_) | refine Le.cond ?_ ?_ | refine Le.letM (fun _ => ?_) | refine Le.join (fun _ => ?_) (fun _ _ hj => ?_) | exact hj _)

def grounded_build_l5f (k_ : Nat) (g_0 : T_api_Graph) (s469 : Int × (List Int) × (List Int) × (List Int) × (List Int)) (t678 : ((List Int))) (s725 : Int × (List Int) × (List Int) × (List Int) × (List Int)) : Option (Sum ((List Int) × (List Int) × (List Int) × (List Int)) (Int × (List Int) × (List Int) × (List Int) × (List Int))) :=
 bif decide (s725.1 < ((t678.length : Int))) then
 Option.bind (idxM t678 s725.1) fun t726 =>
 Option.bind (idxM s725.2.1 t726) fun t728 =>
 bif (t728 : Int) != 3 then
 some (Sum.inr ((iadd .i64 s725.1 1, s725.2.1, s725.2.2.1, s725.2.2.2.1, s725.2.2.2.2)))
 else
 Option.bind (idxM s725.2.1 t726) fun t729 =>
 Option.bind (idxM s725.2.2.1 t726) fun t730 =>
 Option.bind ((graph_Attacked_f k_) g_0 t726) fun t731 =>
 Option.bind (loopF k_ ((grounded_build_l4f k_) s725 t726 t731) ((0, s725.2.2.2.1, s725.2.2.2.2))) fun q753 : (List Int) × (List Int) =>
 some (Sum.inr ((iadd .i64 s725.1 1, s725.2.1.set (Int.toNat t726) 2, s725.2.2.1.set (Int.toNat t726) s469.1, q753.1, q753.2)))
 else
 some (Sum.inl ((s725.2.1, s725.2.2.1, s725.2.2.2.1, s725.2.2.2.2)))

theorem grounded_build_l5f_le {k_ : Nat} {g_0 : T_api_Graph} {s469 : Int × (List Int) × (List Int) × (List Int) × (List Int)} {t678 : ((List Int))} {s725 : Int × (List Int) × (List Int) × (List Int) × (List Int)} : Le (grounded_build_l5f k_ g_0 s469 t678 s725) (grounded_build_l5 g_0 s469 t678 s725) := by
  unfold grounded_build_l5f grounded_build_l5
  repeat' with_reducible (first | exact Le.refl _ | refine graph_Attacked_f_le | refine Le.loop (fun _ => grounded_build_l4f_le) | refine Le.meet ?_ ?_ | refine Le.bind ?_ (Le.sumKK (fun _ => ?_) fun _ => ?_) | refine Le.bind ?_ (Le.sumK fun _ => ?_) | refine Le.bind ?_ (fun _ => ?_) | refine Le.cond ?_ ?_ | refine Le.letM (fun _ => ?_) | refine Le.join (fun _ => ?_) (fun _ _ hj => ?_) | exact hj _)

def grounded_build_l6f (k_ : Nat) (g_0 : T_api_Graph) (s469 : Int × (List Int) × (List Int) × (List Int) × (List Int)) (s676 : Int × (List Int) × (List Int) × (List Int) × (List Int)) : Option (Sum ((List Int) × (List Int) × (List Int) × (List Int)) (Int × (List Int) × (List Int) × (List Int) × (List Int))) :=
 bif decide (s676.1 < ((s469.2.2.2.2.length : Int))) then
 Option.bind (idxM s469.2.2.2.2 s676.1) fun t677 =>
 Option.bind ((graph_Attacked_f k_) g_0 t677) fun t678 =>
 Option.bind (loopF k_ ((grounded_build_l5f k_) g_0 s469 t678) ((0, s676.2.1, s676.2.2.1, s676.2.2.2.1, s676.2.2.2.2))) fun q754 : (List Int) × (List Int) × (List Int) × (List Int) =>
 some (Sum.inr ((iadd .i64 s676.1 1, q754.1, q754.2.1, q754.2.2.1, q754.2.2.2)))
 else
 some (Sum.inl ((s676.2.1, s676.2.2.1, s676.2.2.2.1, s676.2.2.2.2)))

theorem grounded_build_l6f_le {k_ : Nat} {g_0 : T_api_Graph} {s469 : Int × (List Int) × (List Int) × (List Int) × (List Int)} {s676 : Int × (List Int) × (List Int) × (List Int) × (List Int)} : Le (grounded_build_l6f k_ g_0 s469 s676) (grounded_build_l6 g_0 s469 s676) := by
  unfold grounded_build_l6f grounded_build_l6
  repeat' with_reducible (first | exact Le.refl _ | refine graph_Attacked_f_le | refine Le.loop (fun _ => grounded_build_l5f_le) | refine Le.meet ?_ ?_ | refine Le.bind ?_ (Le.sumKK (fun _ => ?_) fun _ => ?_) | refine Le.bind ?_ (Le.sumK fun _ => ?_) | refine Le.bind ?_ (fun _ => ?_) | refine Le.cond ?_ ?_ | refine Le.letM (fun _ => ?_) | refine Le.join (fun _ => ?_) (fun _ _ hj => ?_) | exact hj _)

def grounded_build_l7f (k_ : Nat) (g_0 : T_api_Graph) (s469 : Int × (List Int) × (List Int) × (List Int) × (List Int)) : Option (Sum ((List Int) × (List Int)) (Int × (List Int) × (List Int) × (List Int) × (List Int))) :=
 bif decide (((s469.2.2.2.2.length : Int)) > 0) then
 Option.bind (loopF k_ ((grounded_build_l3f k_) s469) ((0, s469.2.1, s469.2.2.1))) fun q492 : (List Int) × (List Int) =>
 Option.bind (loopF k_ ((grounded_build_l6f k_) g_0 s469) ((0, q492.1, q492.2, s469.2.2.2.1, []))) fun q755 : (List Int) × (List Int) × (List Int) × (List Int) =>
 some (Sum.inr ((iadd .i64 s469.1 1, q755.1, q755.2.1, q755.2.2.1, q755.2.2.2)))
 else
 some (Sum.inl ((s469.2.1, s469.2.2.1)))

theorem grounded_build_l7f_le {k_ : Nat} {g_0 : T_api_Graph} {s469 : Int × (List Int) × (List Int) × (List Int) × (List Int)} : Le (grounded_build_l7f k_ g_0 s469) (grounded_build_l7 g_0 s469) := by
  unfold grounded_build_l7f grounded_build_l7
  repeat' with_reducible (first | exact Le.refl _ | refine Le.loop (fun _ => grounded_build_l3f_le) | refine Le.loop (fun _ => grounded_build_l6f_le) | refine Le.meet ?_ ?_ | refine Le.bind ?_ (Le.sumKK (fun _ => ?_) fun _ => ?_) | refine Le.bind ?_ (Le.sumK fun _ => ?_) | refine Le.bind ?_ (fun _ => ?_) | refine Le.cond ?_ ?_ | refine Le.letM (fun _ => ?_) | refine Le.join (fun _ => ?_) (fun _ _ hj => ?_) | exact hj _)

def math_bits_Mul64_f (k_ : Nat) (x_0 : Int) (y_1 : Int) : Option (Int × Int) :=
  letM (iand .u64 x_0 4294967295) fun x01 =>
  letM (ishr .u64 x_0 32) fun x12 =>
  letM (iand .u64 y_1 4294967295) fun y03 =>
  letM (ishr .u64 y_1 32) fun y14 =>
  letM (imul .u64 x01 y03) fun w05 =>
  letM (iadd .u64 (imul .u64 x12 y03) (ishr .u64 w05 32)) fun t6 =>
  letM (iand .u64 t6 4294967295) fun w17 =>
  letM (ishr .u64 t6 32) fun w28 =>
  letM (iadd .u64 w17 (imul .u64 x01 y14)) fun w19 =>
  letM (iadd .u64 (iadd .u64 (imul .u64 x12 y14) w28) (ishr .u64 w19 32)) fun hi10 =>
  letM (imul .u64 x_0 y_1) fun lo11 =>
  some (hi10, lo11)

theorem math_bits_Mul64_f_le {k_ : Nat} {x_0 : Int} {y_1 : Int} : Le (math_bits_Mul64_f k_ x_0 y_1) (math_bits_Mul64_m x_0 y_1) := by
  unfold math_bits_Mul64_f math_bits_Mul64_m
  repeat' with_reducible (first | exact Le.refl _ | refine Le.meet ?_ ?_ | refine Le.bind ?_ (Le.sumKK (fun _ => ?_) fun _ => ?_) | refine Le.bind ?_ (Le.sumK fun _ => ?_) | refine Le.bind ?_ (fun _ => ?_) | refine Le.cond ?_ ?_ | refine Le.letM (fun _ => ?_) | refine Le.join (fun _ => ?_) (fun _ _ hj => ?_) | exact hj _)

def math_bits_Mul_f (k_ : Nat) (x_0 : Int) (y_1 : Int) : Option (Int × Int) :=
  Option.bind ((math_bits_Mul64_f k_) x_0 y_1) fun t1 =>
  some (t1.1, t1.2)

theorem math_bits_Mul_f_le {k_ : Nat} {x_0 : Int} {y_1 : Int} : Le (math_bits_Mul_f k_ x_0 y_1) (math_bits_Mul_m x_0 y_1) := by
  unfold math_bits_Mul_f math_bits_Mul_m
  repeat' with_reducible (first | exact Le.refl _ | refine math_bits_Mul64_f_le | refine Le.meet ?_ ?_ | refine Le.bind ?_ (Le.sumKK (fun _ => ?_) fun _ => ?_) | refine Le.bind ?_ (Le.sumK fun _ => ?_) | refine Le.bind ?_ (fun _ => ?_) | refine Le.cond ?_ ?_ | refine Le.letM (fun _ => ?_) | refine Le.join (fun _ => ?_) (fun _ _ hj => ?_) | exact hj _)

def slices_Repeat_int_int_l1f (k_ : Nat) (s17 : Int × (List Int)) : Option (Sum ((List Int)) (Int × (List Int))) :=
  bif decide (s17.1 < (s17.2.length : Int)) then
    Option.bind (slM s17.2 s17.1 (s17.2.length : Int)) fun t20 =>
    Option.bind (slM s17.2 0 s17.1) fun t21 =>
    some (Sum.inr (iadd .i64 s17.1 ((min t21.length t20.length : Nat) : Int), cpO s17.2 s17.1 (s17.2.length : Int) 0 s17.1))
  else
    some (Sum.inl s17.2)

theorem slices_Repeat_int_int_l1f_le {k_ : Nat} {s17 : Int × (List Int)} : Le (slices_Repeat_int_int_l1f k_ s17) (slices_Repeat_int_int_l1 s17) := by
  unfold slices_Repeat_int_int_l1f slices_Repeat_int_int_l1
  repeat' with_reducible (first | exact Le.refl _ | refine Le.meet ?_ ?_ | refine Le.bind ?_ (Le.sumKK (fun _ => ?_) fun _ => ?_) | refine Le.bind ?_ (Le.sumK fun _ => ?_) | refine Le.bind ?_ (fun _ => ?_) | refine Le.cond ?_ ?_ | refine Le.letM (fun _ => ?_) | refine Le.join (fun _ => ?_) (fun _ _ hj => ?_) | exact hj _)

def slices_Repeat_int_int_f (k_ : Nat) (x_0 : (List Int)) (count_1 : Int) : Option (List Int) :=
  bif decide (count_1 < 0) then
    none
  else
    Option.bind ((math_bits_Mul_f k_) (IntKind.wrap .u64 (x_0.length : Int)) (IntKind.wrap .u64 count_1)) fun t2 =>
    bif decide (t2.1 > 0) then
      none
    else
      bif decide (t2.2 > 9223372036854775807) then
        none
      else
        Option.bind (mkM 8 0 (IntKind.wrap .i64 t2.2)) fun newslice4 =>
        letM (((min x_0.length newslice4.length : Nat) : Int)) fun n6 =>
        Option.bind (loopF k_ ((slices_Repeat_int_int_l1f k_)) (n6, cpA newslice4 x_0)) fun q22 : (List Int) =>
        some q22

theorem slices_Repeat_int_int_f_le {k_ : Nat} {x_0 : (List Int)} {count_1 : Int} : Le (slices_Repeat_int_int_f k_ x_0 count_1) (slices_Repeat_int_int_m x_0 count_1) := by
  unfold slices_Repeat_int_int_f slices_Repeat_int_int_m
  repeat' with_reducible (first | exact Le.refl _ | refine math_bits_Mul_f_le | refine Le.loop (fun _ => slices_Repeat_int_int_l1f_le) | refine Le.meet ?_ ?_ | refine Le.bind ?_ (Le.sumKK (fun _ => ?_) fun _ => ?_) | refine Le.bind ?_ (Le.sumK fun _ => ?_) | refine Le.bind ?_ (fun _ => ?_) | refine Le.cond ?_ ?_ | refine Le.letM (fun _ => ?_) | refine Le.join (fun _ => ?_) (fun _ _ hj => ?_) | exact hj _)

def grounded_build_f (k_ : Nat) (g_0 : T_api_Graph) : Option ((List Int) × (List Int)) :=
 joinM (fun j9 : (List Int) × (List Int) =>
 Option.bind (loopF k_ ((grounded_build_l1f k_) g_0) ((0, List.replicate 40 (0 : Int)))) fun q32 : (List Int) =>
 Option.bind (loopF k_ ((grounded_build_l2f k_) g_0 q32) ((0, []))) fun q56 : (List Int) =>
 Option.bind (loopF k_ ((grounded_build_l7f k_) g_0) ((1, j9.1, j9.2, q32, q56))) fun q756 : (List Int) × (List Int) =>
 some ((q756.1, q756.2))) fun k8 =>
 meetF (
 meetF (
 Option.bind ((slices_Repeat_int_int_f k_) [3] g_0.N) fun labels757 =>
 meetF (
 Option.bind (mkM 8 0 g_0.N) fun ranks758 =>
 k8 ((labels757, ranks758))) (
 Option.bind (mkM 8 0 g_0.N) fun ranks759 =>
 k8 ((labels757, ranks759)))) (
 Option.bind (mkM 8 0 g_0.N) fun ranks760 =>
 Option.bind ((slices_Repeat_int_int_f k_) [3] g_0.N) fun labels761 =>
 k8 ((labels761, ranks760)))) (
 Option.bind (mkM 8 0 g_0.N) fun ranks762 =>
 Option.bind ((slices_Repeat_int_int_f k_) [3] g_0.N) fun labels763 =>
 k8 ((labels763, ranks762)))

theorem grounded_build_f_le {k_ : Nat} {g_0 : T_api_Graph} : Le (grounded_build_f k_ g_0) (grounded_build_m g_0) := by
  unfold grounded_build_f grounded_build_m
  repeat' with_reducible (first | exact Le.refl _ | refine slices_Repeat_int_int_f_le | refine Le.loop (fun _ => grounded_build_l1f_le) | refine Le.loop (fun _ => grounded_build_l2f_le) | refine Le.loop (fun _ => grounded_build_l7f_le) | refine Le.meet ?_ ?_ | refine Le.bind ?_ (Le.sumKK (fun _ => ?_) fun _ => ?_) | refine Le.bind ?_ (Le.sumK fun _ => ?_) | refine Le.bind ?_ (fun _ => ?_) | refine Le.cond ?_ ?_ | refine Le.letM (fun _ => ?_) | refine Le.join (fun _ => ?_) (fun _ _ hj => ?_) | exact hj _)

def grounded_Label_f (k_ : Nat) (g_0 : T_api_Graph) : Option ((List Int)) :=
 Option.bind ((grounded_build_f k_) g_0) fun t1 =>
 some t1.1

theorem grounded_Label_f_le {k_ : Nat} {g_0 : T_api_Graph} : Le (grounded_Label_f k_ g_0) (grounded_Label_m g_0) := by
  unfold grounded_Label_f grounded_Label_m
  repeat' with_reducible (first | exact Le.refl _ | refine grounded_build_f_le | refine Le.meet ?_ ?_ | refine Le.bind ?_ (Le.sumKK (fun _ => ?_) fun _ => ?_) | refine Le.bind ?_ (Le.sumK fun _ => ?_) | refine Le.bind ?_ (fun _ => ?_) | refine Le.cond ?_ ?_ | refine Le.letM (fun _ => ?_) | refine Le.join (fun _ => ?_) (fun _ _ hj => ?_) | exact hj _)

def grounded_Ranks_f (k_ : Nat) (g_0 : T_api_Graph) : Option ((List Int)) :=
 Option.bind ((grounded_build_f k_) g_0) fun t1 =>
 some t1.2

theorem grounded_Ranks_f_le {k_ : Nat} {g_0 : T_api_Graph} : Le (grounded_Ranks_f k_ g_0) (grounded_Ranks_m g_0) := by
  unfold grounded_Ranks_f grounded_Ranks_m
  repeat' with_reducible (first | exact Le.refl _ | refine grounded_build_f_le | refine Le.meet ?_ ?_ | refine Le.bind ?_ (Le.sumKK (fun _ => ?_) fun _ => ?_) | refine Le.bind ?_ (Le.sumK fun _ => ?_) | refine Le.bind ?_ (fun _ => ?_) | refine Le.cond ?_ ?_ | refine Le.letM (fun _ => ?_) | refine Le.join (fun _ => ?_) (fun _ _ hj => ?_) | exact hj _)

def verdict_encoder_in_f (k_ : Nat) (x_0_n : Int) (i_1 : Int) : Option (Int) :=
 some (iadd .i64 i_1 1)

theorem verdict_encoder_in_f_le {k_ : Nat} {x_0_n : Int} {i_1 : Int} : Le (verdict_encoder_in_f k_ x_0_n i_1) (verdict_encoder_in_m x_0_n i_1) := by
  unfold verdict_encoder_in_f verdict_encoder_in_m
  repeat' with_reducible (first | exact Le.refl _ | refine Le.meet ?_ ?_ | refine Le.bind ?_ (Le.sumKK (fun _ => ?_) fun _ => ?_) | refine Le.bind ?_ (Le.sumK fun _ => ?_) | refine Le.bind ?_ (fun _ => ?_) | refine Le.cond ?_ ?_ | refine Le.letM (fun _ => ?_) | refine Le.join (fun _ => ?_) (fun _ _ hj => ?_) | exact hj _)

def gvalB (g : T_api_Graph) : Bool := decide (0 ≤ g.N) && decide (g.N ≤ 40) && g.L.all (fun p => decide (0 ≤ p.From) && decide (p.From < g.N) && decide (0 ≤ p.To) && decide (p.To < g.N)) && decide (g.L.Pairwise plt)
theorem gvalB_ok {g : T_api_Graph} (h : gvalB g = true) : GVal g := by
  simp only [gvalB, Bool.and_eq_true, decide_eq_true_eq, List.all_eq_true] at h
  exact ⟨h.1.1.1, h.1.1.2, fun p hp => by have := h.1.2 p hp; omega, h.2⟩
def graph_Attackers_f (k_ : Nat) (g_0 : T_api_Graph) (i_1 : Int) : Option (List Int) := if gvalB g_0 = true ∧ g_0.L.length ≤ 100 ∧ 0 ≤ i_1 ∧ i_1 < g_0.N then some (attsP g_0 i_1) else none
theorem graph_Attackers_f_le {k_ : Nat} {g_0 : T_api_Graph} {i_1 : Int} : Le (graph_Attackers_f k_ g_0 i_1) (graph_Attackers_m g_0 i_1) := fun r h => by
  unfold graph_Attackers_f at h
  split at h
  · rename_i h1
    cases h
    obtain ⟨a, b, c, d⟩ := h1
    obtain ⟨n, rfl⟩ := Int.eq_ofNat_of_zero_le c
    exact gAttackers_plain (gvalB_ok a) (by omega) d
  · cases h

def verdict_encoder_in_s1_f (k_ : Nat) (x_0_n : Int) (x_0_l : (List (List Int))) (i_1 : Int) : Option (Int) :=
 some (iadd .i64 i_1 1)

theorem verdict_encoder_in_s1_f_le {k_ : Nat} {x_0_n : Int} {x_0_l : (List (List Int))} {i_1 : Int} : Le (verdict_encoder_in_s1_f k_ x_0_n x_0_l i_1) (verdict_encoder_in_s1_m x_0_n x_0_l i_1) := by
  unfold verdict_encoder_in_s1_f verdict_encoder_in_s1_m
  repeat' with_reducible (first | exact Le.refl _ | refine Le.meet ?_ ?_ | refine Le.bind ?_ (Le.sumKK (fun _ => ?_) fun _ => ?_) | refine Le.bind ?_ (Le.sumK fun _ => ?_) | refine Le.bind ?_ (fun _ => ?_) | refine Le.cond ?_ ?_ | refine Le.letM (fun _ => ?_) | refine Le.join (fun _ => ?_) (fun _ _ hj => ?_) | exact hj _)

def verdict_encoder_out_s1_f (k_ : Nat) (x_0_n : Int) (x_0_l : (List (List Int))) (i_1 : Int) : Option (Int) :=
 some (iadd .i64 (iadd .i64 x_0_n i_1) 1)

theorem verdict_encoder_out_s1_f_le {k_ : Nat} {x_0_n : Int} {x_0_l : (List (List Int))} {i_1 : Int} : Le (verdict_encoder_out_s1_f k_ x_0_n x_0_l i_1) (verdict_encoder_out_s1_m x_0_n x_0_l i_1) := by
  unfold verdict_encoder_out_s1_f verdict_encoder_out_s1_m
  repeat' with_reducible (first | exact Le.refl _ | refine Le.meet ?_ ?_ | refine Le.bind ?_ (Le.sumKK (fun _ => ?_) fun _ => ?_) | refine Le.bind ?_ (Le.sumK fun _ => ?_) | refine Le.bind ?_ (fun _ => ?_) | refine Le.cond ?_ ?_ | refine Le.letM (fun _ => ?_) | refine Le.join (fun _ => ?_) (fun _ _ hj => ?_) | exact hj _)

def verdict_encoder_add_s1_f (k_ : Nat) (x_0_n : Int) (x_0_l : (List (List Int))) (c_1 : (List Int)) : Option (Int × (List (List Int))) :=
 Option.bind (appM 24 x_0_l [c_1]) fun t1 =>
 some ((x_0_n, t1))

theorem verdict_encoder_add_s1_f_le {k_ : Nat} {x_0_n : Int} {x_0_l : (List (List Int))} {c_1 : (List Int)} : Le (verdict_encoder_add_s1_f k_ x_0_n x_0_l c_1) (verdict_encoder_add_s1_m x_0_n x_0_l c_1) := by
  unfold verdict_encoder_add_s1_f verdict_encoder_add_s1_m
  repeat' with_reducible (first | exact Le.refl _ | refine Le.meet ?_ ?_ | refine Le.bind ?_ (Le.sumKK (fun _ => ?_) fun _ => ?_) | refine Le.bind ?_ (Le.sumK fun _ => ?_) | refine Le.bind ?_ (fun _ => ?_) | refine Le.cond ?_ ?_ | refine Le.letM (fun _ => ?_) | refine Le.join (fun _ => ?_) (fun _ _ hj => ?_) | exact hj _)

def verdict_encoder_node_s1_l1f (k_ : Nat) (i_2 : Int) (attackers1 : ((List Int))) (s44 : Int × Int × (List Int) × (List Int) × (List (List Int))) : Option (Sum (Int × (List Int) × (List Int) × (List (List Int))) (Int × Int × (List Int) × (List Int) × (List (List Int)))) :=
 bif decide (s44.1 < ((attackers1.length : Int))) then
 Option.bind (idxM attackers1 s44.1) fun t45 =>
 Option.bind ((verdict_encoder_in_s1_f k_) s44.2.1 s44.2.2.2.2 i_2) fun t46 =>
 Option.bind ((verdict_encoder_out_s1_f k_) s44.2.1 s44.2.2.2.2 t45) fun t47 =>
 Option.bind ((verdict_encoder_add_s1_f k_) s44.2.1 s44.2.2.2.2 [ineg .i64 t46, t47]) fun t48 =>
 Option.bind ((verdict_encoder_out_s1_f k_) t48.1 t48.2 t45) fun t49 =>
 Option.bind (appM 8 s44.2.2.1 [ineg .i64 t49]) fun accepted50 =>
 Option.bind ((verdict_encoder_in_s1_f k_) t48.1 t48.2 t45) fun t51 =>
 Option.bind (appM 8 s44.2.2.2.1 [t51]) fun rejected52 =>
 some (Sum.inr ((iadd .i64 s44.1 1, t48.1, accepted50, rejected52, t48.2)))
 else
 some (Sum.inl ((s44.2.1, s44.2.2.1, s44.2.2.2.1, s44.2.2.2.2)))

theorem verdict_encoder_node_s1_l1f_le {k_ : Nat} {i_2 : Int} {attackers1 : ((List Int))} {s44 : Int × Int × (List Int) × (List Int) × (List (List Int))} : Le (verdict_encoder_node_s1_l1f k_ i_2 attackers1 s44) (verdict_encoder_node_s1_l1 i_2 attackers1 s44) := by
  unfold verdict_encoder_node_s1_l1f verdict_encoder_node_s1_l1
  repeat' with_reducible (first | exact Le.refl _ | refine verdict_encoder_in_s1_f_le | refine verdict_encoder_out_s1_f_le | refine verdict_encoder_add_s1_f_le | refine Le.meet ?_ ?_ | refine Le.bind ?_ (Le.sumKK (fun _ => ?_) fun _ => ?_) | refine Le.bind ?_ (Le.sumK fun _ => ?_) | refine Le.bind ?_ (fun _ => ?_) | refine Le.cond ?_ ?_ | refine Le.letM (fun _ => ?_) | refine Le.join (fun _ => ?_) (fun _ _ hj => ?_) | exact hj _)

def verdict_encoder_node_s1_l2f (k_ : Nat) (i_2 : Int) (attackers1 : ((List Int))) (s77 : Int × Int × (List (List Int))) : Option (Sum (Int × (List (List Int))) (Int × Int × (List (List Int)))) :=
 bif decide (s77.1 < ((attackers1.length : Int))) then
 Option.bind (idxM attackers1 s77.1) fun t78 =>
 Option.bind ((verdict_encoder_in_s1_f k_) s77.2.1 s77.2.2 t78) fun t79 =>
 Option.bind ((verdict_encoder_out_s1_f k_) s77.2.1 s77.2.2 i_2) fun t80 =>
 Option.bind ((verdict_encoder_add_s1_f k_) s77.2.1 s77.2.2 [ineg .i64 t79, t80]) fun t81 =>
 some (Sum.inr ((iadd .i64 s77.1 1, t81.1, t81.2)))
 else
 some (Sum.inl ((s77.2.1, s77.2.2)))

theorem verdict_encoder_node_s1_l2f_le {k_ : Nat} {i_2 : Int} {attackers1 : ((List Int))} {s77 : Int × Int × (List (List Int))} : Le (verdict_encoder_node_s1_l2f k_ i_2 attackers1 s77) (verdict_encoder_node_s1_l2 i_2 attackers1 s77) := by
  unfold verdict_encoder_node_s1_l2f verdict_encoder_node_s1_l2
  repeat' with_reducible (first | exact Le.refl _ | refine verdict_encoder_in_s1_f_le | refine verdict_encoder_out_s1_f_le | refine verdict_encoder_add_s1_f_le | refine Le.meet ?_ ?_ | refine Le.bind ?_ (Le.sumKK (fun _ => ?_) fun _ => ?_) | refine Le.bind ?_ (Le.sumK fun _ => ?_) | refine Le.bind ?_ (fun _ => ?_) | refine Le.cond ?_ ?_ | refine Le.letM (fun _ => ?_) | refine Le.join (fun _ => ?_) (fun _ _ hj => ?_) | exact hj _)

def verdict_encoder_node_s1_f (k_ : Nat) (x_0_n : Int) (x_0_l : (List (List Int))) (g_1 : T_api_Graph) (i_2 : Int) (stable_3 : Bool) : Option (Int × (List (List Int))) :=
 Option.bind ((graph_Attackers_f k_) g_1 i_2) fun attackers1 =>
 Option.bind ((verdict_encoder_in_s1_f k_) x_0_n x_0_l i_2) fun t2 =>
 Option.bind ((verdict_encoder_out_s1_f k_) x_0_n x_0_l i_2) fun t3 =>
 Option.bind ((verdict_encoder_add_s1_f k_) x_0_n x_0_l [ineg .i64 t2, ineg .i64 t3]) fun t4 =>
 Option.bind ((verdict_encoder_in_s1_f k_) t4.1 t4.2 i_2) fun t5 =>
 Option.bind (loopF k_ ((verdict_encoder_node_s1_l1f k_) i_2 attackers1) ((0, t4.1, [t5], [], t4.2))) fun q53 : Int × (List Int) × (List Int) × (List (List Int)) =>
 Option.bind ((verdict_encoder_add_s1_f k_) q53.1 q53.2.2.2 q53.2.1) fun t54 =>
 Option.bind (loopF k_ ((verdict_encoder_node_s1_l2f k_) i_2 attackers1) ((0, t54.1, t54.2))) fun q82 : Int × (List (List Int)) =>
 Option.bind ((verdict_encoder_out_s1_f k_) q82.1 q82.2 i_2) fun t83 =>
 Option.bind (appM 8 q53.2.2.1 [ineg .i64 t83]) fun t84 =>
 Option.bind ((verdict_encoder_add_s1_f k_) q82.1 q82.2 t84) fun t85 =>
 bif stable_3 then
 Option.bind ((verdict_encoder_in_s1_f k_) t85.1 t85.2 i_2) fun t86 =>
 Option.bind ((verdict_encoder_out_s1_f k_) t85.1 t85.2 i_2) fun t87 =>
 Option.bind ((verdict_encoder_add_s1_f k_) t85.1 t85.2 [t86, t87]) fun t88 =>
 some ((t88.1, t88.2))
 else
 some ((t85.1, t85.2))

theorem verdict_encoder_node_s1_f_le {k_ : Nat} {x_0_n : Int} {x_0_l : (List (List Int))} {g_1 : T_api_Graph} {i_2 : Int} {stable_3 : Bool} : Le (verdict_encoder_node_s1_f k_ x_0_n x_0_l g_1 i_2 stable_3) (verdict_encoder_node_s1_m x_0_n x_0_l g_1 i_2 stable_3) := by
  unfold verdict_encoder_node_s1_f verdict_encoder_node_s1_m
  repeat' with_reducible (first | exact Le.refl _ | refine graph_Attackers_f_le | refine verdict_encoder_in_s1_f_le | refine verdict_encoder_out_s1_f_le | refine verdict_encoder_add_s1_f_le | refine Le.loop (fun _ => verdict_encoder_node_s1_l1f_le) | refine Le.loop (fun _ => verdict_encoder_node_s1_l2f_le) | refine Le.meet ?_ ?_ | refine Le.bind ?_ (Le.sumKK (fun _ => ?_) fun _ => ?_) | refine Le.bind ?_ (Le.sumK fun _ => ?_) | refine Le.bind ?_ (fun _ => ?_) | refine Le.cond ?_ ?_ | refine Le.letM (fun _ => ?_) | refine Le.join (fun _ => ?_) (fun _ _ hj => ?_) | exact hj _)

def verdict_Encode_l1f (k_ : Nat) (g_0 : T_api_Graph) (question_1 : Int) (s22 : Int × Int × (List (List Int))) : Option (Sum (Int × (List (List Int))) (Int × Int × (List (List Int)))) :=
 bif decide (s22.1 < g_0.N) then
 Option.bind ((verdict_encoder_node_s1_f k_) s22.2.1 s22.2.2 g_0 s22.1 ((question_1 : Int) != 1)) fun t23 =>
 some (Sum.inr ((iadd .i64 s22.1 1, t23.1, t23.2)))
 else
 some (Sum.inl ((s22.2.1, s22.2.2)))

theorem verdict_Encode_l1f_le {k_ : Nat} {g_0 : T_api_Graph} {question_1 : Int} {s22 : Int × Int × (List (List Int))} : Le (verdict_Encode_l1f k_ g_0 question_1 s22) (verdict_Encode_l1 g_0 question_1 s22) := by
  unfold verdict_Encode_l1f verdict_Encode_l1
  repeat' with_reducible (first | exact Le.refl _ | refine verdict_encoder_node_s1_f_le | refine Le.meet ?_ ?_ | refine Le.bind ?_ (Le.sumKK (fun _ => ?_) fun _ => ?_) | refine Le.bind ?_ (Le.sumK fun _ => ?_) | refine Le.bind ?_ (fun _ => ?_) | refine Le.cond ?_ ?_ | refine Le.letM (fun _ => ?_) | refine Le.join (fun _ => ?_) (fun _ _ hj => ?_) | exact hj _)

def verdict_Encode_f (k_ : Nat) (g_0 : T_api_Graph) (question_1 : Int) (n_2 : Int) : Option (Int × Int × (List (List Int))) :=
 Option.bind ((verdict_asked_f k_) g_0 n_2) fun e2 =>
 bif (e2 : Int) != 0 then
 some ((0, e2, []))
 else
 Option.bind ((verdict_encoder_in_f k_) g_0.N n_2) fun last3 =>
 joinM (fun j7 : Int =>
 Option.bind (loopF k_ ((verdict_Encode_l1f k_) g_0 question_1) ((0, g_0.N, []))) fun q24 : Int × (List (List Int)) =>
 Option.bind ((verdict_encoder_add_s1_f k_) q24.1 q24.2 [j7]) fun t25 =>
 some ((imul .i64 2 g_0.N, 0, t25.2))) fun k6 =>
 joinM (fun j27 : Bool =>
 bif j27 then
 k6 last3
 else
 bif (question_1 : Int) == 3 then
 k6 (ineg .i64 last3)
 else
 some ((0, 4, []))) fun k26 =>
 bif (question_1 : Int) == 1 then
 k26 ((question_1 : Int) == 1)
 else
 k26 ((question_1 : Int) == 2)

theorem verdict_Encode_f_le {k_ : Nat} {g_0 : T_api_Graph} {question_1 : Int} {n_2 : Int} : Le (verdict_Encode_f k_ g_0 question_1 n_2) (verdict_Encode_m g_0 question_1 n_2) := by
  unfold verdict_Encode_f verdict_Encode_m
  repeat' with_reducible (first | exact Le.refl _ | refine verdict_asked_f_le | refine verdict_encoder_in_f_le | refine verdict_encoder_add_s1_f_le | refine Le.loop (fun _ => verdict_Encode_l1f_le) | refine Le.meet ?_ ?_ | refine Le.bind ?_ (Le.sumKK (fun _ => ?_) fun _ => ?_) | refine Le.bind ?_ (Le.sumK fun _ => ?_) | refine Le.bind ?_ (fun _ => ?_) | refine Le.cond ?_ ?_ | refine Le.letM (fun _ => ?_) | refine Le.join (fun _ => ?_) (fun _ _ hj => ?_) | exact hj _)

def proof_clause_l1f (k_ : Nat) (n_0 : Int) (c_1 : (List Int)) (s11 : Int) : Option (Sum (Sum (Int) (Unit)) (Int)) :=
 bif decide (s11 < ((c_1.length : Int))) then
 Option.bind (idxM c_1 s11) fun t12 =>
 bif (t12 : Int) == 0 then
 some (Sum.inl (Sum.inl 1))
 else
 bif decide (t12 < (ineg .i64 n_0)) then
 some (Sum.inl (Sum.inl 1))
 else
 bif decide (t12 > n_0) then
 some (Sum.inl (Sum.inl 1))
 else
 some (Sum.inr (iadd .i64 s11 1))
 else
 some (Sum.inl (Sum.inr (())))

theorem proof_clause_l1f_le {k_ : Nat} {n_0 : Int} {c_1 : (List Int)} {s11 : Int} : Le (proof_clause_l1f k_ n_0 c_1 s11) (proof_clause_l1 n_0 c_1 s11) := by
  unfold proof_clause_l1f proof_clause_l1
  repeat' with_reducible (first | exact Le.refl _ | refine Le.meet ?_ ?_ | refine Le.bind ?_ (Le.sumKK (fun _ => ?_) fun _ => ?_) | refine Le.bind ?_ (Le.sumK fun _ => ?_) | refine Le.bind ?_ (fun _ => ?_) | refine Le.cond ?_ ?_ | refine Le.letM (fun _ => ?_) | refine Le.join (fun _ => ?_) (fun _ _ hj => ?_) | exact hj _)

def proof_abs_f (k_ : Nat) (x_0 : Int) : Option (Int) :=
 some (imax x_0 (ineg .i64 x_0))

theorem proof_abs_f_le {k_ : Nat} {x_0 : Int} : Le (proof_abs_f k_ x_0) (proof_abs_m x_0) := by
  unfold proof_abs_f proof_abs_m
  repeat' with_reducible (first | exact Le.refl _ | refine Le.meet ?_ ?_ | refine Le.bind ?_ (Le.sumKK (fun _ => ?_) fun _ => ?_) | refine Le.bind ?_ (Le.sumK fun _ => ?_) | refine Le.bind ?_ (fun _ => ?_) | refine Le.cond ?_ ?_ | refine Le.letM (fun _ => ?_) | refine Le.join (fun _ => ?_) (fun _ _ hj => ?_) | exact hj _)

def proof_clause_l2f (k_ : Nat) (c_1 : (List Int)) (s24 : Int) : Option (Sum (Sum (Int) (Unit)) (Int)) :=
 bif decide (s24 < ((c_1.length : Int))) then
 Option.bind (idxM c_1 (isub .i64 s24 1)) fun t25 =>
 Option.bind (idxM c_1 s24) fun t26 =>
 Option.bind ((proof_abs_f k_) t25) fun t27 =>
 Option.bind ((proof_abs_f k_) t26) fun t28 =>
 bif decide (t27 ≥ t28) then
 some (Sum.inl (Sum.inl 8))
 else
 some (Sum.inr (iadd .i64 s24 1))
 else
 some (Sum.inl (Sum.inr (())))

theorem proof_clause_l2f_le {k_ : Nat} {c_1 : (List Int)} {s24 : Int} : Le (proof_clause_l2f k_ c_1 s24) (proof_clause_l2 c_1 s24) := by
  unfold proof_clause_l2f proof_clause_l2
  repeat' with_reducible (first | exact Le.refl _ | refine proof_abs_f_le | refine Le.meet ?_ ?_ | refine Le.bind ?_ (Le.sumKK (fun _ => ?_) fun _ => ?_) | refine Le.bind ?_ (Le.sumK fun _ => ?_) | refine Le.bind ?_ (fun _ => ?_) | refine Le.cond ?_ ?_ | refine Le.letM (fun _ => ?_) | refine Le.join (fun _ => ?_) (fun _ _ hj => ?_) | exact hj _)

def proof_clause_f (k_ : Nat) (n_0 : Int) (c_1 : (List Int)) : Option (Int) :=
 bif decide (((c_1.length : Int)) > 50) then
 some 2
 else
 Option.bind (loopF k_ ((proof_clause_l1f k_) n_0 c_1) 0) (sumK (fun a : Int => some a) fun q13 : Unit =>
 Option.bind (loopF k_ ((proof_clause_l2f k_) c_1) 1) (sumK (fun a : Int => some a) fun q29 : Unit =>
 some 0))

theorem proof_clause_f_le {k_ : Nat} {n_0 : Int} {c_1 : (List Int)} : Le (proof_clause_f k_ n_0 c_1) (proof_clause_m n_0 c_1) := by
  unfold proof_clause_f proof_clause_m
  repeat' with_reducible (first | exact Le.refl _ | refine Le.loop (fun _ => proof_clause_l1f_le) | refine Le.loop (fun _ => proof_clause_l2f_le) | refine Le.meet ?_ ?_ | refine Le.bind ?_ (Le.sumKK (fun _ => ?_) fun _ => ?_) | refine Le.bind ?_ (Le.sumK fun _ => ?_) | refine Le.bind ?_ (fun _ => ?_) | refine Le.cond ?_ ?_ | refine Le.letM (fun _ => ?_) | refine Le.join (fun _ => ?_) (fun _ _ hj => ?_) | exact hj _)

def proof_Validate_s1_l1f (k_ : Nat) (n_0 : Int) (l_1 : (List (List Int))) (s7 : Int) : Option (Sum (Sum (Int) (Unit)) (Int)) :=
 bif decide (s7 < ((l_1.length : Int))) then
 Option.bind (idxM l_1 s7) fun t8 =>
 Option.bind ((proof_clause_f k_) n_0 t8) fun e9 =>
 bif (e9 : Int) != 0 then
 some (Sum.inl (Sum.inl e9))
 else
 some (Sum.inr (iadd .i64 s7 1))
 else
 some (Sum.inl (Sum.inr (())))

theorem proof_Validate_s1_l1f_le {k_ : Nat} {n_0 : Int} {l_1 : (List (List Int))} {s7 : Int} : Le (proof_Validate_s1_l1f k_ n_0 l_1 s7) (proof_Validate_s1_l1 n_0 l_1 s7) := by
  unfold proof_Validate_s1_l1f proof_Validate_s1_l1
  repeat' with_reducible (first | exact Le.refl _ | refine proof_clause_f_le | refine Le.meet ?_ ?_ | refine Le.bind ?_ (Le.sumKK (fun _ => ?_) fun _ => ?_) | refine Le.bind ?_ (Le.sumK fun _ => ?_) | refine Le.bind ?_ (fun _ => ?_) | refine Le.cond ?_ ?_ | refine Le.letM (fun _ => ?_) | refine Le.join (fun _ => ?_) (fun _ _ hj => ?_) | exact hj _)

def proof_Validate_s1_f (k_ : Nat) (n_0 : Int) (l_1 : (List (List Int))) : Option (Int) :=
 bif decide (n_0 < 0) then
 some 1
 else
 bif decide (n_0 > 200) then
 some 1
 else
 bif decide (((l_1.length : Int)) > 4000) then
 some 2
 else
 Option.bind (loopF k_ ((proof_Validate_s1_l1f k_) n_0 l_1) 0) (sumK (fun a : Int => some a) fun q10 : Unit =>
 some 0)

theorem proof_Validate_s1_f_le {k_ : Nat} {n_0 : Int} {l_1 : (List (List Int))} : Le (proof_Validate_s1_f k_ n_0 l_1) (proof_Validate_s1_m n_0 l_1) := by
  unfold proof_Validate_s1_f proof_Validate_s1_m
  repeat' with_reducible (first | exact Le.refl _ | refine Le.loop (fun _ => proof_Validate_s1_l1f_le) | refine Le.meet ?_ ?_ | refine Le.bind ?_ (Le.sumKK (fun _ => ?_) fun _ => ?_) | refine Le.bind ?_ (Le.sumK fun _ => ?_) | refine Le.bind ?_ (fun _ => ?_) | refine Le.cond ?_ ?_ | refine Le.letM (fun _ => ?_) | refine Le.join (fun _ => ?_) (fun _ _ hj => ?_) | exact hj _)

def proof_Solve_s1_l1f (k_ : Nat) (l_1 : (List (List Int))) (s13 : Int) : Option (Sum (Sum (T_api_Answer × Int) (Unit)) (Int)) :=
 bif decide (s13 < ((l_1.length : Int))) then
 Option.bind (idxM l_1 s13) fun t14 =>
 bif ((t14.length : Int) : Int) == 0 then
 some (Sum.inl (Sum.inl (((T_api_Answer.mk false [] []), 0))))
 else
 some (Sum.inr (iadd .i64 s13 1))
 else
 some (Sum.inl (Sum.inr (())))

theorem proof_Solve_s1_l1f_le {k_ : Nat} {l_1 : (List (List Int))} {s13 : Int} : Le (proof_Solve_s1_l1f k_ l_1 s13) (proof_Solve_s1_l1 l_1 s13) := by
  unfold proof_Solve_s1_l1f proof_Solve_s1_l1
  repeat' with_reducible (first | exact Le.refl _ | refine Le.meet ?_ ?_ | refine Le.bind ?_ (Le.sumKK (fun _ => ?_) fun _ => ?_) | refine Le.bind ?_ (Le.sumK fun _ => ?_) | refine Le.bind ?_ (fun _ => ?_) | refine Le.cond ?_ ?_ | refine Le.letM (fun _ => ?_) | refine Le.join (fun _ => ?_) (fun _ _ hj => ?_) | exact hj _)

def proof_search_value_s1_f (k_ : Nat) (s_0_values : (List Int)) (s_0_clauses : (List (List Int))) (s_0_known : (List (ByteArray × Int))) (s_0_nodes : Int) (s_0_stop : Bool) (x_1 : Int) : Option (Int) :=
 bif decide (x_1 > 0) then
 Option.bind (idxM s_0_values (isub .i64 x_1 1)) fun t2 =>
 some t2
 else
 Option.bind (idxM s_0_values (isub .i64 (ineg .i64 x_1) 1)) fun t3 =>
 some (ineg .i64 t3)

theorem proof_search_value_s1_f_le {k_ : Nat} {s_0_values : (List Int)} {s_0_clauses : (List (List Int))} {s_0_known : (List (ByteArray × Int))} {s_0_nodes : Int} {s_0_stop : Bool} {x_1 : Int} : Le (proof_search_value_s1_f k_ s_0_values s_0_clauses s_0_known s_0_nodes s_0_stop x_1) (proof_search_value_s1_m s_0_values s_0_clauses s_0_known s_0_nodes s_0_stop x_1) := by
  unfold proof_search_value_s1_f proof_search_value_s1_m
  repeat' with_reducible (first | exact Le.refl _ | refine Le.meet ?_ ?_ | refine Le.bind ?_ (Le.sumKK (fun _ => ?_) fun _ => ?_) | refine Le.bind ?_ (Le.sumK fun _ => ?_) | refine Le.bind ?_ (fun _ => ?_) | refine Le.cond ?_ ?_ | refine Le.letM (fun _ => ?_) | refine Le.join (fun _ => ?_) (fun _ _ hj => ?_) | exact hj _)

def proof_search_look_s1_l1f (k_ : Nat) (s_0_values : (List Int)) (s_0_clauses : (List (List Int))) (s_0_known : (List (ByteArray × Int))) (s_0_nodes : Int) (s_0_stop : Bool) (t58 : (List Int)) (s82 : Int × Int) : Option (Sum (Sum (Sum (Int × Int) (Unit)) (Int)) (Int × Int)) :=
 bif decide (s82.2 < ((t58.length : Int))) then
 Option.bind (idxM t58 s82.2) fun t83 =>
 Option.bind ((proof_search_value_s1_f k_) s_0_values s_0_clauses s_0_known s_0_nodes s_0_stop t83) fun v84 =>
 joinM (fun j86 : Bool =>
 bif j86 then
 some (Sum.inl (Sum.inl (Sum.inr (()))))
 else
 bif (v84 : Int) == 0 then
 some (Sum.inr ((t83, iadd .i64 s82.2 1)))
 else
 some (Sum.inr ((s82.1, iadd .i64 s82.2 1)))) fun k85 =>
 bif decide (v84 > 0) then
 k85 (decide (v84 > 0))
 else
 bif (v84 : Int) == 0 then
 k85 ((s82.1 : Int) != 0)
 else
 k85 false
 else
 some (Sum.inl (Sum.inr s82.1))

theorem proof_search_look_s1_l1f_le {k_ : Nat} {s_0_values : (List Int)} {s_0_clauses : (List (List Int))} {s_0_known : (List (ByteArray × Int))} {s_0_nodes : Int} {s_0_stop : Bool} {t58 : (List Int)} {s82 : Int × Int} : Le (proof_search_look_s1_l1f k_ s_0_values s_0_clauses s_0_known s_0_nodes s_0_stop t58 s82) (proof_search_look_s1_l1 s_0_values s_0_clauses s_0_known s_0_nodes s_0_stop t58 s82) := by
  unfold proof_search_look_s1_l1f proof_search_look_s1_l1
  repeat' with_reducible (first | exact Le.refl _ | refine proof_search_value_s1_f_le | refine Le.meet ?_ ?_ | refine Le.bind ?_ (Le.sumKK (fun _ => ?_) fun _ => ?_) | refine Le.bind ?_ (Le.sumK fun _ => ?_) | refine Le.bind ?_ (fun _ => ?_) | refine Le.cond ?_ ?_ | refine Le.letM (fun _ => ?_) | refine Le.join (fun _ => ?_) (fun _ _ hj => ?_) | exact hj _)

def proof_search_look_s1_l2f (k_ : Nat) (s_0_values : (List Int)) (s_0_clauses : (List (List Int))) (s_0_known : (List (ByteArray × Int))) (s_0_nodes : Int) (s_0_stop : Bool) (s57 : Int × Int × Int) : Option (Sum (Sum (Int × Int) (Int × Int)) (Int × Int × Int)) :=
 bif decide (s57.2.2 < ((s_0_clauses.length : Int))) then
 Option.bind (idxM s_0_clauses s57.2.2) fun t58 =>
 Option.bind (loopF k_ ((proof_search_look_s1_l1f k_) s_0_values s_0_clauses s_0_known s_0_nodes s_0_stop t58) ((0, 0))) (sumK (sumK (fun a : Int × Int => some (Sum.inl (Sum.inl a))) fun o87 : Unit =>
 some (Sum.inr ((s57.1, s57.2.1, iadd .i64 s57.2.2 1)))) fun q88 : Int =>
 bif (q88 : Int) == 0 then
 some (Sum.inl (Sum.inl ((s57.2.2, 0))))
 else
 bif decide (s57.1 < 0) then
 some (Sum.inr ((s57.2.2, q88, iadd .i64 s57.2.2 1)))
 else
 some (Sum.inr ((s57.1, s57.2.1, iadd .i64 s57.2.2 1))))
 else
 some (Sum.inl (Sum.inr ((s57.1, s57.2.1))))

theorem proof_search_look_s1_l2f_le {k_ : Nat} {s_0_values : (List Int)} {s_0_clauses : (List (List Int))} {s_0_known : (List (ByteArray × Int))} {s_0_nodes : Int} {s_0_stop : Bool} {s57 : Int × Int × Int} : Le (proof_search_look_s1_l2f k_ s_0_values s_0_clauses s_0_known s_0_nodes s_0_stop s57) (proof_search_look_s1_l2 s_0_values s_0_clauses s_0_known s_0_nodes s_0_stop s57) := by
  unfold proof_search_look_s1_l2f proof_search_look_s1_l2
  repeat' with_reducible (first | exact Le.refl _ | refine Le.loop (fun _ => proof_search_look_s1_l1f_le) | refine Le.meet ?_ ?_ | refine Le.bind ?_ (Le.sumKK (fun _ => ?_) fun _ => ?_) | refine Le.bind ?_ (Le.sumK fun _ => ?_) | refine Le.bind ?_ (fun _ => ?_) | refine Le.cond ?_ ?_ | refine Le.letM (fun _ => ?_) | refine Le.join (fun _ => ?_) (fun _ _ hj => ?_) | exact hj _)

def proof_search_look_s1_f (k_ : Nat) (s_0_values : (List Int)) (s_0_clauses : (List (List Int))) (s_0_known : (List (ByteArray × Int))) (s_0_nodes : Int) (s_0_stop : Bool) : Option (Int × Int) :=
 Option.bind (loopF k_ ((proof_search_look_s1_l2f k_) s_0_values s_0_clauses s_0_known s_0_nodes s_0_stop) (((-1), 0, 0))) (sumK (fun a : Int × Int => some a) fun q89 : Int × Int =>
 some ((q89.1, q89.2)))

theorem proof_search_look_s1_f_le {k_ : Nat} {s_0_values : (List Int)} {s_0_clauses : (List (List Int))} {s_0_known : (List (ByteArray × Int))} {s_0_nodes : Int} {s_0_stop : Bool} : Le (proof_search_look_s1_f k_ s_0_values s_0_clauses s_0_known s_0_nodes s_0_stop) (proof_search_look_s1_m s_0_values s_0_clauses s_0_known s_0_nodes s_0_stop) := by
  unfold proof_search_look_s1_f proof_search_look_s1_m
  repeat' with_reducible (first | exact Le.refl _ | refine Le.loop (fun _ => proof_search_look_s1_l2f_le) | refine Le.meet ?_ ?_ | refine Le.bind ?_ (Le.sumKK (fun _ => ?_) fun _ => ?_) | refine Le.bind ?_ (Le.sumK fun _ => ?_) | refine Le.bind ?_ (fun _ => ?_) | refine Le.cond ?_ ?_ | refine Le.letM (fun _ => ?_) | refine Le.join (fun _ => ?_) (fun _ _ hj => ?_) | exact hj _)

def proof_search_set_s1_f (k_ : Nat) (s_0_values : (List Int)) (s_0_clauses : (List (List Int))) (s_0_known : (List (ByteArray × Int))) (s_0_nodes : Int) (s_0_stop : Bool) (x_1 : Int) (value_2 : Int) : Option ((List Int)) :=
 bif decide (x_1 < 0) then
 Option.bind (idxM s_0_values (isub .i64 (ineg .i64 x_1) 1)) fun t1 =>
 some (s_0_values.set (Int.toNat (isub .i64 (ineg .i64 x_1) 1)) (ineg .i64 value_2))
 else
 Option.bind (idxM s_0_values (isub .i64 x_1 1)) fun t2 =>
 some (s_0_values.set (Int.toNat (isub .i64 x_1 1)) value_2)

theorem proof_search_set_s1_f_le {k_ : Nat} {s_0_values : (List Int)} {s_0_clauses : (List (List Int))} {s_0_known : (List (ByteArray × Int))} {s_0_nodes : Int} {s_0_stop : Bool} {x_1 : Int} {value_2 : Int} : Le (proof_search_set_s1_f k_ s_0_values s_0_clauses s_0_known s_0_nodes s_0_stop x_1 value_2) (proof_search_set_s1_m s_0_values s_0_clauses s_0_known s_0_nodes s_0_stop x_1 value_2) := by
  unfold proof_search_set_s1_f proof_search_set_s1_m
  repeat' with_reducible (first | exact Le.refl _ | refine Le.meet ?_ ?_ | refine Le.bind ?_ (Le.sumKK (fun _ => ?_) fun _ => ?_) | refine Le.bind ?_ (Le.sumK fun _ => ?_) | refine Le.bind ?_ (fun _ => ?_) | refine Le.cond ?_ ?_ | refine Le.letM (fun _ => ?_) | refine Le.join (fun _ => ?_) (fun _ _ hj => ?_) | exact hj _)

def proof_search_set_f (k_ : Nat) (s_0_values : (List Int)) (s_0_clauses : (List (List Int))) (s_0_known : (List (ByteArray × Int))) (s_0_steps : (List T_api_Step)) (s_0_nodes : Int) (s_0_stop : Bool) (x_1 : Int) (value_2 : Int) : Option ((List Int)) :=
 bif decide (x_1 < 0) then
 Option.bind (idxM s_0_values (isub .i64 (ineg .i64 x_1) 1)) fun t1 =>
 some (s_0_values.set (Int.toNat (isub .i64 (ineg .i64 x_1) 1)) (ineg .i64 value_2))
 else
 Option.bind (idxM s_0_values (isub .i64 x_1 1)) fun t2 =>
 some (s_0_values.set (Int.toNat (isub .i64 x_1 1)) value_2)

theorem proof_search_set_f_le {k_ : Nat} {s_0_values : (List Int)} {s_0_clauses : (List (List Int))} {s_0_known : (List (ByteArray × Int))} {s_0_steps : (List T_api_Step)} {s_0_nodes : Int} {s_0_stop : Bool} {x_1 : Int} {value_2 : Int} : Le (proof_search_set_f k_ s_0_values s_0_clauses s_0_known s_0_steps s_0_nodes s_0_stop x_1 value_2) (proof_search_set_m s_0_values s_0_clauses s_0_known s_0_steps s_0_nodes s_0_stop x_1 value_2) := by
  unfold proof_search_set_f proof_search_set_m
  repeat' with_reducible (first | exact Le.refl _ | refine Le.meet ?_ ?_ | refine Le.bind ?_ (Le.sumKK (fun _ => ?_) fun _ => ?_) | refine Le.bind ?_ (Le.sumK fun _ => ?_) | refine Le.bind ?_ (fun _ => ?_) | refine Le.cond ?_ ?_ | refine Le.letM (fun _ => ?_) | refine Le.join (fun _ => ?_) (fun _ _ hj => ?_) | exact hj _)

def proof_search_under_s1_f (k_ : Nat) (proof_search_find_s1_r : (List Int) → (List (List Int)) → (List (ByteArray × Int)) → Int → Bool → Option (Int × (List Int) × (List (ByteArray × Int)) × Int × Bool × (List (List Int)) × (List T_api_Step))) (s_0_values : (List Int)) (s_0_clauses : (List (List Int))) (s_0_known : (List (ByteArray × Int))) (s_0_nodes : Int) (s_0_stop : Bool) (x_1 : Int) : Option (Int × (List Int) × (List (ByteArray × Int)) × Int × Bool × (List (List Int)) × (List T_api_Step)) :=
 Option.bind ((proof_search_set_s1_f k_) s_0_values s_0_clauses s_0_known s_0_nodes s_0_stop x_1 1) fun t1 =>
 Option.bind (proof_search_find_s1_r t1 s_0_clauses s_0_known s_0_nodes s_0_stop) fun n2 =>
 bif decide (n2.1 ≥ 0) then
 Option.bind ((proof_search_set_f k_) n2.2.1 n2.2.2.2.2.2.1 n2.2.2.1 n2.2.2.2.2.2.2 n2.2.2.2.1 n2.2.2.2.2.1 x_1 0) fun t3 =>
 some ((n2.1, t3, n2.2.2.1, n2.2.2.2.1, n2.2.2.2.2.1, n2.2.2.2.2.2.1, n2.2.2.2.2.2.2))
 else
 bif n2.2.2.2.2.1 then
 Option.bind ((proof_search_set_f k_) n2.2.1 n2.2.2.2.2.2.1 n2.2.2.1 n2.2.2.2.2.2.2 n2.2.2.2.1 n2.2.2.2.2.1 x_1 0) fun t4 =>
 some ((n2.1, t4, n2.2.2.1, n2.2.2.2.1, n2.2.2.2.2.1, n2.2.2.2.2.2.1, n2.2.2.2.2.2.2))
 else
 some ((n2.1, n2.2.1, n2.2.2.1, n2.2.2.2.1, n2.2.2.2.2.1, n2.2.2.2.2.2.1, n2.2.2.2.2.2.2))

theorem proof_search_under_s1_f_le {k_ : Nat} {proof_search_find_s1_r proof_search_find_s1_r' : (List Int) → (List (List Int)) → (List (ByteArray × Int)) → Int → Bool → Option (Int × (List Int) × (List (ByteArray × Int)) × Int × Bool × (List (List Int)) × (List T_api_Step))} (h_proof_search_find_s1_r : ∀ a0 a1 a2 a3 a4, Le (proof_search_find_s1_r a0 a1 a2 a3 a4) (proof_search_find_s1_r' a0 a1 a2 a3 a4)) {s_0_values : (List Int)} {s_0_clauses : (List (List Int))} {s_0_known : (List (ByteArray × Int))} {s_0_nodes : Int} {s_0_stop : Bool} {x_1 : Int} : Le (proof_search_under_s1_f k_ proof_search_find_s1_r s_0_values s_0_clauses s_0_known s_0_nodes s_0_stop x_1) (proof_search_under_s1_m proof_search_find_s1_r' s_0_values s_0_clauses s_0_known s_0_nodes s_0_stop x_1) := by
  unfold proof_search_under_s1_f proof_search_under_s1_m
  repeat' with_reducible (first | exact Le.refl _ | exact h_proof_search_find_s1_r _ _ _ _ _ | refine proof_search_set_s1_f_le | refine proof_search_set_f_le | refine Le.meet ?_ ?_ | refine Le.bind ?_ (Le.sumKK (fun _ => ?_) fun _ => ?_) | refine Le.bind ?_ (Le.sumK fun _ => ?_) | refine Le.bind ?_ (fun _ => ?_) | refine Le.cond ?_ ?_ | refine Le.letM (fun _ => ?_) | refine Le.join (fun _ => ?_) (fun _ _ hj => ?_) | exact hj _)

theorem proof_search_under_s1_mono {proof_search_find_s1_r proof_search_find_s1_r' : (List Int) → (List (List Int)) → (List (ByteArray × Int)) → Int → Bool → Option (Int × (List Int) × (List (ByteArray × Int)) × Int × Bool × (List (List Int)) × (List T_api_Step))} (h_proof_search_find_s1_r : ∀ a0 a1 a2 a3 a4, Le (proof_search_find_s1_r a0 a1 a2 a3 a4) (proof_search_find_s1_r' a0 a1 a2 a3 a4)) {s_0_values : (List Int)} {s_0_clauses : (List (List Int))} {s_0_known : (List (ByteArray × Int))} {s_0_nodes : Int} {s_0_stop : Bool} {x_1 : Int} : Le (proof_search_under_s1_m proof_search_find_s1_r s_0_values s_0_clauses s_0_known s_0_nodes s_0_stop x_1) (proof_search_under_s1_m proof_search_find_s1_r' s_0_values s_0_clauses s_0_known s_0_nodes s_0_stop x_1) := by
  unfold proof_search_under_s1_m
  repeat' with_reducible (first | exact Le.refl _ | exact h_proof_search_find_s1_r _ _ _ _ _ | refine Le.meetO ?_ ?_ | refine Le.bind ?_ (Le.sumKK (fun _ => ?_) fun _ => ?_) | refine Le.bind ?_ (Le.sumK fun _ => ?_) | refine Le.bind ?_ (fun _ => ?_) | refine Le.cond ?_ ?_ | refine Le.letM (fun _ => ?_) | refine Le.join (fun _ => ?_) (fun _ _ hj => ?_) | exact hj _)

def slices_Index_int_int_l1f (k_ : Nat) (s_0 : (List Int)) (v_1 : Int) (s5 : Int) : Option (Sum (Sum (Int) (Unit)) (Int)) :=
 bif decide (s5 < ((s_0.length : Int))) then
 Option.bind (idxM s_0 s5) fun t6 =>
 bif (v_1 : Int) == t6 then
 some (Sum.inl (Sum.inl s5))
 else
 some (Sum.inr (iadd .i64 s5 1))
 else
 some (Sum.inl (Sum.inr (())))

theorem slices_Index_int_int_l1f_le {k_ : Nat} {s_0 : (List Int)} {v_1 : Int} {s5 : Int} : Le (slices_Index_int_int_l1f k_ s_0 v_1 s5) (slices_Index_int_int_l1 s_0 v_1 s5) := by
  unfold slices_Index_int_int_l1f slices_Index_int_int_l1
  repeat' with_reducible (first | exact Le.refl _ | refine Le.meet ?_ ?_ | refine Le.bind ?_ (Le.sumKK (fun _ => ?_) fun _ => ?_) | refine Le.bind ?_ (Le.sumK fun _ => ?_) | refine Le.bind ?_ (fun _ => ?_) | refine Le.cond ?_ ?_ | refine Le.letM (fun _ => ?_) | refine Le.join (fun _ => ?_) (fun _ _ hj => ?_) | exact hj _)

def slices_Index_int_int_f (k_ : Nat) (s_0 : (List Int)) (v_1 : Int) : Option (Int) :=
 Option.bind (loopF k_ ((slices_Index_int_int_l1f k_) s_0 v_1) 0) (sumK (fun a : Int => some a) fun q7 : Unit =>
 some ((-1)))

theorem slices_Index_int_int_f_le {k_ : Nat} {s_0 : (List Int)} {v_1 : Int} : Le (slices_Index_int_int_f k_ s_0 v_1) (slices_Index_int_int_m s_0 v_1) := by
  unfold slices_Index_int_int_f slices_Index_int_int_m
  repeat' with_reducible (first | exact Le.refl _ | refine Le.loop (fun _ => slices_Index_int_int_l1f_le) | refine Le.meet ?_ ?_ | refine Le.bind ?_ (Le.sumKK (fun _ => ?_) fun _ => ?_) | refine Le.bind ?_ (Le.sumK fun _ => ?_) | refine Le.bind ?_ (fun _ => ?_) | refine Le.cond ?_ ?_ | refine Le.letM (fun _ => ?_) | refine Le.join (fun _ => ?_) (fun _ _ hj => ?_) | exact hj _)

def slices_Contains_int_int_f (k_ : Nat) (s_0 : (List Int)) (v_1 : Int) : Option (Bool) :=
 Option.bind ((slices_Index_int_int_f k_) s_0 v_1) fun t1 =>
 some (decide (t1 ≥ 0))

theorem slices_Contains_int_int_f_le {k_ : Nat} {s_0 : (List Int)} {v_1 : Int} : Le (slices_Contains_int_int_f k_ s_0 v_1) (slices_Contains_int_int_m s_0 v_1) := by
  unfold slices_Contains_int_int_f slices_Contains_int_int_m
  repeat' with_reducible (first | exact Le.refl _ | refine slices_Index_int_int_f_le | refine Le.meet ?_ ?_ | refine Le.bind ?_ (Le.sumKK (fun _ => ?_) fun _ => ?_) | refine Le.bind ?_ (Le.sumK fun _ => ?_) | refine Le.bind ?_ (fun _ => ?_) | refine Le.cond ?_ ?_ | refine Le.letM (fun _ => ?_) | refine Le.join (fun _ => ?_) (fun _ _ hj => ?_) | exact hj _)

def proof_search_value_f (k_ : Nat) (s_0_values : (List Int)) (s_0_clauses : (List (List Int))) (s_0_known : (List (ByteArray × Int))) (s_0_steps : (List T_api_Step)) (s_0_nodes : Int) (s_0_stop : Bool) (x_1 : Int) : Option (Int) :=
 bif decide (x_1 > 0) then
 Option.bind (idxM s_0_values (isub .i64 x_1 1)) fun t2 =>
 some t2
 else
 Option.bind (idxM s_0_values (isub .i64 (ineg .i64 x_1) 1)) fun t3 =>
 some (ineg .i64 t3)

theorem proof_search_value_f_le {k_ : Nat} {s_0_values : (List Int)} {s_0_clauses : (List (List Int))} {s_0_known : (List (ByteArray × Int))} {s_0_steps : (List T_api_Step)} {s_0_nodes : Int} {s_0_stop : Bool} {x_1 : Int} : Le (proof_search_value_f k_ s_0_values s_0_clauses s_0_known s_0_steps s_0_nodes s_0_stop x_1) (proof_search_value_m s_0_values s_0_clauses s_0_known s_0_steps s_0_nodes s_0_stop x_1) := by
  unfold proof_search_value_f proof_search_value_m
  repeat' with_reducible (first | exact Le.refl _ | refine Le.meet ?_ ?_ | refine Le.bind ?_ (Le.sumKK (fun _ => ?_) fun _ => ?_) | refine Le.bind ?_ (Le.sumK fun _ => ?_) | refine Le.bind ?_ (fun _ => ?_) | refine Le.cond ?_ ?_ | refine Le.letM (fun _ => ?_) | refine Le.join (fun _ => ?_) (fun _ _ hj => ?_) | exact hj _)

def proof_search_look_l1f (k_ : Nat) (s_0_values : (List Int)) (s_0_clauses : (List (List Int))) (s_0_known : (List (ByteArray × Int))) (s_0_steps : (List T_api_Step)) (s_0_nodes : Int) (s_0_stop : Bool) (t58 : (List Int)) (s82 : Int × Int) : Option (Sum (Sum (Sum (Int × Int) (Unit)) (Int)) (Int × Int)) :=
 bif decide (s82.2 < ((t58.length : Int))) then
 Option.bind (idxM t58 s82.2) fun t83 =>
 Option.bind ((proof_search_value_f k_) s_0_values s_0_clauses s_0_known s_0_steps s_0_nodes s_0_stop t83) fun v84 =>
 joinM (fun j86 : Bool =>
 bif j86 then
 some (Sum.inl (Sum.inl (Sum.inr (()))))
 else
 bif (v84 : Int) == 0 then
 some (Sum.inr ((t83, iadd .i64 s82.2 1)))
 else
 some (Sum.inr ((s82.1, iadd .i64 s82.2 1)))) fun k85 =>
 bif decide (v84 > 0) then
 k85 (decide (v84 > 0))
 else
 bif (v84 : Int) == 0 then
 k85 ((s82.1 : Int) != 0)
 else
 k85 false
 else
 some (Sum.inl (Sum.inr s82.1))

theorem proof_search_look_l1f_le {k_ : Nat} {s_0_values : (List Int)} {s_0_clauses : (List (List Int))} {s_0_known : (List (ByteArray × Int))} {s_0_steps : (List T_api_Step)} {s_0_nodes : Int} {s_0_stop : Bool} {t58 : (List Int)} {s82 : Int × Int} : Le (proof_search_look_l1f k_ s_0_values s_0_clauses s_0_known s_0_steps s_0_nodes s_0_stop t58 s82) (proof_search_look_l1 s_0_values s_0_clauses s_0_known s_0_steps s_0_nodes s_0_stop t58 s82) := by
  unfold proof_search_look_l1f proof_search_look_l1
  repeat' with_reducible (first | exact Le.refl _ | refine proof_search_value_f_le | refine Le.meet ?_ ?_ | refine Le.bind ?_ (Le.sumKK (fun _ => ?_) fun _ => ?_) | refine Le.bind ?_ (Le.sumK fun _ => ?_) | refine Le.bind ?_ (fun _ => ?_) | refine Le.cond ?_ ?_ | refine Le.letM (fun _ => ?_) | refine Le.join (fun _ => ?_) (fun _ _ hj => ?_) | exact hj _)

def proof_search_look_l2f (k_ : Nat) (s_0_values : (List Int)) (s_0_clauses : (List (List Int))) (s_0_known : (List (ByteArray × Int))) (s_0_steps : (List T_api_Step)) (s_0_nodes : Int) (s_0_stop : Bool) (s57 : Int × Int × Int) : Option (Sum (Sum (Int × Int) (Int × Int)) (Int × Int × Int)) :=
 bif decide (s57.2.2 < ((s_0_clauses.length : Int))) then
 Option.bind (idxM s_0_clauses s57.2.2) fun t58 =>
 Option.bind (loopF k_ ((proof_search_look_l1f k_) s_0_values s_0_clauses s_0_known s_0_steps s_0_nodes s_0_stop t58) ((0, 0))) (sumK (sumK (fun a : Int × Int => some (Sum.inl (Sum.inl a))) fun o87 : Unit =>
 some (Sum.inr ((s57.1, s57.2.1, iadd .i64 s57.2.2 1)))) fun q88 : Int =>
 bif (q88 : Int) == 0 then
 some (Sum.inl (Sum.inl ((s57.2.2, 0))))
 else
 bif decide (s57.1 < 0) then
 some (Sum.inr ((s57.2.2, q88, iadd .i64 s57.2.2 1)))
 else
 some (Sum.inr ((s57.1, s57.2.1, iadd .i64 s57.2.2 1))))
 else
 some (Sum.inl (Sum.inr ((s57.1, s57.2.1))))

theorem proof_search_look_l2f_le {k_ : Nat} {s_0_values : (List Int)} {s_0_clauses : (List (List Int))} {s_0_known : (List (ByteArray × Int))} {s_0_steps : (List T_api_Step)} {s_0_nodes : Int} {s_0_stop : Bool} {s57 : Int × Int × Int} : Le (proof_search_look_l2f k_ s_0_values s_0_clauses s_0_known s_0_steps s_0_nodes s_0_stop s57) (proof_search_look_l2 s_0_values s_0_clauses s_0_known s_0_steps s_0_nodes s_0_stop s57) := by
  unfold proof_search_look_l2f proof_search_look_l2
  repeat' with_reducible (first | exact Le.refl _ | refine Le.loop (fun _ => proof_search_look_l1f_le) | refine Le.meet ?_ ?_ | refine Le.bind ?_ (Le.sumKK (fun _ => ?_) fun _ => ?_) | refine Le.bind ?_ (Le.sumK fun _ => ?_) | refine Le.bind ?_ (fun _ => ?_) | refine Le.cond ?_ ?_ | refine Le.letM (fun _ => ?_) | refine Le.join (fun _ => ?_) (fun _ _ hj => ?_) | exact hj _)

def proof_search_look_f (k_ : Nat) (s_0_values : (List Int)) (s_0_clauses : (List (List Int))) (s_0_known : (List (ByteArray × Int))) (s_0_steps : (List T_api_Step)) (s_0_nodes : Int) (s_0_stop : Bool) : Option (Int × Int) :=
 Option.bind (loopF k_ ((proof_search_look_l2f k_) s_0_values s_0_clauses s_0_known s_0_steps s_0_nodes s_0_stop) (((-1), 0, 0))) (sumK (fun a : Int × Int => some a) fun q89 : Int × Int =>
 some ((q89.1, q89.2)))

theorem proof_search_look_f_le {k_ : Nat} {s_0_values : (List Int)} {s_0_clauses : (List (List Int))} {s_0_known : (List (ByteArray × Int))} {s_0_steps : (List T_api_Step)} {s_0_nodes : Int} {s_0_stop : Bool} : Le (proof_search_look_f k_ s_0_values s_0_clauses s_0_known s_0_steps s_0_nodes s_0_stop) (proof_search_look_m s_0_values s_0_clauses s_0_known s_0_steps s_0_nodes s_0_stop) := by
  unfold proof_search_look_f proof_search_look_m
  repeat' with_reducible (first | exact Le.refl _ | refine Le.loop (fun _ => proof_search_look_l2f_le) | refine Le.meet ?_ ?_ | refine Le.bind ?_ (Le.sumKK (fun _ => ?_) fun _ => ?_) | refine Le.bind ?_ (Le.sumK fun _ => ?_) | refine Le.bind ?_ (fun _ => ?_) | refine Le.cond ?_ ?_ | refine Le.letM (fun _ => ?_) | refine Le.join (fun _ => ?_) (fun _ _ hj => ?_) | exact hj _)

def proof_search_under_f (k_ : Nat) (proof_search_find_r : (List Int) → (List (List Int)) → (List (ByteArray × Int)) → (List T_api_Step) → Int → Bool → Option (Int × (List Int) × (List (ByteArray × Int)) × Int × Bool × (List (List Int)) × (List T_api_Step))) (s_0_values : (List Int)) (s_0_clauses : (List (List Int))) (s_0_known : (List (ByteArray × Int))) (s_0_steps : (List T_api_Step)) (s_0_nodes : Int) (s_0_stop : Bool) (x_1 : Int) : Option (Int × (List Int) × (List (ByteArray × Int)) × Int × Bool × (List (List Int)) × (List T_api_Step)) :=
 Option.bind ((proof_search_set_f k_) s_0_values s_0_clauses s_0_known s_0_steps s_0_nodes s_0_stop x_1 1) fun t1 =>
 Option.bind (proof_search_find_r t1 s_0_clauses s_0_known s_0_steps s_0_nodes s_0_stop) fun n2 =>
 bif decide (n2.1 ≥ 0) then
 Option.bind ((proof_search_set_f k_) n2.2.1 n2.2.2.2.2.2.1 n2.2.2.1 n2.2.2.2.2.2.2 n2.2.2.2.1 n2.2.2.2.2.1 x_1 0) fun t3 =>
 some ((n2.1, t3, n2.2.2.1, n2.2.2.2.1, n2.2.2.2.2.1, n2.2.2.2.2.2.1, n2.2.2.2.2.2.2))
 else
 bif n2.2.2.2.2.1 then
 Option.bind ((proof_search_set_f k_) n2.2.1 n2.2.2.2.2.2.1 n2.2.2.1 n2.2.2.2.2.2.2 n2.2.2.2.1 n2.2.2.2.2.1 x_1 0) fun t4 =>
 some ((n2.1, t4, n2.2.2.1, n2.2.2.2.1, n2.2.2.2.2.1, n2.2.2.2.2.2.1, n2.2.2.2.2.2.2))
 else
 some ((n2.1, n2.2.1, n2.2.2.1, n2.2.2.2.1, n2.2.2.2.2.1, n2.2.2.2.2.2.1, n2.2.2.2.2.2.2))

theorem proof_search_under_f_le {k_ : Nat} {proof_search_find_r proof_search_find_r' : (List Int) → (List (List Int)) → (List (ByteArray × Int)) → (List T_api_Step) → Int → Bool → Option (Int × (List Int) × (List (ByteArray × Int)) × Int × Bool × (List (List Int)) × (List T_api_Step))} (h_proof_search_find_r : ∀ a0 a1 a2 a3 a4 a5, Le (proof_search_find_r a0 a1 a2 a3 a4 a5) (proof_search_find_r' a0 a1 a2 a3 a4 a5)) {s_0_values : (List Int)} {s_0_clauses : (List (List Int))} {s_0_known : (List (ByteArray × Int))} {s_0_steps : (List T_api_Step)} {s_0_nodes : Int} {s_0_stop : Bool} {x_1 : Int} : Le (proof_search_under_f k_ proof_search_find_r s_0_values s_0_clauses s_0_known s_0_steps s_0_nodes s_0_stop x_1) (proof_search_under_m proof_search_find_r' s_0_values s_0_clauses s_0_known s_0_steps s_0_nodes s_0_stop x_1) := by
  unfold proof_search_under_f proof_search_under_m
  repeat' with_reducible (first | exact Le.refl _ | exact h_proof_search_find_r _ _ _ _ _ _ | refine proof_search_set_f_le | refine Le.meet ?_ ?_ | refine Le.bind ?_ (Le.sumKK (fun _ => ?_) fun _ => ?_) | refine Le.bind ?_ (Le.sumK fun _ => ?_) | refine Le.bind ?_ (fun _ => ?_) | refine Le.cond ?_ ?_ | refine Le.letM (fun _ => ?_) | refine Le.join (fun _ => ?_) (fun _ _ hj => ?_) | exact hj _)

theorem proof_search_under_mono {proof_search_find_r proof_search_find_r' : (List Int) → (List (List Int)) → (List (ByteArray × Int)) → (List T_api_Step) → Int → Bool → Option (Int × (List Int) × (List (ByteArray × Int)) × Int × Bool × (List (List Int)) × (List T_api_Step))} (h_proof_search_find_r : ∀ a0 a1 a2 a3 a4 a5, Le (proof_search_find_r a0 a1 a2 a3 a4 a5) (proof_search_find_r' a0 a1 a2 a3 a4 a5)) {s_0_values : (List Int)} {s_0_clauses : (List (List Int))} {s_0_known : (List (ByteArray × Int))} {s_0_steps : (List T_api_Step)} {s_0_nodes : Int} {s_0_stop : Bool} {x_1 : Int} : Le (proof_search_under_m proof_search_find_r s_0_values s_0_clauses s_0_known s_0_steps s_0_nodes s_0_stop x_1) (proof_search_under_m proof_search_find_r' s_0_values s_0_clauses s_0_known s_0_steps s_0_nodes s_0_stop x_1) := by
  unfold proof_search_under_m
  repeat' with_reducible (first | exact Le.refl _ | exact h_proof_search_find_r _ _ _ _ _ _ | refine Le.meetO ?_ ?_ | refine Le.bind ?_ (Le.sumKK (fun _ => ?_) fun _ => ?_) | refine Le.bind ?_ (Le.sumK fun _ => ?_) | refine Le.bind ?_ (fun _ => ?_) | refine Le.cond ?_ ?_ | refine Le.letM (fun _ => ?_) | refine Le.join (fun _ => ?_) (fun _ _ hj => ?_) | exact hj _)

def proof_Resolve_f (k_ : Nat) (a_0 b_1 : List Int) (pivot_2 : Int) : Option (Bool × List Int) := some (ResolveP a_0 b_1 pivot_2)
theorem proof_Resolve_f_le {k_ : Nat} {a_0 b_1 : List Int} {pivot_2 : Int} : Le (proof_Resolve_f k_ a_0 b_1 pivot_2) (proof_Resolve_m a_0 b_1 pivot_2) := by rw [Resolve_plain]; exact Le.refl _

def keyM_digits (x : Int) : List UInt8 := if x < 0 then [45, UInt8.ofNat (48 + x.natAbs)] else [UInt8.ofNat (48 + x.toNat)]
theorem keyM_digits_eq {x : Int} (h0 : -9 ≤ x) (h1 : x ≤ 9) : keyM_digits x = Lib.itoa x := by
  have hd : ∀ n, n < 10 → Lib.decDigits n = [UInt8.ofNat (48 + n)] := fun n hn => by
    unfold Lib.decDigits; simp [hn]
  unfold keyM_digits Lib.itoa
  split
  · rw [hd _ (by omega)]
  · rw [hd _ (by omega)]
def keyMf (k_ : Nat) (l : List Int) : Option ByteArray := if l.length ≤ 100 ∧ l.all (fun x => decide (-9 ≤ x) && decide (x ≤ 9)) = true then some ⟨(l.flatMap fun x => keyM_digits x ++ [32]).toArray⟩ else none
theorem keyMf_le {k_ : Nat} {l : List Int} : Le (keyMf k_ l) (keyM l) := fun r h => by
  unfold keyMf at h
  split at h
  · rename_i h1
    cases h
    have h2 : ∀ x ∈ l, -9 ≤ x ∧ x ≤ 9 := fun x hx => by have := List.all_eq_true.1 h1.2 x hx; simpa using this
    unfold keyM
    rw [if_pos ⟨by omega, List.all_eq_true.2 fun x hx => by have := h2 x hx; simp [i64Ok]; omega⟩]
    have e : (l.flatMap fun x => keyM_digits x ++ [32]) = keyBytes l := by
      unfold keyBytes
      rw [List.flatMap_def, List.flatMap_def, List.map_congr_left fun x hx => ?_]
      rw [keyM_digits_eq (h2 x hx).1 (h2 x hx).2]
    rw [e]
  · cases h

def proof_search_learn_f (k_ : Nat) (s_0_values : (List Int)) (s_0_clauses : (List (List Int))) (s_0_known : (List (ByteArray × Int))) (s_0_steps : (List T_api_Step)) (s_0_nodes : Int) (s_0_stop : Bool) (i_1 : Int) (k_2 : Int) (x_3 : Int) : Option (Int × (List (ByteArray × Int)) × Int × Bool × (List (List Int)) × (List T_api_Step)) :=
 joinM (fun j2 : Int × Int × Int =>
 Option.bind (idxM s_0_clauses j2.1) fun t6 =>
 Option.bind (idxM s_0_clauses j2.2.1) fun t7 =>
 Option.bind ((proof_Resolve_f k_) t6 t7 j2.2.2) fun t8 =>
 joinM (fun j12 : Bool =>
 bif j12 then
 some (((-1), s_0_known, s_0_nodes, true, s_0_clauses, s_0_steps))
 else
 Option.bind ((keyMf k_) t8.2) fun t13 =>
 joinM (fun j15 : Unit =>
 Option.bind (appM 24 s_0_steps [(T_api_Step.mk j2.1 j2.2.1 j2.2.2)]) fun t16 =>
 Option.bind (appM 24 s_0_clauses [t8.2]) fun t17 =>
 some ((isub .i64 ((t17.length : Int)) 1, mapPut s_0_known t13 (isub .i64 ((t17.length : Int)) 1), s_0_nodes, s_0_stop, t17, t16))) fun k14 =>
 bif mapHas s_0_known t13 then
 bif decide (((t8.2.length : Int)) > 0) then
 some ((mapGet s_0_known t13 0, s_0_known, s_0_nodes, s_0_stop, s_0_clauses, s_0_steps))
 else
 k14 (())
 else
 k14 (())) fun k11 =>
 bif !t8.1 then
 k11 true
 else
 k11 (((s_0_steps.length : Int) : Int) == 20000)) fun k1 =>
 bif decide (x_3 < 0) then
 k1 ((k_2, i_1, ineg .i64 x_3))
 else
 k1 ((i_1, k_2, x_3))

theorem proof_search_learn_f_le {k_ : Nat} {s_0_values : (List Int)} {s_0_clauses : (List (List Int))} {s_0_known : (List (ByteArray × Int))} {s_0_steps : (List T_api_Step)} {s_0_nodes : Int} {s_0_stop : Bool} {i_1 : Int} {k_2 : Int} {x_3 : Int} : Le (proof_search_learn_f k_ s_0_values s_0_clauses s_0_known s_0_steps s_0_nodes s_0_stop i_1 k_2 x_3) (proof_search_learn_m s_0_values s_0_clauses s_0_known s_0_steps s_0_nodes s_0_stop i_1 k_2 x_3) := by
  unfold proof_search_learn_f proof_search_learn_m
  repeat' with_reducible (first | exact Le.refl _ | refine proof_Resolve_f_le | refine keyMf_le | refine Le.meet ?_ ?_ | refine Le.bind ?_ (Le.sumKK (fun _ => ?_) fun _ => ?_) | refine Le.bind ?_ (Le.sumK fun _ => ?_) | refine Le.bind ?_ (fun _ => ?_) | refine Le.cond ?_ ?_ | refine Le.letM (fun _ => ?_) | refine Le.join (fun _ => ?_) (fun _ _ hj => ?_) | exact hj _)

def proof_search_branch_l1f (k_ : Nat) (s_0_values : (List Int)) (s_0_clauses : (List (List Int))) (s_0_known : (List (ByteArray × Int))) (s_0_steps : (List T_api_Step)) (s_0_nodes : Int) (s_0_stop : Bool) (t24 : (List Int)) (s31 : Int × Int) : Option (Sum (Sum (Sum (Int) (Unit)) (Int)) (Int × Int)) :=
 bif decide (s31.2 < ((t24.length : Int))) then
 Option.bind (idxM t24 s31.2) fun t32 =>
 Option.bind ((proof_search_value_f k_) s_0_values s_0_clauses s_0_known s_0_steps s_0_nodes s_0_stop t32) fun t33 =>
 bif (t33 : Int) == 1 then
 some (Sum.inl (Sum.inl (Sum.inr (()))))
 else
 bif (t33 : Int) == 0 then
 bif (s31.1 : Int) == 0 then
 some (Sum.inr ((t32, iadd .i64 s31.2 1)))
 else
 some (Sum.inr ((s31.1, iadd .i64 s31.2 1)))
 else
 some (Sum.inr ((s31.1, iadd .i64 s31.2 1)))
 else
 some (Sum.inl (Sum.inr s31.1))

theorem proof_search_branch_l1f_le {k_ : Nat} {s_0_values : (List Int)} {s_0_clauses : (List (List Int))} {s_0_known : (List (ByteArray × Int))} {s_0_steps : (List T_api_Step)} {s_0_nodes : Int} {s_0_stop : Bool} {t24 : (List Int)} {s31 : Int × Int} : Le (proof_search_branch_l1f k_ s_0_values s_0_clauses s_0_known s_0_steps s_0_nodes s_0_stop t24 s31) (proof_search_branch_l1 s_0_values s_0_clauses s_0_known s_0_steps s_0_nodes s_0_stop t24 s31) := by
  unfold proof_search_branch_l1f proof_search_branch_l1
  repeat' with_reducible (first | exact Le.refl _ | refine proof_search_value_f_le | refine Le.meet ?_ ?_ | refine Le.bind ?_ (Le.sumKK (fun _ => ?_) fun _ => ?_) | refine Le.bind ?_ (Le.sumK fun _ => ?_) | refine Le.bind ?_ (fun _ => ?_) | refine Le.cond ?_ ?_ | refine Le.letM (fun _ => ?_) | refine Le.join (fun _ => ?_) (fun _ _ hj => ?_) | exact hj _)

def proof_search_branch_l2f (k_ : Nat) (s_0_values : (List Int)) (s_0_clauses : (List (List Int))) (s_0_known : (List (ByteArray × Int))) (s_0_steps : (List T_api_Step)) (s_0_nodes : Int) (s_0_stop : Bool) (s23 : Int) : Option (Sum (Sum (Int) (Unit)) (Int)) :=
 bif decide (s23 < ((s_0_clauses.length : Int))) then
 Option.bind (idxM s_0_clauses s23) fun t24 =>
 Option.bind (loopF k_ ((proof_search_branch_l1f k_) s_0_values s_0_clauses s_0_known s_0_steps s_0_nodes s_0_stop t24) ((0, 0))) (sumK (sumK (fun a : Int => some (Sum.inl (Sum.inl a))) fun o34 : Unit =>
 some (Sum.inr (iadd .i64 s23 1))) fun q35 : Int =>
 some (Sum.inl (Sum.inl q35)))
 else
 some (Sum.inl (Sum.inr (())))

theorem proof_search_branch_l2f_le {k_ : Nat} {s_0_values : (List Int)} {s_0_clauses : (List (List Int))} {s_0_known : (List (ByteArray × Int))} {s_0_steps : (List T_api_Step)} {s_0_nodes : Int} {s_0_stop : Bool} {s23 : Int} : Le (proof_search_branch_l2f k_ s_0_values s_0_clauses s_0_known s_0_steps s_0_nodes s_0_stop s23) (proof_search_branch_l2 s_0_values s_0_clauses s_0_known s_0_steps s_0_nodes s_0_stop s23) := by
  unfold proof_search_branch_l2f proof_search_branch_l2
  repeat' with_reducible (first | exact Le.refl _ | refine Le.loop (fun _ => proof_search_branch_l1f_le) | refine Le.meet ?_ ?_ | refine Le.bind ?_ (Le.sumKK (fun _ => ?_) fun _ => ?_) | refine Le.bind ?_ (Le.sumK fun _ => ?_) | refine Le.bind ?_ (fun _ => ?_) | refine Le.cond ?_ ?_ | refine Le.letM (fun _ => ?_) | refine Le.join (fun _ => ?_) (fun _ _ hj => ?_) | exact hj _)

def proof_search_branch_f (k_ : Nat) (s_0_values : (List Int)) (s_0_clauses : (List (List Int))) (s_0_known : (List (ByteArray × Int))) (s_0_steps : (List T_api_Step)) (s_0_nodes : Int) (s_0_stop : Bool) : Option (Int) :=
 Option.bind (loopF k_ ((proof_search_branch_l2f k_) s_0_values s_0_clauses s_0_known s_0_steps s_0_nodes s_0_stop) 0) (sumK (fun a : Int => some a) fun q36 : Unit =>
 some 0)

theorem proof_search_branch_f_le {k_ : Nat} {s_0_values : (List Int)} {s_0_clauses : (List (List Int))} {s_0_known : (List (ByteArray × Int))} {s_0_steps : (List T_api_Step)} {s_0_nodes : Int} {s_0_stop : Bool} : Le (proof_search_branch_f k_ s_0_values s_0_clauses s_0_known s_0_steps s_0_nodes s_0_stop) (proof_search_branch_m s_0_values s_0_clauses s_0_known s_0_steps s_0_nodes s_0_stop) := by
  unfold proof_search_branch_f proof_search_branch_m
  repeat' with_reducible (first | exact Le.refl _ | refine Le.loop (fun _ => proof_search_branch_l2f_le) | refine Le.meet ?_ ?_ | refine Le.bind ?_ (Le.sumKK (fun _ => ?_) fun _ => ?_) | refine Le.bind ?_ (Le.sumK fun _ => ?_) | refine Le.bind ?_ (fun _ => ?_) | refine Le.cond ?_ ?_ | refine Le.letM (fun _ => ?_) | refine Le.join (fun _ => ?_) (fun _ _ hj => ?_) | exact hj _)

def proof_search_find_bf (k_ : Nat) (proof_search_find_r : (List Int) → (List (List Int)) → (List (ByteArray × Int)) → (List T_api_Step) → Int → Bool → Option (Int × (List Int) × (List (ByteArray × Int)) × Int × Bool × (List (List Int)) × (List T_api_Step))) (s_0_values : (List Int)) (s_0_clauses : (List (List Int))) (s_0_known : (List (ByteArray × Int))) (s_0_steps : (List T_api_Step)) (s_0_nodes : Int) (s_0_stop : Bool) : Option (Int × (List Int) × (List (ByteArray × Int)) × Int × Bool × (List (List Int)) × (List T_api_Step)) :=
 joinM (fun j2 : Int × Bool =>
 bif j2.2 then
 some (((-1), s_0_values, s_0_known, j2.1, j2.2, s_0_clauses, s_0_steps))
 else
 Option.bind ((proof_search_look_f k_) s_0_values s_0_clauses s_0_known s_0_steps j2.1 j2.2) fun t3 =>
 joinM (fun j5 : Unit =>
 joinM (fun j8 : Int =>
 Option.bind ((proof_search_under_f k_) proof_search_find_r s_0_values s_0_clauses s_0_known s_0_steps j2.1 j2.2 j8) fun first9 =>
 bif decide (first9.1 < 0) then
 some ((first9.1, first9.2.1, first9.2.2.1, first9.2.2.2.1, first9.2.2.2.2.1, first9.2.2.2.2.2.1, first9.2.2.2.2.2.2))
 else
 bif first9.2.2.2.2.1 then
 some ((first9.1, first9.2.1, first9.2.2.1, first9.2.2.2.1, first9.2.2.2.2.1, first9.2.2.2.2.2.1, first9.2.2.2.2.2.2))
 else
 Option.bind (idxM first9.2.2.2.2.2.1 first9.1) fun t12 =>
 Option.bind ((slices_Contains_int_int_f k_) t12 (ineg .i64 j8)) fun t13 =>
 bif !t13 then
 some ((first9.1, first9.2.1, first9.2.2.1, first9.2.2.2.1, first9.2.2.2.2.1, first9.2.2.2.2.2.1, first9.2.2.2.2.2.2))
 else
 bif decide (t3.1 < 0) then
 Option.bind ((proof_search_under_f k_) proof_search_find_r first9.2.1 first9.2.2.2.2.2.1 first9.2.2.1 first9.2.2.2.2.2.2 first9.2.2.2.1 first9.2.2.2.2.1 (ineg .i64 j8)) fun unit14 =>
 bif decide (unit14.1 < 0) then
 some ((unit14.1, unit14.2.1, unit14.2.2.1, unit14.2.2.2.1, unit14.2.2.2.2.1, unit14.2.2.2.2.2.1, unit14.2.2.2.2.2.2))
 else
 bif unit14.2.2.2.2.1 then
 some ((unit14.1, unit14.2.1, unit14.2.2.1, unit14.2.2.2.1, unit14.2.2.2.2.1, unit14.2.2.2.2.2.1, unit14.2.2.2.2.2.2))
 else
 Option.bind (idxM unit14.2.2.2.2.2.1 unit14.1) fun t15 =>
 Option.bind ((slices_Contains_int_int_f k_) t15 j8) fun t16 =>
 bif !t16 then
 some ((unit14.1, unit14.2.1, unit14.2.2.1, unit14.2.2.2.1, unit14.2.2.2.2.1, unit14.2.2.2.2.2.1, unit14.2.2.2.2.2.2))
 else
 Option.bind ((proof_search_learn_f k_) unit14.2.1 unit14.2.2.2.2.2.1 unit14.2.2.1 unit14.2.2.2.2.2.2 unit14.2.2.2.1 unit14.2.2.2.2.1 unit14.1 first9.1 j8) fun t17 =>
 some ((t17.1, unit14.2.1, t17.2.1, t17.2.2.1, t17.2.2.2.1, t17.2.2.2.2.1, t17.2.2.2.2.2))
 else
 Option.bind ((proof_search_learn_f k_) first9.2.1 first9.2.2.2.2.2.1 first9.2.2.1 first9.2.2.2.2.2.2 first9.2.2.2.1 first9.2.2.2.2.1 t3.1 first9.1 j8) fun t18 =>
 some ((t18.1, first9.2.1, t18.2.1, t18.2.2.1, t18.2.2.2.1, t18.2.2.2.2.1, t18.2.2.2.2.2))) fun k7 =>
 bif decide (t3.1 < 0) then
 Option.bind ((proof_search_branch_f k_) s_0_values s_0_clauses s_0_known s_0_steps j2.1 j2.2) fun x19 =>
 bif (x19 : Int) == 0 then
 some (((-1), s_0_values, s_0_known, j2.1, j2.2, s_0_clauses, s_0_steps))
 else
 k7 x19
 else
 k7 t3.2) fun k4 =>
 bif decide (t3.1 ≥ 0) then
 bif (t3.2 : Int) == 0 then
 some ((t3.1, s_0_values, s_0_known, j2.1, j2.2, s_0_clauses, s_0_steps))
 else
 k4 (())
 else
 k4 (())) fun k1 =>
 bif decide ((iadd .i64 s_0_nodes 1) > 9000) then
 k1 ((iadd .i64 s_0_nodes 1, true))
 else
 k1 ((iadd .i64 s_0_nodes 1, s_0_stop))

theorem proof_search_find_bf_le {k_ : Nat} {proof_search_find_r proof_search_find_r' : (List Int) → (List (List Int)) → (List (ByteArray × Int)) → (List T_api_Step) → Int → Bool → Option (Int × (List Int) × (List (ByteArray × Int)) × Int × Bool × (List (List Int)) × (List T_api_Step))} (h_proof_search_find_r : ∀ a0 a1 a2 a3 a4 a5, Le (proof_search_find_r a0 a1 a2 a3 a4 a5) (proof_search_find_r' a0 a1 a2 a3 a4 a5)) {s_0_values : (List Int)} {s_0_clauses : (List (List Int))} {s_0_known : (List (ByteArray × Int))} {s_0_steps : (List T_api_Step)} {s_0_nodes : Int} {s_0_stop : Bool} : Le (proof_search_find_bf k_ proof_search_find_r s_0_values s_0_clauses s_0_known s_0_steps s_0_nodes s_0_stop) (proof_search_find_b proof_search_find_r' s_0_values s_0_clauses s_0_known s_0_steps s_0_nodes s_0_stop) := by
  unfold proof_search_find_bf proof_search_find_b
  repeat' with_reducible (first | exact Le.refl _ | exact h_proof_search_find_r _ _ _ _ _ _ | refine proof_search_look_f_le | refine proof_search_under_f_le h_proof_search_find_r | refine slices_Contains_int_int_f_le | refine proof_search_learn_f_le | refine proof_search_branch_f_le | refine Le.meet ?_ ?_ | refine Le.bind ?_ (Le.sumKK (fun _ => ?_) fun _ => ?_) | refine Le.bind ?_ (Le.sumK fun _ => ?_) | refine Le.bind ?_ (fun _ => ?_) | refine Le.cond ?_ ?_ | refine Le.letM (fun _ => ?_) | refine Le.join (fun _ => ?_) (fun _ _ hj => ?_) | exact hj _)

theorem proof_search_find_b_mono {proof_search_find_r proof_search_find_r' : (List Int) → (List (List Int)) → (List (ByteArray × Int)) → (List T_api_Step) → Int → Bool → Option (Int × (List Int) × (List (ByteArray × Int)) × Int × Bool × (List (List Int)) × (List T_api_Step))} (h_proof_search_find_r : ∀ a0 a1 a2 a3 a4 a5, Le (proof_search_find_r a0 a1 a2 a3 a4 a5) (proof_search_find_r' a0 a1 a2 a3 a4 a5)) {s_0_values : (List Int)} {s_0_clauses : (List (List Int))} {s_0_known : (List (ByteArray × Int))} {s_0_steps : (List T_api_Step)} {s_0_nodes : Int} {s_0_stop : Bool} : Le (proof_search_find_b proof_search_find_r s_0_values s_0_clauses s_0_known s_0_steps s_0_nodes s_0_stop) (proof_search_find_b proof_search_find_r' s_0_values s_0_clauses s_0_known s_0_steps s_0_nodes s_0_stop) := by
  unfold proof_search_find_b
  repeat' with_reducible (first | exact Le.refl _ | exact h_proof_search_find_r _ _ _ _ _ _ | refine proof_search_under_mono h_proof_search_find_r | refine Le.meetO ?_ ?_ | refine Le.bind ?_ (Le.sumKK (fun _ => ?_) fun _ => ?_) | refine Le.bind ?_ (Le.sumK fun _ => ?_) | refine Le.bind ?_ (fun _ => ?_) | refine Le.cond ?_ ?_ | refine Le.letM (fun _ => ?_) | refine Le.join (fun _ => ?_) (fun _ _ hj => ?_) | exact hj _)

def proof_search_find_nf (k_ : Nat) : Nat → (List Int) → (List (List Int)) → (List (ByteArray × Int)) → (List T_api_Step) → Int → Bool → Option (Int × (List Int) × (List (ByteArray × Int)) × Int × Bool × (List (List Int)) × (List T_api_Step))
  | 0 => fun _ _ _ _ _ _ => none
  | n_ + 1 => proof_search_find_bf k_ (proof_search_find_nf k_ n_)

theorem proof_search_find_nf_le {k_ : Nat} : ∀ (n_ : Nat) a0 a1 a2 a3 a4 a5, Le (proof_search_find_nf k_ n_ a0 a1 a2 a3 a4 a5) (proof_search_find_n n_ a0 a1 a2 a3 a4 a5)
  | 0, _, _, _, _, _, _ => fun _ h => by cases h
  | n_ + 1, _, _, _, _, _, _ => proof_search_find_bf_le (proof_search_find_nf_le n_)

theorem proof_search_find_n_mono : ∀ (n_ : Nat) a0 a1 a2 a3 a4 a5, Le (proof_search_find_n n_ a0 a1 a2 a3 a4 a5) (proof_search_find_n (n_ + 1) a0 a1 a2 a3 a4 a5)
  | 0, _, _, _, _, _, _ => fun _ h => by cases h
  | n_ + 1, _, _, _, _, _, _ => proof_search_find_b_mono (proof_search_find_n_mono n_)

def proof_search_find_f (k_ : Nat) (s_0_values : (List Int)) (s_0_clauses : (List (List Int))) (s_0_known : (List (ByteArray × Int))) (s_0_steps : (List T_api_Step)) (s_0_nodes : Int) (s_0_stop : Bool) : Option (Int × (List Int) × (List (ByteArray × Int)) × Int × Bool × (List (List Int)) × (List T_api_Step)) := proof_search_find_nf k_ k_ s_0_values s_0_clauses s_0_known s_0_steps s_0_nodes s_0_stop

theorem proof_search_find_m_at {n_ : Nat} {s_0_values : (List Int)} {s_0_clauses : (List (List Int))} {s_0_known : (List (ByteArray × Int))} {s_0_steps : (List T_api_Step)} {s_0_nodes : Int} {s_0_stop : Bool} {r} (h : proof_search_find_n n_ s_0_values s_0_clauses s_0_known s_0_steps s_0_nodes s_0_stop = some r) : proof_search_find_m s_0_values s_0_clauses s_0_known s_0_steps s_0_nodes s_0_stop = some r :=
  (limM_iff (m := fun n (a : (List Int) × (List (List Int)) × (List (ByteArray × Int)) × (List T_api_Step) × Int × Bool) => proof_search_find_n n a.1 a.2.1 a.2.2.1 a.2.2.2.1 a.2.2.2.2.1 a.2.2.2.2.2) (fun n a r h => proof_search_find_n_mono n _ _ _ _ _ _ r h)).2 ⟨n_, h⟩

theorem proof_search_find_f_le {k_ : Nat} {s_0_values : (List Int)} {s_0_clauses : (List (List Int))} {s_0_known : (List (ByteArray × Int))} {s_0_steps : (List T_api_Step)} {s_0_nodes : Int} {s_0_stop : Bool} : Le (proof_search_find_f k_ s_0_values s_0_clauses s_0_known s_0_steps s_0_nodes s_0_stop) (proof_search_find_m s_0_values s_0_clauses s_0_known s_0_steps s_0_nodes s_0_stop) := fun r hr => proof_search_find_m_at (proof_search_find_nf_le k_ _ _ _ _ _ _ r hr)

def proof_search_under_s2_f (k_ : Nat) (s_0_values : (List Int)) (s_0_clauses : (List (List Int))) (s_0_known : (List (ByteArray × Int))) (s_0_steps : (List T_api_Step)) (s_0_nodes : Int) (s_0_stop : Bool) (x_1 : Int) : Option (Int × (List Int) × (List (ByteArray × Int)) × Int × Bool × (List (List Int)) × (List T_api_Step)) :=
 Option.bind ((proof_search_set_f k_) s_0_values s_0_clauses s_0_known s_0_steps s_0_nodes s_0_stop x_1 1) fun t1 =>
 Option.bind ((proof_search_find_f k_) t1 s_0_clauses s_0_known s_0_steps s_0_nodes s_0_stop) fun n2 =>
 bif decide (n2.1 ≥ 0) then
 Option.bind ((proof_search_set_f k_) n2.2.1 n2.2.2.2.2.2.1 n2.2.2.1 n2.2.2.2.2.2.2 n2.2.2.2.1 n2.2.2.2.2.1 x_1 0) fun t3 =>
 some ((n2.1, t3, n2.2.2.1, n2.2.2.2.1, n2.2.2.2.2.1, n2.2.2.2.2.2.1, n2.2.2.2.2.2.2))
 else
 bif n2.2.2.2.2.1 then
 Option.bind ((proof_search_set_f k_) n2.2.1 n2.2.2.2.2.2.1 n2.2.2.1 n2.2.2.2.2.2.2 n2.2.2.2.1 n2.2.2.2.2.1 x_1 0) fun t4 =>
 some ((n2.1, t4, n2.2.2.1, n2.2.2.2.1, n2.2.2.2.2.1, n2.2.2.2.2.2.1, n2.2.2.2.2.2.2))
 else
 some ((n2.1, n2.2.1, n2.2.2.1, n2.2.2.2.1, n2.2.2.2.2.1, n2.2.2.2.2.2.1, n2.2.2.2.2.2.2))

theorem proof_search_under_s2_f_le {k_ : Nat} {s_0_values : (List Int)} {s_0_clauses : (List (List Int))} {s_0_known : (List (ByteArray × Int))} {s_0_steps : (List T_api_Step)} {s_0_nodes : Int} {s_0_stop : Bool} {x_1 : Int} : Le (proof_search_under_s2_f k_ s_0_values s_0_clauses s_0_known s_0_steps s_0_nodes s_0_stop x_1) (proof_search_under_s2_m s_0_values s_0_clauses s_0_known s_0_steps s_0_nodes s_0_stop x_1) := by
  unfold proof_search_under_s2_f proof_search_under_s2_m
  repeat' with_reducible (first | exact Le.refl _ | refine proof_search_set_f_le | refine proof_search_find_f_le | refine Le.meet ?_ ?_ | refine Le.bind ?_ (Le.sumKK (fun _ => ?_) fun _ => ?_) | refine Le.bind ?_ (Le.sumK fun _ => ?_) | refine Le.bind ?_ (fun _ => ?_) | refine Le.cond ?_ ?_ | refine Le.letM (fun _ => ?_) | refine Le.join (fun _ => ?_) (fun _ _ hj => ?_) | exact hj _)

def proof_search_branch_s1_l1f (k_ : Nat) (s_0_values : (List Int)) (s_0_clauses : (List (List Int))) (s_0_known : (List (ByteArray × Int))) (s_0_nodes : Int) (s_0_stop : Bool) (t24 : (List Int)) (s31 : Int × Int) : Option (Sum (Sum (Sum (Int) (Unit)) (Int)) (Int × Int)) :=
 bif decide (s31.2 < ((t24.length : Int))) then
 Option.bind (idxM t24 s31.2) fun t32 =>
 Option.bind ((proof_search_value_s1_f k_) s_0_values s_0_clauses s_0_known s_0_nodes s_0_stop t32) fun t33 =>
 bif (t33 : Int) == 1 then
 some (Sum.inl (Sum.inl (Sum.inr (()))))
 else
 bif (t33 : Int) == 0 then
 bif (s31.1 : Int) == 0 then
 some (Sum.inr ((t32, iadd .i64 s31.2 1)))
 else
 some (Sum.inr ((s31.1, iadd .i64 s31.2 1)))
 else
 some (Sum.inr ((s31.1, iadd .i64 s31.2 1)))
 else
 some (Sum.inl (Sum.inr s31.1))

theorem proof_search_branch_s1_l1f_le {k_ : Nat} {s_0_values : (List Int)} {s_0_clauses : (List (List Int))} {s_0_known : (List (ByteArray × Int))} {s_0_nodes : Int} {s_0_stop : Bool} {t24 : (List Int)} {s31 : Int × Int} : Le (proof_search_branch_s1_l1f k_ s_0_values s_0_clauses s_0_known s_0_nodes s_0_stop t24 s31) (proof_search_branch_s1_l1 s_0_values s_0_clauses s_0_known s_0_nodes s_0_stop t24 s31) := by
  unfold proof_search_branch_s1_l1f proof_search_branch_s1_l1
  repeat' with_reducible (first | exact Le.refl _ | refine proof_search_value_s1_f_le | refine Le.meet ?_ ?_ | refine Le.bind ?_ (Le.sumKK (fun _ => ?_) fun _ => ?_) | refine Le.bind ?_ (Le.sumK fun _ => ?_) | refine Le.bind ?_ (fun _ => ?_) | refine Le.cond ?_ ?_ | refine Le.letM (fun _ => ?_) | refine Le.join (fun _ => ?_) (fun _ _ hj => ?_) | exact hj _)

def proof_search_branch_s1_l2f (k_ : Nat) (s_0_values : (List Int)) (s_0_clauses : (List (List Int))) (s_0_known : (List (ByteArray × Int))) (s_0_nodes : Int) (s_0_stop : Bool) (s23 : Int) : Option (Sum (Sum (Int) (Unit)) (Int)) :=
 bif decide (s23 < ((s_0_clauses.length : Int))) then
 Option.bind (idxM s_0_clauses s23) fun t24 =>
 Option.bind (loopF k_ ((proof_search_branch_s1_l1f k_) s_0_values s_0_clauses s_0_known s_0_nodes s_0_stop t24) ((0, 0))) (sumK (sumK (fun a : Int => some (Sum.inl (Sum.inl a))) fun o34 : Unit =>
 some (Sum.inr (iadd .i64 s23 1))) fun q35 : Int =>
 some (Sum.inl (Sum.inl q35)))
 else
 some (Sum.inl (Sum.inr (())))

theorem proof_search_branch_s1_l2f_le {k_ : Nat} {s_0_values : (List Int)} {s_0_clauses : (List (List Int))} {s_0_known : (List (ByteArray × Int))} {s_0_nodes : Int} {s_0_stop : Bool} {s23 : Int} : Le (proof_search_branch_s1_l2f k_ s_0_values s_0_clauses s_0_known s_0_nodes s_0_stop s23) (proof_search_branch_s1_l2 s_0_values s_0_clauses s_0_known s_0_nodes s_0_stop s23) := by
  unfold proof_search_branch_s1_l2f proof_search_branch_s1_l2
  repeat' with_reducible (first | exact Le.refl _ | refine Le.loop (fun _ => proof_search_branch_s1_l1f_le) | refine Le.meet ?_ ?_ | refine Le.bind ?_ (Le.sumKK (fun _ => ?_) fun _ => ?_) | refine Le.bind ?_ (Le.sumK fun _ => ?_) | refine Le.bind ?_ (fun _ => ?_) | refine Le.cond ?_ ?_ | refine Le.letM (fun _ => ?_) | refine Le.join (fun _ => ?_) (fun _ _ hj => ?_) | exact hj _)

def proof_search_branch_s1_f (k_ : Nat) (s_0_values : (List Int)) (s_0_clauses : (List (List Int))) (s_0_known : (List (ByteArray × Int))) (s_0_nodes : Int) (s_0_stop : Bool) : Option (Int) :=
 Option.bind (loopF k_ ((proof_search_branch_s1_l2f k_) s_0_values s_0_clauses s_0_known s_0_nodes s_0_stop) 0) (sumK (fun a : Int => some a) fun q36 : Unit =>
 some 0)

theorem proof_search_branch_s1_f_le {k_ : Nat} {s_0_values : (List Int)} {s_0_clauses : (List (List Int))} {s_0_known : (List (ByteArray × Int))} {s_0_nodes : Int} {s_0_stop : Bool} : Le (proof_search_branch_s1_f k_ s_0_values s_0_clauses s_0_known s_0_nodes s_0_stop) (proof_search_branch_s1_m s_0_values s_0_clauses s_0_known s_0_nodes s_0_stop) := by
  unfold proof_search_branch_s1_f proof_search_branch_s1_m
  repeat' with_reducible (first | exact Le.refl _ | refine Le.loop (fun _ => proof_search_branch_s1_l2f_le) | refine Le.meet ?_ ?_ | refine Le.bind ?_ (Le.sumKK (fun _ => ?_) fun _ => ?_) | refine Le.bind ?_ (Le.sumK fun _ => ?_) | refine Le.bind ?_ (fun _ => ?_) | refine Le.cond ?_ ?_ | refine Le.letM (fun _ => ?_) | refine Le.join (fun _ => ?_) (fun _ _ hj => ?_) | exact hj _)

def proof_search_find_s1_bf (k_ : Nat) (proof_search_find_s1_r : (List Int) → (List (List Int)) → (List (ByteArray × Int)) → Int → Bool → Option (Int × (List Int) × (List (ByteArray × Int)) × Int × Bool × (List (List Int)) × (List T_api_Step))) (s_0_values : (List Int)) (s_0_clauses : (List (List Int))) (s_0_known : (List (ByteArray × Int))) (s_0_nodes : Int) (s_0_stop : Bool) : Option (Int × (List Int) × (List (ByteArray × Int)) × Int × Bool × (List (List Int)) × (List T_api_Step)) :=
 joinM (fun j2 : Int × Bool =>
 bif j2.2 then
 some (((-1), s_0_values, s_0_known, j2.1, j2.2, s_0_clauses, []))
 else
 Option.bind ((proof_search_look_s1_f k_) s_0_values s_0_clauses s_0_known j2.1 j2.2) fun t3 =>
 joinM (fun j5 : Unit =>
 joinM (fun j8 : Int =>
 Option.bind ((proof_search_under_s1_f k_) proof_search_find_s1_r s_0_values s_0_clauses s_0_known j2.1 j2.2 j8) fun first9 =>
 bif decide (first9.1 < 0) then
 some ((first9.1, first9.2.1, first9.2.2.1, first9.2.2.2.1, first9.2.2.2.2.1, first9.2.2.2.2.2.1, first9.2.2.2.2.2.2))
 else
 bif first9.2.2.2.2.1 then
 some ((first9.1, first9.2.1, first9.2.2.1, first9.2.2.2.1, first9.2.2.2.2.1, first9.2.2.2.2.2.1, first9.2.2.2.2.2.2))
 else
 Option.bind (idxM first9.2.2.2.2.2.1 first9.1) fun t12 =>
 Option.bind ((slices_Contains_int_int_f k_) t12 (ineg .i64 j8)) fun t13 =>
 bif !t13 then
 some ((first9.1, first9.2.1, first9.2.2.1, first9.2.2.2.1, first9.2.2.2.2.1, first9.2.2.2.2.2.1, first9.2.2.2.2.2.2))
 else
 bif decide (t3.1 < 0) then
 Option.bind ((proof_search_under_s2_f k_) first9.2.1 first9.2.2.2.2.2.1 first9.2.2.1 first9.2.2.2.2.2.2 first9.2.2.2.1 first9.2.2.2.2.1 (ineg .i64 j8)) fun unit14 =>
 bif decide (unit14.1 < 0) then
 some ((unit14.1, unit14.2.1, unit14.2.2.1, unit14.2.2.2.1, unit14.2.2.2.2.1, unit14.2.2.2.2.2.1, unit14.2.2.2.2.2.2))
 else
 bif unit14.2.2.2.2.1 then
 some ((unit14.1, unit14.2.1, unit14.2.2.1, unit14.2.2.2.1, unit14.2.2.2.2.1, unit14.2.2.2.2.2.1, unit14.2.2.2.2.2.2))
 else
 Option.bind (idxM unit14.2.2.2.2.2.1 unit14.1) fun t15 =>
 Option.bind ((slices_Contains_int_int_f k_) t15 j8) fun t16 =>
 bif !t16 then
 some ((unit14.1, unit14.2.1, unit14.2.2.1, unit14.2.2.2.1, unit14.2.2.2.2.1, unit14.2.2.2.2.2.1, unit14.2.2.2.2.2.2))
 else
 Option.bind ((proof_search_learn_f k_) unit14.2.1 unit14.2.2.2.2.2.1 unit14.2.2.1 unit14.2.2.2.2.2.2 unit14.2.2.2.1 unit14.2.2.2.2.1 unit14.1 first9.1 j8) fun t17 =>
 some ((t17.1, unit14.2.1, t17.2.1, t17.2.2.1, t17.2.2.2.1, t17.2.2.2.2.1, t17.2.2.2.2.2))
 else
 Option.bind ((proof_search_learn_f k_) first9.2.1 first9.2.2.2.2.2.1 first9.2.2.1 first9.2.2.2.2.2.2 first9.2.2.2.1 first9.2.2.2.2.1 t3.1 first9.1 j8) fun t18 =>
 some ((t18.1, first9.2.1, t18.2.1, t18.2.2.1, t18.2.2.2.1, t18.2.2.2.2.1, t18.2.2.2.2.2))) fun k7 =>
 bif decide (t3.1 < 0) then
 Option.bind ((proof_search_branch_s1_f k_) s_0_values s_0_clauses s_0_known j2.1 j2.2) fun x19 =>
 bif (x19 : Int) == 0 then
 some (((-1), s_0_values, s_0_known, j2.1, j2.2, s_0_clauses, []))
 else
 k7 x19
 else
 k7 t3.2) fun k4 =>
 bif decide (t3.1 ≥ 0) then
 bif (t3.2 : Int) == 0 then
 some ((t3.1, s_0_values, s_0_known, j2.1, j2.2, s_0_clauses, []))
 else
 k4 (())
 else
 k4 (())) fun k1 =>
 bif decide ((iadd .i64 s_0_nodes 1) > 9000) then
 k1 ((iadd .i64 s_0_nodes 1, true))
 else
 k1 ((iadd .i64 s_0_nodes 1, s_0_stop))

theorem proof_search_find_s1_bf_le {k_ : Nat} {proof_search_find_s1_r proof_search_find_s1_r' : (List Int) → (List (List Int)) → (List (ByteArray × Int)) → Int → Bool → Option (Int × (List Int) × (List (ByteArray × Int)) × Int × Bool × (List (List Int)) × (List T_api_Step))} (h_proof_search_find_s1_r : ∀ a0 a1 a2 a3 a4, Le (proof_search_find_s1_r a0 a1 a2 a3 a4) (proof_search_find_s1_r' a0 a1 a2 a3 a4)) {s_0_values : (List Int)} {s_0_clauses : (List (List Int))} {s_0_known : (List (ByteArray × Int))} {s_0_nodes : Int} {s_0_stop : Bool} : Le (proof_search_find_s1_bf k_ proof_search_find_s1_r s_0_values s_0_clauses s_0_known s_0_nodes s_0_stop) (proof_search_find_s1_b proof_search_find_s1_r' s_0_values s_0_clauses s_0_known s_0_nodes s_0_stop) := by
  unfold proof_search_find_s1_bf proof_search_find_s1_b
  repeat' with_reducible (first | exact Le.refl _ | exact h_proof_search_find_s1_r _ _ _ _ _ | refine proof_search_look_s1_f_le | refine proof_search_under_s1_f_le h_proof_search_find_s1_r | refine slices_Contains_int_int_f_le | refine proof_search_under_s2_f_le | refine proof_search_learn_f_le | refine proof_search_branch_s1_f_le | refine Le.meet ?_ ?_ | refine Le.bind ?_ (Le.sumKK (fun _ => ?_) fun _ => ?_) | refine Le.bind ?_ (Le.sumK fun _ => ?_) | refine Le.bind ?_ (fun _ => ?_) | refine Le.cond ?_ ?_ | refine Le.letM (fun _ => ?_) | refine Le.join (fun _ => ?_) (fun _ _ hj => ?_) | exact hj _)

theorem proof_search_find_s1_b_mono {proof_search_find_s1_r proof_search_find_s1_r' : (List Int) → (List (List Int)) → (List (ByteArray × Int)) → Int → Bool → Option (Int × (List Int) × (List (ByteArray × Int)) × Int × Bool × (List (List Int)) × (List T_api_Step))} (h_proof_search_find_s1_r : ∀ a0 a1 a2 a3 a4, Le (proof_search_find_s1_r a0 a1 a2 a3 a4) (proof_search_find_s1_r' a0 a1 a2 a3 a4)) {s_0_values : (List Int)} {s_0_clauses : (List (List Int))} {s_0_known : (List (ByteArray × Int))} {s_0_nodes : Int} {s_0_stop : Bool} : Le (proof_search_find_s1_b proof_search_find_s1_r s_0_values s_0_clauses s_0_known s_0_nodes s_0_stop) (proof_search_find_s1_b proof_search_find_s1_r' s_0_values s_0_clauses s_0_known s_0_nodes s_0_stop) := by
  unfold proof_search_find_s1_b
  repeat' with_reducible (first | exact Le.refl _ | exact h_proof_search_find_s1_r _ _ _ _ _ | refine proof_search_under_s1_mono h_proof_search_find_s1_r | refine Le.meetO ?_ ?_ | refine Le.bind ?_ (Le.sumKK (fun _ => ?_) fun _ => ?_) | refine Le.bind ?_ (Le.sumK fun _ => ?_) | refine Le.bind ?_ (fun _ => ?_) | refine Le.cond ?_ ?_ | refine Le.letM (fun _ => ?_) | refine Le.join (fun _ => ?_) (fun _ _ hj => ?_) | exact hj _)

def proof_search_find_s1_nf (k_ : Nat) : Nat → (List Int) → (List (List Int)) → (List (ByteArray × Int)) → Int → Bool → Option (Int × (List Int) × (List (ByteArray × Int)) × Int × Bool × (List (List Int)) × (List T_api_Step))
  | 0 => fun _ _ _ _ _ => none
  | n_ + 1 => proof_search_find_s1_bf k_ (proof_search_find_s1_nf k_ n_)

theorem proof_search_find_s1_nf_le {k_ : Nat} : ∀ (n_ : Nat) a0 a1 a2 a3 a4, Le (proof_search_find_s1_nf k_ n_ a0 a1 a2 a3 a4) (proof_search_find_s1_n n_ a0 a1 a2 a3 a4)
  | 0, _, _, _, _, _ => fun _ h => by cases h
  | n_ + 1, _, _, _, _, _ => proof_search_find_s1_bf_le (proof_search_find_s1_nf_le n_)

theorem proof_search_find_s1_n_mono : ∀ (n_ : Nat) a0 a1 a2 a3 a4, Le (proof_search_find_s1_n n_ a0 a1 a2 a3 a4) (proof_search_find_s1_n (n_ + 1) a0 a1 a2 a3 a4)
  | 0, _, _, _, _, _ => fun _ h => by cases h
  | n_ + 1, _, _, _, _, _ => proof_search_find_s1_b_mono (proof_search_find_s1_n_mono n_)

def proof_search_find_s1_f (k_ : Nat) (s_0_values : (List Int)) (s_0_clauses : (List (List Int))) (s_0_known : (List (ByteArray × Int))) (s_0_nodes : Int) (s_0_stop : Bool) : Option (Int × (List Int) × (List (ByteArray × Int)) × Int × Bool × (List (List Int)) × (List T_api_Step)) := proof_search_find_s1_nf k_ k_ s_0_values s_0_clauses s_0_known s_0_nodes s_0_stop

theorem proof_search_find_s1_m_at {n_ : Nat} {s_0_values : (List Int)} {s_0_clauses : (List (List Int))} {s_0_known : (List (ByteArray × Int))} {s_0_nodes : Int} {s_0_stop : Bool} {r} (h : proof_search_find_s1_n n_ s_0_values s_0_clauses s_0_known s_0_nodes s_0_stop = some r) : proof_search_find_s1_m s_0_values s_0_clauses s_0_known s_0_nodes s_0_stop = some r :=
  (limM_iff (m := fun n (a : (List Int) × (List (List Int)) × (List (ByteArray × Int)) × Int × Bool) => proof_search_find_s1_n n a.1 a.2.1 a.2.2.1 a.2.2.2.1 a.2.2.2.2) (fun n a r h => proof_search_find_s1_n_mono n _ _ _ _ _ r h)).2 ⟨n_, h⟩

theorem proof_search_find_s1_f_le {k_ : Nat} {s_0_values : (List Int)} {s_0_clauses : (List (List Int))} {s_0_known : (List (ByteArray × Int))} {s_0_nodes : Int} {s_0_stop : Bool} : Le (proof_search_find_s1_f k_ s_0_values s_0_clauses s_0_known s_0_nodes s_0_stop) (proof_search_find_s1_m s_0_values s_0_clauses s_0_known s_0_nodes s_0_stop) := fun r hr => proof_search_find_s1_m_at (proof_search_find_s1_nf_le k_ _ _ _ _ _ r hr)

def proof_search_model_l1f (k_ : Nat) (s_0_values : (List Int)) (s10 : Int × (List Bool)) : Option (Sum ((List Bool)) (Int × (List Bool))) :=
 bif decide (s10.1 < ((s_0_values.length : Int))) then
 Option.bind (idxM s_0_values s10.1) fun t11 =>
 Option.bind (appM 1 s10.2 [decide (t11 > 0)]) fun out12 =>
 some (Sum.inr ((iadd .i64 s10.1 1, out12)))
 else
 some (Sum.inl s10.2)

theorem proof_search_model_l1f_le {k_ : Nat} {s_0_values : (List Int)} {s10 : Int × (List Bool)} : Le (proof_search_model_l1f k_ s_0_values s10) (proof_search_model_l1 s_0_values s10) := by
  unfold proof_search_model_l1f proof_search_model_l1
  repeat' with_reducible (first | exact Le.refl _ | refine Le.meet ?_ ?_ | refine Le.bind ?_ (Le.sumKK (fun _ => ?_) fun _ => ?_) | refine Le.bind ?_ (Le.sumK fun _ => ?_) | refine Le.bind ?_ (fun _ => ?_) | refine Le.cond ?_ ?_ | refine Le.letM (fun _ => ?_) | refine Le.join (fun _ => ?_) (fun _ _ hj => ?_) | exact hj _)

def proof_search_model_f (k_ : Nat) (s_0_values : (List Int)) (s_0_clauses : (List (List Int))) (s_0_known : (List (ByteArray × Int))) (s_0_steps : (List T_api_Step)) (s_0_nodes : Int) (s_0_stop : Bool) : Option ((List Bool)) :=
 Option.bind (loopF k_ ((proof_search_model_l1f k_) s_0_values) ((0, []))) fun q13 : (List Bool) =>
 some q13

theorem proof_search_model_f_le {k_ : Nat} {s_0_values : (List Int)} {s_0_clauses : (List (List Int))} {s_0_known : (List (ByteArray × Int))} {s_0_steps : (List T_api_Step)} {s_0_nodes : Int} {s_0_stop : Bool} : Le (proof_search_model_f k_ s_0_values s_0_clauses s_0_known s_0_steps s_0_nodes s_0_stop) (proof_search_model_m s_0_values s_0_clauses s_0_known s_0_steps s_0_nodes s_0_stop) := by
  unfold proof_search_model_f proof_search_model_m
  repeat' with_reducible (first | exact Le.refl _ | refine Le.loop (fun _ => proof_search_model_l1f_le) | refine Le.meet ?_ ?_ | refine Le.bind ?_ (Le.sumKK (fun _ => ?_) fun _ => ?_) | refine Le.bind ?_ (Le.sumK fun _ => ?_) | refine Le.bind ?_ (fun _ => ?_) | refine Le.cond ?_ ?_ | refine Le.letM (fun _ => ?_) | refine Le.join (fun _ => ?_) (fun _ _ hj => ?_) | exact hj _)

def slices_Clone_int_int_f (k_ : Nat) (d_0 : List (List Int)) : Option (List (List Int)) := appM 24 [] d_0

theorem slices_Clone_int_int_f_le {k_ : Nat} {d_0 : List (List Int)} : Le (slices_Clone_int_int_f k_ d_0) (slices_Clone_int_int_m d_0) := by
  unfold slices_Clone_int_int_f slices_Clone_int_int_m
  repeat' with_reducible (first | exact Le.refl _ | refine Le.meet ?_ ?_ | refine Le.bind ?_ (Le.sumKK (fun _ => ?_) fun _ => ?_) | refine Le.bind ?_ (Le.sumK fun _ => ?_) | refine Le.bind ?_ (fun _ => ?_) | refine Le.cond ?_ ?_ | refine Le.letM (fun _ => ?_) | refine Le.join (fun _ => ?_) (fun _ _ hj => ?_) | exact hj _)

def proof_Solve_s1_f (k_ : Nat) (n_0 : Int) (l_1 : (List (List Int))) : Option (T_api_Answer × Int) :=
 Option.bind ((proof_Validate_s1_f k_) n_0 l_1) fun e2 =>
 bif (e2 : Int) != 0 then
 some (((T_api_Answer.mk false [] []), e2))
 else
 Option.bind (loopF k_ ((proof_Solve_s1_l1f k_) l_1) 0) (sumK (fun a : T_api_Answer × Int => some a) fun q15 : Unit =>
 joinM (fun j27 : (List Int) × (List (List Int)) × (List (ByteArray × Int)) =>
 Option.bind ((proof_search_find_s1_f k_) j27.1 j27.2.1 j27.2.2 0 false) fun found28 =>
 bif found28.2.2.2.2.1 then
 some (((T_api_Answer.mk false [] []), 2))
 else
 bif decide (found28.1 < 0) then
 Option.bind ((proof_search_model_f k_) found28.2.1 found28.2.2.2.2.2.1 found28.2.2.1 found28.2.2.2.2.2.2 found28.2.2.2.1 found28.2.2.2.2.1) fun t30 =>
 some (((T_api_Answer.mk true t30 []), 0))
 else
 some (((T_api_Answer.mk false [] found28.2.2.2.2.2.2), 0))) fun k26 =>
 meetF (
 Option.bind (mkM 8 0 n_0) fun t31 =>
 meetF (
 Option.bind ((slices_Clone_int_int_f k_) l_1) fun t32 =>
 k26 ((t31, t32, []))) (
 Option.bind ((slices_Clone_int_int_f k_) l_1) fun t33 =>
 k26 ((t31, t33, [])))) (
 meetF (
 Option.bind ((slices_Clone_int_int_f k_) l_1) fun t34 =>
 meetF (
 Option.bind (mkM 8 0 n_0) fun t35 =>
 k26 ((t35, t34, []))) (
 Option.bind (mkM 8 0 n_0) fun t36 =>
 k26 ((t36, t34, [])))) (
 meetF (
 Option.bind (mkM 8 0 n_0) fun t37 =>
 Option.bind ((slices_Clone_int_int_f k_) l_1) fun t38 =>
 k26 ((t37, t38, []))) (
 Option.bind ((slices_Clone_int_int_f k_) l_1) fun t39 =>
 Option.bind (mkM 8 0 n_0) fun t40 =>
 k26 ((t40, t39, []))))))

theorem proof_Solve_s1_f_le {k_ : Nat} {n_0 : Int} {l_1 : (List (List Int))} : Le (proof_Solve_s1_f k_ n_0 l_1) (proof_Solve_s1_m n_0 l_1) := by
  unfold proof_Solve_s1_f proof_Solve_s1_m
  repeat' with_reducible (first | exact Le.refl _ | refine proof_Validate_s1_f_le | refine proof_search_find_s1_f_le | refine proof_search_model_f_le | refine slices_Clone_int_int_f_le | refine Le.loop (fun _ => proof_Solve_s1_l1f_le) | refine Le.meet ?_ ?_ | refine Le.bind ?_ (Le.sumKK (fun _ => ?_) fun _ => ?_) | refine Le.bind ?_ (Le.sumK fun _ => ?_) | refine Le.bind ?_ (fun _ => ?_) | refine Le.cond ?_ ?_ | refine Le.letM (fun _ => ?_) | refine Le.join (fun _ => ?_) (fun _ _ hj => ?_) | exact hj _)

def verdict_labels_l1f (k_ : Nat) (n_0 : Int) (model_1 : (List Bool)) (s19 : Int × (List Int)) : Option (Sum ((List Int)) (Int × (List Int))) :=
 bif decide (s19.1 < n_0) then
 Option.bind (idxM model_1 s19.1) fun t20 =>
 bif t20 then
 Option.bind (appM 8 s19.2 [1]) fun out21 =>
 some (Sum.inr ((iadd .i64 s19.1 1, out21)))
 else
 Option.bind (idxM model_1 (iadd .i64 n_0 s19.1)) fun t22 =>
 bif t22 then
 Option.bind (appM 8 s19.2 [2]) fun out23 =>
 some (Sum.inr ((iadd .i64 s19.1 1, out23)))
 else
 Option.bind (appM 8 s19.2 [3]) fun out24 =>
 some (Sum.inr ((iadd .i64 s19.1 1, out24)))
 else
 some (Sum.inl s19.2)

theorem verdict_labels_l1f_le {k_ : Nat} {n_0 : Int} {model_1 : (List Bool)} {s19 : Int × (List Int)} : Le (verdict_labels_l1f k_ n_0 model_1 s19) (verdict_labels_l1 n_0 model_1 s19) := by
  unfold verdict_labels_l1f verdict_labels_l1
  repeat' with_reducible (first | exact Le.refl _ | refine Le.meet ?_ ?_ | refine Le.bind ?_ (Le.sumKK (fun _ => ?_) fun _ => ?_) | refine Le.bind ?_ (Le.sumK fun _ => ?_) | refine Le.bind ?_ (fun _ => ?_) | refine Le.cond ?_ ?_ | refine Le.letM (fun _ => ?_) | refine Le.join (fun _ => ?_) (fun _ _ hj => ?_) | exact hj _)

def verdict_labels_f (k_ : Nat) (n_0 : Int) (model_1 : (List Bool)) : Option ((List Int)) :=
 Option.bind (loopF k_ ((verdict_labels_l1f k_) n_0 model_1) ((0, []))) fun q25 : (List Int) =>
 some q25

theorem verdict_labels_f_le {k_ : Nat} {n_0 : Int} {model_1 : (List Bool)} : Le (verdict_labels_f k_ n_0 model_1) (verdict_labels_m n_0 model_1) := by
  unfold verdict_labels_f verdict_labels_m
  repeat' with_reducible (first | exact Le.refl _ | refine Le.loop (fun _ => verdict_labels_l1f_le) | refine Le.meet ?_ ?_ | refine Le.bind ?_ (Le.sumKK (fun _ => ?_) fun _ => ?_) | refine Le.bind ?_ (Le.sumK fun _ => ?_) | refine Le.bind ?_ (fun _ => ?_) | refine Le.cond ?_ ?_ | refine Le.letM (fun _ => ?_) | refine Le.join (fun _ => ?_) (fun _ _ hj => ?_) | exact hj _)

def verdict_Decide_f (k_ : Nat) (g_0 : T_api_Graph) (question_1 : Int) (n_2 : Int) : Option (T_api_Verdict × Int) :=
 Option.bind ((verdict_asked_f k_) g_0 n_2) fun e2 =>
 bif (e2 : Int) != 0 then
 some (((T_api_Verdict.mk false [] [] []), e2))
 else
 bif (question_1 : Int) == 4 then
 Option.bind ((grounded_Label_f k_) g_0) fun l6 =>
 Option.bind (idxM l6 n_2) fun t7 =>
 Option.bind ((grounded_Ranks_f k_) g_0) fun t8 =>
 some (((T_api_Verdict.mk ((t7 : Int) == 1) l6 t8 []), 0))
 else
 Option.bind ((verdict_Encode_f k_) g_0 question_1 n_2) fun t9 =>
 bif (t9.2.1 : Int) != 0 then
 some (((T_api_Verdict.mk false [] [] []), t9.2.1))
 else
 Option.bind ((proof_Solve_s1_f k_) t9.1 t9.2.2) fun t10 =>
 bif (t10.2 : Int) != 0 then
 some (((T_api_Verdict.mk false [] [] []), 2))
 else
 bif t10.1.Sat then
 Option.bind ((verdict_labels_f k_) g_0.N t10.1.Model) fun t12 =>
 some (((T_api_Verdict.mk ((question_1 : Int) != 3) t12 [] []), 0))
 else
 some (((T_api_Verdict.mk ((question_1 : Int) == 3) [] [] t10.1.Steps), 0))

theorem verdict_Decide_f_le {k_ : Nat} {g_0 : T_api_Graph} {question_1 : Int} {n_2 : Int} : Le (verdict_Decide_f k_ g_0 question_1 n_2) (verdict_Decide_m g_0 question_1 n_2) := by
  unfold verdict_Decide_f verdict_Decide_m
  repeat' with_reducible (first | exact Le.refl _ | refine verdict_asked_f_le | refine grounded_Label_f_le | refine grounded_Ranks_f_le | refine verdict_Encode_f_le | refine proof_Solve_s1_f_le | refine verdict_labels_f_le | refine Le.meet ?_ ?_ | refine Le.bind ?_ (Le.sumKK (fun _ => ?_) fun _ => ?_) | refine Le.bind ?_ (Le.sumK fun _ => ?_) | refine Le.bind ?_ (fun _ => ?_) | refine Le.cond ?_ ?_ | refine Le.letM (fun _ => ?_) | refine Le.join (fun _ => ?_) (fun _ _ hj => ?_) | exact hj _)

def keep_Ints_l1f (k_ : Nat) (a_0 : (List Int)) (b_1 : (List Int)) (s7 : Int) : Option (Sum (Sum (Bool) (Unit)) (Int)) :=
 bif decide (s7 < ((a_0.length : Int))) then
 Option.bind (idxM a_0 s7) fun t8 =>
 Option.bind (idxM b_1 s7) fun t9 =>
 bif (t8 : Int) != t9 then
 some (Sum.inl (Sum.inl false))
 else
 some (Sum.inr (iadd .i64 s7 1))
 else
 some (Sum.inl (Sum.inr (())))

theorem keep_Ints_l1f_le {k_ : Nat} {a_0 : (List Int)} {b_1 : (List Int)} {s7 : Int} : Le (keep_Ints_l1f k_ a_0 b_1 s7) (keep_Ints_l1 a_0 b_1 s7) := by
  unfold keep_Ints_l1f keep_Ints_l1
  repeat' with_reducible (first | exact Le.refl _ | refine Le.meet ?_ ?_ | refine Le.bind ?_ (Le.sumKK (fun _ => ?_) fun _ => ?_) | refine Le.bind ?_ (Le.sumK fun _ => ?_) | refine Le.bind ?_ (fun _ => ?_) | refine Le.cond ?_ ?_ | refine Le.letM (fun _ => ?_) | refine Le.join (fun _ => ?_) (fun _ _ hj => ?_) | exact hj _)

def keep_Ints_f (k_ : Nat) (a_0 : (List Int)) (b_1 : (List Int)) : Option (Bool) :=
 bif ((a_0.length : Int) : Int) != ((b_1.length : Int)) then
 some false
 else
 Option.bind (loopF k_ ((keep_Ints_l1f k_) a_0 b_1) 0) (sumK (fun a : Bool => some a) fun q10 : Unit =>
 some true)

theorem keep_Ints_f_le {k_ : Nat} {a_0 : (List Int)} {b_1 : (List Int)} : Le (keep_Ints_f k_ a_0 b_1) (keep_Ints_m a_0 b_1) := by
  unfold keep_Ints_f keep_Ints_m
  repeat' with_reducible (first | exact Le.refl _ | refine Le.loop (fun _ => keep_Ints_l1f_le) | refine Le.meet ?_ ?_ | refine Le.bind ?_ (Le.sumKK (fun _ => ?_) fun _ => ?_) | refine Le.bind ?_ (Le.sumK fun _ => ?_) | refine Le.bind ?_ (fun _ => ?_) | refine Le.cond ?_ ?_ | refine Le.letM (fun _ => ?_) | refine Le.join (fun _ => ?_) (fun _ _ hj => ?_) | exact hj _)

def labelling_Valid_1_f (k_ : Nat) (x_0 : Int) : Option (Bool) :=
 bif (x_0 : Int) != 1 then
 bif (x_0 : Int) != 2 then
 some ((x_0 : Int) != 3)
 else
 some false
 else
 some false

theorem labelling_Valid_1_f_le {k_ : Nat} {x_0 : Int} : Le (labelling_Valid_1_f k_ x_0) (labelling_Valid_1_m x_0) := by
  unfold labelling_Valid_1_f labelling_Valid_1_m
  repeat' with_reducible (first | exact Le.refl _ | refine Le.meet ?_ ?_ | refine Le.bind ?_ (Le.sumKK (fun _ => ?_) fun _ => ?_) | refine Le.bind ?_ (Le.sumK fun _ => ?_) | refine Le.bind ?_ (fun _ => ?_) | refine Le.cond ?_ ?_ | refine Le.letM (fun _ => ?_) | refine Le.join (fun _ => ?_) (fun _ _ hj => ?_) | exact hj _)

def slices_IndexFunc_int_int_l1f (k_ : Nat) (s_0 : (List Int)) (s7 : Int) : Option (Sum (Sum (Int) (Unit)) (Int)) :=
 bif decide (s7 < ((s_0.length : Int))) then
 Option.bind (idxM s_0 s7) fun t8 =>
 Option.bind ((labelling_Valid_1_f k_) t8) fun t9 =>
 bif t9 then
 some (Sum.inl (Sum.inl s7))
 else
 some (Sum.inr (iadd .i64 s7 1))
 else
 some (Sum.inl (Sum.inr (())))

theorem slices_IndexFunc_int_int_l1f_le {k_ : Nat} {s_0 : (List Int)} {s7 : Int} : Le (slices_IndexFunc_int_int_l1f k_ s_0 s7) (slices_IndexFunc_int_int_l1 s_0 s7) := by
  unfold slices_IndexFunc_int_int_l1f slices_IndexFunc_int_int_l1
  repeat' with_reducible (first | exact Le.refl _ | refine labelling_Valid_1_f_le | refine Le.meet ?_ ?_ | refine Le.bind ?_ (Le.sumKK (fun _ => ?_) fun _ => ?_) | refine Le.bind ?_ (Le.sumK fun _ => ?_) | refine Le.bind ?_ (fun _ => ?_) | refine Le.cond ?_ ?_ | refine Le.letM (fun _ => ?_) | refine Le.join (fun _ => ?_) (fun _ _ hj => ?_) | exact hj _)

def slices_IndexFunc_int_int_f (k_ : Nat) (s_0 : (List Int)) : Option (Int) :=
 Option.bind (loopF k_ ((slices_IndexFunc_int_int_l1f k_) s_0) 0) (sumK (fun a : Int => some a) fun q10 : Unit =>
 some ((-1)))

theorem slices_IndexFunc_int_int_f_le {k_ : Nat} {s_0 : (List Int)} : Le (slices_IndexFunc_int_int_f k_ s_0) (slices_IndexFunc_int_int_m s_0) := by
  unfold slices_IndexFunc_int_int_f slices_IndexFunc_int_int_m
  repeat' with_reducible (first | exact Le.refl _ | refine Le.loop (fun _ => slices_IndexFunc_int_int_l1f_le) | refine Le.meet ?_ ?_ | refine Le.bind ?_ (Le.sumKK (fun _ => ?_) fun _ => ?_) | refine Le.bind ?_ (Le.sumK fun _ => ?_) | refine Le.bind ?_ (fun _ => ?_) | refine Le.cond ?_ ?_ | refine Le.letM (fun _ => ?_) | refine Le.join (fun _ => ?_) (fun _ _ hj => ?_) | exact hj _)

def slices_ContainsFunc_int_int_f (k_ : Nat) (s_0 : (List Int)) : Option (Bool) :=
 Option.bind ((slices_IndexFunc_int_int_f k_) s_0) fun t1 =>
 some (decide (t1 ≥ 0))

theorem slices_ContainsFunc_int_int_f_le {k_ : Nat} {s_0 : (List Int)} : Le (slices_ContainsFunc_int_int_f k_ s_0) (slices_ContainsFunc_int_int_m s_0) := by
  unfold slices_ContainsFunc_int_int_f slices_ContainsFunc_int_int_m
  repeat' with_reducible (first | exact Le.refl _ | refine slices_IndexFunc_int_int_f_le | refine Le.meet ?_ ?_ | refine Le.bind ?_ (Le.sumKK (fun _ => ?_) fun _ => ?_) | refine Le.bind ?_ (Le.sumK fun _ => ?_) | refine Le.bind ?_ (fun _ => ?_) | refine Le.cond ?_ ?_ | refine Le.letM (fun _ => ?_) | refine Le.join (fun _ => ?_) (fun _ _ hj => ?_) | exact hj _)

def labelling_Valid_f (k_ : Nat) (g_0 : T_api_Graph) (l_1 : (List Int)) : Option (Bool) :=
 bif ((l_1.length : Int) : Int) == g_0.N then
 Option.bind ((slices_ContainsFunc_int_int_f k_) l_1) fun t1 =>
 some (!t1)
 else
 some false

theorem labelling_Valid_f_le {k_ : Nat} {g_0 : T_api_Graph} {l_1 : (List Int)} : Le (labelling_Valid_f k_ g_0 l_1) (labelling_Valid_m g_0 l_1) := by
  unfold labelling_Valid_f labelling_Valid_m
  repeat' with_reducible (first | exact Le.refl _ | refine slices_ContainsFunc_int_int_f_le | refine Le.meet ?_ ?_ | refine Le.bind ?_ (Le.sumKK (fun _ => ?_) fun _ => ?_) | refine Le.bind ?_ (Le.sumK fun _ => ?_) | refine Le.bind ?_ (fun _ => ?_) | refine Le.cond ?_ ?_ | refine Le.letM (fun _ => ?_) | refine Le.join (fun _ => ?_) (fun _ _ hj => ?_) | exact hj _)

def labelling_legal_l1f (k_ : Nat) (l_1 : (List Int)) (attackers1 : ((List Int))) (s16 : Int × Int × Int × Int × Int) : Option (Sum (Int × Int × Int × Int) (Int × Int × Int × Int × Int)) :=
 bif decide (s16.1 < ((attackers1.length : Int))) then
 Option.bind (idxM attackers1 s16.1) fun t17 =>
 Option.bind (idxM l_1 t17) fun t18 =>
 bif (t18 : Int) == 0 then
 bif (t18 : Int) == 0 then
 some (Sum.inr ((iadd .i64 s16.1 1, iadd .i64 s16.2.1 1, s16.2.2.1, s16.2.2.2.1, s16.2.2.2.2)))
 else
 bif (t18 : Int) == 1 then
 some (Sum.inr ((iadd .i64 s16.1 1, s16.2.1, iadd .i64 s16.2.1 1, s16.2.2.2.1, s16.2.2.2.2)))
 else
 bif (t18 : Int) == 2 then
 some (Sum.inr ((iadd .i64 s16.1 1, s16.2.1, s16.2.2.1, iadd .i64 s16.2.1 1, s16.2.2.2.2)))
 else
 bif (t18 : Int) == 3 then
 some (Sum.inr ((iadd .i64 s16.1 1, s16.2.1, s16.2.2.1, s16.2.2.2.1, iadd .i64 s16.2.1 1)))
 else
 none
 else
 bif (t18 : Int) == 1 then
 bif (t18 : Int) == 0 then
 some (Sum.inr ((iadd .i64 s16.1 1, iadd .i64 s16.2.2.1 1, s16.2.2.1, s16.2.2.2.1, s16.2.2.2.2)))
 else
 bif (t18 : Int) == 1 then
 some (Sum.inr ((iadd .i64 s16.1 1, s16.2.1, iadd .i64 s16.2.2.1 1, s16.2.2.2.1, s16.2.2.2.2)))
 else
 bif (t18 : Int) == 2 then
 some (Sum.inr ((iadd .i64 s16.1 1, s16.2.1, s16.2.2.1, iadd .i64 s16.2.2.1 1, s16.2.2.2.2)))
 else
 bif (t18 : Int) == 3 then
 some (Sum.inr ((iadd .i64 s16.1 1, s16.2.1, s16.2.2.1, s16.2.2.2.1, iadd .i64 s16.2.2.1 1)))
 else
 none
 else
 bif (t18 : Int) == 2 then
 bif (t18 : Int) == 0 then
 some (Sum.inr ((iadd .i64 s16.1 1, iadd .i64 s16.2.2.2.1 1, s16.2.2.1, s16.2.2.2.1, s16.2.2.2.2)))
 else
 bif (t18 : Int) == 1 then
 some (Sum.inr ((iadd .i64 s16.1 1, s16.2.1, iadd .i64 s16.2.2.2.1 1, s16.2.2.2.1, s16.2.2.2.2)))
 else
 bif (t18 : Int) == 2 then
 some (Sum.inr ((iadd .i64 s16.1 1, s16.2.1, s16.2.2.1, iadd .i64 s16.2.2.2.1 1, s16.2.2.2.2)))
 else
 bif (t18 : Int) == 3 then
 some (Sum.inr ((iadd .i64 s16.1 1, s16.2.1, s16.2.2.1, s16.2.2.2.1, iadd .i64 s16.2.2.2.1 1)))
 else
 none
 else
 bif (t18 : Int) == 3 then
 bif (t18 : Int) == 0 then
 some (Sum.inr ((iadd .i64 s16.1 1, iadd .i64 s16.2.2.2.2 1, s16.2.2.1, s16.2.2.2.1, s16.2.2.2.2)))
 else
 bif (t18 : Int) == 1 then
 some (Sum.inr ((iadd .i64 s16.1 1, s16.2.1, iadd .i64 s16.2.2.2.2 1, s16.2.2.2.1, s16.2.2.2.2)))
 else
 bif (t18 : Int) == 2 then
 some (Sum.inr ((iadd .i64 s16.1 1, s16.2.1, s16.2.2.1, iadd .i64 s16.2.2.2.2 1, s16.2.2.2.2)))
 else
 bif (t18 : Int) == 3 then
 some (Sum.inr ((iadd .i64 s16.1 1, s16.2.1, s16.2.2.1, s16.2.2.2.1, iadd .i64 s16.2.2.2.2 1)))
 else
 none
 else
 none
 else
 some (Sum.inl ((s16.2.1, s16.2.2.1, s16.2.2.2.1, s16.2.2.2.2)))

theorem labelling_legal_l1f_le {k_ : Nat} {l_1 : (List Int)} {attackers1 : ((List Int))} {s16 : Int × Int × Int × Int × Int} : Le (labelling_legal_l1f k_ l_1 attackers1 s16) (labelling_legal_l1 l_1 attackers1 s16) := by
  unfold labelling_legal_l1f labelling_legal_l1
  repeat' with_reducible (first | exact Le.refl _ | refine Le.meet ?_ ?_ | refine Le.bind ?_ (Le.sumKK (fun _ => ?_) fun _ => ?_) | refine Le.bind ?_ (Le.sumK fun _ => ?_) | refine Le.bind ?_ (fun _ => ?_) | refine Le.cond ?_ ?_ | refine Le.letM (fun _ => ?_) | refine Le.join (fun _ => ?_) (fun _ _ hj => ?_) | exact hj _)

def labelling_legal_f (k_ : Nat) (g_0 : T_api_Graph) (l_1 : (List Int)) (i_2 : Int) : Option (Bool) :=
 Option.bind ((graph_Attackers_f k_) g_0 i_2) fun attackers1 =>
 Option.bind (loopF k_ ((labelling_legal_l1f k_) l_1 attackers1) ((0, 0, 0, 0, 0))) fun q19 : Int × Int × Int × Int =>
 Option.bind (idxM l_1 i_2) fun t21 =>
 bif (t21 : Int) == 1 then
 some ((q19.2.2.1 : Int) == ((attackers1.length : Int)))
 else
 bif (t21 : Int) == 2 then
 some (decide (q19.2.1 > 0))
 else
 bif decide (q19.2.2.1 < ((attackers1.length : Int))) then
 some ((q19.2.1 : Int) == 0)
 else
 some false

theorem labelling_legal_f_le {k_ : Nat} {g_0 : T_api_Graph} {l_1 : (List Int)} {i_2 : Int} : Le (labelling_legal_f k_ g_0 l_1 i_2) (labelling_legal_m g_0 l_1 i_2) := by
  unfold labelling_legal_f labelling_legal_m
  repeat' with_reducible (first | exact Le.refl _ | refine graph_Attackers_f_le | refine Le.loop (fun _ => labelling_legal_l1f_le) | refine Le.meet ?_ ?_ | refine Le.bind ?_ (Le.sumKK (fun _ => ?_) fun _ => ?_) | refine Le.bind ?_ (Le.sumK fun _ => ?_) | refine Le.bind ?_ (fun _ => ?_) | refine Le.cond ?_ ?_ | refine Le.letM (fun _ => ?_) | refine Le.join (fun _ => ?_) (fun _ _ hj => ?_) | exact hj _)

def labelling_Illegal_l1f (k_ : Nat) (g_0 : T_api_Graph) (l_1 : (List Int)) (s12 : Int × (List Int)) : Option (Sum ((List Int)) (Int × (List Int))) :=
 bif decide (s12.1 < ((l_1.length : Int))) then
 Option.bind ((labelling_legal_f k_) g_0 l_1 s12.1) fun t13 =>
 bif !t13 then
 Option.bind (appM 8 s12.2 [s12.1]) fun out14 =>
 some (Sum.inr ((iadd .i64 s12.1 1, out14)))
 else
 some (Sum.inr ((iadd .i64 s12.1 1, s12.2)))
 else
 some (Sum.inl s12.2)

theorem labelling_Illegal_l1f_le {k_ : Nat} {g_0 : T_api_Graph} {l_1 : (List Int)} {s12 : Int × (List Int)} : Le (labelling_Illegal_l1f k_ g_0 l_1 s12) (labelling_Illegal_l1 g_0 l_1 s12) := by
  unfold labelling_Illegal_l1f labelling_Illegal_l1
  repeat' with_reducible (first | exact Le.refl _ | refine labelling_legal_f_le | refine Le.meet ?_ ?_ | refine Le.bind ?_ (Le.sumKK (fun _ => ?_) fun _ => ?_) | refine Le.bind ?_ (Le.sumK fun _ => ?_) | refine Le.bind ?_ (fun _ => ?_) | refine Le.cond ?_ ?_ | refine Le.letM (fun _ => ?_) | refine Le.join (fun _ => ?_) (fun _ _ hj => ?_) | exact hj _)

def labelling_Illegal_f (k_ : Nat) (g_0 : T_api_Graph) (l_1 : (List Int)) : Option ((List Int)) :=
 Option.bind ((labelling_Valid_f k_) g_0 l_1) fun t2 =>
 bif !t2 then
 some []
 else
 Option.bind (loopF k_ ((labelling_Illegal_l1f k_) g_0 l_1) ((0, []))) fun q15 : (List Int) =>
 some q15

theorem labelling_Illegal_f_le {k_ : Nat} {g_0 : T_api_Graph} {l_1 : (List Int)} : Le (labelling_Illegal_f k_ g_0 l_1) (labelling_Illegal_m g_0 l_1) := by
  unfold labelling_Illegal_f labelling_Illegal_m
  repeat' with_reducible (first | exact Le.refl _ | refine labelling_Valid_f_le | refine Le.loop (fun _ => labelling_Illegal_l1f_le) | refine Le.meet ?_ ?_ | refine Le.bind ?_ (Le.sumKK (fun _ => ?_) fun _ => ?_) | refine Le.bind ?_ (Le.sumK fun _ => ?_) | refine Le.bind ?_ (fun _ => ?_) | refine Le.cond ?_ ?_ | refine Le.letM (fun _ => ?_) | refine Le.join (fun _ => ?_) (fun _ _ hj => ?_) | exact hj _)

def labelling_IsComplete_f (k_ : Nat) (g_0 : T_api_Graph) (l_1 : (List Int)) : Option (Bool) :=
 Option.bind ((labelling_Valid_f k_) g_0 l_1) fun t1 =>
 bif t1 then
 Option.bind ((labelling_Illegal_f k_) g_0 l_1) fun t2 =>
 some (((t2.length : Int) : Int) == 0)
 else
 some false

theorem labelling_IsComplete_f_le {k_ : Nat} {g_0 : T_api_Graph} {l_1 : (List Int)} : Le (labelling_IsComplete_f k_ g_0 l_1) (labelling_IsComplete_m g_0 l_1) := by
  unfold labelling_IsComplete_f labelling_IsComplete_m
  repeat' with_reducible (first | exact Le.refl _ | refine labelling_Valid_f_le | refine labelling_Illegal_f_le | refine Le.meet ?_ ?_ | refine Le.bind ?_ (Le.sumKK (fun _ => ?_) fun _ => ?_) | refine Le.bind ?_ (Le.sumK fun _ => ?_) | refine Le.bind ?_ (fun _ => ?_) | refine Le.cond ?_ ?_ | refine Le.letM (fun _ => ?_) | refine Le.join (fun _ => ?_) (fun _ _ hj => ?_) | exact hj _)

def grounded_proved_1_f (k_ : Nat) (k_0 : Int) (p_1_0 : (List Int)) (p_2_0 : Int) : Option (Bool) :=
 Option.bind (idxM p_1_0 k_0) fun t1 =>
 Option.bind (idxM p_1_0 p_2_0) fun t2 =>
 some (decide (t1 ≥ t2))

theorem grounded_proved_1_f_le {k_ : Nat} {k_0 : Int} {p_1_0 : (List Int)} {p_2_0 : Int} : Le (grounded_proved_1_f k_ k_0 p_1_0 p_2_0) (grounded_proved_1_m k_0 p_1_0 p_2_0) := by
  unfold grounded_proved_1_f grounded_proved_1_m
  repeat' with_reducible (first | exact Le.refl _ | refine Le.meet ?_ ?_ | refine Le.bind ?_ (Le.sumKK (fun _ => ?_) fun _ => ?_) | refine Le.bind ?_ (Le.sumK fun _ => ?_) | refine Le.bind ?_ (fun _ => ?_) | refine Le.cond ?_ ?_ | refine Le.letM (fun _ => ?_) | refine Le.join (fun _ => ?_) (fun _ _ hj => ?_) | exact hj _)

def slices_IndexFunc_int_int_s1_l1f (k_ : Nat) (s_0 : (List Int)) (f_1_0_0 : (List Int)) (f_1_1_0 : Int) (s7 : Int) : Option (Sum (Sum (Int) (Unit)) (Int)) :=
 bif decide (s7 < ((s_0.length : Int))) then
 Option.bind (idxM s_0 s7) fun t8 =>
 Option.bind ((grounded_proved_1_f k_) t8 f_1_0_0 f_1_1_0) fun t9 =>
 bif t9 then
 some (Sum.inl (Sum.inl s7))
 else
 some (Sum.inr (iadd .i64 s7 1))
 else
 some (Sum.inl (Sum.inr (())))

theorem slices_IndexFunc_int_int_s1_l1f_le {k_ : Nat} {s_0 : (List Int)} {f_1_0_0 : (List Int)} {f_1_1_0 : Int} {s7 : Int} : Le (slices_IndexFunc_int_int_s1_l1f k_ s_0 f_1_0_0 f_1_1_0 s7) (slices_IndexFunc_int_int_s1_l1 s_0 f_1_0_0 f_1_1_0 s7) := by
  unfold slices_IndexFunc_int_int_s1_l1f slices_IndexFunc_int_int_s1_l1
  repeat' with_reducible (first | exact Le.refl _ | refine grounded_proved_1_f_le | refine Le.meet ?_ ?_ | refine Le.bind ?_ (Le.sumKK (fun _ => ?_) fun _ => ?_) | refine Le.bind ?_ (Le.sumK fun _ => ?_) | refine Le.bind ?_ (fun _ => ?_) | refine Le.cond ?_ ?_ | refine Le.letM (fun _ => ?_) | refine Le.join (fun _ => ?_) (fun _ _ hj => ?_) | exact hj _)

def slices_IndexFunc_int_int_s1_f (k_ : Nat) (s_0 : (List Int)) (f_1_0_0 : (List Int)) (f_1_1_0 : Int) : Option (Int) :=
 Option.bind (loopF k_ ((slices_IndexFunc_int_int_s1_l1f k_) s_0 f_1_0_0 f_1_1_0) 0) (sumK (fun a : Int => some a) fun q10 : Unit =>
 some ((-1)))

theorem slices_IndexFunc_int_int_s1_f_le {k_ : Nat} {s_0 : (List Int)} {f_1_0_0 : (List Int)} {f_1_1_0 : Int} : Le (slices_IndexFunc_int_int_s1_f k_ s_0 f_1_0_0 f_1_1_0) (slices_IndexFunc_int_int_s1_m s_0 f_1_0_0 f_1_1_0) := by
  unfold slices_IndexFunc_int_int_s1_f slices_IndexFunc_int_int_s1_m
  repeat' with_reducible (first | exact Le.refl _ | refine Le.loop (fun _ => slices_IndexFunc_int_int_s1_l1f_le) | refine Le.meet ?_ ?_ | refine Le.bind ?_ (Le.sumKK (fun _ => ?_) fun _ => ?_) | refine Le.bind ?_ (Le.sumK fun _ => ?_) | refine Le.bind ?_ (fun _ => ?_) | refine Le.cond ?_ ?_ | refine Le.letM (fun _ => ?_) | refine Le.join (fun _ => ?_) (fun _ _ hj => ?_) | exact hj _)

def slices_ContainsFunc_int_int_s1_f (k_ : Nat) (s_0 : (List Int)) (f_1_0_0 : (List Int)) (f_1_1_0 : Int) : Option (Bool) :=
 Option.bind ((slices_IndexFunc_int_int_s1_f k_) s_0 f_1_0_0 f_1_1_0) fun t1 =>
 some (decide (t1 ≥ 0))

theorem slices_ContainsFunc_int_int_s1_f_le {k_ : Nat} {s_0 : (List Int)} {f_1_0_0 : (List Int)} {f_1_1_0 : Int} : Le (slices_ContainsFunc_int_int_s1_f k_ s_0 f_1_0_0 f_1_1_0) (slices_ContainsFunc_int_int_s1_m s_0 f_1_0_0 f_1_1_0) := by
  unfold slices_ContainsFunc_int_int_s1_f slices_ContainsFunc_int_int_s1_m
  repeat' with_reducible (first | exact Le.refl _ | refine slices_IndexFunc_int_int_s1_f_le | refine Le.meet ?_ ?_ | refine Le.bind ?_ (Le.sumKK (fun _ => ?_) fun _ => ?_) | refine Le.bind ?_ (Le.sumK fun _ => ?_) | refine Le.bind ?_ (fun _ => ?_) | refine Le.cond ?_ ?_ | refine Le.letM (fun _ => ?_) | refine Le.join (fun _ => ?_) (fun _ _ hj => ?_) | exact hj _)

def grounded_proved_2_f (k_ : Nat) (k_0 : Int) (p_1_0 : (List Int)) (p_2_0 : (List Int)) (p_3_0 : Int) : Option (Bool) :=
 Option.bind (idxM p_1_0 k_0) fun t1 =>
 bif (t1 : Int) == 1 then
 Option.bind (idxM p_2_0 k_0) fun t2 =>
 bif decide (t2 ≥ 1) then
 Option.bind (idxM p_2_0 k_0) fun t3 =>
 Option.bind (idxM p_2_0 p_3_0) fun t4 =>
 some (decide (t3 ≤ t4))
 else
 some false
 else
 some false

theorem grounded_proved_2_f_le {k_ : Nat} {k_0 : Int} {p_1_0 : (List Int)} {p_2_0 : (List Int)} {p_3_0 : Int} : Le (grounded_proved_2_f k_ k_0 p_1_0 p_2_0 p_3_0) (grounded_proved_2_m k_0 p_1_0 p_2_0 p_3_0) := by
  unfold grounded_proved_2_f grounded_proved_2_m
  repeat' with_reducible (first | exact Le.refl _ | refine Le.meet ?_ ?_ | refine Le.bind ?_ (Le.sumKK (fun _ => ?_) fun _ => ?_) | refine Le.bind ?_ (Le.sumK fun _ => ?_) | refine Le.bind ?_ (fun _ => ?_) | refine Le.cond ?_ ?_ | refine Le.letM (fun _ => ?_) | refine Le.join (fun _ => ?_) (fun _ _ hj => ?_) | exact hj _)

def slices_IndexFunc_int_int_s2_l1f (k_ : Nat) (s_0 : (List Int)) (f_1_0_0 : (List Int)) (f_1_1_0 : (List Int)) (f_1_2_0 : Int) (s7 : Int) : Option (Sum (Sum (Int) (Unit)) (Int)) :=
 bif decide (s7 < ((s_0.length : Int))) then
 Option.bind (idxM s_0 s7) fun t8 =>
 Option.bind ((grounded_proved_2_f k_) t8 f_1_0_0 f_1_1_0 f_1_2_0) fun t9 =>
 bif t9 then
 some (Sum.inl (Sum.inl s7))
 else
 some (Sum.inr (iadd .i64 s7 1))
 else
 some (Sum.inl (Sum.inr (())))

theorem slices_IndexFunc_int_int_s2_l1f_le {k_ : Nat} {s_0 : (List Int)} {f_1_0_0 : (List Int)} {f_1_1_0 : (List Int)} {f_1_2_0 : Int} {s7 : Int} : Le (slices_IndexFunc_int_int_s2_l1f k_ s_0 f_1_0_0 f_1_1_0 f_1_2_0 s7) (slices_IndexFunc_int_int_s2_l1 s_0 f_1_0_0 f_1_1_0 f_1_2_0 s7) := by
  unfold slices_IndexFunc_int_int_s2_l1f slices_IndexFunc_int_int_s2_l1
  repeat' with_reducible (first | exact Le.refl _ | refine grounded_proved_2_f_le | refine Le.meet ?_ ?_ | refine Le.bind ?_ (Le.sumKK (fun _ => ?_) fun _ => ?_) | refine Le.bind ?_ (Le.sumK fun _ => ?_) | refine Le.bind ?_ (fun _ => ?_) | refine Le.cond ?_ ?_ | refine Le.letM (fun _ => ?_) | refine Le.join (fun _ => ?_) (fun _ _ hj => ?_) | exact hj _)

def slices_IndexFunc_int_int_s2_f (k_ : Nat) (s_0 : (List Int)) (f_1_0_0 : (List Int)) (f_1_1_0 : (List Int)) (f_1_2_0 : Int) : Option (Int) :=
 Option.bind (loopF k_ ((slices_IndexFunc_int_int_s2_l1f k_) s_0 f_1_0_0 f_1_1_0 f_1_2_0) 0) (sumK (fun a : Int => some a) fun q10 : Unit =>
 some ((-1)))

theorem slices_IndexFunc_int_int_s2_f_le {k_ : Nat} {s_0 : (List Int)} {f_1_0_0 : (List Int)} {f_1_1_0 : (List Int)} {f_1_2_0 : Int} : Le (slices_IndexFunc_int_int_s2_f k_ s_0 f_1_0_0 f_1_1_0 f_1_2_0) (slices_IndexFunc_int_int_s2_m s_0 f_1_0_0 f_1_1_0 f_1_2_0) := by
  unfold slices_IndexFunc_int_int_s2_f slices_IndexFunc_int_int_s2_m
  repeat' with_reducible (first | exact Le.refl _ | refine Le.loop (fun _ => slices_IndexFunc_int_int_s2_l1f_le) | refine Le.meet ?_ ?_ | refine Le.bind ?_ (Le.sumKK (fun _ => ?_) fun _ => ?_) | refine Le.bind ?_ (Le.sumK fun _ => ?_) | refine Le.bind ?_ (fun _ => ?_) | refine Le.cond ?_ ?_ | refine Le.letM (fun _ => ?_) | refine Le.join (fun _ => ?_) (fun _ _ hj => ?_) | exact hj _)

def slices_ContainsFunc_int_int_s2_f (k_ : Nat) (s_0 : (List Int)) (f_1_0_0 : (List Int)) (f_1_1_0 : (List Int)) (f_1_2_0 : Int) : Option (Bool) :=
 Option.bind ((slices_IndexFunc_int_int_s2_f k_) s_0 f_1_0_0 f_1_1_0 f_1_2_0) fun t1 =>
 some (decide (t1 ≥ 0))

theorem slices_ContainsFunc_int_int_s2_f_le {k_ : Nat} {s_0 : (List Int)} {f_1_0_0 : (List Int)} {f_1_1_0 : (List Int)} {f_1_2_0 : Int} : Le (slices_ContainsFunc_int_int_s2_f k_ s_0 f_1_0_0 f_1_1_0 f_1_2_0) (slices_ContainsFunc_int_int_s2_m s_0 f_1_0_0 f_1_1_0 f_1_2_0) := by
  unfold slices_ContainsFunc_int_int_s2_f slices_ContainsFunc_int_int_s2_m
  repeat' with_reducible (first | exact Le.refl _ | refine slices_IndexFunc_int_int_s2_f_le | refine Le.meet ?_ ?_ | refine Le.bind ?_ (Le.sumKK (fun _ => ?_) fun _ => ?_) | refine Le.bind ?_ (Le.sumK fun _ => ?_) | refine Le.bind ?_ (fun _ => ?_) | refine Le.cond ?_ ?_ | refine Le.letM (fun _ => ?_) | refine Le.join (fun _ => ?_) (fun _ _ hj => ?_) | exact hj _)

def grounded_proved_f (k_ : Nat) (g_0 : T_api_Graph) (labels_1 : (List Int)) (ranks_2 : (List Int)) (i_3 : Int) : Option (Bool) :=
 Option.bind ((graph_Attackers_f k_) g_0 i_3) fun attackers1 =>
 Option.bind (idxM labels_1 i_3) fun t2 =>
 bif (t2 : Int) == 1 then
 Option.bind (idxM ranks_2 i_3) fun t3 =>
 bif decide (t3 ≥ 1) then
 Option.bind ((slices_ContainsFunc_int_int_s1_f k_) attackers1 ranks_2 i_3) fun t4 =>
 some (!t4)
 else
 some false
 else
 bif (t2 : Int) == 2 then
 Option.bind ((slices_ContainsFunc_int_int_s2_f k_) attackers1 labels_1 ranks_2 i_3) fun t5 =>
 some t5
 else
 some true

theorem grounded_proved_f_le {k_ : Nat} {g_0 : T_api_Graph} {labels_1 : (List Int)} {ranks_2 : (List Int)} {i_3 : Int} : Le (grounded_proved_f k_ g_0 labels_1 ranks_2 i_3) (grounded_proved_m g_0 labels_1 ranks_2 i_3) := by
  unfold grounded_proved_f grounded_proved_m
  repeat' with_reducible (first | exact Le.refl _ | refine graph_Attackers_f_le | refine slices_ContainsFunc_int_int_s1_f_le | refine slices_ContainsFunc_int_int_s2_f_le | refine Le.meet ?_ ?_ | refine Le.bind ?_ (Le.sumKK (fun _ => ?_) fun _ => ?_) | refine Le.bind ?_ (Le.sumK fun _ => ?_) | refine Le.bind ?_ (fun _ => ?_) | refine Le.cond ?_ ?_ | refine Le.letM (fun _ => ?_) | refine Le.join (fun _ => ?_) (fun _ _ hj => ?_) | exact hj _)

def grounded_Check_l1f (k_ : Nat) (g_0 : T_api_Graph) (labels_1 : (List Int)) (ranks_2 : (List Int)) (s16 : Int) : Option (Sum (Sum (Int) (Unit)) (Int)) :=
 bif decide (s16 < g_0.N) then
 Option.bind ((grounded_proved_f k_) g_0 labels_1 ranks_2 s16) fun t17 =>
 bif !t17 then
 some (Sum.inl (Sum.inl 11))
 else
 some (Sum.inr (iadd .i64 s16 1))
 else
 some (Sum.inl (Sum.inr (())))

theorem grounded_Check_l1f_le {k_ : Nat} {g_0 : T_api_Graph} {labels_1 : (List Int)} {ranks_2 : (List Int)} {s16 : Int} : Le (grounded_Check_l1f k_ g_0 labels_1 ranks_2 s16) (grounded_Check_l1 g_0 labels_1 ranks_2 s16) := by
  unfold grounded_Check_l1f grounded_Check_l1
  repeat' with_reducible (first | exact Le.refl _ | refine grounded_proved_f_le | refine Le.meet ?_ ?_ | refine Le.bind ?_ (Le.sumKK (fun _ => ?_) fun _ => ?_) | refine Le.bind ?_ (Le.sumK fun _ => ?_) | refine Le.bind ?_ (fun _ => ?_) | refine Le.cond ?_ ?_ | refine Le.letM (fun _ => ?_) | refine Le.join (fun _ => ?_) (fun _ _ hj => ?_) | exact hj _)

def grounded_Check_f (k_ : Nat) (g_0 : T_api_Graph) (labels_1 : (List Int)) (ranks_2 : (List Int)) : Option (Int) :=
 Option.bind ((graph_Validate_f k_) g_0) fun t7 =>
 bif (t7 : Int) != 0 then
 some 1
 else
 joinM (fun j10 : Bool =>
 bif j10 then
 some 4
 else
 Option.bind ((labelling_IsComplete_f k_) g_0 labels_1) fun t11 =>
 bif !t11 then
 some 7
 else
 Option.bind (loopF k_ ((grounded_Check_l1f k_) g_0 labels_1 ranks_2) 0) (sumK (fun a : Int => some a) fun q18 : Unit =>
 some 0)) fun k9 =>
 Option.bind ((labelling_Valid_f k_) g_0 labels_1) fun t19 =>
 bif !t19 then
 k9 true
 else
 k9 (((ranks_2.length : Int) : Int) != g_0.N)

theorem grounded_Check_f_le {k_ : Nat} {g_0 : T_api_Graph} {labels_1 : (List Int)} {ranks_2 : (List Int)} : Le (grounded_Check_f k_ g_0 labels_1 ranks_2) (grounded_Check_m g_0 labels_1 ranks_2) := by
  unfold grounded_Check_f grounded_Check_m
  repeat' with_reducible (first | exact Le.refl _ | refine graph_Validate_f_le | refine labelling_IsComplete_f_le | refine labelling_Valid_f_le | refine Le.loop (fun _ => grounded_Check_l1f_le) | refine Le.meet ?_ ?_ | refine Le.bind ?_ (Le.sumKK (fun _ => ?_) fun _ => ?_) | refine Le.bind ?_ (Le.sumK fun _ => ?_) | refine Le.bind ?_ (fun _ => ?_) | refine Le.cond ?_ ?_ | refine Le.letM (fun _ => ?_) | refine Le.join (fun _ => ?_) (fun _ _ hj => ?_) | exact hj _)

def verdict_ranked_f (k_ : Nat) (g_0 : T_api_Graph) (p_1 : Int) (n_2 : Int) (v_3 : T_api_Verdict) : Option (Int) :=
 bif decide (((v_3.Steps.length : Int)) > 0) then
 some 4
 else
 Option.bind ((grounded_Check_f k_) g_0 v_3.Labels v_3.Ranks) fun t1 =>
 bif (t1 : Int) != 0 then
 some 11
 else
 Option.bind (idxM v_3.Labels n_2) fun t2 =>
 bif !(v_3.Holds == ((t2 : Int) == 1)) then
 some 11
 else
 some 0

theorem verdict_ranked_f_le {k_ : Nat} {g_0 : T_api_Graph} {p_1 : Int} {n_2 : Int} {v_3 : T_api_Verdict} : Le (verdict_ranked_f k_ g_0 p_1 n_2 v_3) (verdict_ranked_m g_0 p_1 n_2 v_3) := by
  unfold verdict_ranked_f verdict_ranked_m
  repeat' with_reducible (first | exact Le.refl _ | refine grounded_Check_f_le | refine Le.meet ?_ ?_ | refine Le.bind ?_ (Le.sumKK (fun _ => ?_) fun _ => ?_) | refine Le.bind ?_ (Le.sumK fun _ => ?_) | refine Le.bind ?_ (fun _ => ?_) | refine Le.cond ?_ ?_ | refine Le.letM (fun _ => ?_) | refine Le.join (fun _ => ?_) (fun _ _ hj => ?_) | exact hj _)

def labelling_With_l1f (k_ : Nat) (l_0 : (List Int)) (label_1 : Int) (s10 : Int × (List Int)) : Option (Sum ((List Int)) (Int × (List Int))) :=
 bif decide (s10.1 < ((l_0.length : Int))) then
 Option.bind (idxM l_0 s10.1) fun t11 =>
 bif (t11 : Int) == label_1 then
 Option.bind (appM 8 s10.2 [s10.1]) fun out12 =>
 some (Sum.inr ((iadd .i64 s10.1 1, out12)))
 else
 some (Sum.inr ((iadd .i64 s10.1 1, s10.2)))
 else
 some (Sum.inl s10.2)

theorem labelling_With_l1f_le {k_ : Nat} {l_0 : (List Int)} {label_1 : Int} {s10 : Int × (List Int)} : Le (labelling_With_l1f k_ l_0 label_1 s10) (labelling_With_l1 l_0 label_1 s10) := by
  unfold labelling_With_l1f labelling_With_l1
  repeat' with_reducible (first | exact Le.refl _ | refine Le.meet ?_ ?_ | refine Le.bind ?_ (Le.sumKK (fun _ => ?_) fun _ => ?_) | refine Le.bind ?_ (Le.sumK fun _ => ?_) | refine Le.bind ?_ (fun _ => ?_) | refine Le.cond ?_ ?_ | refine Le.letM (fun _ => ?_) | refine Le.join (fun _ => ?_) (fun _ _ hj => ?_) | exact hj _)

def labelling_With_f (k_ : Nat) (l_0 : (List Int)) (label_1 : Int) : Option ((List Int)) :=
 Option.bind (loopF k_ ((labelling_With_l1f k_) l_0 label_1) ((0, []))) fun q13 : (List Int) =>
 some q13

theorem labelling_With_f_le {k_ : Nat} {l_0 : (List Int)} {label_1 : Int} : Le (labelling_With_f k_ l_0 label_1) (labelling_With_m l_0 label_1) := by
  unfold labelling_With_f labelling_With_m
  repeat' with_reducible (first | exact Le.refl _ | refine Le.loop (fun _ => labelling_With_l1f_le) | refine Le.meet ?_ ?_ | refine Le.bind ?_ (Le.sumKK (fun _ => ?_) fun _ => ?_) | refine Le.bind ?_ (Le.sumK fun _ => ?_) | refine Le.bind ?_ (fun _ => ?_) | refine Le.cond ?_ ?_ | refine Le.letM (fun _ => ?_) | refine Le.join (fun _ => ?_) (fun _ _ hj => ?_) | exact hj _)

def verdict_shown_f (k_ : Nat) (g_0 : T_api_Graph) (question_1 : Int) (n_2 : Int) (l_3 : (List Int)) : Option (Bool) :=
 joinM (fun j4 : Unit =>
 Option.bind (idxM l_3 n_2) fun t5 =>
 some (((t5 : Int) == 1) == ((question_1 : Int) != 3))) fun k3 =>
 Option.bind ((labelling_IsComplete_f k_) g_0 l_3) fun t6 =>
 bif !t6 then
 some false
 else
 bif (question_1 : Int) != 1 then
 Option.bind ((labelling_With_f k_) l_3 3) fun t7 =>
 bif decide (((t7.length : Int)) > 0) then
 some false
 else
 k3 (())
 else
 k3 (())

theorem verdict_shown_f_le {k_ : Nat} {g_0 : T_api_Graph} {question_1 : Int} {n_2 : Int} {l_3 : (List Int)} : Le (verdict_shown_f k_ g_0 question_1 n_2 l_3) (verdict_shown_m g_0 question_1 n_2 l_3) := by
  unfold verdict_shown_f verdict_shown_m
  repeat' with_reducible (first | exact Le.refl _ | refine labelling_IsComplete_f_le | refine labelling_With_f_le | refine Le.meet ?_ ?_ | refine Le.bind ?_ (Le.sumKK (fun _ => ?_) fun _ => ?_) | refine Le.bind ?_ (Le.sumK fun _ => ?_) | refine Le.bind ?_ (fun _ => ?_) | refine Le.cond ?_ ?_ | refine Le.letM (fun _ => ?_) | refine Le.join (fun _ => ?_) (fun _ _ hj => ?_) | exact hj _)

def verdict_labelled_f (k_ : Nat) (g_0 : T_api_Graph) (question_1 : Int) (n_2 : Int) (v_3 : T_api_Verdict) : Option (Int) :=
 joinM (fun j2 : Bool =>
 bif j2 then
 some 4
 else
 Option.bind ((verdict_shown_f k_) g_0 question_1 n_2 v_3.Labels) fun t3 =>
 bif !t3 then
 some 11
 else
 some 0) fun k1 =>
 bif decide (((v_3.Ranks.length : Int)) > 0) then
 k1 true
 else
 k1 (decide (((v_3.Steps.length : Int)) > 0))

theorem verdict_labelled_f_le {k_ : Nat} {g_0 : T_api_Graph} {question_1 : Int} {n_2 : Int} {v_3 : T_api_Verdict} : Le (verdict_labelled_f k_ g_0 question_1 n_2 v_3) (verdict_labelled_m g_0 question_1 n_2 v_3) := by
  unfold verdict_labelled_f verdict_labelled_m
  repeat' with_reducible (first | exact Le.refl _ | refine verdict_shown_f_le | refine Le.meet ?_ ?_ | refine Le.bind ?_ (Le.sumKK (fun _ => ?_) fun _ => ?_) | refine Le.bind ?_ (Le.sumK fun _ => ?_) | refine Le.bind ?_ (fun _ => ?_) | refine Le.cond ?_ ?_ | refine Le.letM (fun _ => ?_) | refine Le.join (fun _ => ?_) (fun _ _ hj => ?_) | exact hj _)

def proof_satisfied_1_f (k_ : Nat) (x_0 : Int) (p_1_0 : (List Bool)) : Option (Bool) :=
 Option.bind ((proof_abs_f k_) x_0) fun t1 =>
 Option.bind (idxM p_1_0 (isub .i64 t1 1)) fun t2 =>
 some (t2 == (decide (x_0 > 0)))

theorem proof_satisfied_1_f_le {k_ : Nat} {x_0 : Int} {p_1_0 : (List Bool)} : Le (proof_satisfied_1_f k_ x_0 p_1_0) (proof_satisfied_1_m x_0 p_1_0) := by
  unfold proof_satisfied_1_f proof_satisfied_1_m
  repeat' with_reducible (first | exact Le.refl _ | refine proof_abs_f_le | refine Le.meet ?_ ?_ | refine Le.bind ?_ (Le.sumKK (fun _ => ?_) fun _ => ?_) | refine Le.bind ?_ (Le.sumK fun _ => ?_) | refine Le.bind ?_ (fun _ => ?_) | refine Le.cond ?_ ?_ | refine Le.letM (fun _ => ?_) | refine Le.join (fun _ => ?_) (fun _ _ hj => ?_) | exact hj _)

def slices_IndexFunc_int_int_s3_l1f (k_ : Nat) (s_0 : (List Int)) (f_1_0_0 : (List Bool)) (s7 : Int) : Option (Sum (Sum (Int) (Unit)) (Int)) :=
 bif decide (s7 < ((s_0.length : Int))) then
 Option.bind (idxM s_0 s7) fun t8 =>
 Option.bind ((proof_satisfied_1_f k_) t8 f_1_0_0) fun t9 =>
 bif t9 then
 some (Sum.inl (Sum.inl s7))
 else
 some (Sum.inr (iadd .i64 s7 1))
 else
 some (Sum.inl (Sum.inr (())))

theorem slices_IndexFunc_int_int_s3_l1f_le {k_ : Nat} {s_0 : (List Int)} {f_1_0_0 : (List Bool)} {s7 : Int} : Le (slices_IndexFunc_int_int_s3_l1f k_ s_0 f_1_0_0 s7) (slices_IndexFunc_int_int_s3_l1 s_0 f_1_0_0 s7) := by
  unfold slices_IndexFunc_int_int_s3_l1f slices_IndexFunc_int_int_s3_l1
  repeat' with_reducible (first | exact Le.refl _ | refine proof_satisfied_1_f_le | refine Le.meet ?_ ?_ | refine Le.bind ?_ (Le.sumKK (fun _ => ?_) fun _ => ?_) | refine Le.bind ?_ (Le.sumK fun _ => ?_) | refine Le.bind ?_ (fun _ => ?_) | refine Le.cond ?_ ?_ | refine Le.letM (fun _ => ?_) | refine Le.join (fun _ => ?_) (fun _ _ hj => ?_) | exact hj _)

def slices_IndexFunc_int_int_s3_f (k_ : Nat) (s_0 : (List Int)) (f_1_0_0 : (List Bool)) : Option (Int) :=
 Option.bind (loopF k_ ((slices_IndexFunc_int_int_s3_l1f k_) s_0 f_1_0_0) 0) (sumK (fun a : Int => some a) fun q10 : Unit =>
 some ((-1)))

theorem slices_IndexFunc_int_int_s3_f_le {k_ : Nat} {s_0 : (List Int)} {f_1_0_0 : (List Bool)} : Le (slices_IndexFunc_int_int_s3_f k_ s_0 f_1_0_0) (slices_IndexFunc_int_int_s3_m s_0 f_1_0_0) := by
  unfold slices_IndexFunc_int_int_s3_f slices_IndexFunc_int_int_s3_m
  repeat' with_reducible (first | exact Le.refl _ | refine Le.loop (fun _ => slices_IndexFunc_int_int_s3_l1f_le) | refine Le.meet ?_ ?_ | refine Le.bind ?_ (Le.sumKK (fun _ => ?_) fun _ => ?_) | refine Le.bind ?_ (Le.sumK fun _ => ?_) | refine Le.bind ?_ (fun _ => ?_) | refine Le.cond ?_ ?_ | refine Le.letM (fun _ => ?_) | refine Le.join (fun _ => ?_) (fun _ _ hj => ?_) | exact hj _)

def slices_ContainsFunc_int_int_s3_f (k_ : Nat) (s_0 : (List Int)) (f_1_0_0 : (List Bool)) : Option (Bool) :=
 Option.bind ((slices_IndexFunc_int_int_s3_f k_) s_0 f_1_0_0) fun t1 =>
 some (decide (t1 ≥ 0))

theorem slices_ContainsFunc_int_int_s3_f_le {k_ : Nat} {s_0 : (List Int)} {f_1_0_0 : (List Bool)} : Le (slices_ContainsFunc_int_int_s3_f k_ s_0 f_1_0_0) (slices_ContainsFunc_int_int_s3_m s_0 f_1_0_0) := by
  unfold slices_ContainsFunc_int_int_s3_f slices_ContainsFunc_int_int_s3_m
  repeat' with_reducible (first | exact Le.refl _ | refine slices_IndexFunc_int_int_s3_f_le | refine Le.meet ?_ ?_ | refine Le.bind ?_ (Le.sumKK (fun _ => ?_) fun _ => ?_) | refine Le.bind ?_ (Le.sumK fun _ => ?_) | refine Le.bind ?_ (fun _ => ?_) | refine Le.cond ?_ ?_ | refine Le.letM (fun _ => ?_) | refine Le.join (fun _ => ?_) (fun _ _ hj => ?_) | exact hj _)

def proof_satisfied_s1_l1f (k_ : Nat) (l_0 : (List (List Int))) (model_1 : (List Bool)) (s7 : Int) : Option (Sum (Sum (Bool) (Unit)) (Int)) :=
 bif decide (s7 < ((l_0.length : Int))) then
 Option.bind (idxM l_0 s7) fun t8 =>
 Option.bind ((slices_ContainsFunc_int_int_s3_f k_) t8 model_1) fun t9 =>
 bif !t9 then
 some (Sum.inl (Sum.inl false))
 else
 some (Sum.inr (iadd .i64 s7 1))
 else
 some (Sum.inl (Sum.inr (())))

theorem proof_satisfied_s1_l1f_le {k_ : Nat} {l_0 : (List (List Int))} {model_1 : (List Bool)} {s7 : Int} : Le (proof_satisfied_s1_l1f k_ l_0 model_1 s7) (proof_satisfied_s1_l1 l_0 model_1 s7) := by
  unfold proof_satisfied_s1_l1f proof_satisfied_s1_l1
  repeat' with_reducible (first | exact Le.refl _ | refine slices_ContainsFunc_int_int_s3_f_le | refine Le.meet ?_ ?_ | refine Le.bind ?_ (Le.sumKK (fun _ => ?_) fun _ => ?_) | refine Le.bind ?_ (Le.sumK fun _ => ?_) | refine Le.bind ?_ (fun _ => ?_) | refine Le.cond ?_ ?_ | refine Le.letM (fun _ => ?_) | refine Le.join (fun _ => ?_) (fun _ _ hj => ?_) | exact hj _)

def proof_satisfied_s1_f (k_ : Nat) (l_0 : (List (List Int))) (model_1 : (List Bool)) : Option (Bool) :=
 Option.bind (loopF k_ ((proof_satisfied_s1_l1f k_) l_0 model_1) 0) (sumK (fun a : Bool => some a) fun q10 : Unit =>
 some true)

theorem proof_satisfied_s1_f_le {k_ : Nat} {l_0 : (List (List Int))} {model_1 : (List Bool)} : Le (proof_satisfied_s1_f k_ l_0 model_1) (proof_satisfied_s1_m l_0 model_1) := by
  unfold proof_satisfied_s1_f proof_satisfied_s1_m
  repeat' with_reducible (first | exact Le.refl _ | refine Le.loop (fun _ => proof_satisfied_s1_l1f_le) | refine Le.meet ?_ ?_ | refine Le.bind ?_ (Le.sumKK (fun _ => ?_) fun _ => ?_) | refine Le.bind ?_ (Le.sumK fun _ => ?_) | refine Le.bind ?_ (fun _ => ?_) | refine Le.cond ?_ ?_ | refine Le.letM (fun _ => ?_) | refine Le.join (fun _ => ?_) (fun _ _ hj => ?_) | exact hj _)

def proof_refuted_1_f (k_ : Nat) (c_0 : (List Int)) : Option (Bool) :=
 some (((c_0.length : Int) : Int) == 0)

theorem proof_refuted_1_f_le {k_ : Nat} {c_0 : (List Int)} : Le (proof_refuted_1_f k_ c_0) (proof_refuted_1_m c_0) := by
  unfold proof_refuted_1_f proof_refuted_1_m
  repeat' with_reducible (first | exact Le.refl _ | refine Le.meet ?_ ?_ | refine Le.bind ?_ (Le.sumKK (fun _ => ?_) fun _ => ?_) | refine Le.bind ?_ (Le.sumK fun _ => ?_) | refine Le.bind ?_ (fun _ => ?_) | refine Le.cond ?_ ?_ | refine Le.letM (fun _ => ?_) | refine Le.join (fun _ => ?_) (fun _ _ hj => ?_) | exact hj _)

def slices_IndexFunc_int_int_s1__l1f (k_ : Nat) (s_0 : (List (List Int))) (s7 : Int) : Option (Sum (Sum (Int) (Unit)) (Int)) :=
 bif decide (s7 < ((s_0.length : Int))) then
 Option.bind (idxM s_0 s7) fun t8 =>
 Option.bind ((proof_refuted_1_f k_) t8) fun t9 =>
 bif t9 then
 some (Sum.inl (Sum.inl s7))
 else
 some (Sum.inr (iadd .i64 s7 1))
 else
 some (Sum.inl (Sum.inr (())))

theorem slices_IndexFunc_int_int_s1__l1f_le {k_ : Nat} {s_0 : (List (List Int))} {s7 : Int} : Le (slices_IndexFunc_int_int_s1__l1f k_ s_0 s7) (slices_IndexFunc_int_int_s1__l1 s_0 s7) := by
  unfold slices_IndexFunc_int_int_s1__l1f slices_IndexFunc_int_int_s1__l1
  repeat' with_reducible (first | exact Le.refl _ | refine proof_refuted_1_f_le | refine Le.meet ?_ ?_ | refine Le.bind ?_ (Le.sumKK (fun _ => ?_) fun _ => ?_) | refine Le.bind ?_ (Le.sumK fun _ => ?_) | refine Le.bind ?_ (fun _ => ?_) | refine Le.cond ?_ ?_ | refine Le.letM (fun _ => ?_) | refine Le.join (fun _ => ?_) (fun _ _ hj => ?_) | exact hj _)

def slices_IndexFunc_int_int_s1__f (k_ : Nat) (s_0 : (List (List Int))) : Option (Int) :=
 Option.bind (loopF k_ ((slices_IndexFunc_int_int_s1__l1f k_) s_0) 0) (sumK (fun a : Int => some a) fun q10 : Unit =>
 some ((-1)))

theorem slices_IndexFunc_int_int_s1__f_le {k_ : Nat} {s_0 : (List (List Int))} : Le (slices_IndexFunc_int_int_s1__f k_ s_0) (slices_IndexFunc_int_int_s1__m s_0) := by
  unfold slices_IndexFunc_int_int_s1__f slices_IndexFunc_int_int_s1__m
  repeat' with_reducible (first | exact Le.refl _ | refine Le.loop (fun _ => slices_IndexFunc_int_int_s1__l1f_le) | refine Le.meet ?_ ?_ | refine Le.bind ?_ (Le.sumKK (fun _ => ?_) fun _ => ?_) | refine Le.bind ?_ (Le.sumK fun _ => ?_) | refine Le.bind ?_ (fun _ => ?_) | refine Le.cond ?_ ?_ | refine Le.letM (fun _ => ?_) | refine Le.join (fun _ => ?_) (fun _ _ hj => ?_) | exact hj _)

def slices_ContainsFunc_int_int_s1__f (k_ : Nat) (s_0 : (List (List Int))) : Option (Bool) :=
 Option.bind ((slices_IndexFunc_int_int_s1__f k_) s_0) fun t1 =>
 some (decide (t1 ≥ 0))

theorem slices_ContainsFunc_int_int_s1__f_le {k_ : Nat} {s_0 : (List (List Int))} : Le (slices_ContainsFunc_int_int_s1__f k_ s_0) (slices_ContainsFunc_int_int_s1__m s_0) := by
  unfold slices_ContainsFunc_int_int_s1__f slices_ContainsFunc_int_int_s1__m
  repeat' with_reducible (first | exact Le.refl _ | refine slices_IndexFunc_int_int_s1__f_le | refine Le.meet ?_ ?_ | refine Le.bind ?_ (Le.sumKK (fun _ => ?_) fun _ => ?_) | refine Le.bind ?_ (Le.sumK fun _ => ?_) | refine Le.bind ?_ (fun _ => ?_) | refine Le.cond ?_ ?_ | refine Le.letM (fun _ => ?_) | refine Le.join (fun _ => ?_) (fun _ _ hj => ?_) | exact hj _)

def proof_refuted_s1_l1f (k_ : Nat) (steps_1 : (List T_api_Step)) (s42 : Int × (List (List Int))) : Option (Sum (Sum (Bool) ((List (List Int)))) (Int × (List (List Int)))) :=
 bif decide (s42.1 < ((steps_1.length : Int))) then
 Option.bind (idxM steps_1 s42.1) fun t43 =>
 bif decide ((imin t43.Left t43.Right) < 0) then
 some (Sum.inl (Sum.inl false))
 else
 bif decide ((imax t43.Left t43.Right) ≥ ((s42.2.length : Int))) then
 some (Sum.inl (Sum.inl false))
 else
 Option.bind (idxM s42.2 t43.Left) fun t47 =>
 Option.bind (idxM s42.2 t43.Right) fun t48 =>
 Option.bind ((proof_Resolve_f k_) t47 t48 t43.Pivot) fun t49 =>
 bif !t49.1 then
 some (Sum.inl (Sum.inl false))
 else
 Option.bind (appM 24 s42.2 [t49.2]) fun all50 =>
 some (Sum.inr ((iadd .i64 s42.1 1, all50)))
 else
 some (Sum.inl (Sum.inr s42.2))

theorem proof_refuted_s1_l1f_le {k_ : Nat} {steps_1 : (List T_api_Step)} {s42 : Int × (List (List Int))} : Le (proof_refuted_s1_l1f k_ steps_1 s42) (proof_refuted_s1_l1 steps_1 s42) := by
  unfold proof_refuted_s1_l1f proof_refuted_s1_l1
  repeat' with_reducible (first | exact Le.refl _ | refine proof_Resolve_f_le | refine Le.meet ?_ ?_ | refine Le.bind ?_ (Le.sumKK (fun _ => ?_) fun _ => ?_) | refine Le.bind ?_ (Le.sumK fun _ => ?_) | refine Le.bind ?_ (fun _ => ?_) | refine Le.cond ?_ ?_ | refine Le.letM (fun _ => ?_) | refine Le.join (fun _ => ?_) (fun _ _ hj => ?_) | exact hj _)

def proof_refuted_s1_f (k_ : Nat) (l_0 : (List (List Int))) (steps_1 : (List T_api_Step)) : Option (Bool) :=
 bif ((steps_1.length : Int) : Int) == 0 then
 Option.bind ((slices_ContainsFunc_int_int_s1__f k_) l_0) fun t2 =>
 some t2
 else
 Option.bind ((slices_Clone_int_int_f k_) l_0) fun all3 =>
 Option.bind (loopF k_ ((proof_refuted_s1_l1f k_) steps_1) ((0, all3))) (sumK (fun a : Bool => some a) fun q51 : (List (List Int)) =>
 Option.bind (idxM q51 (isub .i64 ((q51.length : Int)) 1)) fun t52 =>
 some (((t52.length : Int) : Int) == 0))

theorem proof_refuted_s1_f_le {k_ : Nat} {l_0 : (List (List Int))} {steps_1 : (List T_api_Step)} : Le (proof_refuted_s1_f k_ l_0 steps_1) (proof_refuted_s1_m l_0 steps_1) := by
  unfold proof_refuted_s1_f proof_refuted_s1_m
  repeat' with_reducible (first | exact Le.refl _ | refine slices_ContainsFunc_int_int_s1__f_le | refine slices_Clone_int_int_f_le | refine Le.loop (fun _ => proof_refuted_s1_l1f_le) | refine Le.meet ?_ ?_ | refine Le.bind ?_ (Le.sumKK (fun _ => ?_) fun _ => ?_) | refine Le.bind ?_ (Le.sumK fun _ => ?_) | refine Le.bind ?_ (fun _ => ?_) | refine Le.cond ?_ ?_ | refine Le.letM (fun _ => ?_) | refine Le.join (fun _ => ?_) (fun _ _ hj => ?_) | exact hj _)

def proof_Check_s1_f (k_ : Nat) (n_0 : Int) (l_1 : (List (List Int))) (x_2 : T_api_Answer) : Option (Int) :=
 Option.bind ((proof_Validate_s1_f k_) n_0 l_1) fun e2 =>
 bif (e2 : Int) != 0 then
 some e2
 else
 bif x_2.Sat then
 joinM (fun j7 : Bool =>
 bif j7 then
 some 4
 else
 Option.bind ((proof_satisfied_s1_f k_) l_1 x_2.Model) fun t8 =>
 bif !t8 then
 some 11
 else
 some 0) fun k6 =>
 bif decide (((x_2.Steps.length : Int)) > 0) then
 k6 true
 else
 k6 (((x_2.Model.length : Int) : Int) != n_0)
 else
 bif decide (((x_2.Model.length : Int)) > 0) then
 some 4
 else
 bif decide (((x_2.Steps.length : Int)) > 20000) then
 some 2
 else
 Option.bind ((proof_refuted_s1_f k_) l_1 x_2.Steps) fun t9 =>
 bif !t9 then
 some 11
 else
 some 0

theorem proof_Check_s1_f_le {k_ : Nat} {n_0 : Int} {l_1 : (List (List Int))} {x_2 : T_api_Answer} : Le (proof_Check_s1_f k_ n_0 l_1 x_2) (proof_Check_s1_m n_0 l_1 x_2) := by
  unfold proof_Check_s1_f proof_Check_s1_m
  repeat' with_reducible (first | exact Le.refl _ | refine proof_Validate_s1_f_le | refine proof_satisfied_s1_f_le | refine proof_refuted_s1_f_le | refine Le.meet ?_ ?_ | refine Le.bind ?_ (Le.sumKK (fun _ => ?_) fun _ => ?_) | refine Le.bind ?_ (Le.sumK fun _ => ?_) | refine Le.bind ?_ (fun _ => ?_) | refine Le.cond ?_ ?_ | refine Le.letM (fun _ => ?_) | refine Le.join (fun _ => ?_) (fun _ _ hj => ?_) | exact hj _)

def verdict_refuted_f (k_ : Nat) (g_0 : T_api_Graph) (question_1 : Int) (n_2 : Int) (v_3 : T_api_Verdict) : Option (Int) :=
 bif decide (((v_3.Ranks.length : Int)) > 0) then
 some 4
 else
 bif decide (((v_3.Labels.length : Int)) > 0) then
 some 4
 else
 Option.bind ((verdict_Encode_f k_) g_0 question_1 n_2) fun t1 =>
 Option.bind ((proof_Check_s1_f k_) t1.1 t1.2.2 ((T_api_Answer.mk false [] v_3.Steps))) fun t2 =>
 bif (t2 : Int) != 0 then
 some 11
 else
 some 0

theorem verdict_refuted_f_le {k_ : Nat} {g_0 : T_api_Graph} {question_1 : Int} {n_2 : Int} {v_3 : T_api_Verdict} : Le (verdict_refuted_f k_ g_0 question_1 n_2 v_3) (verdict_refuted_m g_0 question_1 n_2 v_3) := by
  unfold verdict_refuted_f verdict_refuted_m
  repeat' with_reducible (first | exact Le.refl _ | refine verdict_Encode_f_le | refine proof_Check_s1_f_le | refine Le.meet ?_ ?_ | refine Le.bind ?_ (Le.sumKK (fun _ => ?_) fun _ => ?_) | refine Le.bind ?_ (Le.sumK fun _ => ?_) | refine Le.bind ?_ (fun _ => ?_) | refine Le.cond ?_ ?_ | refine Le.letM (fun _ => ?_) | refine Le.join (fun _ => ?_) (fun _ _ hj => ?_) | exact hj _)

def verdict_Check_f (k_ : Nat) (g_0 : T_api_Graph) (question_1 : Int) (n_2 : Int) (v_3 : T_api_Verdict) : Option (Int) :=
 Option.bind ((verdict_asked_f k_) g_0 n_2) fun e2 =>
 bif (e2 : Int) != 0 then
 some e2
 else
 bif (question_1 : Int) == 4 then
 Option.bind ((verdict_ranked_f k_) g_0 question_1 n_2 v_3) fun t3 =>
 some t3
 else
 joinM (fun j5 : Bool =>
 bif j5 then
 bif v_3.Holds == ((question_1 : Int) != 3) then
 Option.bind ((verdict_labelled_f k_) g_0 question_1 n_2 v_3) fun t6 =>
 some t6
 else
 Option.bind ((verdict_refuted_f k_) g_0 question_1 n_2 v_3) fun t7 =>
 some t7
 else
 some 4) fun k4 =>
 bif (question_1 : Int) == 1 then
 k4 ((question_1 : Int) == 1)
 else
 bif (question_1 : Int) == 2 then
 k4 ((question_1 : Int) == 2)
 else
 k4 ((question_1 : Int) == 3)

theorem verdict_Check_f_le {k_ : Nat} {g_0 : T_api_Graph} {question_1 : Int} {n_2 : Int} {v_3 : T_api_Verdict} : Le (verdict_Check_f k_ g_0 question_1 n_2 v_3) (verdict_Check_m g_0 question_1 n_2 v_3) := by
  unfold verdict_Check_f verdict_Check_m
  repeat' with_reducible (first | exact Le.refl _ | refine verdict_asked_f_le | refine verdict_ranked_f_le | refine verdict_labelled_f_le | refine verdict_refuted_f_le | refine Le.meet ?_ ?_ | refine Le.bind ?_ (Le.sumKK (fun _ => ?_) fun _ => ?_) | refine Le.bind ?_ (Le.sumK fun _ => ?_) | refine Le.bind ?_ (fun _ => ?_) | refine Le.cond ?_ ?_ | refine Le.letM (fun _ => ?_) | refine Le.join (fun _ => ?_) (fun _ _ hj => ?_) | exact hj _)

def law18_awake_f (k_ : Nat) : Option (Bool) :=
 Option.bind ((verdict_Decide_f k_) ((T_api_Graph.mk 2 [(T_api_Pair.mk 0 1), (T_api_Pair.mk 1 0)])) 1 0) fun t1 =>
 Option.bind ((verdict_Decide_f k_) ((T_api_Graph.mk 2 [(T_api_Pair.mk 0 1), (T_api_Pair.mk 1 0)])) 3 0) fun t2 =>
 Option.bind ((verdict_Decide_f k_) ((T_api_Graph.mk 3 [(T_api_Pair.mk 0 1), (T_api_Pair.mk 1 2), (T_api_Pair.mk 2 0)])) 1 0) fun t3 =>
 Option.bind ((verdict_Decide_f k_) ((T_api_Graph.mk 2 [(T_api_Pair.mk 0 1), (T_api_Pair.mk 1 0)])) 4 0) fun t4 =>
 bif (t1.2 : Int) == 0 then
 bif t1.1.Holds then
 Option.bind ((keep_Ints_f k_) t1.1.Labels [1, 2]) fun t5 =>
 bif t5 then
 bif (t2.2 : Int) == 0 then
 bif !t2.1.Holds then
 Option.bind ((keep_Ints_f k_) t2.1.Labels [2, 1]) fun t6 =>
 bif t6 then
 bif (t3.2 : Int) == 0 then
 bif !t3.1.Holds then
 bif decide (((t3.1.Steps.length : Int)) > 0) then
 Option.bind ((verdict_Check_f k_) ((T_api_Graph.mk 3 [(T_api_Pair.mk 0 1), (T_api_Pair.mk 1 2), (T_api_Pair.mk 2 0)])) 1 0 t3.1) fun t7 =>
 bif (t7 : Int) == 0 then
 bif (t4.2 : Int) == 0 then
 bif !t4.1.Holds then
 some (((t4.1.Ranks.length : Int) : Int) == 2)
 else
 some false
 else
 some false
 else
 some false
 else
 some false
 else
 some false
 else
 some false
 else
 some false
 else
 some false
 else
 some false
 else
 some false
 else
 some false
 else
 some false

theorem law18_awake_f_le {k_ : Nat}  : Le (law18_awake_f k_ ) (law18_awake_m ) := by
  unfold law18_awake_f law18_awake_m
  repeat' with_reducible (first | exact Le.refl _ | refine verdict_Decide_f_le | refine keep_Ints_f_le | refine verdict_Check_f_le | refine Le.meet ?_ ?_ | refine Le.bind ?_ (Le.sumKK (fun _ => ?_) fun _ => ?_) | refine Le.bind ?_ (Le.sumK fun _ => ?_) | refine Le.bind ?_ (fun _ => ?_) | refine Le.cond ?_ ?_ | refine Le.letM (fun _ => ?_) | refine Le.join (fun _ => ?_) (fun _ _ hj => ?_) | exact hj _)

end Go.Dc
