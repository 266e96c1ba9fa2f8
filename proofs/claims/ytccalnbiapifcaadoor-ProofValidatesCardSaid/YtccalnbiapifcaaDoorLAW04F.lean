/- Part LAW04.F of a proof: lemmas. -/
import Derived.Test.YtccalnbiapifcaaDoorMFuelM
set_option linter.unusedVariables false
set_option maxRecDepth 100000
set_option maxHeartbeats 1000000
namespace Go.Dc

def proof_Resolve_f (k_ : Nat) (a_0 b_1 : List Int) (pivot_2 : Int) : Option (Bool × List Int) := some (ResolveP a_0 b_1 pivot_2)
theorem proof_Resolve_f_le {k_ : Nat} {a_0 b_1 : List Int} {pivot_2 : Int} : Le (proof_Resolve_f k_ a_0 b_1 pivot_2) (proof_Resolve_m a_0 b_1 pivot_2) := by rw [Resolve_plain]; exact Le.refl _

def proof_clause_l1f (k_ : Nat) (n_0 : Int) (c_1 : (List Int)) (s11 : Int) : Option (Sum (Sum (Int) (Unit)) (Int)) :=
 bif decide (s11 < ((c_1.length : Int))) then
 Option.bind (idxM c_1 s11) fun t12 =>
 bif (t12 : Int) == 0 then
 some (Sum.inl (Sum.inl 1))
 else
 bif decide (t12 < (ineg .i64 n_0)) then
 some (Sum.inl (Sum.inl 1))
 else
 bif decide (t12 > n_0) then
 some (Sum.inl (Sum.inl 1))
 else
 some (Sum.inr (iadd .i64 s11 1))
 else
 some (Sum.inl (Sum.inr (())))

theorem proof_clause_l1f_le {k_ : Nat} {n_0 : Int} {c_1 : (List Int)} {s11 : Int} : Le (proof_clause_l1f k_ n_0 c_1 s11) (proof_clause_l1 n_0 c_1 s11) := by
  unfold proof_clause_l1f proof_clause_l1
  repeat' with_reducible (first | exact Le.refl _ | refine Le.meet ?_ ?_ | refine Le.bind ?_ (Le.sumKK (fun _ => ?_) fun _ => ?_) | refine Le.bind ?_ (Le.sumK fun _ => ?_) | refine Le.bind ?_ (fun _ => ?_) | refine Le.cond ?_ ?_ | refine Le.letM (fun _ => ?_) | refine Le.join (fun _ => ?_) (fun _ _ hj => ?_) | exact hj _)

def proof_abs_f (k_ : Nat) (x_0 : Int) : Option (Int) :=
 some (imax x_0 (ineg .i64 x_0))

theorem proof_abs_f_le {k_ : Nat} {x_0 : Int} : Le (proof_abs_f k_ x_0) (proof_abs_m x_0) := by
  unfold proof_abs_f proof_abs_m
  repeat' with_reducible (first | exact Le.refl _ | refine Le.meet ?_ ?_ | refine Le.bind ?_ (Le.sumKK (fun _ => ?_) fun _ => ?_) | refine Le.bind ?_ (Le.sumK fun _ => ?_) | refine Le.bind ?_ (fun _ => ?_) | refine Le.cond ?_ ?_ | refine Le.letM (fun _ => ?_) | refine Le.join (fun _ => ?_) (fun _ _ hj => ?_) | exact hj _)

def proof_clause_l2f (k_ : Nat) (c_1 : (List Int)) (s24 : Int) : Option (Sum (Sum (Int) (Unit)) (Int)) :=
 bif decide (s24 < ((c_1.length : Int))) then
 Option.bind (idxM c_1 (isub .i64 s24 1)) fun t25 =>
 Option.bind (idxM c_1 s24) fun t26 =>
 Option.bind ((proof_abs_f k_) t25) fun t27 =>
 Option.bind ((proof_abs_f k_) t26) fun t28 =>
 bif decide (t27 ≥ t28) then
 some (Sum.inl (Sum.inl 8))
 else
 some (Sum.inr (iadd .i64 s24 1))
 else
 some (Sum.inl (Sum.inr (())))

theorem proof_clause_l2f_le {k_ : Nat} {c_1 : (List Int)} {s24 : Int} : Le (proof_clause_l2f k_ c_1 s24) (proof_clause_l2 c_1 s24) := by
  unfold proof_clause_l2f proof_clause_l2
  repeat' with_reducible (first | exact Le.refl _ | refine proof_abs_f_le | refine Le.meet ?_ ?_ | refine Le.bind ?_ (Le.sumKK (fun _ => ?_) fun _ => ?_) | refine Le.bind ?_ (Le.sumK fun _ => ?_) | refine Le.bind ?_ (fun _ => ?_) | refine Le.cond ?_ ?_ | refine Le.letM (fun _ => ?_) | refine Le.join (fun _ => ?_) (fun _ _ hj => ?_) | exact hj _)

def proof_clause_f (k_ : Nat) (n_0 : Int) (c_1 : (List Int)) : Option (Int) :=
 bif decide (((c_1.length : Int)) > 50) then
 some 2
 else
 Option.bind (loopF k_ ((proof_clause_l1f k_) n_0 c_1) 0) (sumK (fun a : Int => some a) fun q13 : Unit =>
 Option.bind (loopF k_ ((proof_clause_l2f k_) c_1) 1) (sumK (fun a : Int => some a) fun q29 : Unit =>
 some 0))

theorem proof_clause_f_le {k_ : Nat} {n_0 : Int} {c_1 : (List Int)} : Le (proof_clause_f k_ n_0 c_1) (proof_clause_m n_0 c_1) := by
  unfold proof_clause_f proof_clause_m
  repeat' with_reducible (first | exact Le.refl _ | refine Le.loop (fun _ => proof_clause_l1f_le) | refine Le.loop (fun _ => proof_clause_l2f_le) | refine Le.meet ?_ ?_ | refine Le.bind ?_ (Le.sumKK (fun _ => ?_) fun _ => ?_) | refine Le.bind ?_ (Le.sumK fun _ => ?_) | refine Le.bind ?_ (fun _ => ?_) | refine Le.cond ?_ ?_ | refine Le.letM (fun _ => ?_) | refine Le.join (fun _ => ?_) (fun _ _ hj => ?_) | exact hj _)

def proof_Validate_l1f (k_ : Nat) (n_0 : Int) (l_1 : (List (List Int))) (s7 : Int) : Option (Sum (Sum (Int) (Unit)) (Int)) :=
 bif decide (s7 < ((l_1.length : Int))) then
 Option.bind (idxM l_1 s7) fun t8 =>
 Option.bind ((proof_clause_f k_) n_0 t8) fun e9 =>
 bif (e9 : Int) != 0 then
 some (Sum.inl (Sum.inl e9))
 else
 some (Sum.inr (iadd .i64 s7 1))
 else
 some (Sum.inl (Sum.inr (())))

theorem proof_Validate_l1f_le {k_ : Nat} {n_0 : Int} {l_1 : (List (List Int))} {s7 : Int} : Le (proof_Validate_l1f k_ n_0 l_1 s7) (proof_Validate_l1 n_0 l_1 s7) := by
  unfold proof_Validate_l1f proof_Validate_l1
  repeat' with_reducible (first | exact Le.refl _ | refine proof_clause_f_le | refine Le.meet ?_ ?_ | refine Le.bind ?_ (Le.sumKK (fun _ => ?_) fun _ => ?_) | refine Le.bind ?_ (Le.sumK fun _ => ?_) | refine Le.bind ?_ (fun _ => ?_) | refine Le.cond ?_ ?_ | refine Le.letM (fun _ => ?_) | refine Le.join (fun _ => ?_) (fun _ _ hj => ?_) | exact hj _)

def proof_Validate_f (k_ : Nat) (n_0 : Int) (l_1 : (List (List Int))) : Option (Int) :=
 bif decide (n_0 < 0) then
 some 1
 else
 bif decide (n_0 > 200) then
 some 1
 else
 bif decide (((l_1.length : Int)) > 4000) then
 some 2
 else
 Option.bind (loopF k_ ((proof_Validate_l1f k_) n_0 l_1) 0) (sumK (fun a : Int => some a) fun q10 : Unit =>
 some 0)

theorem proof_Validate_f_le {k_ : Nat} {n_0 : Int} {l_1 : (List (List Int))} : Le (proof_Validate_f k_ n_0 l_1) (proof_Validate_m n_0 l_1) := by
  unfold proof_Validate_f proof_Validate_m
  repeat' with_reducible (first | exact Le.refl _ | refine Le.loop (fun _ => proof_Validate_l1f_le) | refine Le.meet ?_ ?_ | refine Le.bind ?_ (Le.sumKK (fun _ => ?_) fun _ => ?_) | refine Le.bind ?_ (Le.sumK fun _ => ?_) | refine Le.bind ?_ (fun _ => ?_) | refine Le.cond ?_ ?_ | refine Le.letM (fun _ => ?_) | refine Le.join (fun _ => ?_) (fun _ _ hj => ?_) | exact hj _)

def proof_Solve_l1f (k_ : Nat) (l_1 : (List (List Int))) (s13 : Int) : Option (Sum (Sum (T_api_Answer × Int) (Unit)) (Int)) :=
 bif decide (s13 < ((l_1.length : Int))) then
 Option.bind (idxM l_1 s13) fun t14 =>
 bif ((t14.length : Int) : Int) == 0 then
 some (Sum.inl (Sum.inl (((T_api_Answer.mk false [] []), 0))))
 else
 some (Sum.inr (iadd .i64 s13 1))
 else
 some (Sum.inl (Sum.inr (())))

theorem proof_Solve_l1f_le {k_ : Nat} {l_1 : (List (List Int))} {s13 : Int} : Le (proof_Solve_l1f k_ l_1 s13) (proof_Solve_l1 l_1 s13) := by
  unfold proof_Solve_l1f proof_Solve_l1
  repeat' with_reducible (first | exact Le.refl _ | refine Le.meet ?_ ?_ | refine Le.bind ?_ (Le.sumKK (fun _ => ?_) fun _ => ?_) | refine Le.bind ?_ (Le.sumK fun _ => ?_) | refine Le.bind ?_ (fun _ => ?_) | refine Le.cond ?_ ?_ | refine Le.letM (fun _ => ?_) | refine Le.join (fun _ => ?_) (fun _ _ hj => ?_) | exact hj _)

def proof_search_value_f (k_ : Nat) (s_0_values : (List Int)) (s_0_clauses : (List (List Int))) (s_0_known : (List (ByteArray × Int))) (s_0_steps : (List T_api_Step)) (s_0_nodes : Int) (s_0_stop : Bool) (x_1 : Int) : Option (Int) :=
 bif decide (x_1 > 0) then
 Option.bind (idxM s_0_values (isub .i64 x_1 1)) fun t2 =>
 some t2
 else
 Option.bind (idxM s_0_values (isub .i64 (ineg .i64 x_1) 1)) fun t3 =>
 some (ineg .i64 t3)

theorem proof_search_value_f_le {k_ : Nat} {s_0_values : (List Int)} {s_0_clauses : (List (List Int))} {s_0_known : (List (ByteArray × Int))} {s_0_steps : (List T_api_Step)} {s_0_nodes : Int} {s_0_stop : Bool} {x_1 : Int} : Le (proof_search_value_f k_ s_0_values s_0_clauses s_0_known s_0_steps s_0_nodes s_0_stop x_1) (proof_search_value_m s_0_values s_0_clauses s_0_known s_0_steps s_0_nodes s_0_stop x_1) := by
  unfold proof_search_value_f proof_search_value_m
  repeat' with_reducible (first | exact Le.refl _ | refine Le.meet ?_ ?_ | refine Le.bind ?_ (Le.sumKK (fun _ => ?_) fun _ => ?_) | refine Le.bind ?_ (Le.sumK fun _ => ?_) | refine Le.bind ?_ (fun _ => ?_) | refine Le.cond ?_ ?_ | refine Le.letM (fun _ => ?_) | refine Le.join (fun _ => ?_) (fun _ _ hj => ?_) | exact hj _)

def proof_search_look_l1f (k_ : Nat) (s_0_values : (List Int)) (s_0_clauses : (List (List Int))) (s_0_known : (List (ByteArray × Int))) (s_0_steps : (List T_api_Step)) (s_0_nodes : Int) (s_0_stop : Bool) (t58 : (List Int)) (s82 : Int × Int) : Option (Sum (Sum (Sum (Int × Int) (Unit)) (Int)) (Int × Int)) :=
 bif decide (s82.2 < ((t58.length : Int))) then
 Option.bind (idxM t58 s82.2) fun t83 =>
 Option.bind ((proof_search_value_f k_) s_0_values s_0_clauses s_0_known s_0_steps s_0_nodes s_0_stop t83) fun v84 =>
 joinM (fun j86 : Bool =>
 bif j86 then
 some (Sum.inl (Sum.inl (Sum.inr (()))))
 else
 bif (v84 : Int) == 0 then
 some (Sum.inr ((t83, iadd .i64 s82.2 1)))
 else
 some (Sum.inr ((s82.1, iadd .i64 s82.2 1)))) fun k85 =>
 bif decide (v84 > 0) then
 k85 (decide (v84 > 0))
 else
 bif (v84 : Int) == 0 then
 k85 ((s82.1 : Int) != 0)
 else
 k85 false
 else
 some (Sum.inl (Sum.inr s82.1))

theorem proof_search_look_l1f_le {k_ : Nat} {s_0_values : (List Int)} {s_0_clauses : (List (List Int))} {s_0_known : (List (ByteArray × Int))} {s_0_steps : (List T_api_Step)} {s_0_nodes : Int} {s_0_stop : Bool} {t58 : (List Int)} {s82 : Int × Int} : Le (proof_search_look_l1f k_ s_0_values s_0_clauses s_0_known s_0_steps s_0_nodes s_0_stop t58 s82) (proof_search_look_l1 s_0_values s_0_clauses s_0_known s_0_steps s_0_nodes s_0_stop t58 s82) := by
  unfold proof_search_look_l1f proof_search_look_l1
  repeat' with_reducible (first | exact Le.refl _ | refine proof_search_value_f_le | refine Le.meet ?_ ?_ | refine Le.bind ?_ (Le.sumKK (fun _ => ?_) fun _ => ?_) | refine Le.bind ?_ (Le.sumK fun _ => ?_) | refine Le.bind ?_ (fun _ => ?_) | refine Le.cond ?_ ?_ | refine Le.letM (fun _ => ?_) | refine Le.join (fun _ => ?_) (fun _ _ hj => ?_) | exact hj _)

def proof_search_look_l2f (k_ : Nat) (s_0_values : (List Int)) (s_0_clauses : (List (List Int))) (s_0_known : (List (ByteArray × Int))) (s_0_steps : (List T_api_Step)) (s_0_nodes : Int) (s_0_stop : Bool) (s57 : Int × Int × Int) : Option (Sum (Sum (Int × Int) (Int × Int)) (Int × Int × Int)) :=
 bif decide (s57.2.2 < ((s_0_clauses.length : Int))) then
 Option.bind (idxM s_0_clauses s57.2.2) fun t58 =>
 Option.bind (loopF k_ ((proof_search_look_l1f k_) s_0_values s_0_clauses s_0_known s_0_steps s_0_nodes s_0_stop t58) ((0, 0))) (sumK (sumK (fun a : Int × Int => some (Sum.inl (Sum.inl a))) fun o87 : Unit =>
 some (Sum.inr ((s57.1, s57.2.1, iadd .i64 s57.2.2 1)))) fun q88 : Int =>
 bif (q88 : Int) == 0 then
 some (Sum.inl (Sum.inl ((s57.2.2, 0))))
 else
 bif decide (s57.1 < 0) then
 some (Sum.inr ((s57.2.2, q88, iadd .i64 s57.2.2 1)))
 else
 some (Sum.inr ((s57.1, s57.2.1, iadd .i64 s57.2.2 1))))
 else
 some (Sum.inl (Sum.inr ((s57.1, s57.2.1))))

theorem proof_search_look_l2f_le {k_ : Nat} {s_0_values : (List Int)} {s_0_clauses : (List (List Int))} {s_0_known : (List (ByteArray × Int))} {s_0_steps : (List T_api_Step)} {s_0_nodes : Int} {s_0_stop : Bool} {s57 : Int × Int × Int} : Le (proof_search_look_l2f k_ s_0_values s_0_clauses s_0_known s_0_steps s_0_nodes s_0_stop s57) (proof_search_look_l2 s_0_values s_0_clauses s_0_known s_0_steps s_0_nodes s_0_stop s57) := by
  unfold proof_search_look_l2f proof_search_look_l2
  repeat' with_reducible (first | exact Le.refl _ | refine Le.loop (fun _ => proof_search_look_l1f_le) | refine Le.meet ?_ ?_ | refine Le.bind ?_ (Le.sumKK (fun _ => ?_) fun _ => ?_) | refine Le.bind ?_ (Le.sumK fun _ => ?_) | refine Le.bind ?_ (fun _ => ?_) | refine Le.cond ?_ ?_ | refine Le.letM (fun _ => ?_) | refine Le.join (fun _ => ?_) (fun _ _ hj => ?_) | exact hj _)

def proof_search_look_f (k_ : Nat) (s_0_values : (List Int)) (s_0_clauses : (List (List Int))) (s_0_known : (List (ByteArray × Int))) (s_0_steps : (List T_api_Step)) (s_0_nodes : Int) (s_0_stop : Bool) : Option (Int × Int) :=
 Option.bind (loopF k_ ((proof_search_look_l2f k_) s_0_values s_0_clauses s_0_known s_0_steps s_0_nodes s_0_stop) (((-1), 0, 0))) (sumK (fun a : Int × Int => some a) fun q89 : Int × Int =>
 some ((q89.1, q89.2)))

theorem proof_search_look_f_le {k_ : Nat} {s_0_values : (List Int)} {s_0_clauses : (List (List Int))} {s_0_known : (List (ByteArray × Int))} {s_0_steps : (List T_api_Step)} {s_0_nodes : Int} {s_0_stop : Bool} : Le (proof_search_look_f k_ s_0_values s_0_clauses s_0_known s_0_steps s_0_nodes s_0_stop) (proof_search_look_m s_0_values s_0_clauses s_0_known s_0_steps s_0_nodes s_0_stop) := by
  unfold proof_search_look_f proof_search_look_m
  repeat' with_reducible (first | exact Le.refl _ | refine Le.loop (fun _ => proof_search_look_l2f_le) | refine Le.meet ?_ ?_ | refine Le.bind ?_ (Le.sumKK (fun _ => ?_) fun _ => ?_) | refine Le.bind ?_ (Le.sumK fun _ => ?_) | refine Le.bind ?_ (fun _ => ?_) | refine Le.cond ?_ ?_ | refine Le.letM (fun _ => ?_) | refine Le.join (fun _ => ?_) (fun _ _ hj => ?_) | exact hj _)

def proof_search_set_f (k_ : Nat) (s_0_values : (List Int)) (s_0_clauses : (List (List Int))) (s_0_known : (List (ByteArray × Int))) (s_0_steps : (List T_api_Step)) (s_0_nodes : Int) (s_0_stop : Bool) (x_1 : Int) (value_2 : Int) : Option ((List Int)) :=
 bif decide (x_1 < 0) then
 Option.bind (idxM s_0_values (isub .i64 (ineg .i64 x_1) 1)) fun t1 =>
 some (s_0_values.set (Int.toNat (isub .i64 (ineg .i64 x_1) 1)) (ineg .i64 value_2))
 else
 Option.bind (idxM s_0_values (isub .i64 x_1 1)) fun t2 =>
 some (s_0_values.set (Int.toNat (isub .i64 x_1 1)) value_2)

theorem proof_search_set_f_le {k_ : Nat} {s_0_values : (List Int)} {s_0_clauses : (List (List Int))} {s_0_known : (List (ByteArray × Int))} {s_0_steps : (List T_api_Step)} {s_0_nodes : Int} {s_0_stop : Bool} {x_1 : Int} {value_2 : Int} : Le (proof_search_set_f k_ s_0_values s_0_clauses s_0_known s_0_steps s_0_nodes s_0_stop x_1 value_2) (proof_search_set_m s_0_values s_0_clauses s_0_known s_0_steps s_0_nodes s_0_stop x_1 value_2) := by
  unfold proof_search_set_f proof_search_set_m
  repeat' with_reducible (first | exact Le.refl _ | refine Le.meet ?_ ?_ | refine Le.bind ?_ (Le.sumKK (fun _ => ?_) fun _ => ?_) | refine Le.bind ?_ (Le.sumK fun _ => ?_) | refine Le.bind ?_ (fun _ => ?_) | refine Le.cond ?_ ?_ | refine Le.letM (fun _ => ?_) | refine Le.join (fun _ => ?_) (fun _ _ hj => ?_) | exact hj _)

def proof_search_under_f (k_ : Nat) (proof_search_find_r : (List Int) → (List (List Int)) → (List (ByteArray × Int)) → (List T_api_Step) → Int → Bool → Option (Int × (List Int) × (List (ByteArray × Int)) × Int × Bool × (List (List Int)) × (List T_api_Step))) (s_0_values : (List Int)) (s_0_clauses : (List (List Int))) (s_0_known : (List (ByteArray × Int))) (s_0_steps : (List T_api_Step)) (s_0_nodes : Int) (s_0_stop : Bool) (x_1 : Int) : Option (Int × (List Int) × (List (ByteArray × Int)) × Int × Bool × (List (List Int)) × (List T_api_Step)) :=
 Option.bind ((proof_search_set_f k_) s_0_values s_0_clauses s_0_known s_0_steps s_0_nodes s_0_stop x_1 1) fun t1 =>
 Option.bind (proof_search_find_r t1 s_0_clauses s_0_known s_0_steps s_0_nodes s_0_stop) fun n2 =>
 bif decide (n2.1 ≥ 0) then
 Option.bind ((proof_search_set_f k_) n2.2.1 n2.2.2.2.2.2.1 n2.2.2.1 n2.2.2.2.2.2.2 n2.2.2.2.1 n2.2.2.2.2.1 x_1 0) fun t3 =>
 some ((n2.1, t3, n2.2.2.1, n2.2.2.2.1, n2.2.2.2.2.1, n2.2.2.2.2.2.1, n2.2.2.2.2.2.2))
 else
 bif n2.2.2.2.2.1 then
 Option.bind ((proof_search_set_f k_) n2.2.1 n2.2.2.2.2.2.1 n2.2.2.1 n2.2.2.2.2.2.2 n2.2.2.2.1 n2.2.2.2.2.1 x_1 0) fun t4 =>
 some ((n2.1, t4, n2.2.2.1, n2.2.2.2.1, n2.2.2.2.2.1, n2.2.2.2.2.2.1, n2.2.2.2.2.2.2))
 else
 some ((n2.1, n2.2.1, n2.2.2.1, n2.2.2.2.1, n2.2.2.2.2.1, n2.2.2.2.2.2.1, n2.2.2.2.2.2.2))

theorem proof_search_under_f_le {k_ : Nat} {proof_search_find_r proof_search_find_r' : (List Int) → (List (List Int)) → (List (ByteArray × Int)) → (List T_api_Step) → Int → Bool → Option (Int × (List Int) × (List (ByteArray × Int)) × Int × Bool × (List (List Int)) × (List T_api_Step))} (h_proof_search_find_r : ∀ a0 a1 a2 a3 a4 a5, Le (proof_search_find_r a0 a1 a2 a3 a4 a5) (proof_search_find_r' a0 a1 a2 a3 a4 a5)) {s_0_values : (List Int)} {s_0_clauses : (List (List Int))} {s_0_known : (List (ByteArray × Int))} {s_0_steps : (List T_api_Step)} {s_0_nodes : Int} {s_0_stop : Bool} {x_1 : Int} : Le (proof_search_under_f k_ proof_search_find_r s_0_values s_0_clauses s_0_known s_0_steps s_0_nodes s_0_stop x_1) (proof_search_under_m proof_search_find_r' s_0_values s_0_clauses s_0_known s_0_steps s_0_nodes s_0_stop x_1) := by
  unfold proof_search_under_f proof_search_under_m
  repeat' with_reducible (first | exact Le.refl _ | exact h_proof_search_find_r _ _ _ _ _ _ | refine proof_search_set_f_le | refine Le.meet ?_ ?_ | refine Le.bind ?_ (Le.sumKK (fun _ => ?_) fun _ => ?_) | refine Le.bind ?_ (Le.sumK fun _ => ?_) | refine Le.bind ?_ (fun _ => ?_) | refine Le.cond ?_ ?_ | refine Le.letM (fun _ => ?_) | refine Le.join (fun _ => ?_) (fun _ _ hj => ?_) | exact hj _)

theorem proof_search_under_mono {proof_search_find_r proof_search_find_r' : (List Int) → (List (List Int)) → (List (ByteArray × Int)) → (List T_api_Step) → Int → Bool → Option (Int × (List Int) × (List (ByteArray × Int)) × Int × Bool × (List (List Int)) × (List T_api_Step))} (h_proof_search_find_r : ∀ a0 a1 a2 a3 a4 a5, Le (proof_search_find_r a0 a1 a2 a3 a4 a5) (proof_search_find_r' a0 a1 a2 a3 a4 a5)) {s_0_values : (List Int)} {s_0_clauses : (List (List Int))} {s_0_known : (List (ByteArray × Int))} {s_0_steps : (List T_api_Step)} {s_0_nodes : Int} {s_0_stop : Bool} {x_1 : Int} : Le (proof_search_under_m proof_search_find_r s_0_values s_0_clauses s_0_known s_0_steps s_0_nodes s_0_stop x_1) (proof_search_under_m proof_search_find_r' s_0_values s_0_clauses s_0_known s_0_steps s_0_nodes s_0_stop x_1) := by
  unfold proof_search_under_m
  repeat' with_reducible (first | exact Le.refl _ | exact h_proof_search_find_r _ _ _ _ _ _ | refine Le.meetO ?_ ?_ | refine Le.bind ?_ (Le.sumKK (fun _ => ?_) fun _ => ?_) | refine Le.bind ?_ (Le.sumK fun _ => ?_) | refine Le.bind ?_ (fun _ => ?_) | refine Le.cond ?_ ?_ | refine Le.letM (fun _ => ?_) | refine Le.join (fun _ => ?_) (fun _ _ hj => ?_) | exact hj _)

def slices_Index_int_int_l1f (k_ : Nat) (s_0 : (List Int)) (v_1 : Int) (s5 : Int) : Option (Sum (Sum (Int) (Unit)) (Int)) :=
 bif decide (s5 < ((s_0.length : Int))) then
 Option.bind (idxM s_0 s5) fun t6 =>
 bif (v_1 : Int) == t6 then
 some (Sum.inl (Sum.inl s5))
 else
 some (Sum.inr (iadd .i64 s5 1))
 else
 some (Sum.inl (Sum.inr (())))

theorem slices_Index_int_int_l1f_le {k_ : Nat} {s_0 : (List Int)} {v_1 : Int} {s5 : Int} : Le (slices_Index_int_int_l1f k_ s_0 v_1 s5) (slices_Index_int_int_l1 s_0 v_1 s5) := by
  unfold slices_Index_int_int_l1f slices_Index_int_int_l1
  repeat' with_reducible (first | exact Le.refl _ | refine Le.meet ?_ ?_ | refine Le.bind ?_ (Le.sumKK (fun _ => ?_) fun _ => ?_) | refine Le.bind ?_ (Le.sumK fun _ => ?_) | refine Le.bind ?_ (fun _ => ?_) | refine Le.cond ?_ ?_ | refine Le.letM (fun _ => ?_) | refine Le.join (fun _ => ?_) (fun _ _ hj => ?_) | exact hj _)

def slices_Index_int_int_f (k_ : Nat) (s_0 : (List Int)) (v_1 : Int) : Option (Int) :=
 Option.bind (loopF k_ ((slices_Index_int_int_l1f k_) s_0 v_1) 0) (sumK (fun a : Int => some a) fun q7 : Unit =>
 some ((-1)))

theorem slices_Index_int_int_f_le {k_ : Nat} {s_0 : (List Int)} {v_1 : Int} : Le (slices_Index_int_int_f k_ s_0 v_1) (slices_Index_int_int_m s_0 v_1) := by
  unfold slices_Index_int_int_f slices_Index_int_int_m
  repeat' with_reducible (first | exact Le.refl _ | refine Le.loop (fun _ => slices_Index_int_int_l1f_le) | refine Le.meet ?_ ?_ | refine Le.bind ?_ (Le.sumKK (fun _ => ?_) fun _ => ?_) | refine Le.bind ?_ (Le.sumK fun _ => ?_) | refine Le.bind ?_ (fun _ => ?_) | refine Le.cond ?_ ?_ | refine Le.letM (fun _ => ?_) | refine Le.join (fun _ => ?_) (fun _ _ hj => ?_) | exact hj _)

def slices_Contains_int_int_f (k_ : Nat) (s_0 : (List Int)) (v_1 : Int) : Option (Bool) :=
 Option.bind ((slices_Index_int_int_f k_) s_0 v_1) fun t1 =>
 some (decide (t1 ≥ 0))

theorem slices_Contains_int_int_f_le {k_ : Nat} {s_0 : (List Int)} {v_1 : Int} : Le (slices_Contains_int_int_f k_ s_0 v_1) (slices_Contains_int_int_m s_0 v_1) := by
  unfold slices_Contains_int_int_f slices_Contains_int_int_m
  repeat' with_reducible (first | exact Le.refl _ | refine slices_Index_int_int_f_le | refine Le.meet ?_ ?_ | refine Le.bind ?_ (Le.sumKK (fun _ => ?_) fun _ => ?_) | refine Le.bind ?_ (Le.sumK fun _ => ?_) | refine Le.bind ?_ (fun _ => ?_) | refine Le.cond ?_ ?_ | refine Le.letM (fun _ => ?_) | refine Le.join (fun _ => ?_) (fun _ _ hj => ?_) | exact hj _)

def keyM_digits (x : Int) : List UInt8 := if x < 0 then [45, UInt8.ofNat (48 + x.natAbs)] else [UInt8.ofNat (48 + x.toNat)]
theorem keyM_digits_eq {x : Int} (h0 : -9 ≤ x) (h1 : x ≤ 9) : keyM_digits x = Lib.itoa x := by
  have hd : ∀ n, n < 10 → Lib.decDigits n = [UInt8.ofNat (48 + n)] := fun n hn => by
    unfold Lib.decDigits; simp [hn]
  unfold keyM_digits Lib.itoa
  split
  · rw [hd _ (by omega)]
  · rw [hd _ (by omega)]
def keyMf (k_ : Nat) (l : List Int) : Option ByteArray := if l.length ≤ 100 ∧ l.all (fun x => decide (-9 ≤ x) && decide (x ≤ 9)) = true then some ⟨(l.flatMap fun x => keyM_digits x ++ [32]).toArray⟩ else none
theorem keyMf_le {k_ : Nat} {l : List Int} : Le (keyMf k_ l) (keyM l) := fun r h => by
  unfold keyMf at h
  split at h
  · rename_i h1
    cases h
    have h2 : ∀ x ∈ l, -9 ≤ x ∧ x ≤ 9 := fun x hx => by have := List.all_eq_true.1 h1.2 x hx; simpa using this
    unfold keyM
    rw [if_pos ⟨by omega, List.all_eq_true.2 fun x hx => by have := h2 x hx; simp [i64Ok]; omega⟩]
    have e : (l.flatMap fun x => keyM_digits x ++ [32]) = keyBytes l := by
      unfold keyBytes
      rw [List.flatMap_def, List.flatMap_def, List.map_congr_left fun x hx => ?_]
      rw [keyM_digits_eq (h2 x hx).1 (h2 x hx).2]
    rw [e]
  · cases h

def proof_search_learn_f (k_ : Nat) (s_0_values : (List Int)) (s_0_clauses : (List (List Int))) (s_0_known : (List (ByteArray × Int))) (s_0_steps : (List T_api_Step)) (s_0_nodes : Int) (s_0_stop : Bool) (i_1 : Int) (k_2 : Int) (x_3 : Int) : Option (Int × (List (ByteArray × Int)) × Int × Bool × (List (List Int)) × (List T_api_Step)) :=
 joinM (fun j2 : Int × Int × Int =>
 Option.bind (idxM s_0_clauses j2.1) fun t6 =>
 Option.bind (idxM s_0_clauses j2.2.1) fun t7 =>
 Option.bind ((proof_Resolve_f k_) t6 t7 j2.2.2) fun t8 =>
 joinM (fun j12 : Bool =>
 bif j12 then
 some (((-1), s_0_known, s_0_nodes, true, s_0_clauses, s_0_steps))
 else
 Option.bind ((keyMf k_) t8.2) fun t13 =>
 joinM (fun j15 : Unit =>
 Option.bind (appM 24 s_0_steps [(T_api_Step.mk j2.1 j2.2.1 j2.2.2)]) fun t16 =>
 Option.bind (appM 24 s_0_clauses [t8.2]) fun t17 =>
 some ((isub .i64 ((t17.length : Int)) 1, mapPut s_0_known t13 (isub .i64 ((t17.length : Int)) 1), s_0_nodes, s_0_stop, t17, t16))) fun k14 =>
 bif mapHas s_0_known t13 then
 bif decide (((t8.2.length : Int)) > 0) then
 some ((mapGet s_0_known t13 0, s_0_known, s_0_nodes, s_0_stop, s_0_clauses, s_0_steps))
 else
 k14 (())
 else
 k14 (())) fun k11 =>
 bif !t8.1 then
 k11 true
 else
 k11 (((s_0_steps.length : Int) : Int) == 20000)) fun k1 =>
 bif decide (x_3 < 0) then
 k1 ((k_2, i_1, ineg .i64 x_3))
 else
 k1 ((i_1, k_2, x_3))

theorem proof_search_learn_f_le {k_ : Nat} {s_0_values : (List Int)} {s_0_clauses : (List (List Int))} {s_0_known : (List (ByteArray × Int))} {s_0_steps : (List T_api_Step)} {s_0_nodes : Int} {s_0_stop : Bool} {i_1 : Int} {k_2 : Int} {x_3 : Int} : Le (proof_search_learn_f k_ s_0_values s_0_clauses s_0_known s_0_steps s_0_nodes s_0_stop i_1 k_2 x_3) (proof_search_learn_m s_0_values s_0_clauses s_0_known s_0_steps s_0_nodes s_0_stop i_1 k_2 x_3) := by
  unfold proof_search_learn_f proof_search_learn_m
  repeat' with_reducible (first | exact Le.refl _ | refine proof_Resolve_f_le | refine keyMf_le | refine Le.meet ?_ ?_ | refine Le.bind ?_ (Le.sumKK (fun _ => ?_) fun _ => ?_) | refine Le.bind ?_ (Le.sumK fun _ => ?_) | refine Le.bind ?_ (fun _ => ?_) | refine Le.cond ?_ ?_ | refine Le.letM (fun _ => ?_) | refine Le.join (fun _ => ?_) (fun _ _ hj => ?_) | exact hj _)

def proof_search_branch_l1f (k_ : Nat) (s_0_values : (List Int)) (s_0_clauses : (List (List Int))) (s_0_known : (List (ByteArray × Int))) (s_0_steps : (List T_api_Step)) (s_0_nodes : Int) (s_0_stop : Bool) (t24 : (List Int)) (s31 : Int × Int) : Option (Sum (Sum (Sum (Int) (Unit)) (Int)) (Int × Int)) :=
 bif decide (s31.2 < ((t24.length : Int))) then
 Option.bind (idxM t24 s31.2) fun t32 =>
 Option.bind ((proof_search_value_f k_) s_0_values s_0_clauses s_0_known s_0_steps s_0_nodes s_0_stop t32) fun t33 =>
 bif (t33 : Int) == 1 then
 some (Sum.inl (Sum.inl (Sum.inr (()))))
 else
 bif (t33 : Int) == 0 then
 bif (s31.1 : Int) == 0 then
 some (Sum.inr ((t32, iadd .i64 s31.2 1)))
 else
 some (Sum.inr ((s31.1, iadd .i64 s31.2 1)))
 else
 some (Sum.inr ((s31.1, iadd .i64 s31.2 1)))
 else
 some (Sum.inl (Sum.inr s31.1))

theorem proof_search_branch_l1f_le {k_ : Nat} {s_0_values : (List Int)} {s_0_clauses : (List (List Int))} {s_0_known : (List (ByteArray × Int))} {s_0_steps : (List T_api_Step)} {s_0_nodes : Int} {s_0_stop : Bool} {t24 : (List Int)} {s31 : Int × Int} : Le (proof_search_branch_l1f k_ s_0_values s_0_clauses s_0_known s_0_steps s_0_nodes s_0_stop t24 s31) (proof_search_branch_l1 s_0_values s_0_clauses s_0_known s_0_steps s_0_nodes s_0_stop t24 s31) := by
  unfold proof_search_branch_l1f proof_search_branch_l1
  repeat' with_reducible (first | exact Le.refl _ | refine proof_search_value_f_le | refine Le.meet ?_ ?_ | refine Le.bind ?_ (Le.sumKK (fun _ => ?_) fun _ => ?_) | refine Le.bind ?_ (Le.sumK fun _ => ?_) | refine Le.bind ?_ (fun _ => ?_) | refine Le.cond ?_ ?_ | refine Le.letM (fun _ => ?_) | refine Le.join (fun _ => ?_) (fun _ _ hj => ?_) | exact hj _)

def proof_search_branch_l2f (k_ : Nat) (s_0_values : (List Int)) (s_0_clauses : (List (List Int))) (s_0_known : (List (ByteArray × Int))) (s_0_steps : (List T_api_Step)) (s_0_nodes : Int) (s_0_stop : Bool) (s23 : Int) : Option (Sum (Sum (Int) (Unit)) (Int)) :=
 bif decide (s23 < ((s_0_clauses.length : Int))) then
 Option.bind (idxM s_0_clauses s23) fun t24 =>
 Option.bind (loopF k_ ((proof_search_branch_l1f k_) s_0_values s_0_clauses s_0_known s_0_steps s_0_nodes s_0_stop t24) ((0, 0))) (sumK (sumK (fun a : Int => some (Sum.inl (Sum.inl a))) fun o34 : Unit =>
 some (Sum.inr (iadd .i64 s23 1))) fun q35 : Int =>
 some (Sum.inl (Sum.inl q35)))
 else
 some (Sum.inl (Sum.inr (())))

theorem proof_search_branch_l2f_le {k_ : Nat} {s_0_values : (List Int)} {s_0_clauses : (List (List Int))} {s_0_known : (List (ByteArray × Int))} {s_0_steps : (List T_api_Step)} {s_0_nodes : Int} {s_0_stop : Bool} {s23 : Int} : Le (proof_search_branch_l2f k_ s_0_values s_0_clauses s_0_known s_0_steps s_0_nodes s_0_stop s23) (proof_search_branch_l2 s_0_values s_0_clauses s_0_known s_0_steps s_0_nodes s_0_stop s23) := by
  unfold proof_search_branch_l2f proof_search_branch_l2
  repeat' with_reducible (first | exact Le.refl _ | refine Le.loop (fun _ => proof_search_branch_l1f_le) | refine Le.meet ?_ ?_ | refine Le.bind ?_ (Le.sumKK (fun _ => ?_) fun _ => ?_) | refine Le.bind ?_ (Le.sumK fun _ => ?_) | refine Le.bind ?_ (fun _ => ?_) | refine Le.cond ?_ ?_ | refine Le.letM (fun _ => ?_) | refine Le.join (fun _ => ?_) (fun _ _ hj => ?_) | exact hj _)

def proof_search_branch_f (k_ : Nat) (s_0_values : (List Int)) (s_0_clauses : (List (List Int))) (s_0_known : (List (ByteArray × Int))) (s_0_steps : (List T_api_Step)) (s_0_nodes : Int) (s_0_stop : Bool) : Option (Int) :=
 Option.bind (loopF k_ ((proof_search_branch_l2f k_) s_0_values s_0_clauses s_0_known s_0_steps s_0_nodes s_0_stop) 0) (sumK (fun a : Int => some a) fun q36 : Unit =>
 some 0)

theorem proof_search_branch_f_le {k_ : Nat} {s_0_values : (List Int)} {s_0_clauses : (List (List Int))} {s_0_known : (List (ByteArray × Int))} {s_0_steps : (List T_api_Step)} {s_0_nodes : Int} {s_0_stop : Bool} : Le (proof_search_branch_f k_ s_0_values s_0_clauses s_0_known s_0_steps s_0_nodes s_0_stop) (proof_search_branch_m s_0_values s_0_clauses s_0_known s_0_steps s_0_nodes s_0_stop) := by
  unfold proof_search_branch_f proof_search_branch_m
  repeat' with_reducible (first | exact Le.refl _ | refine Le.loop (fun _ => proof_search_branch_l2f_le) | refine Le.meet ?_ ?_ | refine Le.bind ?_ (Le.sumKK (fun _ => ?_) fun _ => ?_) | refine Le.bind ?_ (Le.sumK fun _ => ?_) | refine Le.bind ?_ (fun _ => ?_) | refine Le.cond ?_ ?_ | refine Le.letM (fun _ => ?_) | refine Le.join (fun _ => ?_) (fun _ _ hj => ?_) | exact hj _)

def proof_search_find_bf (k_ : Nat) (proof_search_find_r : (List Int) → (List (List Int)) → (List (ByteArray × Int)) → (List T_api_Step) → Int → Bool → Option (Int × (List Int) × (List (ByteArray × Int)) × Int × Bool × (List (List Int)) × (List T_api_Step))) (s_0_values : (List Int)) (s_0_clauses : (List (List Int))) (s_0_known : (List (ByteArray × Int))) (s_0_steps : (List T_api_Step)) (s_0_nodes : Int) (s_0_stop : Bool) : Option (Int × (List Int) × (List (ByteArray × Int)) × Int × Bool × (List (List Int)) × (List T_api_Step)) :=
 joinM (fun j2 : Int × Bool =>
 bif j2.2 then
 some (((-1), s_0_values, s_0_known, j2.1, j2.2, s_0_clauses, s_0_steps))
 else
 Option.bind ((proof_search_look_f k_) s_0_values s_0_clauses s_0_known s_0_steps j2.1 j2.2) fun t3 =>
 joinM (fun j5 : Unit =>
 joinM (fun j8 : Int =>
 Option.bind ((proof_search_under_f k_) proof_search_find_r s_0_values s_0_clauses s_0_known s_0_steps j2.1 j2.2 j8) fun first9 =>
 bif decide (first9.1 < 0) then
 some ((first9.1, first9.2.1, first9.2.2.1, first9.2.2.2.1, first9.2.2.2.2.1, first9.2.2.2.2.2.1, first9.2.2.2.2.2.2))
 else
 bif first9.2.2.2.2.1 then
 some ((first9.1, first9.2.1, first9.2.2.1, first9.2.2.2.1, first9.2.2.2.2.1, first9.2.2.2.2.2.1, first9.2.2.2.2.2.2))
 else
 Option.bind (idxM first9.2.2.2.2.2.1 first9.1) fun t12 =>
 Option.bind ((slices_Contains_int_int_f k_) t12 (ineg .i64 j8)) fun t13 =>
 bif !t13 then
 some ((first9.1, first9.2.1, first9.2.2.1, first9.2.2.2.1, first9.2.2.2.2.1, first9.2.2.2.2.2.1, first9.2.2.2.2.2.2))
 else
 bif decide (t3.1 < 0) then
 Option.bind ((proof_search_under_f k_) proof_search_find_r first9.2.1 first9.2.2.2.2.2.1 first9.2.2.1 first9.2.2.2.2.2.2 first9.2.2.2.1 first9.2.2.2.2.1 (ineg .i64 j8)) fun unit14 =>
 bif decide (unit14.1 < 0) then
 some ((unit14.1, unit14.2.1, unit14.2.2.1, unit14.2.2.2.1, unit14.2.2.2.2.1, unit14.2.2.2.2.2.1, unit14.2.2.2.2.2.2))
 else
 bif unit14.2.2.2.2.1 then
 some ((unit14.1, unit14.2.1, unit14.2.2.1, unit14.2.2.2.1, unit14.2.2.2.2.1, unit14.2.2.2.2.2.1, unit14.2.2.2.2.2.2))
 else
 Option.bind (idxM unit14.2.2.2.2.2.1 unit14.1) fun t15 =>
 Option.bind ((slices_Contains_int_int_f k_) t15 j8) fun t16 =>
 bif !t16 then
 some ((unit14.1, unit14.2.1, unit14.2.2.1, unit14.2.2.2.1, unit14.2.2.2.2.1, unit14.2.2.2.2.2.1, unit14.2.2.2.2.2.2))
 else
 Option.bind ((proof_search_learn_f k_) unit14.2.1 unit14.2.2.2.2.2.1 unit14.2.2.1 unit14.2.2.2.2.2.2 unit14.2.2.2.1 unit14.2.2.2.2.1 unit14.1 first9.1 j8) fun t17 =>
 some ((t17.1, unit14.2.1, t17.2.1, t17.2.2.1, t17.2.2.2.1, t17.2.2.2.2.1, t17.2.2.2.2.2))
 else
 Option.bind ((proof_search_learn_f k_) first9.2.1 first9.2.2.2.2.2.1 first9.2.2.1 first9.2.2.2.2.2.2 first9.2.2.2.1 first9.2.2.2.2.1 t3.1 first9.1 j8) fun t18 =>
 some ((t18.1, first9.2.1, t18.2.1, t18.2.2.1, t18.2.2.2.1, t18.2.2.2.2.1, t18.2.2.2.2.2))) fun k7 =>
 bif decide (t3.1 < 0) then
 Option.bind ((proof_search_branch_f k_) s_0_values s_0_clauses s_0_known s_0_steps j2.1 j2.2) fun x19 =>
 bif (x19 : Int) == 0 then
 some (((-1), s_0_values, s_0_known, j2.1, j2.2, s_0_clauses, s_0_steps))
 else
 k7 x19
 else
 k7 t3.2) fun k4 =>
 bif decide (t3.1 ≥ 0) then
 bif (t3.2 : Int) == 0 then
 some ((t3.1, s_0_values, s_0_known, j2.1, j2.2, s_0_clauses, s_0_steps))
 else
 k4 (())
 else
 k4 (())) fun k1 =>
 bif decide ((iadd .i64 s_0_nodes 1) > 9000) then
 k1 ((iadd .i64 s_0_nodes 1, true))
 else
 k1 ((iadd .i64 s_0_nodes 1, s_0_stop))

theorem proof_search_find_bf_le {k_ : Nat} {proof_search_find_r proof_search_find_r' : (List Int) → (List (List Int)) → (List (ByteArray × Int)) → (List T_api_Step) → Int → Bool → Option (Int × (List Int) × (List (ByteArray × Int)) × Int × Bool × (List (List Int)) × (List T_api_Step))} (h_proof_search_find_r : ∀ a0 a1 a2 a3 a4 a5, Le (proof_search_find_r a0 a1 a2 a3 a4 a5) (proof_search_find_r' a0 a1 a2 a3 a4 a5)) {s_0_values : (List Int)} {s_0_clauses : (List (List Int))} {s_0_known : (List (ByteArray × Int))} {s_0_steps : (List T_api_Step)} {s_0_nodes : Int} {s_0_stop : Bool} : Le (proof_search_find_bf k_ proof_search_find_r s_0_values s_0_clauses s_0_known s_0_steps s_0_nodes s_0_stop) (proof_search_find_b proof_search_find_r' s_0_values s_0_clauses s_0_known s_0_steps s_0_nodes s_0_stop) := by
  unfold proof_search_find_bf proof_search_find_b
  repeat' with_reducible (first | exact Le.refl _ | exact h_proof_search_find_r _ _ _ _ _ _ | refine proof_search_look_f_le | refine proof_search_under_f_le h_proof_search_find_r | refine slices_Contains_int_int_f_le | refine proof_search_learn_f_le | refine proof_search_branch_f_le | refine Le.meet ?_ ?_ | refine Le.bind ?_ (Le.sumKK (fun _ => ?_) fun _ => ?_) | refine Le.bind ?_ (Le.sumK fun _ => ?_) | refine Le.bind ?_ (fun _ => ?_) | refine Le.cond ?_ ?_ | refine Le.letM (fun _ => ?_) | refine Le.join (fun _ => ?_) (fun _ _ hj => ?_) | exact hj _)

theorem proof_search_find_b_mono {proof_search_find_r proof_search_find_r' : (List Int) → (List (List Int)) → (List (ByteArray × Int)) → (List T_api_Step) → Int → Bool → Option (Int × (List Int) × (List (ByteArray × Int)) × Int × Bool × (List (List Int)) × (List T_api_Step))} (h_proof_search_find_r : ∀ a0 a1 a2 a3 a4 a5, Le (proof_search_find_r a0 a1 a2 a3 a4 a5) (proof_search_find_r' a0 a1 a2 a3 a4 a5)) {s_0_values : (List Int)} {s_0_clauses : (List (List Int))} {s_0_known : (List (ByteArray × Int))} {s_0_steps : (List T_api_Step)} {s_0_nodes : Int} {s_0_stop : Bool} : Le (proof_search_find_b proof_search_find_r s_0_values s_0_clauses s_0_known s_0_steps s_0_nodes s_0_stop) (proof_search_find_b proof_search_find_r' s_0_values s_0_clauses s_0_known s_0_steps s_0_nodes s_0_stop) := by
  unfold proof_search_find_b
  repeat' with_reducible (first | exact Le.refl _ | exact h_proof_search_find_r _ _ _ _ _ _ | refine proof_search_under_mono h_proof_search_find_r | refine Le.meetO ?_ ?_ | refine Le.bind ?_ (Le.sumKK (fun _ => ?_) fun _ => ?_) | refine Le.bind ?_ (Le.sumK fun _ => ?_) | refine Le.bind ?_ (fun _ => ?_) | refine Le.cond ?_ ?_ | refine Le.letM (fun _ => ?_) | refine Le.join (fun _ => ?_) (fun _ _ hj => ?_) | exact hj _)

def proof_search_find_nf (k_ : Nat) : Nat → (List Int) → (List (List Int)) → (List (ByteArray × Int)) → (List T_api_Step) → Int → Bool → Option (Int × (List Int) × (List (ByteArray × Int)) × Int × Bool × (List (List Int)) × (List T_api_Step))
  | 0 => fun _ _ _ _ _ _ => none
  | n_ + 1 => proof_search_find_bf k_ (proof_search_find_nf k_ n_)

theorem proof_search_find_nf_le {k_ : Nat} : ∀ (n_ : Nat) a0 a1 a2 a3 a4 a5, Le (proof_search_find_nf k_ n_ a0 a1 a2 a3 a4 a5) (proof_search_find_n n_ a0 a1 a2 a3 a4 a5)
  | 0, _, _, _, _, _, _ => fun _ h => by cases h
  | n_ + 1, _, _, _, _, _, _ => proof_search_find_bf_le (proof_search_find_nf_le n_)

theorem proof_search_find_n_mono : ∀ (n_ : Nat) a0 a1 a2 a3 a4 a5, Le (proof_search_find_n n_ a0 a1 a2 a3 a4 a5) (proof_search_find_n (n_ + 1) a0 a1 a2 a3 a4 a5)
  | 0, _, _, _, _, _, _ => fun _ h => by cases h
  | n_ + 1, _, _, _, _, _, _ => proof_search_find_b_mono (proof_search_find_n_mono n_)

def proof_search_find_f (k_ : Nat) (s_0_values : (List Int)) (s_0_clauses : (List (List Int))) (s_0_known : (List (ByteArray × Int))) (s_0_steps : (List T_api_Step)) (s_0_nodes : Int) (s_0_stop : Bool) : Option (Int × (List Int) × (List (ByteArray × Int)) × Int × Bool × (List (List Int)) × (List T_api_Step)) := proof_search_find_nf k_ k_ s_0_values s_0_clauses s_0_known s_0_steps s_0_nodes s_0_stop

theorem proof_search_find_m_at {n_ : Nat} {s_0_values : (List Int)} {s_0_clauses : (List (List Int))} {s_0_known : (List (ByteArray × Int))} {s_0_steps : (List T_api_Step)} {s_0_nodes : Int} {s_0_stop : Bool} {r} (h : proof_search_find_n n_ s_0_values s_0_clauses s_0_known s_0_steps s_0_nodes s_0_stop = some r) : proof_search_find_m s_0_values s_0_clauses s_0_known s_0_steps s_0_nodes s_0_stop = some r :=
  (limM_iff (m := fun n (a : (List Int) × (List (List Int)) × (List (ByteArray × Int)) × (List T_api_Step) × Int × Bool) => proof_search_find_n n a.1 a.2.1 a.2.2.1 a.2.2.2.1 a.2.2.2.2.1 a.2.2.2.2.2) (fun n a r h => proof_search_find_n_mono n _ _ _ _ _ _ r h)).2 ⟨n_, h⟩

theorem proof_search_find_f_le {k_ : Nat} {s_0_values : (List Int)} {s_0_clauses : (List (List Int))} {s_0_known : (List (ByteArray × Int))} {s_0_steps : (List T_api_Step)} {s_0_nodes : Int} {s_0_stop : Bool} : Le (proof_search_find_f k_ s_0_values s_0_clauses s_0_known s_0_steps s_0_nodes s_0_stop) (proof_search_find_m s_0_values s_0_clauses s_0_known s_0_steps s_0_nodes s_0_stop) := fun r hr => proof_search_find_m_at (proof_search_find_nf_le k_ _ _ _ _ _ _ r hr)

def proof_search_model_l1f (k_ : Nat) (s_0_values : (List Int)) (s10 : Int × (List Bool)) : Option (Sum ((List Bool)) (Int × (List Bool))) :=
 bif decide (s10.1 < ((s_0_values.length : Int))) then
 Option.bind (idxM s_0_values s10.1) fun t11 =>
 Option.bind (appM 1 s10.2 [decide (t11 > 0)]) fun out12 =>
 some (Sum.inr ((iadd .i64 s10.1 1, out12)))
 else
 some (Sum.inl s10.2)

theorem proof_search_model_l1f_le {k_ : Nat} {s_0_values : (List Int)} {s10 : Int × (List Bool)} : Le (proof_search_model_l1f k_ s_0_values s10) (proof_search_model_l1 s_0_values s10) := by
  unfold proof_search_model_l1f proof_search_model_l1
  repeat' with_reducible (first | exact Le.refl _ | refine Le.meet ?_ ?_ | refine Le.bind ?_ (Le.sumKK (fun _ => ?_) fun _ => ?_) | refine Le.bind ?_ (Le.sumK fun _ => ?_) | refine Le.bind ?_ (fun _ => ?_) | refine Le.cond ?_ ?_ | refine Le.letM (fun _ => ?_) | refine Le.join (fun _ => ?_) (fun _ _ hj => ?_) | exact hj _)

def proof_search_model_f (k_ : Nat) (s_0_values : (List Int)) (s_0_clauses : (List (List Int))) (s_0_known : (List (ByteArray × Int))) (s_0_steps : (List T_api_Step)) (s_0_nodes : Int) (s_0_stop : Bool) : Option ((List Bool)) :=
 Option.bind (loopF k_ ((proof_search_model_l1f k_) s_0_values) ((0, []))) fun q13 : (List Bool) =>
 some q13

theorem proof_search_model_f_le {k_ : Nat} {s_0_values : (List Int)} {s_0_clauses : (List (List Int))} {s_0_known : (List (ByteArray × Int))} {s_0_steps : (List T_api_Step)} {s_0_nodes : Int} {s_0_stop : Bool} : Le (proof_search_model_f k_ s_0_values s_0_clauses s_0_known s_0_steps s_0_nodes s_0_stop) (proof_search_model_m s_0_values s_0_clauses s_0_known s_0_steps s_0_nodes s_0_stop) := by
  unfold proof_search_model_f proof_search_model_m
  repeat' with_reducible (first | exact Le.refl _ | refine Le.loop (fun _ => proof_search_model_l1f_le) | refine Le.meet ?_ ?_ | refine Le.bind ?_ (Le.sumKK (fun _ => ?_) fun _ => ?_) | refine Le.bind ?_ (Le.sumK fun _ => ?_) | refine Le.bind ?_ (fun _ => ?_) | refine Le.cond ?_ ?_ | refine Le.letM (fun _ => ?_) | refine Le.join (fun _ => ?_) (fun _ _ hj => ?_) | exact hj _)

def slices_Clone_int_int_f (k_ : Nat) (d_0 : List (List Int)) : Option (List (List Int)) := appM 24 [] d_0

theorem slices_Clone_int_int_f_le {k_ : Nat} {d_0 : List (List Int)} : Le (slices_Clone_int_int_f k_ d_0) (slices_Clone_int_int_m d_0) := by
  unfold slices_Clone_int_int_f slices_Clone_int_int_m
  repeat' with_reducible (first | exact Le.refl _ | refine Le.meet ?_ ?_ | refine Le.bind ?_ (Le.sumKK (fun _ => ?_) fun _ => ?_) | refine Le.bind ?_ (Le.sumK fun _ => ?_) | refine Le.bind ?_ (fun _ => ?_) | refine Le.cond ?_ ?_ | refine Le.letM (fun _ => ?_) | refine Le.join (fun _ => ?_) (fun _ _ hj => ?_) | exact hj _)

def proof_Solve_f (k_ : Nat) (n_0 : Int) (l_1 : (List (List Int))) : Option (T_api_Answer × Int) :=
 Option.bind ((proof_Validate_f k_) n_0 l_1) fun e2 =>
 bif (e2 : Int) != 0 then
 some (((T_api_Answer.mk false [] []), e2))
 else
 Option.bind (loopF k_ ((proof_Solve_l1f k_) l_1) 0) (sumK (fun a : T_api_Answer × Int => some a) fun q15 : Unit =>
 joinM (fun j27 : (List Int) × (List (List Int)) × (List (ByteArray × Int)) × (List T_api_Step) =>
 Option.bind ((proof_search_find_f k_) j27.1 j27.2.1 j27.2.2.1 j27.2.2.2 0 false) fun found28 =>
 bif found28.2.2.2.2.1 then
 some (((T_api_Answer.mk false [] []), 2))
 else
 bif decide (found28.1 < 0) then
 Option.bind ((proof_search_model_f k_) found28.2.1 found28.2.2.2.2.2.1 found28.2.2.1 found28.2.2.2.2.2.2 found28.2.2.2.1 found28.2.2.2.2.1) fun t30 =>
 some (((T_api_Answer.mk true t30 []), 0))
 else
 some (((T_api_Answer.mk false [] found28.2.2.2.2.2.2), 0))) fun k26 =>
 meetF (
 Option.bind (mkM 8 0 n_0) fun t31 =>
 meetF (
 Option.bind ((slices_Clone_int_int_f k_) l_1) fun t32 =>
 k26 ((t31, t32, [], []))) (
 Option.bind ((slices_Clone_int_int_f k_) l_1) fun t33 =>
 k26 ((t31, t33, [], [])))) (
 meetF (
 Option.bind ((slices_Clone_int_int_f k_) l_1) fun t34 =>
 meetF (
 Option.bind (mkM 8 0 n_0) fun t35 =>
 k26 ((t35, t34, [], []))) (
 Option.bind (mkM 8 0 n_0) fun t36 =>
 k26 ((t36, t34, [], [])))) (
 meetF (
 Option.bind (mkM 8 0 n_0) fun t37 =>
 Option.bind ((slices_Clone_int_int_f k_) l_1) fun t38 =>
 k26 ((t37, t38, [], []))) (
 Option.bind ((slices_Clone_int_int_f k_) l_1) fun t39 =>
 Option.bind (mkM 8 0 n_0) fun t40 =>
 k26 ((t40, t39, [], []))))))

theorem proof_Solve_f_le {k_ : Nat} {n_0 : Int} {l_1 : (List (List Int))} : Le (proof_Solve_f k_ n_0 l_1) (proof_Solve_m n_0 l_1) := by
  unfold proof_Solve_f proof_Solve_m
  repeat' with_reducible (first | exact Le.refl _ | refine proof_Validate_f_le | refine proof_search_find_f_le | refine proof_search_model_f_le | refine slices_Clone_int_int_f_le | refine Le.loop (fun _ => proof_Solve_l1f_le) | refine Le.meet ?_ ?_ | refine Le.bind ?_ (Le.sumKK (fun _ => ?_) fun _ => ?_) | refine Le.bind ?_ (Le.sumK fun _ => ?_) | refine Le.bind ?_ (fun _ => ?_) | refine Le.cond ?_ ?_ | refine Le.letM (fun _ => ?_) | refine Le.join (fun _ => ?_) (fun _ _ hj => ?_) | exact hj _)

def proof_satisfied_1_f (k_ : Nat) (x_0 : Int) (p_1_0 : (List Bool)) : Option (Bool) :=
 Option.bind ((proof_abs_f k_) x_0) fun t1 =>
 Option.bind (idxM p_1_0 (isub .i64 t1 1)) fun t2 =>
 some (t2 == (decide (x_0 > 0)))

theorem proof_satisfied_1_f_le {k_ : Nat} {x_0 : Int} {p_1_0 : (List Bool)} : Le (proof_satisfied_1_f k_ x_0 p_1_0) (proof_satisfied_1_m x_0 p_1_0) := by
  unfold proof_satisfied_1_f proof_satisfied_1_m
  repeat' with_reducible (first | exact Le.refl _ | refine proof_abs_f_le | refine Le.meet ?_ ?_ | refine Le.bind ?_ (Le.sumKK (fun _ => ?_) fun _ => ?_) | refine Le.bind ?_ (Le.sumK fun _ => ?_) | refine Le.bind ?_ (fun _ => ?_) | refine Le.cond ?_ ?_ | refine Le.letM (fun _ => ?_) | refine Le.join (fun _ => ?_) (fun _ _ hj => ?_) | exact hj _)

def slices_IndexFunc_int_int_l1f (k_ : Nat) (s_0 : (List Int)) (f_1_0_0 : (List Bool)) (s7 : Int) : Option (Sum (Sum (Int) (Unit)) (Int)) :=
 bif decide (s7 < ((s_0.length : Int))) then
 Option.bind (idxM s_0 s7) fun t8 =>
 Option.bind ((proof_satisfied_1_f k_) t8 f_1_0_0) fun t9 =>
 bif t9 then
 some (Sum.inl (Sum.inl s7))
 else
 some (Sum.inr (iadd .i64 s7 1))
 else
 some (Sum.inl (Sum.inr (())))

theorem slices_IndexFunc_int_int_l1f_le {k_ : Nat} {s_0 : (List Int)} {f_1_0_0 : (List Bool)} {s7 : Int} : Le (slices_IndexFunc_int_int_l1f k_ s_0 f_1_0_0 s7) (slices_IndexFunc_int_int_l1 s_0 f_1_0_0 s7) := by
  unfold slices_IndexFunc_int_int_l1f slices_IndexFunc_int_int_l1
  repeat' with_reducible (first | exact Le.refl _ | refine proof_satisfied_1_f_le | refine Le.meet ?_ ?_ | refine Le.bind ?_ (Le.sumKK (fun _ => ?_) fun _ => ?_) | refine Le.bind ?_ (Le.sumK fun _ => ?_) | refine Le.bind ?_ (fun _ => ?_) | refine Le.cond ?_ ?_ | refine Le.letM (fun _ => ?_) | refine Le.join (fun _ => ?_) (fun _ _ hj => ?_) | exact hj _)

def slices_IndexFunc_int_int_f (k_ : Nat) (s_0 : (List Int)) (f_1_0_0 : (List Bool)) : Option (Int) :=
 Option.bind (loopF k_ ((slices_IndexFunc_int_int_l1f k_) s_0 f_1_0_0) 0) (sumK (fun a : Int => some a) fun q10 : Unit =>
 some ((-1)))

theorem slices_IndexFunc_int_int_f_le {k_ : Nat} {s_0 : (List Int)} {f_1_0_0 : (List Bool)} : Le (slices_IndexFunc_int_int_f k_ s_0 f_1_0_0) (slices_IndexFunc_int_int_m s_0 f_1_0_0) := by
  unfold slices_IndexFunc_int_int_f slices_IndexFunc_int_int_m
  repeat' with_reducible (first | exact Le.refl _ | refine Le.loop (fun _ => slices_IndexFunc_int_int_l1f_le) | refine Le.meet ?_ ?_ | refine Le.bind ?_ (Le.sumKK (fun _ => ?_) fun _ => ?_) | refine Le.bind ?_ (Le.sumK fun _ => ?_) | refine Le.bind ?_ (fun _ => ?_) | refine Le.cond ?_ ?_ | refine Le.letM (fun _ => ?_) | refine Le.join (fun _ => ?_) (fun _ _ hj => ?_) | exact hj _)

def slices_ContainsFunc_int_int_f (k_ : Nat) (s_0 : (List Int)) (f_1_0_0 : (List Bool)) : Option (Bool) :=
 Option.bind ((slices_IndexFunc_int_int_f k_) s_0 f_1_0_0) fun t1 =>
 some (decide (t1 ≥ 0))

theorem slices_ContainsFunc_int_int_f_le {k_ : Nat} {s_0 : (List Int)} {f_1_0_0 : (List Bool)} : Le (slices_ContainsFunc_int_int_f k_ s_0 f_1_0_0) (slices_ContainsFunc_int_int_m s_0 f_1_0_0) := by
  unfold slices_ContainsFunc_int_int_f slices_ContainsFunc_int_int_m
  repeat' with_reducible (first | exact Le.refl _ | refine slices_IndexFunc_int_int_f_le | refine Le.meet ?_ ?_ | refine Le.bind ?_ (Le.sumKK (fun _ => ?_) fun _ => ?_) | refine Le.bind ?_ (Le.sumK fun _ => ?_) | refine Le.bind ?_ (fun _ => ?_) | refine Le.cond ?_ ?_ | refine Le.letM (fun _ => ?_) | refine Le.join (fun _ => ?_) (fun _ _ hj => ?_) | exact hj _)

def proof_satisfied_l1f (k_ : Nat) (l_0 : (List (List Int))) (model_1 : (List Bool)) (s7 : Int) : Option (Sum (Sum (Bool) (Unit)) (Int)) :=
 bif decide (s7 < ((l_0.length : Int))) then
 Option.bind (idxM l_0 s7) fun t8 =>
 Option.bind ((slices_ContainsFunc_int_int_f k_) t8 model_1) fun t9 =>
 bif !t9 then
 some (Sum.inl (Sum.inl false))
 else
 some (Sum.inr (iadd .i64 s7 1))
 else
 some (Sum.inl (Sum.inr (())))

theorem proof_satisfied_l1f_le {k_ : Nat} {l_0 : (List (List Int))} {model_1 : (List Bool)} {s7 : Int} : Le (proof_satisfied_l1f k_ l_0 model_1 s7) (proof_satisfied_l1 l_0 model_1 s7) := by
  unfold proof_satisfied_l1f proof_satisfied_l1
  repeat' with_reducible (first | exact Le.refl _ | refine slices_ContainsFunc_int_int_f_le | refine Le.meet ?_ ?_ | refine Le.bind ?_ (Le.sumKK (fun _ => ?_) fun _ => ?_) | refine Le.bind ?_ (Le.sumK fun _ => ?_) | refine Le.bind ?_ (fun _ => ?_) | refine Le.cond ?_ ?_ | refine Le.letM (fun _ => ?_) | refine Le.join (fun _ => ?_) (fun _ _ hj => ?_) | exact hj _)

def proof_satisfied_f (k_ : Nat) (l_0 : (List (List Int))) (model_1 : (List Bool)) : Option (Bool) :=
 Option.bind (loopF k_ ((proof_satisfied_l1f k_) l_0 model_1) 0) (sumK (fun a : Bool => some a) fun q10 : Unit =>
 some true)

theorem proof_satisfied_f_le {k_ : Nat} {l_0 : (List (List Int))} {model_1 : (List Bool)} : Le (proof_satisfied_f k_ l_0 model_1) (proof_satisfied_m l_0 model_1) := by
  unfold proof_satisfied_f proof_satisfied_m
  repeat' with_reducible (first | exact Le.refl _ | refine Le.loop (fun _ => proof_satisfied_l1f_le) | refine Le.meet ?_ ?_ | refine Le.bind ?_ (Le.sumKK (fun _ => ?_) fun _ => ?_) | refine Le.bind ?_ (Le.sumK fun _ => ?_) | refine Le.bind ?_ (fun _ => ?_) | refine Le.cond ?_ ?_ | refine Le.letM (fun _ => ?_) | refine Le.join (fun _ => ?_) (fun _ _ hj => ?_) | exact hj _)

def proof_refuted_1_f (k_ : Nat) (c_0 : (List Int)) : Option (Bool) :=
 some (((c_0.length : Int) : Int) == 0)

theorem proof_refuted_1_f_le {k_ : Nat} {c_0 : (List Int)} : Le (proof_refuted_1_f k_ c_0) (proof_refuted_1_m c_0) := by
  unfold proof_refuted_1_f proof_refuted_1_m
  repeat' with_reducible (first | exact Le.refl _ | refine Le.meet ?_ ?_ | refine Le.bind ?_ (Le.sumKK (fun _ => ?_) fun _ => ?_) | refine Le.bind ?_ (Le.sumK fun _ => ?_) | refine Le.bind ?_ (fun _ => ?_) | refine Le.cond ?_ ?_ | refine Le.letM (fun _ => ?_) | refine Le.join (fun _ => ?_) (fun _ _ hj => ?_) | exact hj _)

def slices_IndexFunc_int_int__l1f (k_ : Nat) (s_0 : (List (List Int))) (s7 : Int) : Option (Sum (Sum (Int) (Unit)) (Int)) :=
 bif decide (s7 < ((s_0.length : Int))) then
 Option.bind (idxM s_0 s7) fun t8 =>
 Option.bind ((proof_refuted_1_f k_) t8) fun t9 =>
 bif t9 then
 some (Sum.inl (Sum.inl s7))
 else
 some (Sum.inr (iadd .i64 s7 1))
 else
 some (Sum.inl (Sum.inr (())))

theorem slices_IndexFunc_int_int__l1f_le {k_ : Nat} {s_0 : (List (List Int))} {s7 : Int} : Le (slices_IndexFunc_int_int__l1f k_ s_0 s7) (slices_IndexFunc_int_int__l1 s_0 s7) := by
  unfold slices_IndexFunc_int_int__l1f slices_IndexFunc_int_int__l1
  repeat' with_reducible (first | exact Le.refl _ | refine proof_refuted_1_f_le | refine Le.meet ?_ ?_ | refine Le.bind ?_ (Le.sumKK (fun _ => ?_) fun _ => ?_) | refine Le.bind ?_ (Le.sumK fun _ => ?_) | refine Le.bind ?_ (fun _ => ?_) | refine Le.cond ?_ ?_ | refine Le.letM (fun _ => ?_) | refine Le.join (fun _ => ?_) (fun _ _ hj => ?_) | exact hj _)

def slices_IndexFunc_int_int__f (k_ : Nat) (s_0 : (List (List Int))) : Option (Int) :=
 Option.bind (loopF k_ ((slices_IndexFunc_int_int__l1f k_) s_0) 0) (sumK (fun a : Int => some a) fun q10 : Unit =>
 some ((-1)))

theorem slices_IndexFunc_int_int__f_le {k_ : Nat} {s_0 : (List (List Int))} : Le (slices_IndexFunc_int_int__f k_ s_0) (slices_IndexFunc_int_int__m s_0) := by
  unfold slices_IndexFunc_int_int__f slices_IndexFunc_int_int__m
  repeat' with_reducible (first | exact Le.refl _ | refine Le.loop (fun _ => slices_IndexFunc_int_int__l1f_le) | refine Le.meet ?_ ?_ | refine Le.bind ?_ (Le.sumKK (fun _ => ?_) fun _ => ?_) | refine Le.bind ?_ (Le.sumK fun _ => ?_) | refine Le.bind ?_ (fun _ => ?_) | refine Le.cond ?_ ?_ | refine Le.letM (fun _ => ?_) | refine Le.join (fun _ => ?_) (fun _ _ hj => ?_) | exact hj _)

def slices_ContainsFunc_int_int__f (k_ : Nat) (s_0 : (List (List Int))) : Option (Bool) :=
 Option.bind ((slices_IndexFunc_int_int__f k_) s_0) fun t1 =>
 some (decide (t1 ≥ 0))

theorem slices_ContainsFunc_int_int__f_le {k_ : Nat} {s_0 : (List (List Int))} : Le (slices_ContainsFunc_int_int__f k_ s_0) (slices_ContainsFunc_int_int__m s_0) := by
  unfold slices_ContainsFunc_int_int__f slices_ContainsFunc_int_int__m
  repeat' with_reducible (first | exact Le.refl _ | refine slices_IndexFunc_int_int__f_le | refine Le.meet ?_ ?_ | refine Le.bind ?_ (Le.sumKK (fun _ => ?_) fun _ => ?_) | refine Le.bind ?_ (Le.sumK fun _ => ?_) | refine Le.bind ?_ (fun _ => ?_) | refine Le.cond ?_ ?_ | refine Le.letM (fun _ => ?_) | refine Le.join (fun _ => ?_) (fun _ _ hj => ?_) | exact hj _)

def proof_refuted_l1f (k_ : Nat) (steps_1 : (List T_api_Step)) (s42 : Int × (List (List Int))) : Option (Sum (Sum (Bool) ((List (List Int)))) (Int × (List (List Int)))) :=
 bif decide (s42.1 < ((steps_1.length : Int))) then
 Option.bind (idxM steps_1 s42.1) fun t43 =>
 bif decide ((imin t43.Left t43.Right) < 0) then
 some (Sum.inl (Sum.inl false))
 else
 bif decide ((imax t43.Left t43.Right) ≥ ((s42.2.length : Int))) then
 some (Sum.inl (Sum.inl false))
 else
 Option.bind (idxM s42.2 t43.Left) fun t47 =>
 Option.bind (idxM s42.2 t43.Right) fun t48 =>
 Option.bind ((proof_Resolve_f k_) t47 t48 t43.Pivot) fun t49 =>
 bif !t49.1 then
 some (Sum.inl (Sum.inl false))
 else
 Option.bind (appM 24 s42.2 [t49.2]) fun all50 =>
 some (Sum.inr ((iadd .i64 s42.1 1, all50)))
 else
 some (Sum.inl (Sum.inr s42.2))

theorem proof_refuted_l1f_le {k_ : Nat} {steps_1 : (List T_api_Step)} {s42 : Int × (List (List Int))} : Le (proof_refuted_l1f k_ steps_1 s42) (proof_refuted_l1 steps_1 s42) := by
  unfold proof_refuted_l1f proof_refuted_l1
  repeat' with_reducible (first | exact Le.refl _ | refine proof_Resolve_f_le | refine Le.meet ?_ ?_ | refine Le.bind ?_ (Le.sumKK (fun _ => ?_) fun _ => ?_) | refine Le.bind ?_ (Le.sumK fun _ => ?_) | refine Le.bind ?_ (fun _ => ?_) | refine Le.cond ?_ ?_ | refine Le.letM (fun _ => ?_) | refine Le.join (fun _ => ?_) (fun _ _ hj => ?_) | exact hj _)

def proof_refuted_f (k_ : Nat) (l_0 : (List (List Int))) (steps_1 : (List T_api_Step)) : Option (Bool) :=
 bif ((steps_1.length : Int) : Int) == 0 then
 Option.bind ((slices_ContainsFunc_int_int__f k_) l_0) fun t2 =>
 some t2
 else
 Option.bind ((slices_Clone_int_int_f k_) l_0) fun all3 =>
 Option.bind (loopF k_ ((proof_refuted_l1f k_) steps_1) ((0, all3))) (sumK (fun a : Bool => some a) fun q51 : (List (List Int)) =>
 Option.bind (idxM q51 (isub .i64 ((q51.length : Int)) 1)) fun t52 =>
 some (((t52.length : Int) : Int) == 0))

theorem proof_refuted_f_le {k_ : Nat} {l_0 : (List (List Int))} {steps_1 : (List T_api_Step)} : Le (proof_refuted_f k_ l_0 steps_1) (proof_refuted_m l_0 steps_1) := by
  unfold proof_refuted_f proof_refuted_m
  repeat' with_reducible (first | exact Le.refl _ | refine slices_ContainsFunc_int_int__f_le | refine slices_Clone_int_int_f_le | refine Le.loop (fun _ => proof_refuted_l1f_le) | refine Le.meet ?_ ?_ | refine Le.bind ?_ (Le.sumKK (fun _ => ?_) fun _ => ?_) | refine Le.bind ?_ (Le.sumK fun _ => ?_) | refine Le.bind ?_ (fun _ => ?_) | refine Le.cond ?_ ?_ | refine Le.letM (fun _ => ?_) | refine Le.join (fun _ => ?_) (fun _ _ hj => ?_) | exact hj _)

def proof_Check_f (k_ : Nat) (n_0 : Int) (l_1 : (List (List Int))) (x_2 : T_api_Answer) : Option (Int) :=
 Option.bind ((proof_Validate_f k_) n_0 l_1) fun e2 =>
 bif (e2 : Int) != 0 then
 some e2
 else
 bif x_2.Sat then
 joinM (fun j7 : Bool =>
 bif j7 then
 some 4
 else
 Option.bind ((proof_satisfied_f k_) l_1 x_2.Model) fun t8 =>
 bif !t8 then
 some 11
 else
 some 0) fun k6 =>
 bif decide (((x_2.Steps.length : Int)) > 0) then
 k6 true
 else
 k6 (((x_2.Model.length : Int) : Int) != n_0)
 else
 bif decide (((x_2.Model.length : Int)) > 0) then
 some 4
 else
 bif decide (((x_2.Steps.length : Int)) > 20000) then
 some 2
 else
 Option.bind ((proof_refuted_f k_) l_1 x_2.Steps) fun t9 =>
 bif !t9 then
 some 11
 else
 some 0

theorem proof_Check_f_le {k_ : Nat} {n_0 : Int} {l_1 : (List (List Int))} {x_2 : T_api_Answer} : Le (proof_Check_f k_ n_0 l_1 x_2) (proof_Check_m n_0 l_1 x_2) := by
  unfold proof_Check_f proof_Check_m
  repeat' with_reducible (first | exact Le.refl _ | refine proof_Validate_f_le | refine proof_satisfied_f_le | refine proof_refuted_f_le | refine Le.meet ?_ ?_ | refine Le.bind ?_ (Le.sumKK (fun _ => ?_) fun _ => ?_) | refine Le.bind ?_ (Le.sumK fun _ => ?_) | refine Le.bind ?_ (fun _ => ?_) | refine Le.cond ?_ ?_ | refine Le.letM (fun _ => ?_) | refine Le.join (fun _ => ?_) (fun _ _ hj => ?_) | exact hj _)

def keep_Ints_l1f (k_ : Nat) (a_0 : (List Int)) (b_1 : (List Int)) (s7 : Int) : Option (Sum (Sum (Bool) (Unit)) (Int)) :=
 bif decide (s7 < ((a_0.length : Int))) then
 Option.bind (idxM a_0 s7) fun t8 =>
 Option.bind (idxM b_1 s7) fun t9 =>
 bif (t8 : Int) != t9 then
 some (Sum.inl (Sum.inl false))
 else
 some (Sum.inr (iadd .i64 s7 1))
 else
 some (Sum.inl (Sum.inr (())))

theorem keep_Ints_l1f_le {k_ : Nat} {a_0 : (List Int)} {b_1 : (List Int)} {s7 : Int} : Le (keep_Ints_l1f k_ a_0 b_1 s7) (keep_Ints_l1 a_0 b_1 s7) := by
  unfold keep_Ints_l1f keep_Ints_l1
  repeat' with_reducible (first | exact Le.refl _ | refine Le.meet ?_ ?_ | refine Le.bind ?_ (Le.sumKK (fun _ => ?_) fun _ => ?_) | refine Le.bind ?_ (Le.sumK fun _ => ?_) | refine Le.bind ?_ (fun _ => ?_) | refine Le.cond ?_ ?_ | refine Le.letM (fun _ => ?_) | refine Le.join (fun _ => ?_) (fun _ _ hj => ?_) | exact hj _)

def keep_Ints_f (k_ : Nat) (a_0 : (List Int)) (b_1 : (List Int)) : Option (Bool) :=
 bif ((a_0.length : Int) : Int) != ((b_1.length : Int)) then
 some false
 else
 Option.bind (loopF k_ ((keep_Ints_l1f k_) a_0 b_1) 0) (sumK (fun a : Bool => some a) fun q10 : Unit =>
 some true)

theorem keep_Ints_f_le {k_ : Nat} {a_0 : (List Int)} {b_1 : (List Int)} : Le (keep_Ints_f k_ a_0 b_1) (keep_Ints_m a_0 b_1) := by
  unfold keep_Ints_f keep_Ints_m
  repeat' with_reducible (first | exact Le.refl _ | refine Le.loop (fun _ => keep_Ints_l1f_le) | refine Le.meet ?_ ?_ | refine Le.bind ?_ (Le.sumKK (fun _ => ?_) fun _ => ?_) | refine Le.bind ?_ (Le.sumK fun _ => ?_) | refine Le.bind ?_ (fun _ => ?_) | refine Le.cond ?_ ?_ | refine Le.letM (fun _ => ?_) | refine Le.join (fun _ => ?_) (fun _ _ hj => ?_) | exact hj _)

def law04_awake_f (k_ : Nat) : Option (Bool) :=
 Option.bind ((proof_Resolve_f k_) [1] [(-1), 2] 1) fun t1 =>
 Option.bind ((proof_Resolve_f k_) [1, 2] [(-1), (-2)] 1) fun t2 =>
 Option.bind ((proof_Solve_f k_) 2 ([[1, 2], [(-1), 2]])) fun t3 =>
 Option.bind ((proof_Solve_f k_) 2 ([[1], [(-1), 2], [(-2)]])) fun t4 =>
 Option.bind ((proof_Check_f k_) 2 ([[1], [(-1), 2], [(-2)]]) ((T_api_Answer.mk false [] [(T_api_Step.mk 0 1 1), (T_api_Step.mk 3 2 2)]))) fun t5 =>
 bif (t5 : Int) == 0 then
 bif t1.1 then
 Option.bind ((keep_Ints_f k_) t1.2 [2]) fun t6 =>
 bif t6 then
 bif !t2.1 then
 bif (t3.2 : Int) == 0 then
 bif t3.1.Sat then
 bif ((t3.1.Model.length : Int) : Int) == 2 then
 Option.bind (idxM t3.1.Model 1) fun t7 =>
 bif t7 then
 bif (t4.2 : Int) == 0 then
 bif !t4.1.Sat then
 some (decide (((t4.1.Steps.length : Int)) > 0))
 else
 some false
 else
 some false
 else
 some false
 else
 some false
 else
 some false
 else
 some false
 else
 some false
 else
 some false
 else
 some false
 else
 some false

theorem law04_awake_f_le {k_ : Nat}  : Le (law04_awake_f k_ ) (law04_awake_m ) := by
  unfold law04_awake_f law04_awake_m
  repeat' with_reducible (first | exact Le.refl _ | refine proof_Resolve_f_le | refine proof_Solve_f_le | refine proof_Check_f_le | refine keep_Ints_f_le | refine Le.meet ?_ ?_ | refine Le.bind ?_ (Le.sumKK (fun _ => ?_) fun _ => ?_) | refine Le.bind ?_ (Le.sumK fun _ => ?_) | refine Le.bind ?_ (fun _ => ?_) | refine Le.cond ?_ ?_ | refine Le.letM (fun _ => ?_) | refine Le.join (fun _ => ?_) (fun _ _ hj => ?_) | exact hj _)

end Go.Dc
