/- Part LAW08T.F of a proof: lemmas. -/
import Derived.Test.YtofcoilhjmkejaaLAW08TA3
import Derived.Test.YtofcoilhjmkejaaDcFuel
import Derived.Test.YtofcoilhjmkejaaDcSortP
set_option linter.unusedVariables false
set_option maxRecDepth 100000
namespace Go.Dc

def slices_Min_int_int_l1f (k_ : Nat) (x_0 : (List Int)) (s7 : Int × Int) : Option (Sum (Int) (Int × Int)) :=
  bif decide (s7.2 < (x_0.length : Int)) then
    Option.bind (idxM x_0 s7.2) fun t10 =>
    letM (iadd .i64 s7.2 1) fun i11 =>
    some (Sum.inr (imin s7.1 t10, i11))
  else
    some (Sum.inl s7.1)

theorem slices_Min_int_int_l1f_le {k_ : Nat} {x_0 : (List Int)} {s7 : Int × Int} : Le (slices_Min_int_int_l1f k_ x_0 s7) (slices_Min_int_int_l1 x_0 s7) := by
  unfold slices_Min_int_int_l1f slices_Min_int_int_l1
  repeat' with_reducible (first | exact Le.refl _ | refine Le.bind ?_ (Le.sumK fun _ => ?_) | refine Le.bind ?_ (fun _ => ?_) | refine Le.cond ?_ ?_ | refine Le.letM (fun _ => ?_) | refine Le.join (fun _ => ?_) (fun _ _ hj => ?_) | exact hj _)

def slices_Min_int_int_f (k_ : Nat) (x_0 : (List Int)) : Option (Int) :=
  bif decide ((x_0.length : Int) < 1) then
    none
  else
    Option.bind (idxM x_0 0) fun m2 =>
    Option.bind (loopF k_ (slices_Min_int_int_l1f k_ x_0) (m2, 1)) fun q12 : Int =>
    some q12

theorem slices_Min_int_int_f_le {k_ : Nat} {x_0 : (List Int)} : Le (slices_Min_int_int_f k_ x_0) (slices_Min_int_int_m x_0) := by
  unfold slices_Min_int_int_f slices_Min_int_int_m
  repeat' with_reducible (first | exact Le.refl _ | refine Le.loop (fun _ => slices_Min_int_int_l1f_le) | refine Le.bind ?_ (Le.sumK fun _ => ?_) | refine Le.bind ?_ (fun _ => ?_) | refine Le.cond ?_ ?_ | refine Le.letM (fun _ => ?_) | refine Le.join (fun _ => ?_) (fun _ _ hj => ?_) | exact hj _)

def slices_Max_int_int_l1f (k_ : Nat) (x_0 : (List Int)) (s7 : Int × Int) : Option (Sum (Int) (Int × Int)) :=
  bif decide (s7.2 < (x_0.length : Int)) then
    Option.bind (idxM x_0 s7.2) fun t10 =>
    letM (iadd .i64 s7.2 1) fun i11 =>
    some (Sum.inr (imax s7.1 t10, i11))
  else
    some (Sum.inl s7.1)

theorem slices_Max_int_int_l1f_le {k_ : Nat} {x_0 : (List Int)} {s7 : Int × Int} : Le (slices_Max_int_int_l1f k_ x_0 s7) (slices_Max_int_int_l1 x_0 s7) := by
  unfold slices_Max_int_int_l1f slices_Max_int_int_l1
  repeat' with_reducible (first | exact Le.refl _ | refine Le.bind ?_ (Le.sumK fun _ => ?_) | refine Le.bind ?_ (fun _ => ?_) | refine Le.cond ?_ ?_ | refine Le.letM (fun _ => ?_) | refine Le.join (fun _ => ?_) (fun _ _ hj => ?_) | exact hj _)

def slices_Max_int_int_f (k_ : Nat) (x_0 : (List Int)) : Option (Int) :=
  bif decide ((x_0.length : Int) < 1) then
    none
  else
    Option.bind (idxM x_0 0) fun m2 =>
    Option.bind (loopF k_ (slices_Max_int_int_l1f k_ x_0) (m2, 1)) fun q12 : Int =>
    some q12

theorem slices_Max_int_int_f_le {k_ : Nat} {x_0 : (List Int)} : Le (slices_Max_int_int_f k_ x_0) (slices_Max_int_int_m x_0) := by
  unfold slices_Max_int_int_f slices_Max_int_int_m
  repeat' with_reducible (first | exact Le.refl _ | refine Le.loop (fun _ => slices_Max_int_int_l1f_le) | refine Le.bind ?_ (Le.sumK fun _ => ?_) | refine Le.bind ?_ (fun _ => ?_) | refine Le.cond ?_ ?_ | refine Le.letM (fun _ => ?_) | refine Le.join (fun _ => ?_) (fun _ _ hj => ?_) | exact hj _)

def lift_SetLess_f (k_ : Nat) (a__0 : (List Int)) (b_1 : (List Int)) (lift_2 : Int) : Option (Bool) :=
  joinM (fun j3 : Unit =>
      letM ((b_1.length : Int) == 0) fun t6 =>
      bif t6 then
        some true
      else
        bif lift_2 == 1 then
          Option.bind (slices_Min_int_int_f k_ a__0) fun t9 =>
          Option.bind (slices_Min_int_int_f k_ b_1) fun t10 =>
          letM (decide (t9 < t10)) fun t11 =>
          some t11
        else
          Option.bind (slices_Max_int_int_f k_ a__0) fun t12 =>
          Option.bind (slices_Max_int_int_f k_ b_1) fun t13 =>
          letM (decide (t12 < t13)) fun t14 =>
          some t14) fun k5 =>
  bif lift_2 != 1 then
    bif lift_2 != 2 then
      some false
    else
      bif (a__0.length : Int) == 0 then
        some false
      else
        k5 ()
  else
    bif (a__0.length : Int) == 0 then
      some false
    else
      k5 ()

theorem lift_SetLess_f_le {k_ : Nat} {a__0 : (List Int)} {b_1 : (List Int)} {lift_2 : Int} : Le (lift_SetLess_f k_ a__0 b_1 lift_2) (lift_SetLess_m a__0 b_1 lift_2) := by
  unfold lift_SetLess_f lift_SetLess_m
  repeat' with_reducible (first | exact Le.refl _ | refine slices_Min_int_int_f_le | refine slices_Max_int_int_f_le | refine Le.bind ?_ (Le.sumK fun _ => ?_) | refine Le.bind ?_ (fun _ => ?_) | refine Le.cond ?_ ?_ | refine Le.letM (fun _ => ?_) | refine Le.join (fun _ => ?_) (fun _ _ hj => ?_) | exact hj _)

def ref01_ValidName_l1f (k_ : Nat) (s_0 : ByteArray) (s21 : Int) : Option (Sum ((Sum (Bool) (Unit))) (Int)) :=
  bif decide (s21 < (s_0.size : Int)) then
    Option.bind (sidxM s_0 s21) fun t24 =>
    bif decide (t24 < 97) then
      Option.bind (sidxM s_0 s21) fun t25 =>
      bif decide (t25 < 48) then
        Option.bind (sidxM s_0 s21) fun t26 =>
        bif t26 != 95 then
          some (Sum.inl (Sum.inl false))
        else
          letM (iadd .i64 s21 1) fun i38 =>
          some (Sum.inr i38)
      else
        Option.bind (sidxM s_0 s21) fun t27 =>
        bif decide (t27 > 57) then
          Option.bind (sidxM s_0 s21) fun t28 =>
          bif t28 != 95 then
            some (Sum.inl (Sum.inl false))
          else
            letM (iadd .i64 s21 1) fun i39 =>
            some (Sum.inr i39)
        else
          letM (iadd .i64 s21 1) fun i40 =>
          some (Sum.inr i40)
    else
      Option.bind (sidxM s_0 s21) fun t29 =>
      bif decide (t29 > 122) then
        Option.bind (sidxM s_0 s21) fun t30 =>
        bif decide (t30 < 48) then
          Option.bind (sidxM s_0 s21) fun t31 =>
          bif t31 != 95 then
            some (Sum.inl (Sum.inl false))
          else
            letM (iadd .i64 s21 1) fun i41 =>
            some (Sum.inr i41)
        else
          Option.bind (sidxM s_0 s21) fun t32 =>
          bif decide (t32 > 57) then
            Option.bind (sidxM s_0 s21) fun t33 =>
            bif t33 != 95 then
              some (Sum.inl (Sum.inl false))
            else
              letM (iadd .i64 s21 1) fun i42 =>
              some (Sum.inr i42)
          else
            letM (iadd .i64 s21 1) fun i43 =>
            some (Sum.inr i43)
      else
        letM (iadd .i64 s21 1) fun i44 =>
        some (Sum.inr i44)
  else
    some (Sum.inl (Sum.inr ()))

theorem ref01_ValidName_l1f_le {k_ : Nat} {s_0 : ByteArray} {s21 : Int} : Le (ref01_ValidName_l1f k_ s_0 s21) (ref01_ValidName_l1 s_0 s21) := by
  unfold ref01_ValidName_l1f ref01_ValidName_l1
  repeat' with_reducible (first | exact Le.refl _ | refine Le.bind ?_ (Le.sumK fun _ => ?_) | refine Le.bind ?_ (fun _ => ?_) | refine Le.cond ?_ ?_ | refine Le.letM (fun _ => ?_) | refine Le.join (fun _ => ?_) (fun _ _ hj => ?_) | exact hj _)

def ref01_ValidName_f (k_ : Nat) (s_0 : ByteArray) : Option (Bool) :=
  bif decide ((s_0.size : Int) < 1) then
    some false
  else
    bif decide ((s_0.size : Int) > 12) then
      some false
    else
      Option.bind (sidxM s_0 0) fun t1 =>
      bif decide (t1 < 97) then
        some false
      else
        Option.bind (sidxM s_0 0) fun t2 =>
        bif decide (t2 > 122) then
          some false
        else
          Option.bind (loopF k_ (ref01_ValidName_l1f k_ s_0) 0) (sumK (fun a : Bool => some a) fun q45 : Unit =>
            some true)

theorem ref01_ValidName_f_le {k_ : Nat} {s_0 : ByteArray} : Le (ref01_ValidName_f k_ s_0) (ref01_ValidName_m s_0) := by
  unfold ref01_ValidName_f ref01_ValidName_m
  repeat' with_reducible (first | exact Le.refl _ | refine Le.loop (fun _ => ref01_ValidName_l1f_le) | refine Le.bind ?_ (Le.sumK fun _ => ?_) | refine Le.bind ?_ (fun _ => ?_) | refine Le.cond ?_ ?_ | refine Le.letM (fun _ => ?_) | refine Le.join (fun _ => ?_) (fun _ _ hj => ?_) | exact hj _)

def ref01_Valid_f (k_ : Nat) (x_0 : T_api_Literal) : Option (Bool) :=
  Option.bind (ref01_ValidName_f k_ x_0.Name) fun t2 =>
  some t2

theorem ref01_Valid_f_le {k_ : Nat} {x_0 : T_api_Literal} : Le (ref01_Valid_f k_ x_0) (ref01_Valid_m x_0) := by
  unfold ref01_Valid_f ref01_Valid_m
  repeat' with_reducible (first | exact Le.refl _ | refine ref01_ValidName_f_le | refine Le.bind ?_ (Le.sumK fun _ => ?_) | refine Le.bind ?_ (fun _ => ?_) | refine Le.cond ?_ ?_ | refine Le.letM (fun _ => ?_) | refine Le.join (fun _ => ?_) (fun _ _ hj => ?_) | exact hj _)

def ref05_rank_f (k_ : Nat) (n_0 : Int) : Option (Bool) :=
  bif decide (n_0 ≥ 0) then
    letM (decide (n_0 ≤ 9)) fun t1 =>
    some t1
  else
    some false

theorem ref05_rank_f_le {k_ : Nat} {n_0 : Int} : Le (ref05_rank_f k_ n_0) (ref05_rank_m n_0) := by
  unfold ref05_rank_f ref05_rank_m
  repeat' with_reducible (first | exact Le.refl _ | refine Le.bind ?_ (Le.sumK fun _ => ?_) | refine Le.bind ?_ (fun _ => ?_) | refine Le.cond ?_ ?_ | refine Le.letM (fun _ => ?_) | refine Le.join (fun _ => ?_) (fun _ _ hj => ?_) | exact hj _)

def ref05_premise_f (k_ : Nat) (p_0 : T_api_Premise) : Option (Int) :=
  bif decide (p_0.Kind < 1) then
    some 4
  else
    bif decide (p_0.Kind > 3) then
      some 4
    else
      Option.bind (ref01_Valid_f k_ p_0.Literal) fun t3 =>
      bif !t3 then
        some 1
      else
        Option.bind (ref05_rank_f k_ p_0.Rank) fun t4 =>
        bif !t4 then
          some 1
        else
          bif p_0.Kind != 2 then
            bif p_0.Rank != 0 then
              some 1
            else
              bif !(p_0.Source.toList == (ByteArray.mk #[]).toList) then
                Option.bind (ref01_ValidName_f k_ p_0.Source) fun t5 =>
                bif !t5 then
                  some 1
                else
                  some 0
              else
                some 0
          else
            bif !(p_0.Source.toList == (ByteArray.mk #[]).toList) then
              Option.bind (ref01_ValidName_f k_ p_0.Source) fun t6 =>
              bif !t6 then
                some 1
              else
                some 0
            else
              some 0

theorem ref05_premise_f_le {k_ : Nat} {p_0 : T_api_Premise} : Le (ref05_premise_f k_ p_0) (ref05_premise_m p_0) := by
  unfold ref05_premise_f ref05_premise_m
  repeat' with_reducible (first | exact Le.refl _ | refine ref01_Valid_f_le | refine ref05_rank_f_le | refine ref01_ValidName_f_le | refine Le.bind ?_ (Le.sumK fun _ => ?_) | refine Le.bind ?_ (fun _ => ?_) | refine Le.cond ?_ ?_ | refine Le.letM (fun _ => ?_) | refine Le.join (fun _ => ?_) (fun _ _ hj => ?_) | exact hj _)

def ref05_Premise_l1f (k_ : Nat) (b_0 : T_api_Base) (x_1 : T_api_Literal) (s8 : Int) : Option (Sum ((Sum (Int) (Unit))) (Int)) :=
  bif decide (s8 < (b_0.Premises.length : Int)) then
    Option.bind (idxM b_0.Premises s8) fun t11 =>
    bif decide (t11.Literal = x_1) then
      some (Sum.inl (Sum.inl s8))
    else
      some (Sum.inr (iadd .i64 s8 1))
  else
    some (Sum.inl (Sum.inr ()))

theorem ref05_Premise_l1f_le {k_ : Nat} {b_0 : T_api_Base} {x_1 : T_api_Literal} {s8 : Int} : Le (ref05_Premise_l1f k_ b_0 x_1 s8) (ref05_Premise_l1 b_0 x_1 s8) := by
  unfold ref05_Premise_l1f ref05_Premise_l1
  repeat' with_reducible (first | exact Le.refl _ | refine Le.bind ?_ (Le.sumK fun _ => ?_) | refine Le.bind ?_ (fun _ => ?_) | refine Le.cond ?_ ?_ | refine Le.letM (fun _ => ?_) | refine Le.join (fun _ => ?_) (fun _ _ hj => ?_) | exact hj _)

def ref05_Premise_f (k_ : Nat) (b_0 : T_api_Base) (x_1 : T_api_Literal) : Option (Int) :=
  Option.bind (loopF k_ (ref05_Premise_l1f k_ b_0 x_1) 0) (sumK (fun a : Int => some a) fun q13 : Unit =>
    some (-1))

theorem ref05_Premise_f_le {k_ : Nat} {b_0 : T_api_Base} {x_1 : T_api_Literal} : Le (ref05_Premise_f k_ b_0 x_1) (ref05_Premise_m b_0 x_1) := by
  unfold ref05_Premise_f ref05_Premise_m
  repeat' with_reducible (first | exact Le.refl _ | refine Le.loop (fun _ => ref05_Premise_l1f_le) | refine Le.bind ?_ (Le.sumK fun _ => ?_) | refine Le.bind ?_ (fun _ => ?_) | refine Le.cond ?_ ?_ | refine Le.letM (fun _ => ?_) | refine Le.join (fun _ => ?_) (fun _ _ hj => ?_) | exact hj _)

def ref01_Compare_f (k_ : Nat) (a__0 : T_api_Literal) (b_1 : T_api_Literal) : Option (Int) :=
  letM (decide (a__0 = b_1)) fun t3 =>
  bif t3 then
    some 0
  else
    bif Op.bytesLess a__0.Name.toList b_1.Name.toList then
      some (-1)
    else
      bif a__0.Name.toList == b_1.Name.toList then
        bif b_1.Neg then
          some (-1)
        else
          some 1
      else
        some 1

theorem ref01_Compare_f_le {k_ : Nat} {a__0 : T_api_Literal} {b_1 : T_api_Literal} : Le (ref01_Compare_f k_ a__0 b_1) (ref01_Compare_m a__0 b_1) := by
  unfold ref01_Compare_f ref01_Compare_m
  repeat' with_reducible (first | exact Le.refl _ | refine Le.bind ?_ (Le.sumK fun _ => ?_) | refine Le.bind ?_ (fun _ => ?_) | refine Le.cond ?_ ?_ | refine Le.letM (fun _ => ?_) | refine Le.join (fun _ => ?_) (fun _ _ hj => ?_) | exact hj _)

def ref05_rule_l1f (k_ : Nat) (r__0 : T_api_Rule) (s15 : Bool × Int) : Option (Sum (Bool) (Bool × Int)) :=
  bif decide (s15.2 < (r__0.Body.length : Int)) then
    bif s15.1 then
      Option.bind (idxM r__0.Body s15.2) fun t18 =>
      Option.bind (ref01_Valid_f k_ t18) fun t19 =>
      letM (iadd .i64 s15.2 1) fun i20 =>
      some (Sum.inr (t19, i20))
    else
      letM (iadd .i64 s15.2 1) fun i21 =>
      some (Sum.inr (false, i21))
  else
    some (Sum.inl s15.1)

theorem ref05_rule_l1f_le {k_ : Nat} {r__0 : T_api_Rule} {s15 : Bool × Int} : Le (ref05_rule_l1f k_ r__0 s15) (ref05_rule_l1 r__0 s15) := by
  unfold ref05_rule_l1f ref05_rule_l1
  repeat' with_reducible (first | exact Le.refl _ | refine ref01_Valid_f_le | refine Le.bind ?_ (Le.sumK fun _ => ?_) | refine Le.bind ?_ (fun _ => ?_) | refine Le.cond ?_ ?_ | refine Le.letM (fun _ => ?_) | refine Le.join (fun _ => ?_) (fun _ _ hj => ?_) | exact hj _)

def ref05_rule_l2f (k_ : Nat) (r__0 : T_api_Rule) (s32 : Int) : Option (Sum ((Sum (Int) (Unit))) (Int)) :=
  bif decide (s32 < (r__0.Body.length : Int)) then
    Option.bind (idxM r__0.Body (isub .i64 s32 1)) fun t35 =>
    Option.bind (idxM r__0.Body s32) fun t36 =>
    Option.bind (ref01_Compare_f k_ t35 t36) fun t37 =>
    bif decide (t37 ≥ 0) then
      some (Sum.inl (Sum.inl 8))
    else
      letM (iadd .i64 s32 1) fun i39 =>
      some (Sum.inr i39)
  else
    some (Sum.inl (Sum.inr ()))

theorem ref05_rule_l2f_le {k_ : Nat} {r__0 : T_api_Rule} {s32 : Int} : Le (ref05_rule_l2f k_ r__0 s32) (ref05_rule_l2 r__0 s32) := by
  unfold ref05_rule_l2f ref05_rule_l2
  repeat' with_reducible (first | exact Le.refl _ | refine ref01_Compare_f_le | refine Le.bind ?_ (Le.sumK fun _ => ?_) | refine Le.bind ?_ (fun _ => ?_) | refine Le.cond ?_ ?_ | refine Le.letM (fun _ => ?_) | refine Le.join (fun _ => ?_) (fun _ _ hj => ?_) | exact hj _)

def ref05_rule_f (k_ : Nat) (r__0 : T_api_Rule) : Option (Int) :=
  bif decide ((r__0.Body.length : Int) > 4) then
    some 2
  else
    joinM (fun j7 : Bool =>
        Option.bind (loopF k_ (ref05_rule_l1f k_ r__0) (j7, 0)) fun q22 : Bool =>
        bif !q22 then
          some 1
        else
          Option.bind (loopF k_ (ref05_rule_l2f k_ r__0) 1) (sumK (fun a : Int => some a) fun q40 : Unit =>
            some 0)) fun k9 =>
    Option.bind (ref01_ValidName_f k_ r__0.Name) fun t3 =>
    bif t3 then
      Option.bind (ref05_rank_f k_ r__0.Rank) fun t4 =>
      bif t4 then
        bif !r__0.Strict then
          Option.bind (ref01_Valid_f k_ r__0.Head) fun t5 =>
          k9 t5
        else
          bif r__0.Rank == 0 then
            Option.bind (ref01_Valid_f k_ r__0.Head) fun t6 =>
            k9 t6
          else
            k9 false
      else
        k9 false
    else
      k9 false

theorem ref05_rule_f_le {k_ : Nat} {r__0 : T_api_Rule} : Le (ref05_rule_f k_ r__0) (ref05_rule_m r__0) := by
  unfold ref05_rule_f ref05_rule_m
  repeat' with_reducible (first | exact Le.refl _ | refine ref01_ValidName_f_le | refine ref05_rank_f_le | refine ref01_Valid_f_le | refine Le.loop (fun _ => ref05_rule_l1f_le) | refine Le.loop (fun _ => ref05_rule_l2f_le) | refine Le.bind ?_ (Le.sumK fun _ => ?_) | refine Le.bind ?_ (fun _ => ?_) | refine Le.cond ?_ ?_ | refine Le.letM (fun _ => ?_) | refine Le.join (fun _ => ?_) (fun _ _ hj => ?_) | exact hj _)

def ref05_Find_l1f (k_ : Nat) (b_0 : T_api_Base) (name_1 : ByteArray) (s7 : Int) : Option (Sum ((Sum (Int) (Unit))) (Int)) :=
  bif decide (s7 < (b_0.Rules.length : Int)) then
    Option.bind (idxM b_0.Rules s7) fun t10 =>
    bif t10.Name.toList == name_1.toList then
      some (Sum.inl (Sum.inl s7))
    else
      some (Sum.inr (iadd .i64 s7 1))
  else
    some (Sum.inl (Sum.inr ()))

theorem ref05_Find_l1f_le {k_ : Nat} {b_0 : T_api_Base} {name_1 : ByteArray} {s7 : Int} : Le (ref05_Find_l1f k_ b_0 name_1 s7) (ref05_Find_l1 b_0 name_1 s7) := by
  unfold ref05_Find_l1f ref05_Find_l1
  repeat' with_reducible (first | exact Le.refl _ | refine Le.bind ?_ (Le.sumK fun _ => ?_) | refine Le.bind ?_ (fun _ => ?_) | refine Le.cond ?_ ?_ | refine Le.letM (fun _ => ?_) | refine Le.join (fun _ => ?_) (fun _ _ hj => ?_) | exact hj _)

def ref05_Find_f (k_ : Nat) (b_0 : T_api_Base) (name_1 : ByteArray) : Option (Int) :=
  Option.bind (loopF k_ (ref05_Find_l1f k_ b_0 name_1) 0) (sumK (fun a : Int => some a) fun q12 : Unit =>
    some (-1))

theorem ref05_Find_f_le {k_ : Nat} {b_0 : T_api_Base} {name_1 : ByteArray} : Le (ref05_Find_f k_ b_0 name_1) (ref05_Find_m b_0 name_1) := by
  unfold ref05_Find_f ref05_Find_m
  repeat' with_reducible (first | exact Le.refl _ | refine Le.loop (fun _ => ref05_Find_l1f_le) | refine Le.bind ?_ (Le.sumK fun _ => ?_) | refine Le.bind ?_ (fun _ => ?_) | refine Le.cond ?_ ?_ | refine Le.letM (fun _ => ?_) | refine Le.join (fun _ => ?_) (fun _ _ hj => ?_) | exact hj _)

def ref05_Validate_l1f (k_ : Nat) (b_0 : T_api_Base) (s12 : Int) : Option (Sum ((Sum (Int) (Unit))) (Int)) :=
  bif decide (s12 < (b_0.Premises.length : Int)) then
    Option.bind (idxM b_0.Premises s12) fun t15 =>
    Option.bind (ref05_premise_f k_ t15) fun e16 =>
    bif e16 != 0 then
      some (Sum.inl (Sum.inl e16))
    else
      Option.bind (idxM b_0.Premises s12) fun t18 =>
      Option.bind (ref05_Premise_f k_ b_0 t18.Literal) fun t19 =>
      bif decide (t19 < s12) then
        some (Sum.inl (Sum.inl 5))
      else
        letM (iadd .i64 s12 1) fun i21 =>
        some (Sum.inr i21)
  else
    some (Sum.inl (Sum.inr ()))

theorem ref05_Validate_l1f_le {k_ : Nat} {b_0 : T_api_Base} {s12 : Int} : Le (ref05_Validate_l1f k_ b_0 s12) (ref05_Validate_l1 b_0 s12) := by
  unfold ref05_Validate_l1f ref05_Validate_l1
  repeat' with_reducible (first | exact Le.refl _ | refine ref05_premise_f_le | refine ref05_Premise_f_le | refine Le.bind ?_ (Le.sumK fun _ => ?_) | refine Le.bind ?_ (fun _ => ?_) | refine Le.cond ?_ ?_ | refine Le.letM (fun _ => ?_) | refine Le.join (fun _ => ?_) (fun _ _ hj => ?_) | exact hj _)

def ref05_Validate_l2f (k_ : Nat) (b_0 : T_api_Base) (s33 : Int) : Option (Sum ((Sum (Int) (Unit))) (Int)) :=
  bif decide (s33 < (b_0.Rules.length : Int)) then
    Option.bind (idxM b_0.Rules s33) fun t36 =>
    Option.bind (ref05_rule_f k_ t36) fun e37 =>
    bif e37 != 0 then
      some (Sum.inl (Sum.inl e37))
    else
      Option.bind (idxM b_0.Rules s33) fun t39 =>
      Option.bind (ref05_Find_f k_ b_0 t39.Name) fun t40 =>
      bif decide (t40 < s33) then
        some (Sum.inl (Sum.inl 5))
      else
        letM (iadd .i64 s33 1) fun i42 =>
        some (Sum.inr i42)
  else
    some (Sum.inl (Sum.inr ()))

theorem ref05_Validate_l2f_le {k_ : Nat} {b_0 : T_api_Base} {s33 : Int} : Le (ref05_Validate_l2f k_ b_0 s33) (ref05_Validate_l2 b_0 s33) := by
  unfold ref05_Validate_l2f ref05_Validate_l2
  repeat' with_reducible (first | exact Le.refl _ | refine ref05_rule_f_le | refine ref05_Find_f_le | refine Le.bind ?_ (Le.sumK fun _ => ?_) | refine Le.bind ?_ (fun _ => ?_) | refine Le.cond ?_ ?_ | refine Le.letM (fun _ => ?_) | refine Le.join (fun _ => ?_) (fun _ _ hj => ?_) | exact hj _)

def ref05_Validate_l3f (k_ : Nat) (b_0 : T_api_Base) (s57 : Int) : Option (Sum ((Sum (Int) (Unit))) (Int)) :=
  bif decide (s57 < (b_0.Promotions.length : Int)) then
    Option.bind (idxM b_0.Promotions s57) fun t60 =>
    Option.bind (ref05_rank_f k_ t60.Rank) fun t62 =>
    bif !t62 then
      some (Sum.inl (Sum.inl 1))
    else
      Option.bind (ref01_Valid_f k_ t60.If) fun t63 =>
      bif !t63 then
        some (Sum.inl (Sum.inl 1))
      else
        Option.bind (ref05_Find_f k_ b_0 t60.Rule) fun k65 =>
        bif decide (k65 < 0) then
          some (Sum.inl (Sum.inl 6))
        else
          Option.bind (idxM b_0.Rules k65) fun t67 =>
          bif t67.Strict then
            some (Sum.inl (Sum.inl 4))
          else
            letM (iadd .i64 s57 1) fun i69 =>
            some (Sum.inr i69)
  else
    some (Sum.inl (Sum.inr ()))

theorem ref05_Validate_l3f_le {k_ : Nat} {b_0 : T_api_Base} {s57 : Int} : Le (ref05_Validate_l3f k_ b_0 s57) (ref05_Validate_l3 b_0 s57) := by
  unfold ref05_Validate_l3f ref05_Validate_l3
  repeat' with_reducible (first | exact Le.refl _ | refine ref05_rank_f_le | refine ref01_Valid_f_le | refine ref05_Find_f_le | refine Le.bind ?_ (Le.sumK fun _ => ?_) | refine Le.bind ?_ (fun _ => ?_) | refine Le.cond ?_ ?_ | refine Le.letM (fun _ => ?_) | refine Le.join (fun _ => ?_) (fun _ _ hj => ?_) | exact hj _)

def ref05_Validate_f (k_ : Nat) (b_0 : T_api_Base) : Option (Int) :=
  bif decide ((b_0.Premises.length : Int) > 16) then
    some 2
  else
    bif decide ((b_0.Rules.length : Int) > 24) then
      some 2
    else
      bif decide ((b_0.Promotions.length : Int) > 8) then
        some 2
      else
        Option.bind (loopF k_ (ref05_Validate_l1f k_ b_0) 0) (sumK (fun a : Int => some a) fun q22 : Unit =>
          Option.bind (loopF k_ (ref05_Validate_l2f k_ b_0) 0) (sumK (fun a : Int => some a) fun q43 : Unit =>
            Option.bind (loopF k_ (ref05_Validate_l3f k_ b_0) 0) (sumK (fun a : Int => some a) fun q70 : Unit =>
              some 0)))

theorem ref05_Validate_f_le {k_ : Nat} {b_0 : T_api_Base} : Le (ref05_Validate_f k_ b_0) (ref05_Validate_m b_0) := by
  unfold ref05_Validate_f ref05_Validate_m
  repeat' with_reducible (first | exact Le.refl _ | refine Le.loop (fun _ => ref05_Validate_l1f_le) | refine Le.loop (fun _ => ref05_Validate_l2f_le) | refine Le.loop (fun _ => ref05_Validate_l3f_le) | refine Le.bind ?_ (Le.sumK fun _ => ?_) | refine Le.bind ?_ (fun _ => ?_) | refine Le.cond ?_ ?_ | refine Le.letM (fun _ => ?_) | refine Le.join (fun _ => ?_) (fun _ _ hj => ?_) | exact hj _)

def ref07_recent_l1f (k_ : Nat) (subs_0 : (List Int)) (from__1 : Int) (s6 : Int) : Option (Sum ((Sum (Bool) (Unit))) (Int)) :=
  bif decide (s6 < (subs_0.length : Int)) then
    Option.bind (idxM subs_0 s6) fun t9 =>
    bif decide (t9 ≥ from__1) then
      some (Sum.inl (Sum.inl true))
    else
      some (Sum.inr (iadd .i64 s6 1))
  else
    some (Sum.inl (Sum.inr ()))

theorem ref07_recent_l1f_le {k_ : Nat} {subs_0 : (List Int)} {from__1 : Int} {s6 : Int} : Le (ref07_recent_l1f k_ subs_0 from__1 s6) (ref07_recent_l1 subs_0 from__1 s6) := by
  unfold ref07_recent_l1f ref07_recent_l1
  repeat' with_reducible (first | exact Le.refl _ | refine Le.bind ?_ (Le.sumK fun _ => ?_) | refine Le.bind ?_ (fun _ => ?_) | refine Le.cond ?_ ?_ | refine Le.letM (fun _ => ?_) | refine Le.join (fun _ => ?_) (fun _ _ hj => ?_) | exact hj _)

def ref07_recent_f (k_ : Nat) (subs_0 : (List Int)) (from__1 : Int) : Option (Bool) :=
  Option.bind (loopF k_ (ref07_recent_l1f k_ subs_0 from__1) 0) (sumK (fun a : Bool => some a) fun q11 : Unit =>
    some false)

theorem ref07_recent_f_le {k_ : Nat} {subs_0 : (List Int)} {from__1 : Int} : Le (ref07_recent_f k_ subs_0 from__1) (ref07_recent_m subs_0 from__1) := by
  unfold ref07_recent_f ref07_recent_m
  repeat' with_reducible (first | exact Le.refl _ | refine Le.loop (fun _ => ref07_recent_l1f_le) | refine Le.bind ?_ (Le.sumK fun _ => ?_) | refine Le.bind ?_ (fun _ => ?_) | refine Le.cond ?_ ?_ | refine Le.letM (fun _ => ?_) | refine Le.join (fun _ => ?_) (fun _ _ hj => ?_) | exact hj _)

def ref07_Run_l1f (k_ : Nat) (b_0 : T_api_Base) (l_1 : (List T_api_Argument)) (i_2 : Int) (rec_ : T_api_Base → (List T_api_Argument) → Int → Option (List T_api_Literal)) (s32 : Int × (List T_api_Literal)) : Option (Sum ((List T_api_Literal)) (Int × (List T_api_Literal))) :=
  Option.bind (idxM l_1 i_2) fun t34 =>
  bif decide (s32.1 < (t34.Subs.length : Int)) then
    Option.bind (idxM l_1 i_2) fun t36 =>
    Option.bind (idxM t36.Subs s32.1) fun t37 =>
    Option.bind (rec_ b_0 l_1 t37) fun t38 =>
    Option.bind (appM 24 s32.2 t38) fun out40 =>
    letM (iadd .i64 s32.1 1) fun k42 =>
    some (Sum.inr (k42, out40))
  else
    some (Sum.inl s32.2)

theorem ref07_Run_l1f_le {k_ : Nat} {rec_ rec_' : T_api_Base → (List T_api_Argument) → Int → Option (List T_api_Literal)} (h : ∀ a0 a1 a2, Le (rec_ a0 a1 a2) (rec_' a0 a1 a2)) {b_0 : T_api_Base} {l_1 : (List T_api_Argument)} {i_2 : Int} {s32 : Int × (List T_api_Literal)} : Le (ref07_Run_l1f k_ b_0 l_1 i_2 rec_ s32) (ref07_Run_l1 b_0 l_1 i_2 rec_' s32) := by
  unfold ref07_Run_l1f ref07_Run_l1
  repeat' with_reducible (first | exact Le.refl _ | exact h _ _ _ | refine Le.bind ?_ (Le.sumK fun _ => ?_) | refine Le.bind ?_ (fun _ => ?_) | refine Le.cond ?_ ?_ | refine Le.letM (fun _ => ?_) | refine Le.join (fun _ => ?_) (fun _ _ hj => ?_) | exact hj _)

def ref07_Run_bf (k_ : Nat) (rec_ : T_api_Base → (List T_api_Argument) → Int → Option (List T_api_Literal)) (b_0 : T_api_Base) (l_1 : (List T_api_Argument)) (i_2 : Int) : Option (List T_api_Literal) :=
  Option.bind (idxM l_1 i_2) fun t2 =>
  joinM (fun j7 : Bool =>
      bif j7 then
        Option.bind (loopF k_ (ref07_Run_l1f k_ b_0 l_1 i_2 rec_) (0, [t2.Conclusion])) fun q43 : (List T_api_Literal) =>
        some q43
      else
        some [t2.Conclusion]) fun k9 =>
  Option.bind (idxM l_1 i_2) fun t4 =>
  bif decide (t4.Rule ≥ 0) then
    Option.bind (idxM l_1 i_2) fun t5 =>
    Option.bind (idxM b_0.Rules t5.Rule) fun t6 =>
    k9 t6.Strict
  else
    k9 false

theorem ref07_Run_bf_le {k_ : Nat} {rec_ rec_' : T_api_Base → (List T_api_Argument) → Int → Option (List T_api_Literal)} (h : ∀ a0 a1 a2, Le (rec_ a0 a1 a2) (rec_' a0 a1 a2)) {b_0 : T_api_Base} {l_1 : (List T_api_Argument)} {i_2 : Int} : Le (ref07_Run_bf k_ rec_ b_0 l_1 i_2) (ref07_Run_b rec_' b_0 l_1 i_2) := by
  unfold ref07_Run_bf ref07_Run_b
  repeat' with_reducible (first | exact Le.refl _ | exact h _ _ _ | refine Le.loop (fun _ => ref07_Run_l1f_le h) | refine Le.bind ?_ (Le.sumK fun _ => ?_) | refine Le.bind ?_ (fun _ => ?_) | refine Le.cond ?_ ?_ | refine Le.letM (fun _ => ?_) | refine Le.join (fun _ => ?_) (fun _ _ hj => ?_) | exact hj _)

def ref07_Run_nf (k_ : Nat) : Nat → T_api_Base → (List T_api_Argument) → Int → Option (List T_api_Literal)
  | 0 => fun _ _ _ => none
  | n_ + 1 => ref07_Run_bf k_ (ref07_Run_nf k_ n_)

theorem ref07_Run_nf_le {k_ : Nat} : ∀ (n_ : Nat) a0 a1 a2, Le (ref07_Run_nf k_ n_ a0 a1 a2) (ref07_Run_n n_ a0 a1 a2)
  | 0, _, _, _ => fun _ h => by cases h
  | n_ + 1, _, _, _ => ref07_Run_bf_le (ref07_Run_nf_le n_)

def ref07_Run_f (k_ : Nat) (b_0 : T_api_Base) (l_1 : (List T_api_Argument)) (i_2 : Int) : Option (List T_api_Literal) := ref07_Run_nf k_ k_ b_0 l_1 i_2

theorem ref07_Run_f_le {k_ : Nat} {b_0 : T_api_Base} {l_1 : (List T_api_Argument)} {i_2 : Int} : Le (ref07_Run_f k_ b_0 l_1 i_2) (ref07_Run_m b_0 l_1 i_2) := fun r hr => recC_of (fun n => ref07_Run_n_le n _ _ _) (ref07_Run_nf_le k_ _ _ _ r hr)

def ref01_Has_l1f (k_ : Nat) (l_0 : (List T_api_Literal)) (x_1 : T_api_Literal) (s7 : Int) : Option (Sum ((Sum (Bool) (Unit))) (Int)) :=
  bif decide (s7 < (l_0.length : Int)) then
    Option.bind (idxM l_0 s7) fun t10 =>
    bif decide (t10 = x_1) then
      some (Sum.inl (Sum.inl true))
    else
      some (Sum.inr (iadd .i64 s7 1))
  else
    some (Sum.inl (Sum.inr ()))

theorem ref01_Has_l1f_le {k_ : Nat} {l_0 : (List T_api_Literal)} {x_1 : T_api_Literal} {s7 : Int} : Le (ref01_Has_l1f k_ l_0 x_1 s7) (ref01_Has_l1 l_0 x_1 s7) := by
  unfold ref01_Has_l1f ref01_Has_l1
  repeat' with_reducible (first | exact Le.refl _ | refine Le.bind ?_ (Le.sumK fun _ => ?_) | refine Le.bind ?_ (fun _ => ?_) | refine Le.cond ?_ ?_ | refine Le.letM (fun _ => ?_) | refine Le.join (fun _ => ?_) (fun _ _ hj => ?_) | exact hj _)

def ref01_Has_f (k_ : Nat) (l_0 : (List T_api_Literal)) (x_1 : T_api_Literal) : Option (Bool) :=
  Option.bind (loopF k_ (ref01_Has_l1f k_ l_0 x_1) 0) (sumK (fun a : Bool => some a) fun q12 : Unit =>
    some false)

theorem ref01_Has_f_le {k_ : Nat} {l_0 : (List T_api_Literal)} {x_1 : T_api_Literal} : Le (ref01_Has_f k_ l_0 x_1) (ref01_Has_m l_0 x_1) := by
  unfold ref01_Has_f ref01_Has_m
  repeat' with_reducible (first | exact Le.refl _ | refine Le.loop (fun _ => ref01_Has_l1f_le) | refine Le.bind ?_ (Le.sumK fun _ => ?_) | refine Le.bind ?_ (fun _ => ?_) | refine Le.cond ?_ ?_ | refine Le.letM (fun _ => ?_) | refine Le.join (fun _ => ?_) (fun _ _ hj => ?_) | exact hj _)

def ref07_insert_l1f (k_ : Nat) (l_0 : (List Int)) (n_1 : Int) (s5 : Int) : Option (Sum (Int) (Int)) :=
  bif decide (s5 < (l_0.length : Int)) then
    Option.bind (idxM l_0 s5) fun t7 =>
    bif decide (t7 < n_1) then
      some (Sum.inr (iadd .i64 s5 1))
    else
      some (Sum.inl s5)
  else
    some (Sum.inl s5)

theorem ref07_insert_l1f_le {k_ : Nat} {l_0 : (List Int)} {n_1 : Int} {s5 : Int} : Le (ref07_insert_l1f k_ l_0 n_1 s5) (ref07_insert_l1 l_0 n_1 s5) := by
  unfold ref07_insert_l1f ref07_insert_l1
  repeat' with_reducible (first | exact Le.refl _ | refine Le.bind ?_ (Le.sumK fun _ => ?_) | refine Le.bind ?_ (fun _ => ?_) | refine Le.cond ?_ ?_ | refine Le.letM (fun _ => ?_) | refine Le.join (fun _ => ?_) (fun _ _ hj => ?_) | exact hj _)

def ref07_insert_f (k_ : Nat) (l_0 : (List Int)) (n_1 : Int) : Option (List Int) :=
  Option.bind (loopF k_ (ref07_insert_l1f k_ l_0 n_1) 0) fun q9 : Int =>
  joinM (fun j13 : Unit =>
      Option.bind (slM l_0 0 q9) fun t17 =>
      Option.bind (appM 8 [] t17) fun out18 =>
      Option.bind (slM l_0 q9 (l_0.length : Int)) fun t20 =>
      Option.bind (appM 8 out18 [n_1]) fun t21 =>
      Option.bind (appM 8 t21 t20) fun t23 =>
      some t23) fun k15 =>
  bif decide (q9 < (l_0.length : Int)) then
    Option.bind (idxM l_0 q9) fun t11 =>
    bif t11 == n_1 then
      some l_0
    else
      k15 ()
  else
    k15 ()

theorem ref07_insert_f_le {k_ : Nat} {l_0 : (List Int)} {n_1 : Int} : Le (ref07_insert_f k_ l_0 n_1) (ref07_insert_m l_0 n_1) := by
  unfold ref07_insert_f ref07_insert_m
  repeat' with_reducible (first | exact Le.refl _ | refine Le.loop (fun _ => ref07_insert_l1f_le) | refine Le.bind ?_ (Le.sumK fun _ => ?_) | refine Le.bind ?_ (fun _ => ?_) | refine Le.cond ?_ ?_ | refine Le.letM (fun _ => ?_) | refine Le.join (fun _ => ?_) (fun _ _ hj => ?_) | exact hj _)

def ref07_union_l1f (k_ : Nat) (b_1 : (List Int)) (s6 : (List Int) × Int) : Option (Sum ((List Int)) ((List Int) × Int)) :=
  bif decide (s6.2 < (b_1.length : Int)) then
    Option.bind (idxM b_1 s6.2) fun t9 =>
    Option.bind (ref07_insert_f k_ s6.1 t9) fun a_10 =>
    letM (iadd .i64 s6.2 1) fun i11 =>
    some (Sum.inr (a_10, i11))
  else
    some (Sum.inl s6.1)

theorem ref07_union_l1f_le {k_ : Nat} {b_1 : (List Int)} {s6 : (List Int) × Int} : Le (ref07_union_l1f k_ b_1 s6) (ref07_union_l1 b_1 s6) := by
  unfold ref07_union_l1f ref07_union_l1
  repeat' with_reducible (first | exact Le.refl _ | refine ref07_insert_f_le | refine Le.bind ?_ (Le.sumK fun _ => ?_) | refine Le.bind ?_ (fun _ => ?_) | refine Le.cond ?_ ?_ | refine Le.letM (fun _ => ?_) | refine Le.join (fun _ => ?_) (fun _ _ hj => ?_) | exact hj _)

def ref07_union_f (k_ : Nat) (a__0 : (List Int)) (b_1 : (List Int)) : Option (List Int) :=
  Option.bind (loopF k_ (ref07_union_l1f k_ b_1) (a__0, 0)) fun q12 : (List Int) =>
  some q12

theorem ref07_union_f_le {k_ : Nat} {a__0 : (List Int)} {b_1 : (List Int)} : Le (ref07_union_f k_ a__0 b_1) (ref07_union_m a__0 b_1) := by
  unfold ref07_union_f ref07_union_m
  repeat' with_reducible (first | exact Le.refl _ | refine Le.loop (fun _ => ref07_union_l1f_le) | refine Le.bind ?_ (Le.sumK fun _ => ?_) | refine Le.bind ?_ (fun _ => ?_) | refine Le.cond ?_ ?_ | refine Le.letM (fun _ => ?_) | refine Le.join (fun _ => ?_) (fun _ _ hj => ?_) | exact hj _)

def ref07_Subs_l1f (k_ : Nat) (l_0 : (List T_api_Argument)) (i_1 : Int) (rec_ : (List T_api_Argument) → Int → Option (List Int)) (s10 : (List Int) × Int) : Option (Sum ((List Int)) ((List Int) × Int)) :=
  Option.bind (idxM l_0 i_1) fun t12 =>
  bif decide (s10.2 < (t12.Subs.length : Int)) then
    Option.bind (idxM l_0 i_1) fun t14 =>
    Option.bind (idxM t14.Subs s10.2) fun t15 =>
    Option.bind (rec_ l_0 t15) fun t16 =>
    Option.bind (ref07_union_f k_ s10.1 t16) fun out17 =>
    letM (iadd .i64 s10.2 1) fun k18 =>
    some (Sum.inr (out17, k18))
  else
    some (Sum.inl s10.1)

theorem ref07_Subs_l1f_le {k_ : Nat} {rec_ rec_' : (List T_api_Argument) → Int → Option (List Int)} (h : ∀ a0 a1, Le (rec_ a0 a1) (rec_' a0 a1)) {l_0 : (List T_api_Argument)} {i_1 : Int} {s10 : (List Int) × Int} : Le (ref07_Subs_l1f k_ l_0 i_1 rec_ s10) (ref07_Subs_l1 l_0 i_1 rec_' s10) := by
  unfold ref07_Subs_l1f ref07_Subs_l1
  repeat' with_reducible (first | exact Le.refl _ | exact h _ _ | refine ref07_union_f_le | refine Le.bind ?_ (Le.sumK fun _ => ?_) | refine Le.bind ?_ (fun _ => ?_) | refine Le.cond ?_ ?_ | refine Le.letM (fun _ => ?_) | refine Le.join (fun _ => ?_) (fun _ _ hj => ?_) | exact hj _)

def ref07_Subs_bf (k_ : Nat) (rec_ : (List T_api_Argument) → Int → Option (List Int)) (l_0 : (List T_api_Argument)) (i_1 : Int) : Option (List Int) :=
  bif decide (i_1 < 0) then
    some []
  else
    bif decide (i_1 ≥ (l_0.length : Int)) then
      some []
    else
      Option.bind (loopF k_ (ref07_Subs_l1f k_ l_0 i_1 rec_) ([i_1], 0)) fun q19 : (List Int) =>
      some q19

theorem ref07_Subs_bf_le {k_ : Nat} {rec_ rec_' : (List T_api_Argument) → Int → Option (List Int)} (h : ∀ a0 a1, Le (rec_ a0 a1) (rec_' a0 a1)) {l_0 : (List T_api_Argument)} {i_1 : Int} : Le (ref07_Subs_bf k_ rec_ l_0 i_1) (ref07_Subs_b rec_' l_0 i_1) := by
  unfold ref07_Subs_bf ref07_Subs_b
  repeat' with_reducible (first | exact Le.refl _ | exact h _ _ | refine Le.loop (fun _ => ref07_Subs_l1f_le h) | refine Le.bind ?_ (Le.sumK fun _ => ?_) | refine Le.bind ?_ (fun _ => ?_) | refine Le.cond ?_ ?_ | refine Le.letM (fun _ => ?_) | refine Le.join (fun _ => ?_) (fun _ _ hj => ?_) | exact hj _)

def ref07_Subs_nf (k_ : Nat) : Nat → (List T_api_Argument) → Int → Option (List Int)
  | 0 => fun _ _ => none
  | n_ + 1 => ref07_Subs_bf k_ (ref07_Subs_nf k_ n_)

theorem ref07_Subs_nf_le {k_ : Nat} : ∀ (n_ : Nat) a0 a1, Le (ref07_Subs_nf k_ n_ a0 a1) (ref07_Subs_n n_ a0 a1)
  | 0, _, _ => fun _ h => by cases h
  | n_ + 1, _, _ => ref07_Subs_bf_le (ref07_Subs_nf_le n_)

def ref07_Subs_f (k_ : Nat) (l_0 : (List T_api_Argument)) (i_1 : Int) : Option (List Int) := ref07_Subs_nf k_ k_ l_0 i_1

theorem ref07_Subs_f_le {k_ : Nat} {l_0 : (List T_api_Argument)} {i_1 : Int} : Le (ref07_Subs_f k_ l_0 i_1) (ref07_Subs_m l_0 i_1) := fun r hr => recC_of (fun n => ref07_Subs_n_le n _ _) (ref07_Subs_nf_le k_ _ _ r hr)

def ref07_Defeasible_l1f (k_ : Nat) (b_0 : T_api_Base) (l_1 : (List T_api_Argument)) (t2 : List Int) (s29 : (List Int) × Int) : Option (Sum ((List Int)) ((List Int) × Int)) :=
  bif decide (s29.2 < (t2.length : Int)) then
    Option.bind (idxM t2 s29.2) fun k32 =>
    joinM (fun j36 : Bool =>
        bif j36 then
          Option.bind (idxM l_1 k32) fun t40 =>
          Option.bind (ref07_insert_f k_ s29.1 t40.Rule) fun out41 =>
          some (Sum.inr (out41, iadd .i64 s29.2 1))
        else
          some (Sum.inr (s29.1, iadd .i64 s29.2 1))) fun k38 =>
    Option.bind (idxM l_1 k32) fun t33 =>
    bif decide (t33.Rule ≥ 0) then
      Option.bind (idxM l_1 k32) fun t34 =>
      Option.bind (idxM b_0.Rules t34.Rule) fun t35 =>
      k38 (!t35.Strict)
    else
      k38 false
  else
    some (Sum.inl s29.1)

theorem ref07_Defeasible_l1f_le {k_ : Nat} {b_0 : T_api_Base} {l_1 : (List T_api_Argument)} {t2 : List Int} {s29 : (List Int) × Int} : Le (ref07_Defeasible_l1f k_ b_0 l_1 t2 s29) (ref07_Defeasible_l1 b_0 l_1 t2 s29) := by
  unfold ref07_Defeasible_l1f ref07_Defeasible_l1
  repeat' with_reducible (first | exact Le.refl _ | refine ref07_insert_f_le | refine Le.bind ?_ (Le.sumK fun _ => ?_) | refine Le.bind ?_ (fun _ => ?_) | refine Le.cond ?_ ?_ | refine Le.letM (fun _ => ?_) | refine Le.join (fun _ => ?_) (fun _ _ hj => ?_) | exact hj _)

def ref07_Defeasible_f (k_ : Nat) (b_0 : T_api_Base) (l_1 : (List T_api_Argument)) (i_2 : Int) : Option (List Int) :=
  Option.bind (ref07_Subs_f k_ l_1 i_2) fun t2 =>
  Option.bind (loopF k_ (ref07_Defeasible_l1f k_ b_0 l_1 t2) ([], 0)) fun q42 : (List Int) =>
  some q42

theorem ref07_Defeasible_f_le {k_ : Nat} {b_0 : T_api_Base} {l_1 : (List T_api_Argument)} {i_2 : Int} : Le (ref07_Defeasible_f k_ b_0 l_1 i_2) (ref07_Defeasible_m b_0 l_1 i_2) := by
  unfold ref07_Defeasible_f ref07_Defeasible_m
  repeat' with_reducible (first | exact Le.refl _ | refine ref07_Subs_f_le | refine Le.loop (fun _ => ref07_Defeasible_l1f_le) | refine Le.bind ?_ (Le.sumK fun _ => ?_) | refine Le.bind ?_ (fun _ => ?_) | refine Le.cond ?_ ?_ | refine Le.letM (fun _ => ?_) | refine Le.join (fun _ => ?_) (fun _ _ hj => ?_) | exact hj _)

def ref07_in_l1f (k_ : Nat) (l_0 : (List Int)) (x_1 : Int) (s6 : Int) : Option (Sum ((Sum (Bool) (Unit))) (Int)) :=
  bif decide (s6 < (l_0.length : Int)) then
    Option.bind (idxM l_0 s6) fun t9 =>
    bif t9 == x_1 then
      some (Sum.inl (Sum.inl true))
    else
      some (Sum.inr (iadd .i64 s6 1))
  else
    some (Sum.inl (Sum.inr ()))

theorem ref07_in_l1f_le {k_ : Nat} {l_0 : (List Int)} {x_1 : Int} {s6 : Int} : Le (ref07_in_l1f k_ l_0 x_1 s6) (ref07_in_l1 l_0 x_1 s6) := by
  unfold ref07_in_l1f ref07_in_l1
  repeat' with_reducible (first | exact Le.refl _ | refine Le.bind ?_ (Le.sumK fun _ => ?_) | refine Le.bind ?_ (fun _ => ?_) | refine Le.cond ?_ ?_ | refine Le.letM (fun _ => ?_) | refine Le.join (fun _ => ?_) (fun _ _ hj => ?_) | exact hj _)

def ref07_in_f (k_ : Nat) (l_0 : (List Int)) (x_1 : Int) : Option (Bool) :=
  Option.bind (loopF k_ (ref07_in_l1f k_ l_0 x_1) 0) (sumK (fun a : Bool => some a) fun q11 : Unit =>
    some false)

theorem ref07_in_f_le {k_ : Nat} {l_0 : (List Int)} {x_1 : Int} : Le (ref07_in_f k_ l_0 x_1) (ref07_in_m l_0 x_1) := by
  unfold ref07_in_f ref07_in_m
  repeat' with_reducible (first | exact Le.refl _ | refine Le.loop (fun _ => ref07_in_l1f_le) | refine Le.bind ?_ (Le.sumK fun _ => ?_) | refine Le.bind ?_ (fun _ => ?_) | refine Le.cond ?_ ?_ | refine Le.letM (fun _ => ?_) | refine Le.join (fun _ => ?_) (fun _ _ hj => ?_) | exact hj _)

def ref07_Within_l1f (k_ : Nat) (b_0 : T_api_Base) (l_1 : (List T_api_Argument)) (rule_2 : Int) (subs_3 : (List Int)) (t2 : T_api_Rule) (s19 : Int) : Option (Sum ((Sum (Bool) (Unit))) (Int)) :=
  bif decide (s19 < (subs_3.length : Int)) then
    bif t2.Strict then
      Option.bind (idxM subs_3 s19) fun t22 =>
      Option.bind (ref07_Run_f k_ b_0 l_1 t22) fun t23 =>
      Option.bind (ref01_Has_f k_ t23 t2.Head) fun t25 =>
      bif t25 then
        some (Sum.inl (Sum.inl false))
      else
        bif !t2.Strict then
          Option.bind (idxM subs_3 s19) fun t26 =>
          Option.bind (ref07_Defeasible_f k_ b_0 l_1 t26) fun t27 =>
          Option.bind (ref07_in_f k_ t27 rule_2) fun t28 =>
          bif t28 then
            some (Sum.inl (Sum.inl false))
          else
            letM (iadd .i64 s19 1) fun k34 =>
            some (Sum.inr k34)
        else
          letM (iadd .i64 s19 1) fun k35 =>
          some (Sum.inr k35)
    else
      bif !t2.Strict then
        Option.bind (idxM subs_3 s19) fun t29 =>
        Option.bind (ref07_Defeasible_f k_ b_0 l_1 t29) fun t30 =>
        Option.bind (ref07_in_f k_ t30 rule_2) fun t31 =>
        bif t31 then
          some (Sum.inl (Sum.inl false))
        else
          letM (iadd .i64 s19 1) fun k36 =>
          some (Sum.inr k36)
      else
        letM (iadd .i64 s19 1) fun k37 =>
        some (Sum.inr k37)
  else
    some (Sum.inl (Sum.inr ()))

theorem ref07_Within_l1f_le {k_ : Nat} {b_0 : T_api_Base} {l_1 : (List T_api_Argument)} {rule_2 : Int} {subs_3 : (List Int)} {t2 : T_api_Rule} {s19 : Int} : Le (ref07_Within_l1f k_ b_0 l_1 rule_2 subs_3 t2 s19) (ref07_Within_l1 b_0 l_1 rule_2 subs_3 t2 s19) := by
  unfold ref07_Within_l1f ref07_Within_l1
  repeat' with_reducible (first | exact Le.refl _ | refine ref07_Run_f_le | refine ref01_Has_f_le | refine ref07_Defeasible_f_le | refine ref07_in_f_le | refine Le.bind ?_ (Le.sumK fun _ => ?_) | refine Le.bind ?_ (fun _ => ?_) | refine Le.cond ?_ ?_ | refine Le.letM (fun _ => ?_) | refine Le.join (fun _ => ?_) (fun _ _ hj => ?_) | exact hj _)

def ref07_Within_f (k_ : Nat) (b_0 : T_api_Base) (l_1 : (List T_api_Argument)) (rule_2 : Int) (subs_3 : (List Int)) : Option (Bool) :=
  Option.bind (idxM b_0.Rules rule_2) fun t2 =>
  Option.bind (loopF k_ (ref07_Within_l1f k_ b_0 l_1 rule_2 subs_3 t2) 0) (sumK (fun a : Bool => some a) fun q38 : Unit =>
    some true)

theorem ref07_Within_f_le {k_ : Nat} {b_0 : T_api_Base} {l_1 : (List T_api_Argument)} {rule_2 : Int} {subs_3 : (List Int)} : Le (ref07_Within_f k_ b_0 l_1 rule_2 subs_3) (ref07_Within_m b_0 l_1 rule_2 subs_3) := by
  unfold ref07_Within_f ref07_Within_m
  repeat' with_reducible (first | exact Le.refl _ | refine Le.loop (fun _ => ref07_Within_l1f_le) | refine Le.bind ?_ (Le.sumK fun _ => ?_) | refine Le.bind ?_ (fun _ => ?_) | refine Le.cond ?_ ?_ | refine Le.letM (fun _ => ?_) | refine Le.join (fun _ => ?_) (fun _ _ hj => ?_) | exact hj _)

def ref07_choices_1_l1f (k_ : Nat) (l_0 : (List T_api_Argument)) (n_1 : Int) (body_2 : (List T_api_Literal)) (sofar_3 : (List Int)) (rec_ : (List T_api_Argument) → Int → (List T_api_Literal) → (List Int) → Option (List (List Int))) (s29 : Int × (List (List Int))) : Option (Sum ((List (List Int))) (Int × (List (List Int)))) :=
  bif decide (s29.1 < n_1) then
    Option.bind (idxM l_0 s29.1) fun t32 =>
    Option.bind (idxM body_2 (sofar_3.length : Int)) fun t33 =>
    bif decide (t32.Conclusion = t33) then
      Option.bind (appM 8 sofar_3 [s29.1]) fun t35 =>
      Option.bind (rec_ l_0 n_1 body_2 t35) fun t37 =>
      Option.bind (appM 24 s29.2 t37) fun out38 =>
      letM (iadd .i64 s29.1 1) fun i40 =>
      some (Sum.inr (i40, out38))
    else
      letM (iadd .i64 s29.1 1) fun i41 =>
      some (Sum.inr (i41, s29.2))
  else
    some (Sum.inl s29.2)

theorem ref07_choices_1_l1f_le {k_ : Nat} {rec_ rec_' : (List T_api_Argument) → Int → (List T_api_Literal) → (List Int) → Option (List (List Int))} (h : ∀ a0 a1 a2 a3, Le (rec_ a0 a1 a2 a3) (rec_' a0 a1 a2 a3)) {l_0 : (List T_api_Argument)} {n_1 : Int} {body_2 : (List T_api_Literal)} {sofar_3 : (List Int)} {s29 : Int × (List (List Int))} : Le (ref07_choices_1_l1f k_ l_0 n_1 body_2 sofar_3 rec_ s29) (ref07_choices_1_l1 l_0 n_1 body_2 sofar_3 rec_' s29) := by
  unfold ref07_choices_1_l1f ref07_choices_1_l1
  repeat' with_reducible (first | exact Le.refl _ | exact h _ _ _ _ | refine Le.bind ?_ (Le.sumK fun _ => ?_) | refine Le.bind ?_ (fun _ => ?_) | refine Le.cond ?_ ?_ | refine Le.letM (fun _ => ?_) | refine Le.join (fun _ => ?_) (fun _ _ hj => ?_) | exact hj _)

def ref07_choices_1_bf (k_ : Nat) (rec_ : (List T_api_Argument) → Int → (List T_api_Literal) → (List Int) → Option (List (List Int))) (l_0 : (List T_api_Argument)) (n_1 : Int) (body_2 : (List T_api_Literal)) (sofar_3 : (List Int)) : Option (List (List Int)) :=
  bif (sofar_3.length : Int) == (body_2.length : Int) then
    Option.bind (appM 8 [] sofar_3) fun t3 =>
    some [t3]
  else
    Option.bind (loopF k_ (ref07_choices_1_l1f k_ l_0 n_1 body_2 sofar_3 rec_) (0, [])) fun q42 : (List (List Int)) =>
    some q42

theorem ref07_choices_1_bf_le {k_ : Nat} {rec_ rec_' : (List T_api_Argument) → Int → (List T_api_Literal) → (List Int) → Option (List (List Int))} (h : ∀ a0 a1 a2 a3, Le (rec_ a0 a1 a2 a3) (rec_' a0 a1 a2 a3)) {l_0 : (List T_api_Argument)} {n_1 : Int} {body_2 : (List T_api_Literal)} {sofar_3 : (List Int)} : Le (ref07_choices_1_bf k_ rec_ l_0 n_1 body_2 sofar_3) (ref07_choices_1_b rec_' l_0 n_1 body_2 sofar_3) := by
  unfold ref07_choices_1_bf ref07_choices_1_b
  repeat' with_reducible (first | exact Le.refl _ | exact h _ _ _ _ | refine Le.loop (fun _ => ref07_choices_1_l1f_le h) | refine Le.bind ?_ (Le.sumK fun _ => ?_) | refine Le.bind ?_ (fun _ => ?_) | refine Le.cond ?_ ?_ | refine Le.letM (fun _ => ?_) | refine Le.join (fun _ => ?_) (fun _ _ hj => ?_) | exact hj _)

def ref07_choices_1_nf (k_ : Nat) : Nat → (List T_api_Argument) → Int → (List T_api_Literal) → (List Int) → Option (List (List Int))
  | 0 => fun _ _ _ _ => none
  | n_ + 1 => ref07_choices_1_bf k_ (ref07_choices_1_nf k_ n_)

theorem ref07_choices_1_nf_le {k_ : Nat} : ∀ (n_ : Nat) a0 a1 a2 a3, Le (ref07_choices_1_nf k_ n_ a0 a1 a2 a3) (ref07_choices_1_n n_ a0 a1 a2 a3)
  | 0, _, _, _, _ => fun _ h => by cases h
  | n_ + 1, _, _, _, _ => ref07_choices_1_bf_le (ref07_choices_1_nf_le n_)

def ref07_choices_1_f (k_ : Nat) (l_0 : (List T_api_Argument)) (n_1 : Int) (body_2 : (List T_api_Literal)) (sofar_3 : (List Int)) : Option (List (List Int)) := ref07_choices_1_nf k_ k_ l_0 n_1 body_2 sofar_3

theorem ref07_choices_1_f_le {k_ : Nat} {l_0 : (List T_api_Argument)} {n_1 : Int} {body_2 : (List T_api_Literal)} {sofar_3 : (List Int)} : Le (ref07_choices_1_f k_ l_0 n_1 body_2 sofar_3) (ref07_choices_1_m l_0 n_1 body_2 sofar_3) := fun r hr => recC_of (fun n => ref07_choices_1_n_le n _ _ _ _) (ref07_choices_1_nf_le k_ _ _ _ _ r hr)

def ref07_choices_l1f (k_ : Nat) (l_0 : (List T_api_Argument)) (n_1 : Int) (body_2 : (List T_api_Literal)) (sofar_3 : (List Int)) (s29 : Int × (List (List Int))) : Option (Sum ((List (List Int))) (Int × (List (List Int)))) :=
  bif decide (s29.1 < n_1) then
    Option.bind (idxM l_0 s29.1) fun t32 =>
    Option.bind (idxM body_2 (sofar_3.length : Int)) fun t33 =>
    bif decide (t32.Conclusion = t33) then
      Option.bind (appM 8 sofar_3 [s29.1]) fun t35 =>
      Option.bind (ref07_choices_1_f k_ l_0 n_1 body_2 t35) fun t37 =>
      Option.bind (appM 24 s29.2 t37) fun out38 =>
      letM (iadd .i64 s29.1 1) fun i40 =>
      some (Sum.inr (i40, out38))
    else
      letM (iadd .i64 s29.1 1) fun i41 =>
      some (Sum.inr (i41, s29.2))
  else
    some (Sum.inl s29.2)

theorem ref07_choices_l1f_le {k_ : Nat} {l_0 : (List T_api_Argument)} {n_1 : Int} {body_2 : (List T_api_Literal)} {sofar_3 : (List Int)} {s29 : Int × (List (List Int))} : Le (ref07_choices_l1f k_ l_0 n_1 body_2 sofar_3 s29) (ref07_choices_l1 l_0 n_1 body_2 sofar_3 s29) := by
  unfold ref07_choices_l1f ref07_choices_l1
  repeat' with_reducible (first | exact Le.refl _ | refine ref07_choices_1_f_le | refine Le.bind ?_ (Le.sumK fun _ => ?_) | refine Le.bind ?_ (fun _ => ?_) | refine Le.cond ?_ ?_ | refine Le.letM (fun _ => ?_) | refine Le.join (fun _ => ?_) (fun _ _ hj => ?_) | exact hj _)

def ref07_choices_f (k_ : Nat) (l_0 : (List T_api_Argument)) (n_1 : Int) (body_2 : (List T_api_Literal)) (sofar_3 : (List Int)) : Option (List (List Int)) :=
  bif (sofar_3.length : Int) == (body_2.length : Int) then
    Option.bind (appM 8 [] sofar_3) fun t3 =>
    some [t3]
  else
    Option.bind (loopF k_ (ref07_choices_l1f k_ l_0 n_1 body_2 sofar_3) (0, [])) fun q42 : (List (List Int)) =>
    some q42

theorem ref07_choices_f_le {k_ : Nat} {l_0 : (List T_api_Argument)} {n_1 : Int} {body_2 : (List T_api_Literal)} {sofar_3 : (List Int)} : Le (ref07_choices_f k_ l_0 n_1 body_2 sofar_3) (ref07_choices_m l_0 n_1 body_2 sofar_3) := by
  unfold ref07_choices_f ref07_choices_m
  repeat' with_reducible (first | exact Le.refl _ | refine Le.loop (fun _ => ref07_choices_l1f_le) | refine Le.bind ?_ (Le.sumK fun _ => ?_) | refine Le.bind ?_ (fun _ => ?_) | refine Le.cond ?_ ?_ | refine Le.letM (fun _ => ?_) | refine Le.join (fun _ => ?_) (fun _ _ hj => ?_) | exact hj _)

def ref07_Build_l1f (k_ : Nat) (b_0 : T_api_Base) (s17 : Int × (List T_api_Argument)) : Option (Sum ((List T_api_Argument)) (Int × (List T_api_Argument))) :=
  bif decide (s17.1 < (b_0.Premises.length : Int)) then
    Option.bind (idxM b_0.Premises s17.1) fun t20 =>
    Option.bind (appM 64 s17.2 [(T_api_Argument.mk s17.1 (-1) [] t20.Literal)]) fun l21 =>
    letM (iadd .i64 s17.1 1) fun i23 =>
    some (Sum.inr (i23, l21))
  else
    some (Sum.inl s17.2)

theorem ref07_Build_l1f_le {k_ : Nat} {b_0 : T_api_Base} {s17 : Int × (List T_api_Argument)} : Le (ref07_Build_l1f k_ b_0 s17) (ref07_Build_l1 b_0 s17) := by
  unfold ref07_Build_l1f ref07_Build_l1
  repeat' with_reducible (first | exact Le.refl _ | refine Le.bind ?_ (Le.sumK fun _ => ?_) | refine Le.bind ?_ (fun _ => ?_) | refine Le.cond ?_ ?_ | refine Le.letM (fun _ => ?_) | refine Le.join (fun _ => ?_) (fun _ _ hj => ?_) | exact hj _)

def ref07_Build_l4f (k_ : Nat) (b_0 : T_api_Base) (s283 : Int × Int × (List T_api_Argument)) (s369 : Int × (List T_api_Argument)) (t373 : List (List Int)) (s390 : Int × (List T_api_Argument)) : Option (Sum ((Sum (List T_api_Argument × Int) ((List T_api_Argument)))) (Int × (List T_api_Argument))) :=
  bif decide (s390.1 < (t373.length : Int)) then
    Option.bind (idxM t373 s390.1) fun subs393 =>
    joinM (fun j399 : Bool × Bool =>
        Option.bind (idxM b_0.Rules s369.1) fun t402 =>
        Option.bind (appM 64 s390.2 [(T_api_Argument.mk (-1) s369.1 subs393 t402.Head)]) fun l403 =>
        bif decide ((l403.length : Int) > 40) then
          some (Sum.inl (Sum.inl ([], 2)))
        else
          some (Sum.inr (iadd .i64 s390.1 1, l403))) fun k401 =>
    Option.bind (ref07_recent_f k_ subs393 s283.1) fun t394 =>
    bif !t394 then
      bif decide (s283.2.1 > 1) then
        some (Sum.inr (iadd .i64 s390.1 1, s390.2))
      else
        bif decide ((subs393.length : Int) > 0) then
          some (Sum.inr (iadd .i64 s390.1 1, s390.2))
        else
          Option.bind (ref07_Within_f k_ b_0 s390.2 s369.1 subs393) fun t395 =>
          bif !t395 then
            some (Sum.inr (iadd .i64 s390.1 1, s390.2))
          else
            k401 (t395, !t395)
    else
      Option.bind (ref07_Within_f k_ b_0 s390.2 s369.1 subs393) fun t396 =>
      bif !t396 then
        some (Sum.inr (iadd .i64 s390.1 1, s390.2))
      else
        k401 (t396, !t396)
  else
    some (Sum.inl (Sum.inr s390.2))

theorem ref07_Build_l4f_le {k_ : Nat} {b_0 : T_api_Base} {s283 : Int × Int × (List T_api_Argument)} {s369 : Int × (List T_api_Argument)} {t373 : List (List Int)} {s390 : Int × (List T_api_Argument)} : Le (ref07_Build_l4f k_ b_0 s283 s369 t373 s390) (ref07_Build_l4 b_0 s283 s369 t373 s390) := by
  unfold ref07_Build_l4f ref07_Build_l4
  repeat' with_reducible (first | exact Le.refl _ | refine ref07_recent_f_le | refine ref07_Within_f_le | refine Le.bind ?_ (Le.sumK fun _ => ?_) | refine Le.bind ?_ (fun _ => ?_) | refine Le.cond ?_ ?_ | refine Le.letM (fun _ => ?_) | refine Le.join (fun _ => ?_) (fun _ _ hj => ?_) | exact hj _)

def ref07_Build_l3f (k_ : Nat) (b_0 : T_api_Base) (s283 : Int × Int × (List T_api_Argument)) (n289 : Int) (s369 : Int × (List T_api_Argument)) : Option (Sum ((Sum (List T_api_Argument × Int) ((List T_api_Argument)))) (Int × (List T_api_Argument))) :=
  bif decide (s369.1 < (b_0.Rules.length : Int)) then
    Option.bind (idxM b_0.Rules s369.1) fun t372 =>
    Option.bind (ref07_choices_f k_ s369.2 n289 t372.Body []) fun t373 =>
    Option.bind (loopF k_ (ref07_Build_l4f k_ b_0 s283 s369 t373) (0, s369.2)) (sumK (fun a : List T_api_Argument × Int => some (Sum.inl (Sum.inl a))) fun q406 : (List T_api_Argument) =>
      letM (iadd .i64 s369.1 1) fun i408 =>
      some (Sum.inr (i408, q406)))
  else
    some (Sum.inl (Sum.inr s369.2))

theorem ref07_Build_l3f_le {k_ : Nat} {b_0 : T_api_Base} {s283 : Int × Int × (List T_api_Argument)} {n289 : Int} {s369 : Int × (List T_api_Argument)} : Le (ref07_Build_l3f k_ b_0 s283 n289 s369) (ref07_Build_l3 b_0 s283 n289 s369) := by
  unfold ref07_Build_l3f ref07_Build_l3
  repeat' with_reducible (first | exact Le.refl _ | refine ref07_choices_f_le | refine Le.loop (fun _ => ref07_Build_l4f_le) | refine Le.bind ?_ (Le.sumK fun _ => ?_) | refine Le.bind ?_ (fun _ => ?_) | refine Le.cond ?_ ?_ | refine Le.letM (fun _ => ?_) | refine Le.join (fun _ => ?_) (fun _ _ hj => ?_) | exact hj _)

def ref07_Build_l2f (k_ : Nat) (b_0 : T_api_Base) (s283 : Int × Int × (List T_api_Argument)) : Option (Sum ((Sum (List T_api_Argument × Int) ((List T_api_Argument)))) (Int × Int × (List T_api_Argument))) :=
  joinM (fun j286 : Unit =>
      letM ((s283.2.2.length : Int)) fun n289 =>
      Option.bind (loopF k_ (ref07_Build_l3f k_ b_0 s283 n289) (0, s283.2.2)) (sumK (fun a : List T_api_Argument × Int => some (Sum.inl (Sum.inl a))) fun q409 : (List T_api_Argument) =>
        letM (iadd .i64 s283.2.1 1) fun round411 =>
        some (Sum.inr (n289, round411, q409)))) fun k288 =>
  bif s283.2.1 == 1 then
    k288 ()
  else
    bif decide (s283.1 < (s283.2.2.length : Int)) then
      k288 ()
    else
      some (Sum.inl (Sum.inr s283.2.2))

theorem ref07_Build_l2f_le {k_ : Nat} {b_0 : T_api_Base} {s283 : Int × Int × (List T_api_Argument)} : Le (ref07_Build_l2f k_ b_0 s283) (ref07_Build_l2 b_0 s283) := by
  unfold ref07_Build_l2f ref07_Build_l2
  repeat' with_reducible (first | exact Le.refl _ | refine Le.loop (fun _ => ref07_Build_l3f_le) | refine Le.bind ?_ (Le.sumK fun _ => ?_) | refine Le.bind ?_ (fun _ => ?_) | refine Le.cond ?_ ?_ | refine Le.letM (fun _ => ?_) | refine Le.join (fun _ => ?_) (fun _ _ hj => ?_) | exact hj _)

def ref07_Build_f (k_ : Nat) (b_0 : T_api_Base) : Option (List T_api_Argument × Int) :=
  Option.bind (ref05_Validate_f k_ b_0) fun e2 =>
  bif e2 != 0 then
    some ([], e2)
  else
    Option.bind (loopF k_ (ref07_Build_l1f k_ b_0) (0, [])) fun q24 : (List T_api_Argument) =>
    Option.bind (loopF k_ (ref07_Build_l2f k_ b_0) (0, 1, q24)) (sumK (fun a : List T_api_Argument × Int => some a) fun q412 : (List T_api_Argument) =>
      some (q412, 0))

theorem ref07_Build_f_le {k_ : Nat} {b_0 : T_api_Base} : Le (ref07_Build_f k_ b_0) (ref07_Build_m b_0) := by
  unfold ref07_Build_f ref07_Build_m
  repeat' with_reducible (first | exact Le.refl _ | refine ref05_Validate_f_le | refine Le.loop (fun _ => ref07_Build_l1f_le) | refine Le.loop (fun _ => ref07_Build_l2f_le) | refine Le.bind ?_ (Le.sumK fun _ => ?_) | refine Le.bind ?_ (fun _ => ?_) | refine Le.cond ?_ ?_ | refine Le.letM (fun _ => ?_) | refine Le.join (fun _ => ?_) (fun _ _ hj => ?_) | exact hj _)

def argument_inside_f (k_ : Nat) (l_0 : (List T_api_Argument)) (i_1 : Int) : Option (Bool) :=
  bif decide (i_1 ≥ 0) then
    letM (decide (i_1 < (l_0.length : Int))) fun t1 =>
    some t1
  else
    some false

theorem argument_inside_f_le {k_ : Nat} {l_0 : (List T_api_Argument)} {i_1 : Int} : Le (argument_inside_f k_ l_0 i_1) (argument_inside_m l_0 i_1) := by
  unfold argument_inside_f argument_inside_m
  repeat' with_reducible (first | exact Le.refl _ | refine Le.bind ?_ (Le.sumK fun _ => ?_) | refine Le.bind ?_ (fun _ => ?_) | refine Le.cond ?_ ?_ | refine Le.letM (fun _ => ?_) | refine Le.join (fun _ => ?_) (fun _ _ hj => ?_) | exact hj _)

def argument_Subs_l1f (k_ : Nat) (l_0 : (List T_api_Argument)) (t4 : T_api_Argument) (rec_ : (List T_api_Argument) → Int → Option (List Int)) (s21 : Int × (List Int)) : Option (Sum ((List Int)) (Int × (List Int))) :=
  bif decide (s21.1 < (t4.Subs.length : Int)) then
    Option.bind (idxM t4.Subs s21.1) fun k24 =>
    Option.bind (rec_ l_0 k24) fun t25 =>
    Option.bind (appM 8 s21.2 t25) fun out27 =>
    some (Sum.inr (iadd .i64 s21.1 1, out27))
  else
    some (Sum.inl s21.2)

theorem argument_Subs_l1f_le {k_ : Nat} {rec_ rec_' : (List T_api_Argument) → Int → Option (List Int)} (h : ∀ a0 a1, Le (rec_ a0 a1) (rec_' a0 a1)) {l_0 : (List T_api_Argument)} {t4 : T_api_Argument} {s21 : Int × (List Int)} : Le (argument_Subs_l1f k_ l_0 t4 rec_ s21) (argument_Subs_l1 l_0 t4 rec_' s21) := by
  unfold argument_Subs_l1f argument_Subs_l1
  repeat' with_reducible (first | exact Le.refl _ | exact h _ _ | refine Le.bind ?_ (Le.sumK fun _ => ?_) | refine Le.bind ?_ (fun _ => ?_) | refine Le.cond ?_ ?_ | refine Le.letM (fun _ => ?_) | refine Le.join (fun _ => ?_) (fun _ _ hj => ?_) | exact hj _)

def argument_Subs_bf (k_ : Nat) (rec_ : (List T_api_Argument) → Int → Option (List Int)) (l_0 : (List T_api_Argument)) (i_1 : Int) : Option (List Int) :=
  Option.bind (argument_inside_f k_ l_0 i_1) fun t1 =>
  bif !t1 then
    some []
  else
    Option.bind (idxM l_0 i_1) fun t4 =>
    Option.bind (loopF k_ (argument_Subs_l1f k_ l_0 t4 rec_) (0, [i_1])) fun q29 : (List Int) =>
    Option.bind (sortedF q29) fun t31 =>
    Option.bind (compactM t31) fun t32 =>
    some t32

theorem argument_Subs_bf_le {k_ : Nat} {rec_ rec_' : (List T_api_Argument) → Int → Option (List Int)} (h : ∀ a0 a1, Le (rec_ a0 a1) (rec_' a0 a1)) {l_0 : (List T_api_Argument)} {i_1 : Int} : Le (argument_Subs_bf k_ rec_ l_0 i_1) (argument_Subs_b rec_' l_0 i_1) := by
  unfold argument_Subs_bf argument_Subs_b
  repeat' with_reducible (first | exact Le.refl _ | exact h _ _ | refine argument_inside_f_le | refine Le.loop (fun _ => argument_Subs_l1f_le h) | refine sortedF_le | refine Le.bind ?_ (Le.sumK fun _ => ?_) | refine Le.bind ?_ (fun _ => ?_) | refine Le.cond ?_ ?_ | refine Le.letM (fun _ => ?_) | refine Le.join (fun _ => ?_) (fun _ _ hj => ?_) | exact hj _)

def argument_Subs_nf (k_ : Nat) : Nat → (List T_api_Argument) → Int → Option (List Int)
  | 0 => fun _ _ => none
  | n_ + 1 => argument_Subs_bf k_ (argument_Subs_nf k_ n_)

theorem argument_Subs_nf_le {k_ : Nat} : ∀ (n_ : Nat) a0 a1, Le (argument_Subs_nf k_ n_ a0 a1) (argument_Subs_n n_ a0 a1)
  | 0, _, _ => fun _ h => by cases h
  | n_ + 1, _, _ => argument_Subs_bf_le (argument_Subs_nf_le n_)

def argument_Subs_f (k_ : Nat) (l_0 : (List T_api_Argument)) (i_1 : Int) : Option (List Int) := argument_Subs_nf k_ k_ l_0 i_1

theorem argument_Subs_f_le {k_ : Nat} {l_0 : (List T_api_Argument)} {i_1 : Int} : Le (argument_Subs_f k_ l_0 i_1) (argument_Subs_m l_0 i_1) := fun r hr => recC_of (fun n => argument_Subs_n_le n _ _) (argument_Subs_nf_le k_ _ _ r hr)

def argument_Premises_l1f (k_ : Nat) (l_0 : (List T_api_Argument)) (t1 : List Int) (s21 : Int × (List Int)) : Option (Sum ((List Int)) (Int × (List Int))) :=
  bif decide (s21.1 < (t1.length : Int)) then
    Option.bind (idxM t1 s21.1) fun k24 =>
    Option.bind (idxM l_0 k24) fun t25 =>
    bif decide (t25.Premise ≥ 0) then
      Option.bind (idxM l_0 k24) fun t27 =>
      Option.bind (appM 8 s21.2 [t27.Premise]) fun out28 =>
      some (Sum.inr (iadd .i64 s21.1 1, out28))
    else
      some (Sum.inr (iadd .i64 s21.1 1, s21.2))
  else
    some (Sum.inl s21.2)

theorem argument_Premises_l1f_le {k_ : Nat} {l_0 : (List T_api_Argument)} {t1 : List Int} {s21 : Int × (List Int)} : Le (argument_Premises_l1f k_ l_0 t1 s21) (argument_Premises_l1 l_0 t1 s21) := by
  unfold argument_Premises_l1f argument_Premises_l1
  repeat' with_reducible (first | exact Le.refl _ | refine Le.bind ?_ (Le.sumK fun _ => ?_) | refine Le.bind ?_ (fun _ => ?_) | refine Le.cond ?_ ?_ | refine Le.letM (fun _ => ?_) | refine Le.join (fun _ => ?_) (fun _ _ hj => ?_) | exact hj _)

def argument_Premises_f (k_ : Nat) (l_0 : (List T_api_Argument)) (i_1 : Int) : Option (List Int) :=
  Option.bind (argument_Subs_f k_ l_0 i_1) fun t1 =>
  Option.bind (loopF k_ (argument_Premises_l1f k_ l_0 t1) (0, [])) fun q30 : (List Int) =>
  Option.bind (sortedF q30) fun t32 =>
  some t32

theorem argument_Premises_f_le {k_ : Nat} {l_0 : (List T_api_Argument)} {i_1 : Int} : Le (argument_Premises_f k_ l_0 i_1) (argument_Premises_m l_0 i_1) := by
  unfold argument_Premises_f argument_Premises_m
  repeat' with_reducible (first | exact Le.refl _ | refine argument_Subs_f_le | refine Le.loop (fun _ => argument_Premises_l1f_le) | refine sortedF_le | refine Le.bind ?_ (Le.sumK fun _ => ?_) | refine Le.bind ?_ (fun _ => ?_) | refine Le.cond ?_ ?_ | refine Le.letM (fun _ => ?_) | refine Le.join (fun _ => ?_) (fun _ _ hj => ?_) | exact hj _)

def lift_Assumes_1_f (k_ : Nat) (k_0 : Int) (p_1 : T_api_Base) : Option (Bool) :=
  Option.bind (idxM p_1.Premises k_0) fun t1 =>
  some (t1.Kind == 3)

theorem lift_Assumes_1_f_le {k_ : Nat} {k_0 : Int} {p_1 : T_api_Base} : Le (lift_Assumes_1_f k_ k_0 p_1) (lift_Assumes_1_m k_0 p_1) := by
  unfold lift_Assumes_1_f lift_Assumes_1_m
  repeat' with_reducible (first | exact Le.refl _ | refine Le.bind ?_ (Le.sumK fun _ => ?_) | refine Le.bind ?_ (fun _ => ?_) | refine Le.cond ?_ ?_ | refine Le.letM (fun _ => ?_) | refine Le.join (fun _ => ?_) (fun _ _ hj => ?_) | exact hj _)

def slices_IndexFunc_int_int_l1f (k_ : Nat) (s_0 : (List Int)) (e_1 : T_api_Base) (s7 : Int) : Option (Sum ((Sum (Int) (Unit))) (Int)) :=
  bif decide (s7 < (s_0.length : Int)) then
    Option.bind (idxM s_0 s7) fun t10 =>
    Option.bind (lift_Assumes_1_f k_ t10 e_1) fun t11 =>
    bif t11 then
      some (Sum.inl (Sum.inl s7))
    else
      some (Sum.inr (iadd .i64 s7 1))
  else
    some (Sum.inl (Sum.inr ()))

theorem slices_IndexFunc_int_int_l1f_le {k_ : Nat} {s_0 : (List Int)} {e_1 : T_api_Base} {s7 : Int} : Le (slices_IndexFunc_int_int_l1f k_ s_0 e_1 s7) (slices_IndexFunc_int_int_l1 s_0 e_1 s7) := by
  unfold slices_IndexFunc_int_int_l1f slices_IndexFunc_int_int_l1
  repeat' with_reducible (first | exact Le.refl _ | refine lift_Assumes_1_f_le | refine Le.bind ?_ (Le.sumK fun _ => ?_) | refine Le.bind ?_ (fun _ => ?_) | refine Le.cond ?_ ?_ | refine Le.letM (fun _ => ?_) | refine Le.join (fun _ => ?_) (fun _ _ hj => ?_) | exact hj _)

def slices_IndexFunc_int_int_f (k_ : Nat) (s_0 : (List Int)) (e_1 : T_api_Base) : Option (Int) :=
  Option.bind (loopF k_ (slices_IndexFunc_int_int_l1f k_ s_0 e_1) 0) (sumK (fun a : Int => some a) fun q13 : Unit =>
    some (-1))

theorem slices_IndexFunc_int_int_f_le {k_ : Nat} {s_0 : (List Int)} {e_1 : T_api_Base} : Le (slices_IndexFunc_int_int_f k_ s_0 e_1) (slices_IndexFunc_int_int_m s_0 e_1) := by
  unfold slices_IndexFunc_int_int_f slices_IndexFunc_int_int_m
  repeat' with_reducible (first | exact Le.refl _ | refine Le.loop (fun _ => slices_IndexFunc_int_int_l1f_le) | refine Le.bind ?_ (Le.sumK fun _ => ?_) | refine Le.bind ?_ (fun _ => ?_) | refine Le.cond ?_ ?_ | refine Le.letM (fun _ => ?_) | refine Le.join (fun _ => ?_) (fun _ _ hj => ?_) | exact hj _)

def slices_ContainsFunc_int_int_f (k_ : Nat) (s_0 : (List Int)) (e_1 : T_api_Base) : Option (Bool) :=
  Option.bind (slices_IndexFunc_int_int_f k_ s_0 e_1) fun t1 =>
  letM (decide (t1 ≥ 0)) fun t2 =>
  some t2

theorem slices_ContainsFunc_int_int_f_le {k_ : Nat} {s_0 : (List Int)} {e_1 : T_api_Base} : Le (slices_ContainsFunc_int_int_f k_ s_0 e_1) (slices_ContainsFunc_int_int_m s_0 e_1) := by
  unfold slices_ContainsFunc_int_int_f slices_ContainsFunc_int_int_m
  repeat' with_reducible (first | exact Le.refl _ | refine slices_IndexFunc_int_int_f_le | refine Le.bind ?_ (Le.sumK fun _ => ?_) | refine Le.bind ?_ (fun _ => ?_) | refine Le.cond ?_ ?_ | refine Le.letM (fun _ => ?_) | refine Le.join (fun _ => ?_) (fun _ _ hj => ?_) | exact hj _)

def lift_Assumes_f (k_ : Nat) (b_0 : T_api_Base) (l_1 : (List T_api_Argument)) (i_2 : Int) : Option (Bool) :=
  Option.bind (argument_Premises_f k_ l_1 i_2) fun t2 =>
  Option.bind (slices_ContainsFunc_int_int_f k_ t2 b_0) fun t4 =>
  some t4

theorem lift_Assumes_f_le {k_ : Nat} {b_0 : T_api_Base} {l_1 : (List T_api_Argument)} {i_2 : Int} : Le (lift_Assumes_f k_ b_0 l_1 i_2) (lift_Assumes_m b_0 l_1 i_2) := by
  unfold lift_Assumes_f lift_Assumes_m
  repeat' with_reducible (first | exact Le.refl _ | refine argument_Premises_f_le | refine slices_ContainsFunc_int_int_f_le | refine Le.bind ?_ (Le.sumK fun _ => ?_) | refine Le.bind ?_ (fun _ => ?_) | refine Le.cond ?_ ?_ | refine Le.letM (fun _ => ?_) | refine Le.join (fun _ => ?_) (fun _ _ hj => ?_) | exact hj _)

def argument_Last_l1f (k_ : Nat) (b_0 : T_api_Base) (l_1 : (List T_api_Argument)) (t9 : T_api_Argument) (rec_ : T_api_Base → (List T_api_Argument) → Int → Option (List Int)) (s24 : Int × (List Int)) : Option (Sum ((List Int)) (Int × (List Int))) :=
  bif decide (s24.1 < (t9.Subs.length : Int)) then
    Option.bind (idxM t9.Subs s24.1) fun k27 =>
    Option.bind (rec_ b_0 l_1 k27) fun t28 =>
    Option.bind (appM 8 s24.2 t28) fun out29 =>
    some (Sum.inr (iadd .i64 s24.1 1, out29))
  else
    some (Sum.inl s24.2)

theorem argument_Last_l1f_le {k_ : Nat} {rec_ rec_' : T_api_Base → (List T_api_Argument) → Int → Option (List Int)} (h : ∀ a0 a1 a2, Le (rec_ a0 a1 a2) (rec_' a0 a1 a2)) {b_0 : T_api_Base} {l_1 : (List T_api_Argument)} {t9 : T_api_Argument} {s24 : Int × (List Int)} : Le (argument_Last_l1f k_ b_0 l_1 t9 rec_ s24) (argument_Last_l1 b_0 l_1 t9 rec_' s24) := by
  unfold argument_Last_l1f argument_Last_l1
  repeat' with_reducible (first | exact Le.refl _ | exact h _ _ _ | refine Le.bind ?_ (Le.sumK fun _ => ?_) | refine Le.bind ?_ (fun _ => ?_) | refine Le.cond ?_ ?_ | refine Le.letM (fun _ => ?_) | refine Le.join (fun _ => ?_) (fun _ _ hj => ?_) | exact hj _)

def argument_Last_bf (k_ : Nat) (rec_ : T_api_Base → (List T_api_Argument) → Int → Option (List Int)) (b_0 : T_api_Base) (l_1 : (List T_api_Argument)) (i_2 : Int) : Option (List Int) :=
  Option.bind (argument_inside_f k_ l_1 i_2) fun t2 =>
  bif !t2 then
    some []
  else
    Option.bind (idxM l_1 i_2) fun t3 =>
    bif decide (t3.Rule < 0) then
      some []
    else
      Option.bind (idxM l_1 i_2) fun t5 =>
      Option.bind (idxM b_0.Rules t5.Rule) fun t6 =>
      bif !t6.Strict then
        Option.bind (idxM l_1 i_2) fun t8 =>
        some [t8.Rule]
      else
        Option.bind (idxM l_1 i_2) fun t9 =>
        Option.bind (loopF k_ (argument_Last_l1f k_ b_0 l_1 t9 rec_) (0, [])) fun q31 : (List Int) =>
        Option.bind (sortedF q31) fun t33 =>
        Option.bind (compactM t33) fun t34 =>
        some t34

theorem argument_Last_bf_le {k_ : Nat} {rec_ rec_' : T_api_Base → (List T_api_Argument) → Int → Option (List Int)} (h : ∀ a0 a1 a2, Le (rec_ a0 a1 a2) (rec_' a0 a1 a2)) {b_0 : T_api_Base} {l_1 : (List T_api_Argument)} {i_2 : Int} : Le (argument_Last_bf k_ rec_ b_0 l_1 i_2) (argument_Last_b rec_' b_0 l_1 i_2) := by
  unfold argument_Last_bf argument_Last_b
  repeat' with_reducible (first | exact Le.refl _ | exact h _ _ _ | refine argument_inside_f_le | refine Le.loop (fun _ => argument_Last_l1f_le h) | refine sortedF_le | refine Le.bind ?_ (Le.sumK fun _ => ?_) | refine Le.bind ?_ (fun _ => ?_) | refine Le.cond ?_ ?_ | refine Le.letM (fun _ => ?_) | refine Le.join (fun _ => ?_) (fun _ _ hj => ?_) | exact hj _)

def argument_Last_nf (k_ : Nat) : Nat → T_api_Base → (List T_api_Argument) → Int → Option (List Int)
  | 0 => fun _ _ _ => none
  | n_ + 1 => argument_Last_bf k_ (argument_Last_nf k_ n_)

theorem argument_Last_nf_le {k_ : Nat} : ∀ (n_ : Nat) a0 a1 a2, Le (argument_Last_nf k_ n_ a0 a1 a2) (argument_Last_n n_ a0 a1 a2)
  | 0, _, _, _ => fun _ h => by cases h
  | n_ + 1, _, _, _ => argument_Last_bf_le (argument_Last_nf_le n_)

def argument_Last_f (k_ : Nat) (b_0 : T_api_Base) (l_1 : (List T_api_Argument)) (i_2 : Int) : Option (List Int) := argument_Last_nf k_ k_ b_0 l_1 i_2

theorem argument_Last_f_le {k_ : Nat} {b_0 : T_api_Base} {l_1 : (List T_api_Argument)} {i_2 : Int} : Le (argument_Last_f k_ b_0 l_1 i_2) (argument_Last_m b_0 l_1 i_2) := fun r hr => recC_of (fun n => argument_Last_n_le n _ _ _) (argument_Last_nf_le k_ _ _ _ r hr)

def lift_ranks_l1f (k_ : Nat) (b_0 : T_api_Base) (rules_1 : (List Int)) (s16 : Int × (List Int)) : Option (Sum ((List Int)) (Int × (List Int))) :=
  bif decide (s16.1 < (rules_1.length : Int)) then
    Option.bind (idxM rules_1 s16.1) fun k19 =>
    Option.bind (idxM b_0.Rules k19) fun t20 =>
    Option.bind (appM 8 s16.2 [t20.Rank]) fun out21 =>
    some (Sum.inr (iadd .i64 s16.1 1, out21))
  else
    some (Sum.inl s16.2)

theorem lift_ranks_l1f_le {k_ : Nat} {b_0 : T_api_Base} {rules_1 : (List Int)} {s16 : Int × (List Int)} : Le (lift_ranks_l1f k_ b_0 rules_1 s16) (lift_ranks_l1 b_0 rules_1 s16) := by
  unfold lift_ranks_l1f lift_ranks_l1
  repeat' with_reducible (first | exact Le.refl _ | refine Le.bind ?_ (Le.sumK fun _ => ?_) | refine Le.bind ?_ (fun _ => ?_) | refine Le.cond ?_ ?_ | refine Le.letM (fun _ => ?_) | refine Le.join (fun _ => ?_) (fun _ _ hj => ?_) | exact hj _)

def lift_ranks_f (k_ : Nat) (b_0 : T_api_Base) (rules_1 : (List Int)) : Option (List Int) :=
  Option.bind (loopF k_ (lift_ranks_l1f k_ b_0 rules_1) (0, [])) fun q23 : (List Int) =>
  some q23

theorem lift_ranks_f_le {k_ : Nat} {b_0 : T_api_Base} {rules_1 : (List Int)} : Le (lift_ranks_f k_ b_0 rules_1) (lift_ranks_m b_0 rules_1) := by
  unfold lift_ranks_f lift_ranks_m
  repeat' with_reducible (first | exact Le.refl _ | refine Le.loop (fun _ => lift_ranks_l1f_le) | refine Le.bind ?_ (Le.sumK fun _ => ?_) | refine Le.bind ?_ (fun _ => ?_) | refine Le.cond ?_ ?_ | refine Le.letM (fun _ => ?_) | refine Le.join (fun _ => ?_) (fun _ _ hj => ?_) | exact hj _)

def lift_LastRanks_f (k_ : Nat) (b_0 : T_api_Base) (l_1 : (List T_api_Argument)) (i_2 : Int) : Option (List Int) :=
  Option.bind (argument_Last_f k_ b_0 l_1 i_2) fun t2 =>
  Option.bind (lift_ranks_f k_ b_0 t2) fun t3 =>
  some t3

theorem lift_LastRanks_f_le {k_ : Nat} {b_0 : T_api_Base} {l_1 : (List T_api_Argument)} {i_2 : Int} : Le (lift_LastRanks_f k_ b_0 l_1 i_2) (lift_LastRanks_m b_0 l_1 i_2) := by
  unfold lift_LastRanks_f lift_LastRanks_m
  repeat' with_reducible (first | exact Le.refl _ | refine argument_Last_f_le | refine lift_ranks_f_le | refine Le.bind ?_ (Le.sumK fun _ => ?_) | refine Le.bind ?_ (fun _ => ?_) | refine Le.cond ?_ ?_ | refine Le.letM (fun _ => ?_) | refine Le.join (fun _ => ?_) (fun _ _ hj => ?_) | exact hj _)

def lift_Less_1_f (k_ : Nat) (p_1 : T_api_Base) (p_2 : (List T_api_Argument)) (p_3 : Int) (p_4 : Int) (p_5 : T_api_Ordering) : Option (Bool) :=
  Option.bind (lift_LastRanks_f k_ p_1 p_2 p_3) fun t1 =>
  Option.bind (lift_LastRanks_f k_ p_1 p_2 p_4) fun t3 =>
  Option.bind (lift_SetLess_f k_ t1 t3 p_5.Lift) fun t5 =>
  some t5

theorem lift_Less_1_f_le {k_ : Nat} {p_1 : T_api_Base} {p_2 : (List T_api_Argument)} {p_3 : Int} {p_4 : Int} {p_5 : T_api_Ordering} : Le (lift_Less_1_f k_ p_1 p_2 p_3 p_4 p_5) (lift_Less_1_m p_1 p_2 p_3 p_4 p_5) := by
  unfold lift_Less_1_f lift_Less_1_m
  repeat' with_reducible (first | exact Le.refl _ | refine lift_LastRanks_f_le | refine lift_SetLess_f_le | refine Le.bind ?_ (Le.sumK fun _ => ?_) | refine Le.bind ?_ (fun _ => ?_) | refine Le.cond ?_ ?_ | refine Le.letM (fun _ => ?_) | refine Le.join (fun _ => ?_) (fun _ _ hj => ?_) | exact hj _)

def lift_Less_2_f (k_ : Nat) (p_1 : T_api_Base) (p_2 : (List T_api_Argument)) (p_3 : Int) (p_4 : Int) : Option (Bool) :=
  Option.bind (lift_LastRanks_f k_ p_1 p_2 p_3) fun t1 =>
  bif (t1.length : Int) == 0 then
    Option.bind (lift_LastRanks_f k_ p_1 p_2 p_4) fun t3 =>
    letM ((t3.length : Int) == 0) fun t5 =>
    some t5
  else
    some false

theorem lift_Less_2_f_le {k_ : Nat} {p_1 : T_api_Base} {p_2 : (List T_api_Argument)} {p_3 : Int} {p_4 : Int} : Le (lift_Less_2_f k_ p_1 p_2 p_3 p_4) (lift_Less_2_m p_1 p_2 p_3 p_4) := by
  unfold lift_Less_2_f lift_Less_2_m
  repeat' with_reducible (first | exact Le.refl _ | refine lift_LastRanks_f_le | refine Le.bind ?_ (Le.sumK fun _ => ?_) | refine Le.bind ?_ (fun _ => ?_) | refine Le.cond ?_ ?_ | refine Le.letM (fun _ => ?_) | refine Le.join (fun _ => ?_) (fun _ _ hj => ?_) | exact hj _)

def lift_PremiseRanks_l1f (k_ : Nat) (b_0 : T_api_Base) (t2 : List Int) (s28 : Int × (List Int)) : Option (Sum ((List Int)) (Int × (List Int))) :=
  bif decide (s28.1 < (t2.length : Int)) then
    Option.bind (idxM t2 s28.1) fun k31 =>
    Option.bind (idxM b_0.Premises k31) fun t32 =>
    bif t32.Kind == 2 then
      Option.bind (appM 8 s28.2 [t32.Rank]) fun out35 =>
      some (Sum.inr (iadd .i64 s28.1 1, out35))
    else
      bif t32.Kind == 3 then
        Option.bind (appM 8 s28.2 [(-1)]) fun out38 =>
        some (Sum.inr (iadd .i64 s28.1 1, out38))
      else
        some (Sum.inr (iadd .i64 s28.1 1, s28.2))
  else
    some (Sum.inl s28.2)

theorem lift_PremiseRanks_l1f_le {k_ : Nat} {b_0 : T_api_Base} {t2 : List Int} {s28 : Int × (List Int)} : Le (lift_PremiseRanks_l1f k_ b_0 t2 s28) (lift_PremiseRanks_l1 b_0 t2 s28) := by
  unfold lift_PremiseRanks_l1f lift_PremiseRanks_l1
  repeat' with_reducible (first | exact Le.refl _ | refine Le.bind ?_ (Le.sumK fun _ => ?_) | refine Le.bind ?_ (fun _ => ?_) | refine Le.cond ?_ ?_ | refine Le.letM (fun _ => ?_) | refine Le.join (fun _ => ?_) (fun _ _ hj => ?_) | exact hj _)

def lift_PremiseRanks_f (k_ : Nat) (b_0 : T_api_Base) (l_1 : (List T_api_Argument)) (i_2 : Int) : Option (List Int) :=
  Option.bind (argument_Premises_f k_ l_1 i_2) fun t2 =>
  Option.bind (loopF k_ (lift_PremiseRanks_l1f k_ b_0 t2) (0, [])) fun q40 : (List Int) =>
  some q40

theorem lift_PremiseRanks_f_le {k_ : Nat} {b_0 : T_api_Base} {l_1 : (List T_api_Argument)} {i_2 : Int} : Le (lift_PremiseRanks_f k_ b_0 l_1 i_2) (lift_PremiseRanks_m b_0 l_1 i_2) := by
  unfold lift_PremiseRanks_f lift_PremiseRanks_m
  repeat' with_reducible (first | exact Le.refl _ | refine argument_Premises_f_le | refine Le.loop (fun _ => lift_PremiseRanks_l1f_le) | refine Le.bind ?_ (Le.sumK fun _ => ?_) | refine Le.bind ?_ (fun _ => ?_) | refine Le.cond ?_ ?_ | refine Le.letM (fun _ => ?_) | refine Le.join (fun _ => ?_) (fun _ _ hj => ?_) | exact hj _)

def lift_Less_1_1_f (k_ : Nat) (p_1 : T_api_Base) (p_2 : (List T_api_Argument)) (p_3 : Int) (p_4 : Int) (p_5 : T_api_Ordering) : Option (Bool) :=
  Option.bind (lift_PremiseRanks_f k_ p_1 p_2 p_3) fun t1 =>
  Option.bind (lift_PremiseRanks_f k_ p_1 p_2 p_4) fun t3 =>
  Option.bind (lift_SetLess_f k_ t1 t3 p_5.Lift) fun t5 =>
  some t5

theorem lift_Less_1_1_f_le {k_ : Nat} {p_1 : T_api_Base} {p_2 : (List T_api_Argument)} {p_3 : Int} {p_4 : Int} {p_5 : T_api_Ordering} : Le (lift_Less_1_1_f k_ p_1 p_2 p_3 p_4 p_5) (lift_Less_1_1_m p_1 p_2 p_3 p_4 p_5) := by
  unfold lift_Less_1_1_f lift_Less_1_1_m
  repeat' with_reducible (first | exact Le.refl _ | refine lift_PremiseRanks_f_le | refine lift_SetLess_f_le | refine Le.bind ?_ (Le.sumK fun _ => ?_) | refine Le.bind ?_ (fun _ => ?_) | refine Le.cond ?_ ?_ | refine Le.letM (fun _ => ?_) | refine Le.join (fun _ => ?_) (fun _ _ hj => ?_) | exact hj _)

def lift_Less_3_f (k_ : Nat) (e_1 : T_api_Base) (e_2 : (List T_api_Argument)) (e_3 : Int) (e_4 : Int) (e_5 : T_api_Ordering) : Option (Bool) :=
  Option.bind (lift_Less_1_f k_ e_1 e_2 e_3 e_4 e_5) fun t1 =>
  bif t1 then
    some true
  else
    Option.bind (lift_Less_2_f k_ e_1 e_2 e_3 e_4) fun t2 =>
    bif t2 then
      Option.bind (lift_Less_1_1_f k_ e_1 e_2 e_3 e_4 e_5) fun t3 =>
      some t3
    else
      some false

theorem lift_Less_3_f_le {k_ : Nat} {e_1 : T_api_Base} {e_2 : (List T_api_Argument)} {e_3 : Int} {e_4 : Int} {e_5 : T_api_Ordering} : Le (lift_Less_3_f k_ e_1 e_2 e_3 e_4 e_5) (lift_Less_3_m e_1 e_2 e_3 e_4 e_5) := by
  unfold lift_Less_3_f lift_Less_3_m
  repeat' with_reducible (first | exact Le.refl _ | refine lift_Less_1_f_le | refine lift_Less_2_f_le | refine lift_Less_1_1_f_le | refine Le.bind ?_ (Le.sumK fun _ => ?_) | refine Le.bind ?_ (fun _ => ?_) | refine Le.cond ?_ ?_ | refine Le.letM (fun _ => ?_) | refine Le.join (fun _ => ?_) (fun _ _ hj => ?_) | exact hj _)

def argument_Defeasible_l1f (k_ : Nat) (b_0 : T_api_Base) (l_1 : (List T_api_Argument)) (t2 : List Int) (s28 : Int × (List Int)) : Option (Sum ((List Int)) (Int × (List Int))) :=
  bif decide (s28.1 < (t2.length : Int)) then
    Option.bind (idxM t2 s28.1) fun k31 =>
    Option.bind (idxM l_1 k31) fun t32 =>
    joinM (fun j34 : Bool =>
        bif j34 then
          Option.bind (appM 8 s28.2 [t32.Rule]) fun out38 =>
          some (Sum.inr (iadd .i64 s28.1 1, out38))
        else
          some (Sum.inr (iadd .i64 s28.1 1, s28.2))) fun k36 =>
    bif decide (t32.Rule ≥ 0) then
      Option.bind (idxM b_0.Rules t32.Rule) fun t33 =>
      k36 (!t33.Strict)
    else
      k36 false
  else
    some (Sum.inl s28.2)

theorem argument_Defeasible_l1f_le {k_ : Nat} {b_0 : T_api_Base} {l_1 : (List T_api_Argument)} {t2 : List Int} {s28 : Int × (List Int)} : Le (argument_Defeasible_l1f k_ b_0 l_1 t2 s28) (argument_Defeasible_l1 b_0 l_1 t2 s28) := by
  unfold argument_Defeasible_l1f argument_Defeasible_l1
  repeat' with_reducible (first | exact Le.refl _ | refine Le.bind ?_ (Le.sumK fun _ => ?_) | refine Le.bind ?_ (fun _ => ?_) | refine Le.cond ?_ ?_ | refine Le.letM (fun _ => ?_) | refine Le.join (fun _ => ?_) (fun _ _ hj => ?_) | exact hj _)

def argument_Defeasible_f (k_ : Nat) (b_0 : T_api_Base) (l_1 : (List T_api_Argument)) (i_2 : Int) : Option (List Int) :=
  Option.bind (argument_Subs_f k_ l_1 i_2) fun t2 =>
  Option.bind (loopF k_ (argument_Defeasible_l1f k_ b_0 l_1 t2) (0, [])) fun q40 : (List Int) =>
  Option.bind (sortedF q40) fun t42 =>
  Option.bind (compactM t42) fun t43 =>
  some t43

theorem argument_Defeasible_f_le {k_ : Nat} {b_0 : T_api_Base} {l_1 : (List T_api_Argument)} {i_2 : Int} : Le (argument_Defeasible_f k_ b_0 l_1 i_2) (argument_Defeasible_m b_0 l_1 i_2) := by
  unfold argument_Defeasible_f argument_Defeasible_m
  repeat' with_reducible (first | exact Le.refl _ | refine argument_Subs_f_le | refine Le.loop (fun _ => argument_Defeasible_l1f_le) | refine sortedF_le | refine Le.bind ?_ (Le.sumK fun _ => ?_) | refine Le.bind ?_ (fun _ => ?_) | refine Le.cond ?_ ?_ | refine Le.letM (fun _ => ?_) | refine Le.join (fun _ => ?_) (fun _ _ hj => ?_) | exact hj _)

def lift_ranks_1_l1f (k_ : Nat) (b_0 : T_api_Base) (rules_1 : (List Int)) (s16 : Int × (List Int)) : Option (Sum ((List Int)) (Int × (List Int))) :=
  bif decide (s16.1 < (rules_1.length : Int)) then
    Option.bind (idxM rules_1 s16.1) fun k19 =>
    Option.bind (idxM b_0.Rules k19) fun t20 =>
    Option.bind (appM 8 s16.2 [t20.Rank]) fun out21 =>
    some (Sum.inr (iadd .i64 s16.1 1, out21))
  else
    some (Sum.inl s16.2)

theorem lift_ranks_1_l1f_le {k_ : Nat} {b_0 : T_api_Base} {rules_1 : (List Int)} {s16 : Int × (List Int)} : Le (lift_ranks_1_l1f k_ b_0 rules_1 s16) (lift_ranks_1_l1 b_0 rules_1 s16) := by
  unfold lift_ranks_1_l1f lift_ranks_1_l1
  repeat' with_reducible (first | exact Le.refl _ | refine Le.bind ?_ (Le.sumK fun _ => ?_) | refine Le.bind ?_ (fun _ => ?_) | refine Le.cond ?_ ?_ | refine Le.letM (fun _ => ?_) | refine Le.join (fun _ => ?_) (fun _ _ hj => ?_) | exact hj _)

def lift_ranks_1_f (k_ : Nat) (b_0 : T_api_Base) (rules_1 : (List Int)) : Option (List Int) :=
  Option.bind (loopF k_ (lift_ranks_1_l1f k_ b_0 rules_1) (0, [])) fun q23 : (List Int) =>
  some q23

theorem lift_ranks_1_f_le {k_ : Nat} {b_0 : T_api_Base} {rules_1 : (List Int)} : Le (lift_ranks_1_f k_ b_0 rules_1) (lift_ranks_1_m b_0 rules_1) := by
  unfold lift_ranks_1_f lift_ranks_1_m
  repeat' with_reducible (first | exact Le.refl _ | refine Le.loop (fun _ => lift_ranks_1_l1f_le) | refine Le.bind ?_ (Le.sumK fun _ => ?_) | refine Le.bind ?_ (fun _ => ?_) | refine Le.cond ?_ ?_ | refine Le.letM (fun _ => ?_) | refine Le.join (fun _ => ?_) (fun _ _ hj => ?_) | exact hj _)

def lift_RuleRanks_f (k_ : Nat) (b_0 : T_api_Base) (l_1 : (List T_api_Argument)) (i_2 : Int) : Option (List Int) :=
  Option.bind (argument_Defeasible_f k_ b_0 l_1 i_2) fun t2 =>
  Option.bind (lift_ranks_1_f k_ b_0 t2) fun t4 =>
  some t4

theorem lift_RuleRanks_f_le {k_ : Nat} {b_0 : T_api_Base} {l_1 : (List T_api_Argument)} {i_2 : Int} : Le (lift_RuleRanks_f k_ b_0 l_1 i_2) (lift_RuleRanks_m b_0 l_1 i_2) := by
  unfold lift_RuleRanks_f lift_RuleRanks_m
  repeat' with_reducible (first | exact Le.refl _ | refine argument_Defeasible_f_le | refine lift_ranks_1_f_le | refine Le.bind ?_ (Le.sumK fun _ => ?_) | refine Le.bind ?_ (fun _ => ?_) | refine Le.cond ?_ ?_ | refine Le.letM (fun _ => ?_) | refine Le.join (fun _ => ?_) (fun _ _ hj => ?_) | exact hj _)

def lift_Less_2_1_f (k_ : Nat) (p_1 : T_api_Base) (p_2 : (List T_api_Argument)) (p_3 : Int) (p_4 : Int) : Option (Bool) :=
  Option.bind (lift_RuleRanks_f k_ p_1 p_2 p_3) fun t1 =>
  bif (t1.length : Int) == 0 then
    Option.bind (lift_RuleRanks_f k_ p_1 p_2 p_4) fun t3 =>
    letM ((t3.length : Int) == 0) fun t5 =>
    some t5
  else
    some false

theorem lift_Less_2_1_f_le {k_ : Nat} {p_1 : T_api_Base} {p_2 : (List T_api_Argument)} {p_3 : Int} {p_4 : Int} : Le (lift_Less_2_1_f k_ p_1 p_2 p_3 p_4) (lift_Less_2_1_m p_1 p_2 p_3 p_4) := by
  unfold lift_Less_2_1_f lift_Less_2_1_m
  repeat' with_reducible (first | exact Le.refl _ | refine lift_RuleRanks_f_le | refine Le.bind ?_ (Le.sumK fun _ => ?_) | refine Le.bind ?_ (fun _ => ?_) | refine Le.cond ?_ ?_ | refine Le.letM (fun _ => ?_) | refine Le.join (fun _ => ?_) (fun _ _ hj => ?_) | exact hj _)

def lift_Less_2_2_f (k_ : Nat) (p_1 : T_api_Base) (p_2 : (List T_api_Argument)) (p_3 : Int) (p_4 : Int) : Option (Bool) :=
  Option.bind (lift_PremiseRanks_f k_ p_1 p_2 p_3) fun t1 =>
  bif (t1.length : Int) == 0 then
    Option.bind (lift_PremiseRanks_f k_ p_1 p_2 p_4) fun t3 =>
    letM ((t3.length : Int) == 0) fun t5 =>
    some t5
  else
    some false

theorem lift_Less_2_2_f_le {k_ : Nat} {p_1 : T_api_Base} {p_2 : (List T_api_Argument)} {p_3 : Int} {p_4 : Int} : Le (lift_Less_2_2_f k_ p_1 p_2 p_3 p_4) (lift_Less_2_2_m p_1 p_2 p_3 p_4) := by
  unfold lift_Less_2_2_f lift_Less_2_2_m
  repeat' with_reducible (first | exact Le.refl _ | refine lift_PremiseRanks_f_le | refine Le.bind ?_ (Le.sumK fun _ => ?_) | refine Le.bind ?_ (fun _ => ?_) | refine Le.cond ?_ ?_ | refine Le.letM (fun _ => ?_) | refine Le.join (fun _ => ?_) (fun _ _ hj => ?_) | exact hj _)

def lift_Less_1_2_f (k_ : Nat) (p_1 : T_api_Base) (p_2 : (List T_api_Argument)) (p_3 : Int) (p_4 : Int) (p_5 : T_api_Ordering) : Option (Bool) :=
  Option.bind (lift_RuleRanks_f k_ p_1 p_2 p_3) fun t1 =>
  Option.bind (lift_RuleRanks_f k_ p_1 p_2 p_4) fun t3 =>
  Option.bind (lift_SetLess_f k_ t1 t3 p_5.Lift) fun t5 =>
  some t5

theorem lift_Less_1_2_f_le {k_ : Nat} {p_1 : T_api_Base} {p_2 : (List T_api_Argument)} {p_3 : Int} {p_4 : Int} {p_5 : T_api_Ordering} : Le (lift_Less_1_2_f k_ p_1 p_2 p_3 p_4 p_5) (lift_Less_1_2_m p_1 p_2 p_3 p_4 p_5) := by
  unfold lift_Less_1_2_f lift_Less_1_2_m
  repeat' with_reducible (first | exact Le.refl _ | refine lift_RuleRanks_f_le | refine lift_SetLess_f_le | refine Le.bind ?_ (Le.sumK fun _ => ?_) | refine Le.bind ?_ (fun _ => ?_) | refine Le.cond ?_ ?_ | refine Le.letM (fun _ => ?_) | refine Le.join (fun _ => ?_) (fun _ _ hj => ?_) | exact hj _)

def lift_Less_4_f (k_ : Nat) (e_1 : T_api_Base) (e_2 : (List T_api_Argument)) (e_3 : Int) (e_4 : Int) (e_6 : T_api_Ordering) : Option (Bool) :=
  Option.bind (lift_Less_2_1_f k_ e_1 e_2 e_3 e_4) fun t1 =>
  bif t1 then
    Option.bind (lift_Less_1_1_f k_ e_1 e_2 e_3 e_4 e_6) fun t3 =>
    some t3
  else
    Option.bind (lift_Less_2_2_f k_ e_1 e_2 e_3 e_4) fun t4 =>
    bif t4 then
      Option.bind (lift_Less_1_2_f k_ e_1 e_2 e_3 e_4 e_6) fun t6 =>
      some t6
    else
      Option.bind (lift_Less_1_1_f k_ e_1 e_2 e_3 e_4 e_6) fun t7 =>
      bif t7 then
        Option.bind (lift_Less_1_2_f k_ e_1 e_2 e_3 e_4 e_6) fun t8 =>
        some t8
      else
        some false

theorem lift_Less_4_f_le {k_ : Nat} {e_1 : T_api_Base} {e_2 : (List T_api_Argument)} {e_3 : Int} {e_4 : Int} {e_6 : T_api_Ordering} : Le (lift_Less_4_f k_ e_1 e_2 e_3 e_4 e_6) (lift_Less_4_m e_1 e_2 e_3 e_4 e_6) := by
  unfold lift_Less_4_f lift_Less_4_m
  repeat' with_reducible (first | exact Le.refl _ | refine lift_Less_2_1_f_le | refine lift_Less_1_1_f_le | refine lift_Less_2_2_f_le | refine lift_Less_1_2_f_le | refine Le.bind ?_ (Le.sumK fun _ => ?_) | refine Le.bind ?_ (fun _ => ?_) | refine Le.cond ?_ ?_ | refine Le.letM (fun _ => ?_) | refine Le.join (fun _ => ?_) (fun _ _ hj => ?_) | exact hj _)

def lift_Less_f (k_ : Nat) (b_0 : T_api_Base) (l_1 : (List T_api_Argument)) (i_2 : Int) (k_3 : Int) (o_4 : T_api_Ordering) : Option (Bool) :=
  bif decide ((imin i_2 k_3) < 0) then
    some false
  else
    bif decide ((imax i_2 k_3) ≥ (l_1.length : Int)) then
      some false
    else
      Option.bind (lift_Assumes_f k_ b_0 l_1 k_3) fun t6 =>
      bif t6 then
        some false
      else
        bif o_4.Link == 1 then
          Option.bind (lift_Less_3_f k_ b_0 l_1 i_2 k_3 o_4) fun t12 =>
          some t12
        else
          bif o_4.Link == 2 then
            Option.bind (lift_Less_4_f k_ b_0 l_1 i_2 k_3 o_4) fun t13 =>
            some t13
          else
            some false

theorem lift_Less_f_le {k_ : Nat} {b_0 : T_api_Base} {l_1 : (List T_api_Argument)} {i_2 : Int} {k_3 : Int} {o_4 : T_api_Ordering} : Le (lift_Less_f k_ b_0 l_1 i_2 k_3 o_4) (lift_Less_m b_0 l_1 i_2 k_3 o_4) := by
  unfold lift_Less_f lift_Less_m
  repeat' with_reducible (first | exact Le.refl _ | refine lift_Assumes_f_le | refine lift_Less_3_f_le | refine lift_Less_4_f_le | refine Le.bind ?_ (Le.sumK fun _ => ?_) | refine Le.bind ?_ (fun _ => ?_) | refine Le.cond ?_ ?_ | refine Le.letM (fun _ => ?_) | refine Le.join (fun _ => ?_) (fun _ _ hj => ?_) | exact hj _)

def law08_awake_f (k_ : Nat)  : Option (Bool) :=
  Option.bind (ref07_Build_f k_ (T_api_Base.mk [(T_api_Premise.mk (T_api_Literal.mk false (ByteArray.mk #[112])) 2 0 ByteArray.empty)] [(T_api_Rule.mk (ByteArray.mk #[100]) false 9 [(T_api_Literal.mk false (ByteArray.mk #[112]))] (T_api_Literal.mk false (ByteArray.mk #[113])))] [])) fun t3 =>
  Option.bind (lift_SetLess_f k_ [2, 5] [3] 1) fun t6 =>
  bif t6 then
    Option.bind (lift_SetLess_f k_ [2, 5] [3] 2) fun t7 =>
    bif !t7 then
      bif t3.2 == 0 then
        bif (t3.1.length : Int) == 2 then
          Option.bind (lift_Less_f k_ (T_api_Base.mk [(T_api_Premise.mk (T_api_Literal.mk false (ByteArray.mk #[112])) 2 0 ByteArray.empty)] [(T_api_Rule.mk (ByteArray.mk #[100]) false 9 [(T_api_Literal.mk false (ByteArray.mk #[112]))] (T_api_Literal.mk false (ByteArray.mk #[113])))] []) t3.1 1 0 (T_api_Ordering.mk 1 1)) fun t8 =>
          bif t8 then
            Option.bind (lift_Less_f k_ (T_api_Base.mk [(T_api_Premise.mk (T_api_Literal.mk false (ByteArray.mk #[112])) 2 0 ByteArray.empty)] [(T_api_Rule.mk (ByteArray.mk #[100]) false 9 [(T_api_Literal.mk false (ByteArray.mk #[112]))] (T_api_Literal.mk false (ByteArray.mk #[113])))] []) t3.1 0 1 (T_api_Ordering.mk 1 1)) fun t9 =>
            some (!t9)
          else
            some false
        else
          some false
      else
        some false
    else
      some false
  else
    some false

theorem law08_awake_f_le {k_ : Nat}  : Le (law08_awake_f k_ ) (law08_awake_m ) := by
  unfold law08_awake_f law08_awake_m
  repeat' with_reducible (first | exact Le.refl _ | refine ref07_Build_f_le | refine lift_SetLess_f_le | refine lift_Less_f_le | refine Le.bind ?_ (Le.sumK fun _ => ?_) | refine Le.bind ?_ (fun _ => ?_) | refine Le.cond ?_ ?_ | refine Le.letM (fun _ => ?_) | refine Le.join (fun _ => ?_) (fun _ _ hj => ?_) | exact hj _)

end Go.Dc
