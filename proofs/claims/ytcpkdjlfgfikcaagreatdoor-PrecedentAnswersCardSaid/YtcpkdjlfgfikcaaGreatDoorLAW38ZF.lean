/- Part LAW38Z.F of a proof: lemmas. -/
import Derived.Test.YtcpkdjlfgfikcaaGreatDoorLAW38ZA3
import Derived.Test.YtcpkdjlfgfikcaaGreatDoorDcFuel
set_option linter.unusedVariables false
set_option maxRecDepth 100000
namespace Go.Dc

def law38_sides_f (k_ : Nat)  : Option (T_arr2_22) :=
  some (T_arr2_22.mk [(ByteArray.mk #[97]), (ByteArray.mk #[98]), (ByteArray.mk #[99])] [(ByteArray.mk #[120]), (ByteArray.mk #[121]), (ByteArray.mk #[122])])

theorem law38_sides_f_le {k_ : Nat}  : Le (law38_sides_f k_ ) (law38_sides_m ) := by
  unfold law38_sides_f law38_sides_m
  repeat' with_reducible (first | exact Le.refl _ | refine Le.bind ?_ (Le.sumK fun _ => ?_) | refine Le.bind ?_ (fun _ => ?_) | refine Le.cond ?_ ?_ | refine Le.letM (fun _ => ?_) | refine Le.join (fun _ => ?_) (fun _ _ hj => ?_) | exact hj _)

def pc_Reasons_1_f (k_ : Nat) (c_0 : T_Cas) : Option (List ByteArray) :=
  some c_0.Reason

theorem pc_Reasons_1_f_le {k_ : Nat} {c_0 : T_Cas} : Le (pc_Reasons_1_f k_ c_0) (pc_Reasons_1_m c_0) := by
  unfold pc_Reasons_1_f pc_Reasons_1_m
  repeat' with_reducible (first | exact Le.refl _ | refine Le.bind ?_ (Le.sumK fun _ => ?_) | refine Le.bind ?_ (fun _ => ?_) | refine Le.cond ?_ ?_ | refine Le.letM (fun _ => ?_) | refine Le.join (fun _ => ?_) (fun _ _ hj => ?_) | exact hj _)

def literal_ValidName_l1f (k_ : Nat) (s_0 : ByteArray) (s13 : Int) : Option (Sum ((Sum (Bool) (Unit))) (Int)) :=
  bif decide (s13 < (s_0.size : Int)) then
    Option.bind (sidxM s_0 s13) fun c16 =>
    joinM (fun j18 : Bool =>
        bif j18 then
          some (Sum.inr (iadd .i64 s13 1))
        else
          bif decide (s13 > 0) then
            bif decide (c16 ≥ 48) then
              bif decide (c16 ≤ 57) then
                some (Sum.inr (iadd .i64 s13 1))
              else
                bif c16 == 95 then
                  some (Sum.inr (iadd .i64 s13 1))
                else
                  some (Sum.inl (Sum.inl false))
            else
              bif c16 == 95 then
                some (Sum.inr (iadd .i64 s13 1))
              else
                some (Sum.inl (Sum.inl false))
          else
            some (Sum.inl (Sum.inl false))) fun k20 =>
    bif decide (c16 ≥ 97) then
      letM (decide (c16 ≤ 122)) fun t17 =>
      k20 t17
    else
      k20 false
  else
    some (Sum.inl (Sum.inr ()))

theorem literal_ValidName_l1f_le {k_ : Nat} {s_0 : ByteArray} {s13 : Int} : Le (literal_ValidName_l1f k_ s_0 s13) (literal_ValidName_l1 s_0 s13) := by
  unfold literal_ValidName_l1f literal_ValidName_l1
  repeat' with_reducible (first | exact Le.refl _ | refine Le.bind ?_ (Le.sumK fun _ => ?_) | refine Le.bind ?_ (fun _ => ?_) | refine Le.cond ?_ ?_ | refine Le.letM (fun _ => ?_) | refine Le.join (fun _ => ?_) (fun _ _ hj => ?_) | exact hj _)

def literal_ValidName_f (k_ : Nat) (s_0 : ByteArray) : Option (Bool) :=
  bif (s_0.size : Int) == 0 then
    some false
  else
    bif decide ((s_0.size : Int) > 12) then
      some false
    else
      Option.bind (loopF k_ (literal_ValidName_l1f k_ s_0) 0) (sumK (fun a : Bool => some a) fun q24 : Unit =>
        some true)

theorem literal_ValidName_f_le {k_ : Nat} {s_0 : ByteArray} : Le (literal_ValidName_f k_ s_0) (literal_ValidName_m s_0) := by
  unfold literal_ValidName_f literal_ValidName_m
  repeat' with_reducible (first | exact Le.refl _ | refine Le.loop (fun _ => literal_ValidName_l1f_le) | refine Le.bind ?_ (Le.sumK fun _ => ?_) | refine Le.bind ?_ (fun _ => ?_) | refine Le.cond ?_ ?_ | refine Le.letM (fun _ => ?_) | refine Le.join (fun _ => ?_) (fun _ _ hj => ?_) | exact hj _)

def pc_named_1_f (k_ : Nat) (s_0 : ByteArray) : Option (Bool) :=
  Option.bind (literal_ValidName_f k_ s_0) fun t1 =>
  some (!t1)

theorem pc_named_1_f_le {k_ : Nat} {s_0 : ByteArray} : Le (pc_named_1_f k_ s_0) (pc_named_1_m s_0) := by
  unfold pc_named_1_f pc_named_1_m
  repeat' with_reducible (first | exact Le.refl _ | refine literal_ValidName_f_le | refine Le.bind ?_ (Le.sumK fun _ => ?_) | refine Le.bind ?_ (fun _ => ?_) | refine Le.cond ?_ ?_ | refine Le.letM (fun _ => ?_) | refine Le.join (fun _ => ?_) (fun _ _ hj => ?_) | exact hj _)

def sIF_S_l1f (k_ : Nat) (s_0 : (List ByteArray)) (s7 : Int) : Option (Sum ((Sum (Int) (Unit))) (Int)) :=
  bif decide (s7 < (s_0.length : Int)) then
    Option.bind (idxM s_0 s7) fun t10 =>
    Option.bind (pc_named_1_f k_ t10) fun t11 =>
    bif t11 then
      some (Sum.inl (Sum.inl s7))
    else
      some (Sum.inr (iadd .i64 s7 1))
  else
    some (Sum.inl (Sum.inr ()))

theorem sIF_S_l1f_le {k_ : Nat} {s_0 : (List ByteArray)} {s7 : Int} : Le (sIF_S_l1f k_ s_0 s7) (sIF_S_l1 s_0 s7) := by
  unfold sIF_S_l1f sIF_S_l1
  repeat' with_reducible (first | exact Le.refl _ | refine pc_named_1_f_le | refine Le.bind ?_ (Le.sumK fun _ => ?_) | refine Le.bind ?_ (fun _ => ?_) | refine Le.cond ?_ ?_ | refine Le.letM (fun _ => ?_) | refine Le.join (fun _ => ?_) (fun _ _ hj => ?_) | exact hj _)

def sIF_S_f (k_ : Nat) (s_0 : (List ByteArray)) : Option (Int) :=
  Option.bind (loopF k_ (sIF_S_l1f k_ s_0) 0) (sumK (fun a : Int => some a) fun q13 : Unit =>
    some (-1))

theorem sIF_S_f_le {k_ : Nat} {s_0 : (List ByteArray)} : Le (sIF_S_f k_ s_0) (sIF_S_m s_0) := by
  unfold sIF_S_f sIF_S_m
  repeat' with_reducible (first | exact Le.refl _ | refine Le.loop (fun _ => sIF_S_l1f_le) | refine Le.bind ?_ (Le.sumK fun _ => ?_) | refine Le.bind ?_ (fun _ => ?_) | refine Le.cond ?_ ?_ | refine Le.letM (fun _ => ?_) | refine Le.join (fun _ => ?_) (fun _ _ hj => ?_) | exact hj _)

def sCF_S_f (k_ : Nat) (s_0 : (List ByteArray)) : Option (Bool) :=
  Option.bind (sIF_S_f k_ s_0) fun t1 =>
  letM (decide (t1 ≥ 0)) fun t2 =>
  some t2

theorem sCF_S_f_le {k_ : Nat} {s_0 : (List ByteArray)} : Le (sCF_S_f k_ s_0) (sCF_S_m s_0) := by
  unfold sCF_S_f sCF_S_m
  repeat' with_reducible (first | exact Le.refl _ | refine sIF_S_f_le | refine Le.bind ?_ (Le.sumK fun _ => ?_) | refine Le.bind ?_ (fun _ => ?_) | refine Le.cond ?_ ?_ | refine Le.letM (fun _ => ?_) | refine Le.join (fun _ => ?_) (fun _ _ hj => ?_) | exact hj _)

def pc_named_f (k_ : Nat) (l_0 : (List ByteArray)) : Option (Bool) :=
  Option.bind (sCF_S_f k_ l_0) fun t1 =>
  some (!t1)

theorem pc_named_f_le {k_ : Nat} {l_0 : (List ByteArray)} : Le (pc_named_f k_ l_0) (pc_named_m l_0) := by
  unfold pc_named_f pc_named_m
  repeat' with_reducible (first | exact Le.refl _ | refine sCF_S_f_le | refine Le.bind ?_ (Le.sumK fun _ => ?_) | refine Le.bind ?_ (fun _ => ?_) | refine Le.cond ?_ ?_ | refine Le.letM (fun _ => ?_) | refine Le.join (fun _ => ?_) (fun _ _ hj => ?_) | exact hj _)

def pc_Validate_1_f (k_ : Nat) (c_0 : T_Cas) : Option (Bool) :=
  Option.bind (literal_ValidName_f k_ c_0.Name) fun t2 =>
  some (!t2)

theorem pc_Validate_1_f_le {k_ : Nat} {c_0 : T_Cas} : Le (pc_Validate_1_f k_ c_0) (pc_Validate_1_m c_0) := by
  unfold pc_Validate_1_f pc_Validate_1_m
  repeat' with_reducible (first | exact Le.refl _ | refine literal_ValidName_f_le | refine Le.bind ?_ (Le.sumK fun _ => ?_) | refine Le.bind ?_ (fun _ => ?_) | refine Le.cond ?_ ?_ | refine Le.letM (fun _ => ?_) | refine Le.join (fun _ => ?_) (fun _ _ hj => ?_) | exact hj _)

def pc_rising_l1f (k_ : Nat) (l_0 : (List ByteArray)) (s7 : Int) : Option (Sum ((Sum (Bool) (Unit))) (Int)) :=
  bif decide (s7 < (l_0.length : Int)) then
    Option.bind (idxM l_0 (isub .i64 s7 1)) fun t10 =>
    Option.bind (idxM l_0 s7) fun t11 =>
    bif !Op.bytesLess t10.toList t11.toList then
      some (Sum.inl (Sum.inl false))
    else
      some (Sum.inr (iadd .i64 s7 1))
  else
    some (Sum.inl (Sum.inr ()))

theorem pc_rising_l1f_le {k_ : Nat} {l_0 : (List ByteArray)} {s7 : Int} : Le (pc_rising_l1f k_ l_0 s7) (pc_rising_l1 l_0 s7) := by
  unfold pc_rising_l1f pc_rising_l1
  repeat' with_reducible (first | exact Le.refl _ | refine Le.bind ?_ (Le.sumK fun _ => ?_) | refine Le.bind ?_ (fun _ => ?_) | refine Le.cond ?_ ?_ | refine Le.letM (fun _ => ?_) | refine Le.join (fun _ => ?_) (fun _ _ hj => ?_) | exact hj _)

def pc_rising_f (k_ : Nat) (l_0 : (List ByteArray)) : Option (Bool) :=
  Option.bind (loopF k_ (pc_rising_l1f k_ l_0) 1) (sumK (fun a : Bool => some a) fun q13 : Unit =>
    some true)

theorem pc_rising_f_le {k_ : Nat} {l_0 : (List ByteArray)} : Le (pc_rising_f k_ l_0) (pc_rising_m l_0) := by
  unfold pc_rising_f pc_rising_m
  repeat' with_reducible (first | exact Le.refl _ | refine Le.loop (fun _ => pc_rising_l1f_le) | refine Le.bind ?_ (Le.sumK fun _ => ?_) | refine Le.bind ?_ (fun _ => ?_) | refine Le.cond ?_ ?_ | refine Le.letM (fun _ => ?_) | refine Le.join (fun _ => ?_) (fun _ _ hj => ?_) | exact hj _)

def pc_Validate_2_f (k_ : Nat) (c_0 : T_Cas) : Option (Bool) :=
  Option.bind (pc_rising_f k_ c_0.Facts) fun t2 =>
  bif !t2 then
    some true
  else
    Option.bind (pc_rising_f k_ c_0.Reason) fun t3 =>
    some (!t3)

theorem pc_Validate_2_f_le {k_ : Nat} {c_0 : T_Cas} : Le (pc_Validate_2_f k_ c_0) (pc_Validate_2_m c_0) := by
  unfold pc_Validate_2_f pc_Validate_2_m
  repeat' with_reducible (first | exact Le.refl _ | refine pc_rising_f_le | refine Le.bind ?_ (Le.sumK fun _ => ?_) | refine Le.bind ?_ (fun _ => ?_) | refine Le.cond ?_ ?_ | refine Le.letM (fun _ => ?_) | refine Le.join (fun _ => ?_) (fun _ _ hj => ?_) | exact hj _)

def sI_S_l1f (k_ : Nat) (s_0 : (List ByteArray)) (v_1 : ByteArray) (s6 : Int) : Option (Sum ((Sum (Int) (Unit))) (Int)) :=
  bif decide (s6 < (s_0.length : Int)) then
    Option.bind (idxM s_0 s6) fun t9 =>
    bif v_1.toList == t9.toList then
      some (Sum.inl (Sum.inl s6))
    else
      some (Sum.inr (iadd .i64 s6 1))
  else
    some (Sum.inl (Sum.inr ()))

theorem sI_S_l1f_le {k_ : Nat} {s_0 : (List ByteArray)} {v_1 : ByteArray} {s6 : Int} : Le (sI_S_l1f k_ s_0 v_1 s6) (sI_S_l1 s_0 v_1 s6) := by
  unfold sI_S_l1f sI_S_l1
  repeat' with_reducible (first | exact Le.refl _ | refine Le.bind ?_ (Le.sumK fun _ => ?_) | refine Le.bind ?_ (fun _ => ?_) | refine Le.cond ?_ ?_ | refine Le.letM (fun _ => ?_) | refine Le.join (fun _ => ?_) (fun _ _ hj => ?_) | exact hj _)

def sI_S_f (k_ : Nat) (s_0 : (List ByteArray)) (v_1 : ByteArray) : Option (Int) :=
  Option.bind (loopF k_ (sI_S_l1f k_ s_0 v_1) 0) (sumK (fun a : Int => some a) fun q11 : Unit =>
    some (-1))

theorem sI_S_f_le {k_ : Nat} {s_0 : (List ByteArray)} {v_1 : ByteArray} : Le (sI_S_f k_ s_0 v_1) (sI_S_m s_0 v_1) := by
  unfold sI_S_f sI_S_m
  repeat' with_reducible (first | exact Le.refl _ | refine Le.loop (fun _ => sI_S_l1f_le) | refine Le.bind ?_ (Le.sumK fun _ => ?_) | refine Le.bind ?_ (fun _ => ?_) | refine Le.cond ?_ ?_ | refine Le.letM (fun _ => ?_) | refine Le.join (fun _ => ?_) (fun _ _ hj => ?_) | exact hj _)

def sC_S_f (k_ : Nat) (s_0 : (List ByteArray)) (v_1 : ByteArray) : Option (Bool) :=
  Option.bind (sI_S_f k_ s_0 v_1) fun t1 =>
  letM (decide (t1 ≥ 0)) fun t2 =>
  some t2

theorem sC_S_f_le {k_ : Nat} {s_0 : (List ByteArray)} {v_1 : ByteArray} : Le (sC_S_f k_ s_0 v_1) (sC_S_m s_0 v_1) := by
  unfold sC_S_f sC_S_m
  repeat' with_reducible (first | exact Le.refl _ | refine sI_S_f_le | refine Le.bind ?_ (Le.sumK fun _ => ?_) | refine Le.bind ?_ (fun _ => ?_) | refine Le.cond ?_ ?_ | refine Le.letM (fun _ => ?_) | refine Le.join (fun _ => ?_) (fun _ _ hj => ?_) | exact hj _)

def pc_Validate_4_f (k_ : Nat) (c_0 : T_Cas) : Option (Bool) :=
  bif c_0.Winner != 1 then
    letM (c_0.Winner != 2) fun t2 =>
    some t2
  else
    some false

theorem pc_Validate_4_f_le {k_ : Nat} {c_0 : T_Cas} : Le (pc_Validate_4_f k_ c_0) (pc_Validate_4_m c_0) := by
  unfold pc_Validate_4_f pc_Validate_4_m
  repeat' with_reducible (first | exact Le.refl _ | refine Le.bind ?_ (Le.sumK fun _ => ?_) | refine Le.bind ?_ (fun _ => ?_) | refine Le.cond ?_ ?_ | refine Le.letM (fun _ => ?_) | refine Le.join (fun _ => ?_) (fun _ _ hj => ?_) | exact hj _)

def slices_Grow_S_f (k_ : Nat) (n_1 : Int) : Option (List ByteArray) :=
  bif decide (n_1 < 0) then
    none
  else
    letM (isub .i64 n_1 (isub .i64 0 0)) fun n2 =>
    bif decide (n2 > 0) then
      Option.bind (mkM 16 ByteArray.empty n2) fun t4 =>
      Option.bind (slM t4 0 0) fun s6 =>
      some s6
    else
      some []

theorem slices_Grow_S_f_le {k_ : Nat} {n_1 : Int} : Le (slices_Grow_S_f k_ n_1) (slices_Grow_S_m n_1) := by
  unfold slices_Grow_S_f slices_Grow_S_m
  repeat' with_reducible (first | exact Le.refl _ | refine Le.bind ?_ (Le.sumK fun _ => ?_) | refine Le.bind ?_ (fun _ => ?_) | refine Le.cond ?_ ?_ | refine Le.letM (fun _ => ?_) | refine Le.join (fun _ => ?_) (fun _ _ hj => ?_) | exact hj _)

def sCo_S_l1f (k_ : Nat) (slices_0 : (List (List ByteArray))) (s7 : Int × Int) : Option (Sum (Int) (Int × Int)) :=
  bif decide (s7.2 < (slices_0.length : Int)) then
    Option.bind (idxM slices_0 s7.2) fun s10 =>
    letM (iadd .i64 s7.1 (s10.length : Int)) fun size11 =>
    bif decide (size11 < 0) then
      none
    else
      some (Sum.inr (size11, iadd .i64 s7.2 1))
  else
    some (Sum.inl s7.1)

theorem sCo_S_l1f_le {k_ : Nat} {slices_0 : (List (List ByteArray))} {s7 : Int × Int} : Le (sCo_S_l1f k_ slices_0 s7) (sCo_S_l1 slices_0 s7) := by
  unfold sCo_S_l1f sCo_S_l1
  repeat' with_reducible (first | exact Le.refl _ | refine Le.bind ?_ (Le.sumK fun _ => ?_) | refine Le.bind ?_ (fun _ => ?_) | refine Le.cond ?_ ?_ | refine Le.letM (fun _ => ?_) | refine Le.join (fun _ => ?_) (fun _ _ hj => ?_) | exact hj _)

def sCo_S_l2f (k_ : Nat) (slices_0 : (List (List ByteArray))) (s29 : Int × (List ByteArray)) : Option (Sum ((List ByteArray)) (Int × (List ByteArray))) :=
  bif decide (s29.1 < (slices_0.length : Int)) then
    Option.bind (idxM slices_0 s29.1) fun s32 =>
    Option.bind (appM 16 s29.2 s32) fun newslice33 =>
    some (Sum.inr (iadd .i64 s29.1 1, newslice33))
  else
    some (Sum.inl s29.2)

theorem sCo_S_l2f_le {k_ : Nat} {slices_0 : (List (List ByteArray))} {s29 : Int × (List ByteArray)} : Le (sCo_S_l2f k_ slices_0 s29) (sCo_S_l2 slices_0 s29) := by
  unfold sCo_S_l2f sCo_S_l2
  repeat' with_reducible (first | exact Le.refl _ | refine Le.bind ?_ (Le.sumK fun _ => ?_) | refine Le.bind ?_ (fun _ => ?_) | refine Le.cond ?_ ?_ | refine Le.letM (fun _ => ?_) | refine Le.join (fun _ => ?_) (fun _ _ hj => ?_) | exact hj _)

def sCo_S_f (k_ : Nat) (slices_0 : (List (List ByteArray))) : Option (List ByteArray) :=
  Option.bind (loopF k_ (sCo_S_l1f k_ slices_0) (0, 0)) fun q13 : Int =>
  Option.bind (slices_Grow_S_f k_ q13) fun newslice15 =>
  Option.bind (loopF k_ (sCo_S_l2f k_ slices_0) (0, newslice15)) fun q35 : (List ByteArray) =>
  some q35

theorem sCo_S_f_le {k_ : Nat} {slices_0 : (List (List ByteArray))} : Le (sCo_S_f k_ slices_0) (sCo_S_m slices_0) := by
  unfold sCo_S_f sCo_S_m
  repeat' with_reducible (first | exact Le.refl _ | refine slices_Grow_S_f_le | refine Le.loop (fun _ => sCo_S_l1f_le) | refine Le.loop (fun _ => sCo_S_l2f_le) | refine Le.bind ?_ (Le.sumK fun _ => ?_) | refine Le.bind ?_ (fun _ => ?_) | refine Le.cond ?_ ?_ | refine Le.letM (fun _ => ?_) | refine Le.join (fun _ => ?_) (fun _ _ hj => ?_) | exact hj _)

def pc_factors_f (k_ : Nat) (l_0 : T_Lib) : Option (List ByteArray) :=
  Option.bind (sCo_S_f k_ [l_0.Sides.i0, l_0.Sides.i1]) fun t2 =>
  some t2

theorem pc_factors_f_le {k_ : Nat} {l_0 : T_Lib} : Le (pc_factors_f k_ l_0) (pc_factors_m l_0) := by
  unfold pc_factors_f pc_factors_m
  repeat' with_reducible (first | exact Le.refl _ | refine sCo_S_f_le | refine Le.bind ?_ (Le.sumK fun _ => ?_) | refine Le.bind ?_ (fun _ => ?_) | refine Le.cond ?_ ?_ | refine Le.letM (fun _ => ?_) | refine Le.join (fun _ => ?_) (fun _ _ hj => ?_) | exact hj _)

def pc_within_1_f (k_ : Nat) (s_0 : ByteArray) (p_1 : (List ByteArray)) : Option (Bool) :=
  Option.bind (sC_S_f k_ p_1 s_0) fun t1 =>
  some (!t1)

theorem pc_within_1_f_le {k_ : Nat} {s_0 : ByteArray} {p_1 : (List ByteArray)} : Le (pc_within_1_f k_ s_0 p_1) (pc_within_1_m s_0 p_1) := by
  unfold pc_within_1_f pc_within_1_m
  repeat' with_reducible (first | exact Le.refl _ | refine sC_S_f_le | refine Le.bind ?_ (Le.sumK fun _ => ?_) | refine Le.bind ?_ (fun _ => ?_) | refine Le.cond ?_ ?_ | refine Le.letM (fun _ => ?_) | refine Le.join (fun _ => ?_) (fun _ _ hj => ?_) | exact hj _)

def sIF_S_1_l1f (k_ : Nat) (s_0 : (List ByteArray)) (e_0 : (List ByteArray)) (s7 : Int) : Option (Sum ((Sum (Int) (Unit))) (Int)) :=
  bif decide (s7 < (s_0.length : Int)) then
    Option.bind (idxM s_0 s7) fun t10 =>
    Option.bind (pc_within_1_f k_ t10 e_0) fun t11 =>
    bif t11 then
      some (Sum.inl (Sum.inl s7))
    else
      some (Sum.inr (iadd .i64 s7 1))
  else
    some (Sum.inl (Sum.inr ()))

theorem sIF_S_1_l1f_le {k_ : Nat} {s_0 : (List ByteArray)} {e_0 : (List ByteArray)} {s7 : Int} : Le (sIF_S_1_l1f k_ s_0 e_0 s7) (sIF_S_1_l1 s_0 e_0 s7) := by
  unfold sIF_S_1_l1f sIF_S_1_l1
  repeat' with_reducible (first | exact Le.refl _ | refine pc_within_1_f_le | refine Le.bind ?_ (Le.sumK fun _ => ?_) | refine Le.bind ?_ (fun _ => ?_) | refine Le.cond ?_ ?_ | refine Le.letM (fun _ => ?_) | refine Le.join (fun _ => ?_) (fun _ _ hj => ?_) | exact hj _)

def sIF_S_1_f (k_ : Nat) (s_0 : (List ByteArray)) (e_0 : (List ByteArray)) : Option (Int) :=
  Option.bind (loopF k_ (sIF_S_1_l1f k_ s_0 e_0) 0) (sumK (fun a : Int => some a) fun q13 : Unit =>
    some (-1))

theorem sIF_S_1_f_le {k_ : Nat} {s_0 : (List ByteArray)} {e_0 : (List ByteArray)} : Le (sIF_S_1_f k_ s_0 e_0) (sIF_S_1_m s_0 e_0) := by
  unfold sIF_S_1_f sIF_S_1_m
  repeat' with_reducible (first | exact Le.refl _ | refine Le.loop (fun _ => sIF_S_1_l1f_le) | refine Le.bind ?_ (Le.sumK fun _ => ?_) | refine Le.bind ?_ (fun _ => ?_) | refine Le.cond ?_ ?_ | refine Le.letM (fun _ => ?_) | refine Le.join (fun _ => ?_) (fun _ _ hj => ?_) | exact hj _)

def sCF_S_1_f (k_ : Nat) (s_0 : (List ByteArray)) (e_0 : (List ByteArray)) : Option (Bool) :=
  Option.bind (sIF_S_1_f k_ s_0 e_0) fun t1 =>
  letM (decide (t1 ≥ 0)) fun t2 =>
  some t2

theorem sCF_S_1_f_le {k_ : Nat} {s_0 : (List ByteArray)} {e_0 : (List ByteArray)} : Le (sCF_S_1_f k_ s_0 e_0) (sCF_S_1_m s_0 e_0) := by
  unfold sCF_S_1_f sCF_S_1_m
  repeat' with_reducible (first | exact Le.refl _ | refine sIF_S_1_f_le | refine Le.bind ?_ (Le.sumK fun _ => ?_) | refine Le.bind ?_ (fun _ => ?_) | refine Le.cond ?_ ?_ | refine Le.letM (fun _ => ?_) | refine Le.join (fun _ => ?_) (fun _ _ hj => ?_) | exact hj _)

def pc_within_f (k_ : Nat) (a__0 : (List ByteArray)) (b_1 : (List ByteArray)) : Option (Bool) :=
  Option.bind (sCF_S_1_f k_ a__0 b_1) fun t2 =>
  some (!t2)

theorem pc_within_f_le {k_ : Nat} {a__0 : (List ByteArray)} {b_1 : (List ByteArray)} : Le (pc_within_f k_ a__0 b_1) (pc_within_m a__0 b_1) := by
  unfold pc_within_f pc_within_m
  repeat' with_reducible (first | exact Le.refl _ | refine sCF_S_1_f_le | refine Le.bind ?_ (Le.sumK fun _ => ?_) | refine Le.bind ?_ (fun _ => ?_) | refine Le.cond ?_ ?_ | refine Le.letM (fun _ => ?_) | refine Le.join (fun _ => ?_) (fun _ _ hj => ?_) | exact hj _)

def slices_Clone_S_f (k_ : Nat) (d_0 : List ByteArray) : Option (List ByteArray) := appM 16 [] d_0

theorem slices_Clone_S_f_le {k_ : Nat} {d_0 : List ByteArray} : Le (slices_Clone_S_f k_ d_0) (slices_Clone_S_m d_0) := by
  unfold slices_Clone_S_f slices_Clone_S_m
  repeat' with_reducible (first | exact Le.refl _ | refine Le.bind ?_ (Le.sumK fun _ => ?_) | refine Le.bind ?_ (fun _ => ?_) | refine Le.cond ?_ ?_ | refine Le.letM (fun _ => ?_) | refine Le.join (fun _ => ?_) (fun _ _ hj => ?_) | exact hj _)

def pc_own_1_f (k_ : Nat) (s_0 : ByteArray) (p_1 : T_Lib) (p_2 : Int) : Option (Bool) :=
  Option.bind (idxM [p_1.Sides.i0, p_1.Sides.i1] (isub .i64 p_2 1)) fun t1 =>
  Option.bind (sC_S_f k_ t1 s_0) fun t2 =>
  some (!t2)

theorem pc_own_1_f_le {k_ : Nat} {s_0 : ByteArray} {p_1 : T_Lib} {p_2 : Int} : Le (pc_own_1_f k_ s_0 p_1 p_2) (pc_own_1_m s_0 p_1 p_2) := by
  unfold pc_own_1_f pc_own_1_m
  repeat' with_reducible (first | exact Le.refl _ | refine sC_S_f_le | refine Le.bind ?_ (Le.sumK fun _ => ?_) | refine Le.bind ?_ (fun _ => ?_) | refine Le.cond ?_ ?_ | refine Le.letM (fun _ => ?_) | refine Le.join (fun _ => ?_) (fun _ _ hj => ?_) | exact hj _)

def sIF_S_2_l1f (k_ : Nat) (s_0 : (List ByteArray)) (e_1 : T_Lib) (e_2 : Int) (s7 : Int) : Option (Sum ((Sum (Int) (Unit))) (Int)) :=
  bif decide (s7 < (s_0.length : Int)) then
    Option.bind (idxM s_0 s7) fun t10 =>
    Option.bind (pc_own_1_f k_ t10 e_1 e_2) fun t11 =>
    bif t11 then
      some (Sum.inl (Sum.inl s7))
    else
      some (Sum.inr (iadd .i64 s7 1))
  else
    some (Sum.inl (Sum.inr ()))

theorem sIF_S_2_l1f_le {k_ : Nat} {s_0 : (List ByteArray)} {e_1 : T_Lib} {e_2 : Int} {s7 : Int} : Le (sIF_S_2_l1f k_ s_0 e_1 e_2 s7) (sIF_S_2_l1 s_0 e_1 e_2 s7) := by
  unfold sIF_S_2_l1f sIF_S_2_l1
  repeat' with_reducible (first | exact Le.refl _ | refine pc_own_1_f_le | refine Le.bind ?_ (Le.sumK fun _ => ?_) | refine Le.bind ?_ (fun _ => ?_) | refine Le.cond ?_ ?_ | refine Le.letM (fun _ => ?_) | refine Le.join (fun _ => ?_) (fun _ _ hj => ?_) | exact hj _)

def sIF_S_2_f (k_ : Nat) (s_0 : (List ByteArray)) (e_1 : T_Lib) (e_2 : Int) : Option (Int) :=
  Option.bind (loopF k_ (sIF_S_2_l1f k_ s_0 e_1 e_2) 0) (sumK (fun a : Int => some a) fun q13 : Unit =>
    some (-1))

theorem sIF_S_2_f_le {k_ : Nat} {s_0 : (List ByteArray)} {e_1 : T_Lib} {e_2 : Int} : Le (sIF_S_2_f k_ s_0 e_1 e_2) (sIF_S_2_m s_0 e_1 e_2) := by
  unfold sIF_S_2_f sIF_S_2_m
  repeat' with_reducible (first | exact Le.refl _ | refine Le.loop (fun _ => sIF_S_2_l1f_le) | refine Le.bind ?_ (Le.sumK fun _ => ?_) | refine Le.bind ?_ (fun _ => ?_) | refine Le.cond ?_ ?_ | refine Le.letM (fun _ => ?_) | refine Le.join (fun _ => ?_) (fun _ _ hj => ?_) | exact hj _)

def sDF_S_l1f (k_ : Nat) (e_1 : T_Lib) (e_2 : Int) (s22 : Int × Int × (List ByteArray)) : Option (Sum ((List ByteArray) × Int) (Int × Int × (List ByteArray))) :=
  bif decide (s22.2.1 < (s22.2.2.length : Int)) then
    Option.bind (idxM s22.2.2 s22.2.1) fun v25 =>
    Option.bind (pc_own_1_f k_ v25 e_1 e_2) fun t26 =>
    bif !t26 then
      Option.bind (idxM s22.2.2 s22.1) fun t28 =>
      letM (iadd .i64 s22.1 1) fun i29 =>
      letM (iadd .i64 s22.2.1 1) fun j30 =>
      some (Sum.inr (i29, j30, s22.2.2.set (Int.toNat s22.1) v25))
    else
      letM (iadd .i64 s22.2.1 1) fun j31 =>
      some (Sum.inr (s22.1, j31, s22.2.2))
  else
    some (Sum.inl (s22.2.2, s22.1))

theorem sDF_S_l1f_le {k_ : Nat} {e_1 : T_Lib} {e_2 : Int} {s22 : Int × Int × (List ByteArray)} : Le (sDF_S_l1f k_ e_1 e_2 s22) (sDF_S_l1 e_1 e_2 s22) := by
  unfold sDF_S_l1f sDF_S_l1
  repeat' with_reducible (first | exact Le.refl _ | refine pc_own_1_f_le | refine Le.bind ?_ (Le.sumK fun _ => ?_) | refine Le.bind ?_ (fun _ => ?_) | refine Le.cond ?_ ?_ | refine Le.letM (fun _ => ?_) | refine Le.join (fun _ => ?_) (fun _ _ hj => ?_) | exact hj _)

def sDF_S_f (k_ : Nat) (s_0 : (List ByteArray)) (e_1 : T_Lib) (e_2 : Int) : Option (List ByteArray) :=
  Option.bind (sIF_S_2_f k_ s_0 e_1 e_2) fun i1 =>
  bif i1 == (-1) then
    some s_0
  else
    Option.bind (loopF k_ (sDF_S_l1f k_ e_1 e_2) (i1, iadd .i64 i1 1, s_0)) fun q32 : (List ByteArray) × Int =>
    Option.bind (slM q32.1 q32.2 (q32.1.length : Int)) fun t34 =>
    Option.bind (slM (q32.1.take (Int.toNat q32.2) ++ List.replicate (Int.toNat (q32.1.length : Int) - Int.toNat q32.2) ByteArray.empty ++ q32.1.drop (Int.toNat (q32.1.length : Int))) 0 q32.2) fun t35 =>
    some t35

theorem sDF_S_f_le {k_ : Nat} {s_0 : (List ByteArray)} {e_1 : T_Lib} {e_2 : Int} : Le (sDF_S_f k_ s_0 e_1 e_2) (sDF_S_m s_0 e_1 e_2) := by
  unfold sDF_S_f sDF_S_m
  repeat' with_reducible (first | exact Le.refl _ | refine sIF_S_2_f_le | refine Le.loop (fun _ => sDF_S_l1f_le) | refine Le.bind ?_ (Le.sumK fun _ => ?_) | refine Le.bind ?_ (fun _ => ?_) | refine Le.cond ?_ ?_ | refine Le.letM (fun _ => ?_) | refine Le.join (fun _ => ?_) (fun _ _ hj => ?_) | exact hj _)

def pc_own_f (k_ : Nat) (l_0 : T_Lib) (facts_1 : (List ByteArray)) (side_2 : Int) : Option (List ByteArray) :=
  Option.bind (slices_Clone_S_f k_ facts_1) fun t3 =>
  Option.bind (sDF_S_f k_ t3 l_0 side_2) fun t5 =>
  some t5

theorem pc_own_f_le {k_ : Nat} {l_0 : T_Lib} {facts_1 : (List ByteArray)} {side_2 : Int} : Le (pc_own_f k_ l_0 facts_1 side_2) (pc_own_m l_0 facts_1 side_2) := by
  unfold pc_own_f pc_own_m
  repeat' with_reducible (first | exact Le.refl _ | refine slices_Clone_S_f_le | refine sDF_S_f_le | refine Le.bind ?_ (Le.sumK fun _ => ?_) | refine Le.bind ?_ (fun _ => ?_) | refine Le.cond ?_ ?_ | refine Le.letM (fun _ => ?_) | refine Le.join (fun _ => ?_) (fun _ _ hj => ?_) | exact hj _)

def sIF_C_l1f (k_ : Nat) (s_0 : (List T_Cas)) (s7 : Int) : Option (Sum ((Sum (Int) (Unit))) (Int)) :=
  bif decide (s7 < (s_0.length : Int)) then
    Option.bind (idxM s_0 s7) fun t10 =>
    Option.bind (pc_Validate_1_f k_ t10) fun t11 =>
    bif t11 then
      some (Sum.inl (Sum.inl s7))
    else
      some (Sum.inr (iadd .i64 s7 1))
  else
    some (Sum.inl (Sum.inr ()))

theorem sIF_C_l1f_le {k_ : Nat} {s_0 : (List T_Cas)} {s7 : Int} : Le (sIF_C_l1f k_ s_0 s7) (sIF_C_l1 s_0 s7) := by
  unfold sIF_C_l1f sIF_C_l1
  repeat' with_reducible (first | exact Le.refl _ | refine pc_Validate_1_f_le | refine Le.bind ?_ (Le.sumK fun _ => ?_) | refine Le.bind ?_ (fun _ => ?_) | refine Le.cond ?_ ?_ | refine Le.letM (fun _ => ?_) | refine Le.join (fun _ => ?_) (fun _ _ hj => ?_) | exact hj _)

def sIF_C_f (k_ : Nat) (s_0 : (List T_Cas)) : Option (Int) :=
  Option.bind (loopF k_ (sIF_C_l1f k_ s_0) 0) (sumK (fun a : Int => some a) fun q13 : Unit =>
    some (-1))

theorem sIF_C_f_le {k_ : Nat} {s_0 : (List T_Cas)} : Le (sIF_C_f k_ s_0) (sIF_C_m s_0) := by
  unfold sIF_C_f sIF_C_m
  repeat' with_reducible (first | exact Le.refl _ | refine Le.loop (fun _ => sIF_C_l1f_le) | refine Le.bind ?_ (Le.sumK fun _ => ?_) | refine Le.bind ?_ (fun _ => ?_) | refine Le.cond ?_ ?_ | refine Le.letM (fun _ => ?_) | refine Le.join (fun _ => ?_) (fun _ _ hj => ?_) | exact hj _)

def sCF_C_f (k_ : Nat) (s_0 : (List T_Cas)) : Option (Bool) :=
  Option.bind (sIF_C_f k_ s_0) fun t1 =>
  letM (decide (t1 ≥ 0)) fun t2 =>
  some t2

theorem sCF_C_f_le {k_ : Nat} {s_0 : (List T_Cas)} : Le (sCF_C_f k_ s_0) (sCF_C_m s_0) := by
  unfold sCF_C_f sCF_C_m
  repeat' with_reducible (first | exact Le.refl _ | refine sIF_C_f_le | refine Le.bind ?_ (Le.sumK fun _ => ?_) | refine Le.bind ?_ (fun _ => ?_) | refine Le.cond ?_ ?_ | refine Le.letM (fun _ => ?_) | refine Le.join (fun _ => ?_) (fun _ _ hj => ?_) | exact hj _)

def pc_some_f (k_ : Nat) (l_0 : T_Lib) : Option (Bool) :=
  Option.bind (sCF_C_f k_ l_0.Cases) fun t2 =>
  some t2

theorem pc_some_f_le {k_ : Nat} {l_0 : T_Lib} : Le (pc_some_f k_ l_0) (pc_some_m l_0) := by
  unfold pc_some_f pc_some_m
  repeat' with_reducible (first | exact Le.refl _ | refine sCF_C_f_le | refine Le.bind ?_ (Le.sumK fun _ => ?_) | refine Le.bind ?_ (fun _ => ?_) | refine Le.cond ?_ ?_ | refine Le.letM (fun _ => ?_) | refine Le.join (fun _ => ?_) (fun _ _ hj => ?_) | exact hj _)

def sIF_C_1_l1f (k_ : Nat) (s_0 : (List T_Cas)) (s7 : Int) : Option (Sum ((Sum (Int) (Unit))) (Int)) :=
  bif decide (s7 < (s_0.length : Int)) then
    Option.bind (idxM s_0 s7) fun t10 =>
    Option.bind (pc_Validate_2_f k_ t10) fun t11 =>
    bif t11 then
      some (Sum.inl (Sum.inl s7))
    else
      some (Sum.inr (iadd .i64 s7 1))
  else
    some (Sum.inl (Sum.inr ()))

theorem sIF_C_1_l1f_le {k_ : Nat} {s_0 : (List T_Cas)} {s7 : Int} : Le (sIF_C_1_l1f k_ s_0 s7) (sIF_C_1_l1 s_0 s7) := by
  unfold sIF_C_1_l1f sIF_C_1_l1
  repeat' with_reducible (first | exact Le.refl _ | refine pc_Validate_2_f_le | refine Le.bind ?_ (Le.sumK fun _ => ?_) | refine Le.bind ?_ (fun _ => ?_) | refine Le.cond ?_ ?_ | refine Le.letM (fun _ => ?_) | refine Le.join (fun _ => ?_) (fun _ _ hj => ?_) | exact hj _)

def sIF_C_1_f (k_ : Nat) (s_0 : (List T_Cas)) : Option (Int) :=
  Option.bind (loopF k_ (sIF_C_1_l1f k_ s_0) 0) (sumK (fun a : Int => some a) fun q13 : Unit =>
    some (-1))

theorem sIF_C_1_f_le {k_ : Nat} {s_0 : (List T_Cas)} : Le (sIF_C_1_f k_ s_0) (sIF_C_1_m s_0) := by
  unfold sIF_C_1_f sIF_C_1_m
  repeat' with_reducible (first | exact Le.refl _ | refine Le.loop (fun _ => sIF_C_1_l1f_le) | refine Le.bind ?_ (Le.sumK fun _ => ?_) | refine Le.bind ?_ (fun _ => ?_) | refine Le.cond ?_ ?_ | refine Le.letM (fun _ => ?_) | refine Le.join (fun _ => ?_) (fun _ _ hj => ?_) | exact hj _)

def sCF_C_1_f (k_ : Nat) (s_0 : (List T_Cas)) : Option (Bool) :=
  Option.bind (sIF_C_1_f k_ s_0) fun t1 =>
  letM (decide (t1 ≥ 0)) fun t2 =>
  some t2

theorem sCF_C_1_f_le {k_ : Nat} {s_0 : (List T_Cas)} : Le (sCF_C_1_f k_ s_0) (sCF_C_1_m s_0) := by
  unfold sCF_C_1_f sCF_C_1_m
  repeat' with_reducible (first | exact Le.refl _ | refine sIF_C_1_f_le | refine Le.bind ?_ (Le.sumK fun _ => ?_) | refine Le.bind ?_ (fun _ => ?_) | refine Le.cond ?_ ?_ | refine Le.letM (fun _ => ?_) | refine Le.join (fun _ => ?_) (fun _ _ hj => ?_) | exact hj _)

def pc_some_1_f (k_ : Nat) (l_0 : T_Lib) : Option (Bool) :=
  Option.bind (sCF_C_1_f k_ l_0.Cases) fun t2 =>
  some t2

theorem pc_some_1_f_le {k_ : Nat} {l_0 : T_Lib} : Le (pc_some_1_f k_ l_0) (pc_some_1_m l_0) := by
  unfold pc_some_1_f pc_some_1_m
  repeat' with_reducible (first | exact Le.refl _ | refine sCF_C_1_f_le | refine Le.bind ?_ (Le.sumK fun _ => ?_) | refine Le.bind ?_ (fun _ => ?_) | refine Le.cond ?_ ?_ | refine Le.letM (fun _ => ?_) | refine Le.join (fun _ => ?_) (fun _ _ hj => ?_) | exact hj _)

def pc_Validate_3_f (k_ : Nat) (s_0 : ByteArray) (p_1 : (List ByteArray)) : Option (Bool) :=
  Option.bind (sC_S_f k_ p_1 s_0) fun t1 =>
  some t1

theorem pc_Validate_3_f_le {k_ : Nat} {s_0 : ByteArray} {p_1 : (List ByteArray)} : Le (pc_Validate_3_f k_ s_0 p_1) (pc_Validate_3_m s_0 p_1) := by
  unfold pc_Validate_3_f pc_Validate_3_m
  repeat' with_reducible (first | exact Le.refl _ | refine sC_S_f_le | refine Le.bind ?_ (Le.sumK fun _ => ?_) | refine Le.bind ?_ (fun _ => ?_) | refine Le.cond ?_ ?_ | refine Le.letM (fun _ => ?_) | refine Le.join (fun _ => ?_) (fun _ _ hj => ?_) | exact hj _)

def sIF_S_3_l1f (k_ : Nat) (s_0 : (List ByteArray)) (e_0 : (List ByteArray)) (s7 : Int) : Option (Sum ((Sum (Int) (Unit))) (Int)) :=
  bif decide (s7 < (s_0.length : Int)) then
    Option.bind (idxM s_0 s7) fun t10 =>
    Option.bind (pc_Validate_3_f k_ t10 e_0) fun t11 =>
    bif t11 then
      some (Sum.inl (Sum.inl s7))
    else
      some (Sum.inr (iadd .i64 s7 1))
  else
    some (Sum.inl (Sum.inr ()))

theorem sIF_S_3_l1f_le {k_ : Nat} {s_0 : (List ByteArray)} {e_0 : (List ByteArray)} {s7 : Int} : Le (sIF_S_3_l1f k_ s_0 e_0 s7) (sIF_S_3_l1 s_0 e_0 s7) := by
  unfold sIF_S_3_l1f sIF_S_3_l1
  repeat' with_reducible (first | exact Le.refl _ | refine pc_Validate_3_f_le | refine Le.bind ?_ (Le.sumK fun _ => ?_) | refine Le.bind ?_ (fun _ => ?_) | refine Le.cond ?_ ?_ | refine Le.letM (fun _ => ?_) | refine Le.join (fun _ => ?_) (fun _ _ hj => ?_) | exact hj _)

def sIF_S_3_f (k_ : Nat) (s_0 : (List ByteArray)) (e_0 : (List ByteArray)) : Option (Int) :=
  Option.bind (loopF k_ (sIF_S_3_l1f k_ s_0 e_0) 0) (sumK (fun a : Int => some a) fun q13 : Unit =>
    some (-1))

theorem sIF_S_3_f_le {k_ : Nat} {s_0 : (List ByteArray)} {e_0 : (List ByteArray)} : Le (sIF_S_3_f k_ s_0 e_0) (sIF_S_3_m s_0 e_0) := by
  unfold sIF_S_3_f sIF_S_3_m
  repeat' with_reducible (first | exact Le.refl _ | refine Le.loop (fun _ => sIF_S_3_l1f_le) | refine Le.bind ?_ (Le.sumK fun _ => ?_) | refine Le.bind ?_ (fun _ => ?_) | refine Le.cond ?_ ?_ | refine Le.letM (fun _ => ?_) | refine Le.join (fun _ => ?_) (fun _ _ hj => ?_) | exact hj _)

def sCF_S_2_f (k_ : Nat) (s_0 : (List ByteArray)) (e_0 : (List ByteArray)) : Option (Bool) :=
  Option.bind (sIF_S_3_f k_ s_0 e_0) fun t1 =>
  letM (decide (t1 ≥ 0)) fun t2 =>
  some t2

theorem sCF_S_2_f_le {k_ : Nat} {s_0 : (List ByteArray)} {e_0 : (List ByteArray)} : Le (sCF_S_2_f k_ s_0 e_0) (sCF_S_2_m s_0 e_0) := by
  unfold sCF_S_2_f sCF_S_2_m
  repeat' with_reducible (first | exact Le.refl _ | refine sIF_S_3_f_le | refine Le.bind ?_ (Le.sumK fun _ => ?_) | refine Le.bind ?_ (fun _ => ?_) | refine Le.cond ?_ ?_ | refine Le.letM (fun _ => ?_) | refine Le.join (fun _ => ?_) (fun _ _ hj => ?_) | exact hj _)

def sIF_C_2_l1f (k_ : Nat) (s_0 : (List T_Cas)) (s7 : Int) : Option (Sum ((Sum (Int) (Unit))) (Int)) :=
  bif decide (s7 < (s_0.length : Int)) then
    Option.bind (idxM s_0 s7) fun t10 =>
    Option.bind (pc_Validate_4_f k_ t10) fun t11 =>
    bif t11 then
      some (Sum.inl (Sum.inl s7))
    else
      some (Sum.inr (iadd .i64 s7 1))
  else
    some (Sum.inl (Sum.inr ()))

theorem sIF_C_2_l1f_le {k_ : Nat} {s_0 : (List T_Cas)} {s7 : Int} : Le (sIF_C_2_l1f k_ s_0 s7) (sIF_C_2_l1 s_0 s7) := by
  unfold sIF_C_2_l1f sIF_C_2_l1
  repeat' with_reducible (first | exact Le.refl _ | refine pc_Validate_4_f_le | refine Le.bind ?_ (Le.sumK fun _ => ?_) | refine Le.bind ?_ (fun _ => ?_) | refine Le.cond ?_ ?_ | refine Le.letM (fun _ => ?_) | refine Le.join (fun _ => ?_) (fun _ _ hj => ?_) | exact hj _)

def sIF_C_2_f (k_ : Nat) (s_0 : (List T_Cas)) : Option (Int) :=
  Option.bind (loopF k_ (sIF_C_2_l1f k_ s_0) 0) (sumK (fun a : Int => some a) fun q13 : Unit =>
    some (-1))

theorem sIF_C_2_f_le {k_ : Nat} {s_0 : (List T_Cas)} : Le (sIF_C_2_f k_ s_0) (sIF_C_2_m s_0) := by
  unfold sIF_C_2_f sIF_C_2_m
  repeat' with_reducible (first | exact Le.refl _ | refine Le.loop (fun _ => sIF_C_2_l1f_le) | refine Le.bind ?_ (Le.sumK fun _ => ?_) | refine Le.bind ?_ (fun _ => ?_) | refine Le.cond ?_ ?_ | refine Le.letM (fun _ => ?_) | refine Le.join (fun _ => ?_) (fun _ _ hj => ?_) | exact hj _)

def sCF_C_2_f (k_ : Nat) (s_0 : (List T_Cas)) : Option (Bool) :=
  Option.bind (sIF_C_2_f k_ s_0) fun t1 =>
  letM (decide (t1 ≥ 0)) fun t2 =>
  some t2

theorem sCF_C_2_f_le {k_ : Nat} {s_0 : (List T_Cas)} : Le (sCF_C_2_f k_ s_0) (sCF_C_2_m s_0) := by
  unfold sCF_C_2_f sCF_C_2_m
  repeat' with_reducible (first | exact Le.refl _ | refine sIF_C_2_f_le | refine Le.bind ?_ (Le.sumK fun _ => ?_) | refine Le.bind ?_ (fun _ => ?_) | refine Le.cond ?_ ?_ | refine Le.letM (fun _ => ?_) | refine Le.join (fun _ => ?_) (fun _ _ hj => ?_) | exact hj _)

def pc_some_2_f (k_ : Nat) (l_0 : T_Lib) : Option (Bool) :=
  Option.bind (sCF_C_2_f k_ l_0.Cases) fun t2 =>
  some t2

theorem pc_some_2_f_le {k_ : Nat} {l_0 : T_Lib} : Le (pc_some_2_f k_ l_0) (pc_some_2_m l_0) := by
  unfold pc_some_2_f pc_some_2_m
  repeat' with_reducible (first | exact Le.refl _ | refine sCF_C_2_f_le | refine Le.bind ?_ (Le.sumK fun _ => ?_) | refine Le.bind ?_ (fun _ => ?_) | refine Le.cond ?_ ?_ | refine Le.letM (fun _ => ?_) | refine Le.join (fun _ => ?_) (fun _ _ hj => ?_) | exact hj _)

def pc_Validate_5_f (k_ : Nat) (c_0 : T_Cas) (p_1 : T_Lib) : Option (Bool) :=
  Option.bind (pc_factors_f k_ p_1) fun t2 =>
  Option.bind (pc_within_f k_ c_0.Facts t2) fun t4 =>
  bif !t4 then
    some true
  else
    bif (c_0.Reason.length : Int) == 0 then
      some true
    else
      Option.bind (pc_own_f k_ p_1 c_0.Facts c_0.Winner) fun t5 =>
      Option.bind (pc_within_f k_ c_0.Reason t5) fun t7 =>
      some (!t7)

theorem pc_Validate_5_f_le {k_ : Nat} {c_0 : T_Cas} {p_1 : T_Lib} : Le (pc_Validate_5_f k_ c_0 p_1) (pc_Validate_5_m c_0 p_1) := by
  unfold pc_Validate_5_f pc_Validate_5_m
  repeat' with_reducible (first | exact Le.refl _ | refine pc_factors_f_le | refine pc_within_f_le | refine pc_own_f_le | refine Le.bind ?_ (Le.sumK fun _ => ?_) | refine Le.bind ?_ (fun _ => ?_) | refine Le.cond ?_ ?_ | refine Le.letM (fun _ => ?_) | refine Le.join (fun _ => ?_) (fun _ _ hj => ?_) | exact hj _)

def sIF_C_3_l1f (k_ : Nat) (s_0 : (List T_Cas)) (e_0 : T_Lib) (s7 : Int) : Option (Sum ((Sum (Int) (Unit))) (Int)) :=
  bif decide (s7 < (s_0.length : Int)) then
    Option.bind (idxM s_0 s7) fun t10 =>
    Option.bind (pc_Validate_5_f k_ t10 e_0) fun t11 =>
    bif t11 then
      some (Sum.inl (Sum.inl s7))
    else
      some (Sum.inr (iadd .i64 s7 1))
  else
    some (Sum.inl (Sum.inr ()))

theorem sIF_C_3_l1f_le {k_ : Nat} {s_0 : (List T_Cas)} {e_0 : T_Lib} {s7 : Int} : Le (sIF_C_3_l1f k_ s_0 e_0 s7) (sIF_C_3_l1 s_0 e_0 s7) := by
  unfold sIF_C_3_l1f sIF_C_3_l1
  repeat' with_reducible (first | exact Le.refl _ | refine pc_Validate_5_f_le | refine Le.bind ?_ (Le.sumK fun _ => ?_) | refine Le.bind ?_ (fun _ => ?_) | refine Le.cond ?_ ?_ | refine Le.letM (fun _ => ?_) | refine Le.join (fun _ => ?_) (fun _ _ hj => ?_) | exact hj _)

def sIF_C_3_f (k_ : Nat) (s_0 : (List T_Cas)) (e_0 : T_Lib) : Option (Int) :=
  Option.bind (loopF k_ (sIF_C_3_l1f k_ s_0 e_0) 0) (sumK (fun a : Int => some a) fun q13 : Unit =>
    some (-1))

theorem sIF_C_3_f_le {k_ : Nat} {s_0 : (List T_Cas)} {e_0 : T_Lib} : Le (sIF_C_3_f k_ s_0 e_0) (sIF_C_3_m s_0 e_0) := by
  unfold sIF_C_3_f sIF_C_3_m
  repeat' with_reducible (first | exact Le.refl _ | refine Le.loop (fun _ => sIF_C_3_l1f_le) | refine Le.bind ?_ (Le.sumK fun _ => ?_) | refine Le.bind ?_ (fun _ => ?_) | refine Le.cond ?_ ?_ | refine Le.letM (fun _ => ?_) | refine Le.join (fun _ => ?_) (fun _ _ hj => ?_) | exact hj _)

def sCF_C_3_f (k_ : Nat) (s_0 : (List T_Cas)) (e_0 : T_Lib) : Option (Bool) :=
  Option.bind (sIF_C_3_f k_ s_0 e_0) fun t1 =>
  letM (decide (t1 ≥ 0)) fun t2 =>
  some t2

theorem sCF_C_3_f_le {k_ : Nat} {s_0 : (List T_Cas)} {e_0 : T_Lib} : Le (sCF_C_3_f k_ s_0 e_0) (sCF_C_3_m s_0 e_0) := by
  unfold sCF_C_3_f sCF_C_3_m
  repeat' with_reducible (first | exact Le.refl _ | refine sIF_C_3_f_le | refine Le.bind ?_ (Le.sumK fun _ => ?_) | refine Le.bind ?_ (fun _ => ?_) | refine Le.cond ?_ ?_ | refine Le.letM (fun _ => ?_) | refine Le.join (fun _ => ?_) (fun _ _ hj => ?_) | exact hj _)

def pc_some_3_f (k_ : Nat) (l_0 : T_Lib) (e_0 : T_Lib) : Option (Bool) :=
  Option.bind (sCF_C_3_f k_ l_0.Cases e_0) fun t2 =>
  some t2

theorem pc_some_3_f_le {k_ : Nat} {l_0 : T_Lib} {e_0 : T_Lib} : Le (pc_some_3_f k_ l_0 e_0) (pc_some_3_m l_0 e_0) := by
  unfold pc_some_3_f pc_some_3_m
  repeat' with_reducible (first | exact Le.refl _ | refine sCF_C_3_f_le | refine Le.bind ?_ (Le.sumK fun _ => ?_) | refine Le.bind ?_ (fun _ => ?_) | refine Le.cond ?_ ?_ | refine Le.letM (fun _ => ?_) | refine Le.join (fun _ => ?_) (fun _ _ hj => ?_) | exact hj _)

def pc_Validate_l1f (k_ : Nat) (l_0 : T_Lib) (s14 : Int × (List (ByteArray × Bool))) : Option (Sum ((List (ByteArray × Bool))) (Int × (List (ByteArray × Bool)))) :=
  bif decide (s14.1 < (l_0.Cases.length : Int)) then
    Option.bind (idxM l_0.Cases s14.1) fun t17 =>
    some (Sum.inr (iadd .i64 s14.1 1, mapPut s14.2 t17.Name true))
  else
    some (Sum.inl s14.2)

theorem pc_Validate_l1f_le {k_ : Nat} {l_0 : T_Lib} {s14 : Int × (List (ByteArray × Bool))} : Le (pc_Validate_l1f k_ l_0 s14) (pc_Validate_l1 l_0 s14) := by
  unfold pc_Validate_l1f pc_Validate_l1
  repeat' with_reducible (first | exact Le.refl _ | refine Le.bind ?_ (Le.sumK fun _ => ?_) | refine Le.bind ?_ (fun _ => ?_) | refine Le.cond ?_ ?_ | refine Le.letM (fun _ => ?_) | refine Le.join (fun _ => ?_) (fun _ _ hj => ?_) | exact hj _)

def pc_Validate_f (k_ : Nat) (l_0 : T_Lib) : Option (Int) :=
  Option.bind (loopF k_ (pc_Validate_l1f k_ l_0) (0, [])) fun q19 : (List (ByteArray × Bool)) =>
  joinM (fun j22 : Bool =>
      bif j22 then
        some 2
      else
        joinM (fun j29 : Bool =>
            bif j29 then
              some 3
            else
              joinM (fun j36 : Bool =>
                  bif j36 then
                    some 8
                  else
                    Option.bind (sCF_S_2_f k_ l_0.Sides.i0 l_0.Sides.i1) fun t40 =>
                    bif t40 then
                      some 10
                    else
                      letM (decide ((q19.length : Int) < (l_0.Cases.length : Int))) fun t42 =>
                      bif t42 then
                        some 5
                      else
                        Option.bind (pc_some_2_f k_ l_0) fun t44 =>
                        bif t44 then
                          some 1
                        else
                          Option.bind (pc_some_3_f k_ l_0 l_0) fun t46 =>
                          bif t46 then
                            some 6
                          else
                            some 0) fun k38 =>
              Option.bind (pc_rising_f k_ l_0.Sides.i0) fun t33 =>
              bif !t33 then
                k38 true
              else
                Option.bind (pc_rising_f k_ l_0.Sides.i1) fun t34 =>
                bif !t34 then
                  k38 true
                else
                  Option.bind (pc_some_1_f k_ l_0) fun t35 =>
                  k38 t35) fun k31 =>
        Option.bind (pc_named_f k_ l_0.Sides.i0) fun t26 =>
        bif !t26 then
          k31 true
        else
          Option.bind (pc_named_f k_ l_0.Sides.i1) fun t27 =>
          bif !t27 then
            k31 true
          else
            Option.bind (pc_some_f k_ l_0) fun t28 =>
            k31 t28) fun k24 =>
  bif decide ((l_0.Sides.i0.length : Int) > 12) then
    k24 true
  else
    bif decide ((l_0.Sides.i1.length : Int) > 12) then
      k24 true
    else
      letM (decide ((l_0.Cases.length : Int) > 16)) fun t21 =>
      k24 t21

theorem pc_Validate_f_le {k_ : Nat} {l_0 : T_Lib} : Le (pc_Validate_f k_ l_0) (pc_Validate_m l_0) := by
  unfold pc_Validate_f pc_Validate_m
  repeat' with_reducible (first | exact Le.refl _ | refine sCF_S_2_f_le | refine pc_some_2_f_le | refine pc_some_3_f_le | refine pc_rising_f_le | refine pc_some_1_f_le | refine pc_named_f_le | refine pc_some_f_le | refine Le.loop (fun _ => pc_Validate_l1f_le) | refine Le.bind ?_ (Le.sumK fun _ => ?_) | refine Le.bind ?_ (fun _ => ?_) | refine Le.cond ?_ ?_ | refine Le.letM (fun _ => ?_) | refine Le.join (fun _ => ?_) (fun _ _ hj => ?_) | exact hj _)

def pc_known_f (k_ : Nat) (l_0 : T_Lib) (facts_1 : (List ByteArray)) : Option (Int) :=
  Option.bind (pc_rising_f k_ facts_1) fun t2 =>
  bif !t2 then
    some 8
  else
    Option.bind (pc_factors_f k_ l_0) fun t4 =>
    Option.bind (pc_within_f k_ facts_1 t4) fun t6 =>
    bif !t6 then
      some 6
    else
      some 0

theorem pc_known_f_le {k_ : Nat} {l_0 : T_Lib} {facts_1 : (List ByteArray)} : Le (pc_known_f k_ l_0 facts_1) (pc_known_m l_0 facts_1) := by
  unfold pc_known_f pc_known_m
  repeat' with_reducible (first | exact Le.refl _ | refine pc_rising_f_le | refine pc_factors_f_le | refine pc_within_f_le | refine Le.bind ?_ (Le.sumK fun _ => ?_) | refine Le.bind ?_ (fun _ => ?_) | refine Le.cond ?_ ?_ | refine Le.letM (fun _ => ?_) | refine Le.join (fun _ => ?_) (fun _ _ hj => ?_) | exact hj _)

def pc_situation_f (k_ : Nat) (l_0 : T_Lib) (facts_1 : (List ByteArray)) : Option (Int) :=
  Option.bind (pc_Validate_f k_ l_0) fun e2 =>
  bif e2 != 0 then
    some e2
  else
    Option.bind (pc_known_f k_ l_0 facts_1) fun t4 =>
    some t4

theorem pc_situation_f_le {k_ : Nat} {l_0 : T_Lib} {facts_1 : (List ByteArray)} : Le (pc_situation_f k_ l_0 facts_1) (pc_situation_m l_0 facts_1) := by
  unfold pc_situation_f pc_situation_m
  repeat' with_reducible (first | exact Le.refl _ | refine pc_Validate_f_le | refine pc_known_f_le | refine Le.bind ?_ (Le.sumK fun _ => ?_) | refine Le.bind ?_ (fun _ => ?_) | refine Le.cond ?_ ?_ | refine Le.letM (fun _ => ?_) | refine Le.join (fun _ => ?_) (fun _ _ hj => ?_) | exact hj _)

def pc_counter_f (k_ : Nat) (l_0 : T_Lib) (facts_1 : (List ByteArray)) (side_2 : Int) : Option (List ByteArray) :=
  Option.bind (pc_own_f k_ l_0 facts_1 (isub .i64 3 side_2)) fun t2 =>
  some t2

theorem pc_counter_f_le {k_ : Nat} {l_0 : T_Lib} {facts_1 : (List ByteArray)} {side_2 : Int} : Le (pc_counter_f k_ l_0 facts_1 side_2) (pc_counter_m l_0 facts_1 side_2) := by
  unfold pc_counter_f pc_counter_m
  repeat' with_reducible (first | exact Le.refl _ | refine pc_own_f_le | refine Le.bind ?_ (Le.sumK fun _ => ?_) | refine Le.bind ?_ (fun _ => ?_) | refine Le.cond ?_ ?_ | refine Le.letM (fun _ => ?_) | refine Le.join (fun _ => ?_) (fun _ _ hj => ?_) | exact hj _)

def pc_forced_l1f (k_ : Nat) (l_0 : T_Lib) (facts_1 : (List ByteArray)) (s38 : Int × (List Int) × (List Int)) : Option (Sum ((List Int) × (List Int)) (Int × (List Int) × (List Int))) :=
  bif decide (s38.1 < (l_0.Cases.length : Int)) then
    Option.bind (idxM l_0.Cases s38.1) fun t41 =>
    Option.bind (pc_Reasons_1_f k_ t41) fun t43 =>
    Option.bind (pc_within_f k_ t43 facts_1) fun t44 =>
    bif !t44 then
      some (Sum.inr (iadd .i64 s38.1 1, s38.2.1, s38.2.2))
    else
      Option.bind (pc_counter_f k_ l_0 facts_1 t41.Winner) fun t45 =>
      Option.bind (pc_within_f k_ t45 t41.Facts) fun t47 =>
      bif !t47 then
        some (Sum.inr (iadd .i64 s38.1 1, s38.2.1, s38.2.2))
      else
        bif t41.Winner == 1 then
          Option.bind (appM 8 s38.2.1 [s38.1]) fun t50 =>
          some (Sum.inr (iadd .i64 s38.1 1, t50, s38.2.2))
        else
          Option.bind (appM 8 s38.2.2 [s38.1]) fun t52 =>
          some (Sum.inr (iadd .i64 s38.1 1, s38.2.1, t52))
  else
    some (Sum.inl (s38.2.1, s38.2.2))

theorem pc_forced_l1f_le {k_ : Nat} {l_0 : T_Lib} {facts_1 : (List ByteArray)} {s38 : Int × (List Int) × (List Int)} : Le (pc_forced_l1f k_ l_0 facts_1 s38) (pc_forced_l1 l_0 facts_1 s38) := by
  unfold pc_forced_l1f pc_forced_l1
  repeat' with_reducible (first | exact Le.refl _ | refine pc_Reasons_1_f_le | refine pc_within_f_le | refine pc_counter_f_le | refine Le.bind ?_ (Le.sumK fun _ => ?_) | refine Le.bind ?_ (fun _ => ?_) | refine Le.cond ?_ ?_ | refine Le.letM (fun _ => ?_) | refine Le.join (fun _ => ?_) (fun _ _ hj => ?_) | exact hj _)

def pc_forced_f (k_ : Nat) (l_0 : T_Lib) (facts_1 : (List ByteArray)) : Option (T_For × Int) :=
  Option.bind (pc_situation_f k_ l_0 facts_1) fun e3 =>
  bif e3 != 0 then
    some ((T_For.mk [] []), e3)
  else
    Option.bind (loopF k_ (pc_forced_l1f k_ l_0 facts_1) (0, [], [])) fun q54 : (List Int) × (List Int) =>
    some ((T_For.mk q54.1 q54.2), 0)

theorem pc_forced_f_le {k_ : Nat} {l_0 : T_Lib} {facts_1 : (List ByteArray)} : Le (pc_forced_f k_ l_0 facts_1) (pc_forced_m l_0 facts_1) := by
  unfold pc_forced_f pc_forced_m
  repeat' with_reducible (first | exact Le.refl _ | refine pc_situation_f_le | refine Le.loop (fun _ => pc_forced_l1f_le) | refine Le.bind ?_ (Le.sumK fun _ => ?_) | refine Le.bind ?_ (fun _ => ?_) | refine Le.cond ?_ ?_ | refine Le.letM (fun _ => ?_) | refine Le.join (fun _ => ?_) (fun _ _ hj => ?_) | exact hj _)

def pc_Reasons_f (k_ : Nat) (l_0 : T_Lib) (facts_1 : (List ByteArray)) : Option (T_For × Int) :=
  Option.bind (pc_forced_f k_ l_0 facts_1) fun t3 =>
  some (t3.1, t3.2)

theorem pc_Reasons_f_le {k_ : Nat} {l_0 : T_Lib} {facts_1 : (List ByteArray)} : Le (pc_Reasons_f k_ l_0 facts_1) (pc_Reasons_m l_0 facts_1) := by
  unfold pc_Reasons_f pc_Reasons_m
  repeat' with_reducible (first | exact Le.refl _ | refine pc_forced_f_le | refine Le.bind ?_ (Le.sumK fun _ => ?_) | refine Le.bind ?_ (fun _ => ?_) | refine Le.cond ?_ ?_ | refine Le.letM (fun _ => ?_) | refine Le.join (fun _ => ?_) (fun _ _ hj => ?_) | exact hj _)

def pc_Strong_1_f (k_ : Nat) (c_0 : T_Cas) (p_1 : T_Lib) : Option (List ByteArray) :=
  Option.bind (pc_own_f k_ p_1 c_0.Facts c_0.Winner) fun t2 =>
  some t2

theorem pc_Strong_1_f_le {k_ : Nat} {c_0 : T_Cas} {p_1 : T_Lib} : Le (pc_Strong_1_f k_ c_0 p_1) (pc_Strong_1_m c_0 p_1) := by
  unfold pc_Strong_1_f pc_Strong_1_m
  repeat' with_reducible (first | exact Le.refl _ | refine pc_own_f_le | refine Le.bind ?_ (Le.sumK fun _ => ?_) | refine Le.bind ?_ (fun _ => ?_) | refine Le.cond ?_ ?_ | refine Le.letM (fun _ => ?_) | refine Le.join (fun _ => ?_) (fun _ _ hj => ?_) | exact hj _)

def pc_forced_1_l1f (k_ : Nat) (l_0 : T_Lib) (facts_1 : (List ByteArray)) (e_0 : T_Lib) (s40 : Int × (List Int) × (List Int)) : Option (Sum ((List Int) × (List Int)) (Int × (List Int) × (List Int))) :=
  bif decide (s40.1 < (l_0.Cases.length : Int)) then
    Option.bind (idxM l_0.Cases s40.1) fun t43 =>
    Option.bind (pc_Strong_1_f k_ t43 e_0) fun t45 =>
    Option.bind (pc_within_f k_ t45 facts_1) fun t47 =>
    bif !t47 then
      some (Sum.inr (iadd .i64 s40.1 1, s40.2.1, s40.2.2))
    else
      Option.bind (pc_counter_f k_ l_0 facts_1 t43.Winner) fun t48 =>
      Option.bind (pc_within_f k_ t48 t43.Facts) fun t50 =>
      bif !t50 then
        some (Sum.inr (iadd .i64 s40.1 1, s40.2.1, s40.2.2))
      else
        bif t43.Winner == 1 then
          Option.bind (appM 8 s40.2.1 [s40.1]) fun t53 =>
          some (Sum.inr (iadd .i64 s40.1 1, t53, s40.2.2))
        else
          Option.bind (appM 8 s40.2.2 [s40.1]) fun t55 =>
          some (Sum.inr (iadd .i64 s40.1 1, s40.2.1, t55))
  else
    some (Sum.inl (s40.2.1, s40.2.2))

theorem pc_forced_1_l1f_le {k_ : Nat} {l_0 : T_Lib} {facts_1 : (List ByteArray)} {e_0 : T_Lib} {s40 : Int × (List Int) × (List Int)} : Le (pc_forced_1_l1f k_ l_0 facts_1 e_0 s40) (pc_forced_1_l1 l_0 facts_1 e_0 s40) := by
  unfold pc_forced_1_l1f pc_forced_1_l1
  repeat' with_reducible (first | exact Le.refl _ | refine pc_Strong_1_f_le | refine pc_within_f_le | refine pc_counter_f_le | refine Le.bind ?_ (Le.sumK fun _ => ?_) | refine Le.bind ?_ (fun _ => ?_) | refine Le.cond ?_ ?_ | refine Le.letM (fun _ => ?_) | refine Le.join (fun _ => ?_) (fun _ _ hj => ?_) | exact hj _)

def pc_forced_1_f (k_ : Nat) (l_0 : T_Lib) (facts_1 : (List ByteArray)) (e_0 : T_Lib) : Option (T_For × Int) :=
  Option.bind (pc_situation_f k_ l_0 facts_1) fun e3 =>
  bif e3 != 0 then
    some ((T_For.mk [] []), e3)
  else
    Option.bind (loopF k_ (pc_forced_1_l1f k_ l_0 facts_1 e_0) (0, [], [])) fun q57 : (List Int) × (List Int) =>
    some ((T_For.mk q57.1 q57.2), 0)

theorem pc_forced_1_f_le {k_ : Nat} {l_0 : T_Lib} {facts_1 : (List ByteArray)} {e_0 : T_Lib} : Le (pc_forced_1_f k_ l_0 facts_1 e_0) (pc_forced_1_m l_0 facts_1 e_0) := by
  unfold pc_forced_1_f pc_forced_1_m
  repeat' with_reducible (first | exact Le.refl _ | refine pc_situation_f_le | refine Le.loop (fun _ => pc_forced_1_l1f_le) | refine Le.bind ?_ (Le.sumK fun _ => ?_) | refine Le.bind ?_ (fun _ => ?_) | refine Le.cond ?_ ?_ | refine Le.letM (fun _ => ?_) | refine Le.join (fun _ => ?_) (fun _ _ hj => ?_) | exact hj _)

def pc_Strong_f (k_ : Nat) (l_0 : T_Lib) (facts_1 : (List ByteArray)) : Option (T_For × Int) :=
  Option.bind (pc_forced_1_f k_ l_0 facts_1 l_0) fun t3 =>
  some (t3.1, t3.2)

theorem pc_Strong_f_le {k_ : Nat} {l_0 : T_Lib} {facts_1 : (List ByteArray)} : Le (pc_Strong_f k_ l_0 facts_1) (pc_Strong_m l_0 facts_1) := by
  unfold pc_Strong_f pc_Strong_m
  repeat' with_reducible (first | exact Le.refl _ | refine pc_forced_1_f_le | refine Le.bind ?_ (Le.sumK fun _ => ?_) | refine Le.bind ?_ (fun _ => ?_) | refine Le.cond ?_ ?_ | refine Le.letM (fun _ => ?_) | refine Le.join (fun _ => ?_) (fun _ _ hj => ?_) | exact hj _)

def pc_Distinguish_1_f (k_ : Nat) (s_0 : ByteArray) (p_1 : (List ByteArray)) : Option (Bool) :=
  Option.bind (sC_S_f k_ p_1 s_0) fun t1 =>
  some t1

theorem pc_Distinguish_1_f_le {k_ : Nat} {s_0 : ByteArray} {p_1 : (List ByteArray)} : Le (pc_Distinguish_1_f k_ s_0 p_1) (pc_Distinguish_1_m s_0 p_1) := by
  unfold pc_Distinguish_1_f pc_Distinguish_1_m
  repeat' with_reducible (first | exact Le.refl _ | refine sC_S_f_le | refine Le.bind ?_ (Le.sumK fun _ => ?_) | refine Le.bind ?_ (fun _ => ?_) | refine Le.cond ?_ ?_ | refine Le.letM (fun _ => ?_) | refine Le.join (fun _ => ?_) (fun _ _ hj => ?_) | exact hj _)

def sIF_S_4_l1f (k_ : Nat) (s_0 : (List ByteArray)) (e_1 : (List ByteArray)) (s7 : Int) : Option (Sum ((Sum (Int) (Unit))) (Int)) :=
  bif decide (s7 < (s_0.length : Int)) then
    Option.bind (idxM s_0 s7) fun t10 =>
    Option.bind (pc_Distinguish_1_f k_ t10 e_1) fun t11 =>
    bif t11 then
      some (Sum.inl (Sum.inl s7))
    else
      some (Sum.inr (iadd .i64 s7 1))
  else
    some (Sum.inl (Sum.inr ()))

theorem sIF_S_4_l1f_le {k_ : Nat} {s_0 : (List ByteArray)} {e_1 : (List ByteArray)} {s7 : Int} : Le (sIF_S_4_l1f k_ s_0 e_1 s7) (sIF_S_4_l1 s_0 e_1 s7) := by
  unfold sIF_S_4_l1f sIF_S_4_l1
  repeat' with_reducible (first | exact Le.refl _ | refine pc_Distinguish_1_f_le | refine Le.bind ?_ (Le.sumK fun _ => ?_) | refine Le.bind ?_ (fun _ => ?_) | refine Le.cond ?_ ?_ | refine Le.letM (fun _ => ?_) | refine Le.join (fun _ => ?_) (fun _ _ hj => ?_) | exact hj _)

def sIF_S_4_f (k_ : Nat) (s_0 : (List ByteArray)) (e_1 : (List ByteArray)) : Option (Int) :=
  Option.bind (loopF k_ (sIF_S_4_l1f k_ s_0 e_1) 0) (sumK (fun a : Int => some a) fun q13 : Unit =>
    some (-1))

theorem sIF_S_4_f_le {k_ : Nat} {s_0 : (List ByteArray)} {e_1 : (List ByteArray)} : Le (sIF_S_4_f k_ s_0 e_1) (sIF_S_4_m s_0 e_1) := by
  unfold sIF_S_4_f sIF_S_4_m
  repeat' with_reducible (first | exact Le.refl _ | refine Le.loop (fun _ => sIF_S_4_l1f_le) | refine Le.bind ?_ (Le.sumK fun _ => ?_) | refine Le.bind ?_ (fun _ => ?_) | refine Le.cond ?_ ?_ | refine Le.letM (fun _ => ?_) | refine Le.join (fun _ => ?_) (fun _ _ hj => ?_) | exact hj _)

def sDF_S_1_l1f (k_ : Nat) (e_1 : (List ByteArray)) (s22 : Int × Int × (List ByteArray)) : Option (Sum ((List ByteArray) × Int) (Int × Int × (List ByteArray))) :=
  bif decide (s22.2.1 < (s22.2.2.length : Int)) then
    Option.bind (idxM s22.2.2 s22.2.1) fun v25 =>
    Option.bind (pc_Distinguish_1_f k_ v25 e_1) fun t26 =>
    bif !t26 then
      Option.bind (idxM s22.2.2 s22.1) fun t28 =>
      letM (iadd .i64 s22.1 1) fun i29 =>
      letM (iadd .i64 s22.2.1 1) fun j30 =>
      some (Sum.inr (i29, j30, s22.2.2.set (Int.toNat s22.1) v25))
    else
      letM (iadd .i64 s22.2.1 1) fun j31 =>
      some (Sum.inr (s22.1, j31, s22.2.2))
  else
    some (Sum.inl (s22.2.2, s22.1))

theorem sDF_S_1_l1f_le {k_ : Nat} {e_1 : (List ByteArray)} {s22 : Int × Int × (List ByteArray)} : Le (sDF_S_1_l1f k_ e_1 s22) (sDF_S_1_l1 e_1 s22) := by
  unfold sDF_S_1_l1f sDF_S_1_l1
  repeat' with_reducible (first | exact Le.refl _ | refine pc_Distinguish_1_f_le | refine Le.bind ?_ (Le.sumK fun _ => ?_) | refine Le.bind ?_ (fun _ => ?_) | refine Le.cond ?_ ?_ | refine Le.letM (fun _ => ?_) | refine Le.join (fun _ => ?_) (fun _ _ hj => ?_) | exact hj _)

def sDF_S_1_f (k_ : Nat) (s_0 : (List ByteArray)) (e_1 : (List ByteArray)) : Option (List ByteArray) :=
  Option.bind (sIF_S_4_f k_ s_0 e_1) fun i1 =>
  bif i1 == (-1) then
    some s_0
  else
    Option.bind (loopF k_ (sDF_S_1_l1f k_ e_1) (i1, iadd .i64 i1 1, s_0)) fun q32 : (List ByteArray) × Int =>
    Option.bind (slM q32.1 q32.2 (q32.1.length : Int)) fun t34 =>
    Option.bind (slM (q32.1.take (Int.toNat q32.2) ++ List.replicate (Int.toNat (q32.1.length : Int) - Int.toNat q32.2) ByteArray.empty ++ q32.1.drop (Int.toNat (q32.1.length : Int))) 0 q32.2) fun t35 =>
    some t35

theorem sDF_S_1_f_le {k_ : Nat} {s_0 : (List ByteArray)} {e_1 : (List ByteArray)} : Le (sDF_S_1_f k_ s_0 e_1) (sDF_S_1_m s_0 e_1) := by
  unfold sDF_S_1_f sDF_S_1_m
  repeat' with_reducible (first | exact Le.refl _ | refine sIF_S_4_f_le | refine Le.loop (fun _ => sDF_S_1_l1f_le) | refine Le.bind ?_ (Le.sumK fun _ => ?_) | refine Le.bind ?_ (fun _ => ?_) | refine Le.cond ?_ ?_ | refine Le.letM (fun _ => ?_) | refine Le.join (fun _ => ?_) (fun _ _ hj => ?_) | exact hj _)

def pc_Distinguish_l1f (k_ : Nat) (t8 : T_Cas) (t14 : List ByteArray) (s32 : Int × (List ByteArray)) : Option (Sum ((List ByteArray)) (Int × (List ByteArray))) :=
  bif decide (s32.1 < (t14.length : Int)) then
    Option.bind (idxM t14 s32.1) fun s35 =>
    Option.bind (sC_S_f k_ t8.Facts s35) fun t36 =>
    bif !t36 then
      Option.bind (appM 16 s32.2 [s35]) fun out38 =>
      some (Sum.inr (iadd .i64 s32.1 1, out38))
    else
      some (Sum.inr (iadd .i64 s32.1 1, s32.2))
  else
    some (Sum.inl s32.2)

theorem pc_Distinguish_l1f_le {k_ : Nat} {t8 : T_Cas} {t14 : List ByteArray} {s32 : Int × (List ByteArray)} : Le (pc_Distinguish_l1f k_ t8 t14 s32) (pc_Distinguish_l1 t8 t14 s32) := by
  unfold pc_Distinguish_l1f pc_Distinguish_l1
  repeat' with_reducible (first | exact Le.refl _ | refine sC_S_f_le | refine Le.bind ?_ (Le.sumK fun _ => ?_) | refine Le.bind ?_ (fun _ => ?_) | refine Le.cond ?_ ?_ | refine Le.letM (fun _ => ?_) | refine Le.join (fun _ => ?_) (fun _ _ hj => ?_) | exact hj _)

def pc_Distinguish_f (k_ : Nat) (l_0 : T_Lib) (index_1 : Int) (facts_2 : (List ByteArray)) : Option (List ByteArray × Int) :=
  Option.bind (pc_Validate_f k_ l_0) fun e3 =>
  bif e3 != 0 then
    some ([], e3)
  else
    bif decide (index_1 < 0) then
      some ([], 1)
    else
      bif decide (index_1 ≥ (l_0.Cases.length : Int)) then
        some ([], 1)
      else
        Option.bind (pc_known_f k_ l_0 facts_2) fun e6 =>
        bif e6 != 0 then
          some ([], e6)
        else
          Option.bind (idxM l_0.Cases index_1) fun t8 =>
          Option.bind (pc_own_f k_ l_0 t8.Facts t8.Winner) fun t10 =>
          Option.bind (sDF_S_1_f k_ t10 facts_2) fun out12 =>
          Option.bind (pc_counter_f k_ l_0 facts_2 t8.Winner) fun t14 =>
          Option.bind (loopF k_ (pc_Distinguish_l1f k_ t8 t14) (0, out12)) fun q40 : (List ByteArray) =>
          Option.bind (sortedSF q40) fun t42 =>
          some (t42, 0)

theorem pc_Distinguish_f_le {k_ : Nat} {l_0 : T_Lib} {index_1 : Int} {facts_2 : (List ByteArray)} : Le (pc_Distinguish_f k_ l_0 index_1 facts_2) (pc_Distinguish_m l_0 index_1 facts_2) := by
  unfold pc_Distinguish_f pc_Distinguish_m
  repeat' with_reducible (first | exact Le.refl _ | refine pc_Validate_f_le | refine pc_known_f_le | refine pc_own_f_le | refine sDF_S_1_f_le | refine pc_counter_f_le | refine Le.loop (fun _ => pc_Distinguish_l1f_le) | refine sortedSF_le | refine Le.bind ?_ (Le.sumK fun _ => ?_) | refine Le.bind ?_ (fun _ => ?_) | refine Le.cond ?_ ?_ | refine Le.letM (fun _ => ?_) | refine Le.join (fun _ => ?_) (fun _ _ hj => ?_) | exact hj _)

def pc_shared_1_f (k_ : Nat) (s_0 : ByteArray) (p_1 : (List ByteArray)) : Option (Bool) :=
  Option.bind (sC_S_f k_ p_1 s_0) fun t1 =>
  some (!t1)

theorem pc_shared_1_f_le {k_ : Nat} {s_0 : ByteArray} {p_1 : (List ByteArray)} : Le (pc_shared_1_f k_ s_0 p_1) (pc_shared_1_m s_0 p_1) := by
  unfold pc_shared_1_f pc_shared_1_m
  repeat' with_reducible (first | exact Le.refl _ | refine sC_S_f_le | refine Le.bind ?_ (Le.sumK fun _ => ?_) | refine Le.bind ?_ (fun _ => ?_) | refine Le.cond ?_ ?_ | refine Le.letM (fun _ => ?_) | refine Le.join (fun _ => ?_) (fun _ _ hj => ?_) | exact hj _)

def sIF_S_5_l1f (k_ : Nat) (s_0 : (List ByteArray)) (e_1 : (List ByteArray)) (s7 : Int) : Option (Sum ((Sum (Int) (Unit))) (Int)) :=
  bif decide (s7 < (s_0.length : Int)) then
    Option.bind (idxM s_0 s7) fun t10 =>
    Option.bind (pc_shared_1_f k_ t10 e_1) fun t11 =>
    bif t11 then
      some (Sum.inl (Sum.inl s7))
    else
      some (Sum.inr (iadd .i64 s7 1))
  else
    some (Sum.inl (Sum.inr ()))

theorem sIF_S_5_l1f_le {k_ : Nat} {s_0 : (List ByteArray)} {e_1 : (List ByteArray)} {s7 : Int} : Le (sIF_S_5_l1f k_ s_0 e_1 s7) (sIF_S_5_l1 s_0 e_1 s7) := by
  unfold sIF_S_5_l1f sIF_S_5_l1
  repeat' with_reducible (first | exact Le.refl _ | refine pc_shared_1_f_le | refine Le.bind ?_ (Le.sumK fun _ => ?_) | refine Le.bind ?_ (fun _ => ?_) | refine Le.cond ?_ ?_ | refine Le.letM (fun _ => ?_) | refine Le.join (fun _ => ?_) (fun _ _ hj => ?_) | exact hj _)

def sIF_S_5_f (k_ : Nat) (s_0 : (List ByteArray)) (e_1 : (List ByteArray)) : Option (Int) :=
  Option.bind (loopF k_ (sIF_S_5_l1f k_ s_0 e_1) 0) (sumK (fun a : Int => some a) fun q13 : Unit =>
    some (-1))

theorem sIF_S_5_f_le {k_ : Nat} {s_0 : (List ByteArray)} {e_1 : (List ByteArray)} : Le (sIF_S_5_f k_ s_0 e_1) (sIF_S_5_m s_0 e_1) := by
  unfold sIF_S_5_f sIF_S_5_m
  repeat' with_reducible (first | exact Le.refl _ | refine Le.loop (fun _ => sIF_S_5_l1f_le) | refine Le.bind ?_ (Le.sumK fun _ => ?_) | refine Le.bind ?_ (fun _ => ?_) | refine Le.cond ?_ ?_ | refine Le.letM (fun _ => ?_) | refine Le.join (fun _ => ?_) (fun _ _ hj => ?_) | exact hj _)

def sDF_S_2_l1f (k_ : Nat) (e_1 : (List ByteArray)) (s22 : Int × Int × (List ByteArray)) : Option (Sum ((List ByteArray) × Int) (Int × Int × (List ByteArray))) :=
  bif decide (s22.2.1 < (s22.2.2.length : Int)) then
    Option.bind (idxM s22.2.2 s22.2.1) fun v25 =>
    Option.bind (pc_shared_1_f k_ v25 e_1) fun t26 =>
    bif !t26 then
      Option.bind (idxM s22.2.2 s22.1) fun t28 =>
      letM (iadd .i64 s22.1 1) fun i29 =>
      letM (iadd .i64 s22.2.1 1) fun j30 =>
      some (Sum.inr (i29, j30, s22.2.2.set (Int.toNat s22.1) v25))
    else
      letM (iadd .i64 s22.2.1 1) fun j31 =>
      some (Sum.inr (s22.1, j31, s22.2.2))
  else
    some (Sum.inl (s22.2.2, s22.1))

theorem sDF_S_2_l1f_le {k_ : Nat} {e_1 : (List ByteArray)} {s22 : Int × Int × (List ByteArray)} : Le (sDF_S_2_l1f k_ e_1 s22) (sDF_S_2_l1 e_1 s22) := by
  unfold sDF_S_2_l1f sDF_S_2_l1
  repeat' with_reducible (first | exact Le.refl _ | refine pc_shared_1_f_le | refine Le.bind ?_ (Le.sumK fun _ => ?_) | refine Le.bind ?_ (fun _ => ?_) | refine Le.cond ?_ ?_ | refine Le.letM (fun _ => ?_) | refine Le.join (fun _ => ?_) (fun _ _ hj => ?_) | exact hj _)

def sDF_S_2_f (k_ : Nat) (s_0 : (List ByteArray)) (e_1 : (List ByteArray)) : Option (List ByteArray) :=
  Option.bind (sIF_S_5_f k_ s_0 e_1) fun i1 =>
  bif i1 == (-1) then
    some s_0
  else
    Option.bind (loopF k_ (sDF_S_2_l1f k_ e_1) (i1, iadd .i64 i1 1, s_0)) fun q32 : (List ByteArray) × Int =>
    Option.bind (slM q32.1 q32.2 (q32.1.length : Int)) fun t34 =>
    Option.bind (slM (q32.1.take (Int.toNat q32.2) ++ List.replicate (Int.toNat (q32.1.length : Int) - Int.toNat q32.2) ByteArray.empty ++ q32.1.drop (Int.toNat (q32.1.length : Int))) 0 q32.2) fun t35 =>
    some t35

theorem sDF_S_2_f_le {k_ : Nat} {s_0 : (List ByteArray)} {e_1 : (List ByteArray)} : Le (sDF_S_2_f k_ s_0 e_1) (sDF_S_2_m s_0 e_1) := by
  unfold sDF_S_2_f sDF_S_2_m
  repeat' with_reducible (first | exact Le.refl _ | refine sIF_S_5_f_le | refine Le.loop (fun _ => sDF_S_2_l1f_le) | refine Le.bind ?_ (Le.sumK fun _ => ?_) | refine Le.bind ?_ (fun _ => ?_) | refine Le.cond ?_ ?_ | refine Le.letM (fun _ => ?_) | refine Le.join (fun _ => ?_) (fun _ _ hj => ?_) | exact hj _)

def pc_shared_f (k_ : Nat) (a__0 : (List ByteArray)) (b_1 : (List ByteArray)) : Option (List ByteArray) :=
  Option.bind (slices_Clone_S_f k_ a__0) fun t2 =>
  Option.bind (sDF_S_2_f k_ t2 b_1) fun t4 =>
  some t4

theorem pc_shared_f_le {k_ : Nat} {a__0 : (List ByteArray)} {b_1 : (List ByteArray)} : Le (pc_shared_f k_ a__0 b_1) (pc_shared_m a__0 b_1) := by
  unfold pc_shared_f pc_shared_m
  repeat' with_reducible (first | exact Le.refl _ | refine slices_Clone_S_f_le | refine sDF_S_2_f_le | refine Le.bind ?_ (Le.sumK fun _ => ?_) | refine Le.bind ?_ (fun _ => ?_) | refine Le.cond ?_ ?_ | refine Le.letM (fun _ => ?_) | refine Le.join (fun _ => ?_) (fun _ _ hj => ?_) | exact hj _)

def pc_Citable_l1f (k_ : Nat) (l_0 : T_Lib) (facts_1 : (List ByteArray)) (s29 : Int × (List Int)) : Option (Sum ((List Int)) (Int × (List Int))) :=
  bif decide (s29.1 < (l_0.Cases.length : Int)) then
    Option.bind (idxM l_0.Cases s29.1) fun t32 =>
    Option.bind (pc_own_f k_ l_0 t32.Facts t32.Winner) fun t34 =>
    Option.bind (pc_shared_f k_ t34 facts_1) fun t36 =>
    bif decide ((t36.length : Int) > 0) then
      Option.bind (appM 8 s29.2 [s29.1]) fun out39 =>
      some (Sum.inr (iadd .i64 s29.1 1, out39))
    else
      some (Sum.inr (iadd .i64 s29.1 1, s29.2))
  else
    some (Sum.inl s29.2)

theorem pc_Citable_l1f_le {k_ : Nat} {l_0 : T_Lib} {facts_1 : (List ByteArray)} {s29 : Int × (List Int)} : Le (pc_Citable_l1f k_ l_0 facts_1 s29) (pc_Citable_l1 l_0 facts_1 s29) := by
  unfold pc_Citable_l1f pc_Citable_l1
  repeat' with_reducible (first | exact Le.refl _ | refine pc_own_f_le | refine pc_shared_f_le | refine Le.bind ?_ (Le.sumK fun _ => ?_) | refine Le.bind ?_ (fun _ => ?_) | refine Le.cond ?_ ?_ | refine Le.letM (fun _ => ?_) | refine Le.join (fun _ => ?_) (fun _ _ hj => ?_) | exact hj _)

def pc_Citable_l3f (k_ : Nat) (l_0 : T_Lib) (facts_1 : (List ByteArray)) (q41 : (List Int)) (s282 : Int × (List T_Pai)) (a_285 : Int) (s326 : Int × (List T_Pai)) : Option (Sum ((List T_Pai)) (Int × (List T_Pai))) :=
  bif decide (s326.1 < (q41.length : Int)) then
    Option.bind (idxM q41 s326.1) fun b329 =>
    Option.bind (idxM l_0.Cases a_285) fun t331 =>
    Option.bind (idxM l_0.Cases b329) fun t332 =>
    Option.bind (pc_shared_f k_ t331.Facts facts_1) fun s335 =>
    Option.bind (pc_shared_f k_ t332.Facts facts_1) fun r_337 =>
    joinM (fun j340 : Bool =>
        bif j340 then
          Option.bind (appM 16 s326.2 [(T_Pai.mk s282.1 s326.1)]) fun t344 =>
          some (Sum.inr (iadd .i64 s326.1 1, t344))
        else
          some (Sum.inr (iadd .i64 s326.1 1, s326.2))) fun k342 =>
    bif t331.Winner != t332.Winner then
      Option.bind (pc_within_f k_ s335 r_337) fun t339 =>
      bif t339 then
        k342 (!(decide ((s335.length : Int) < (r_337.length : Int))))
      else
        k342 (!false)
    else
      k342 false
  else
    some (Sum.inl s326.2)

theorem pc_Citable_l3f_le {k_ : Nat} {l_0 : T_Lib} {facts_1 : (List ByteArray)} {q41 : (List Int)} {s282 : Int × (List T_Pai)} {a_285 : Int} {s326 : Int × (List T_Pai)} : Le (pc_Citable_l3f k_ l_0 facts_1 q41 s282 a_285 s326) (pc_Citable_l3 l_0 facts_1 q41 s282 a_285 s326) := by
  unfold pc_Citable_l3f pc_Citable_l3
  repeat' with_reducible (first | exact Le.refl _ | refine pc_shared_f_le | refine pc_within_f_le | refine Le.bind ?_ (Le.sumK fun _ => ?_) | refine Le.bind ?_ (fun _ => ?_) | refine Le.cond ?_ ?_ | refine Le.letM (fun _ => ?_) | refine Le.join (fun _ => ?_) (fun _ _ hj => ?_) | exact hj _)

def pc_Citable_l2f (k_ : Nat) (l_0 : T_Lib) (facts_1 : (List ByteArray)) (q41 : (List Int)) (s282 : Int × (List T_Pai)) : Option (Sum ((List T_Pai)) (Int × (List T_Pai))) :=
  bif decide (s282.1 < (q41.length : Int)) then
    Option.bind (idxM q41 s282.1) fun a_285 =>
    Option.bind (loopF k_ (pc_Citable_l3f k_ l_0 facts_1 q41 s282 a_285) (0, s282.2)) fun q346 : (List T_Pai) =>
    some (Sum.inr (iadd .i64 s282.1 1, q346))
  else
    some (Sum.inl s282.2)

theorem pc_Citable_l2f_le {k_ : Nat} {l_0 : T_Lib} {facts_1 : (List ByteArray)} {q41 : (List Int)} {s282 : Int × (List T_Pai)} : Le (pc_Citable_l2f k_ l_0 facts_1 q41 s282) (pc_Citable_l2 l_0 facts_1 q41 s282) := by
  unfold pc_Citable_l2f pc_Citable_l2
  repeat' with_reducible (first | exact Le.refl _ | refine Le.loop (fun _ => pc_Citable_l3f_le) | refine Le.bind ?_ (Le.sumK fun _ => ?_) | refine Le.bind ?_ (fun _ => ?_) | refine Le.cond ?_ ?_ | refine Le.letM (fun _ => ?_) | refine Le.join (fun _ => ?_) (fun _ _ hj => ?_) | exact hj _)

def pc_Citable_f (k_ : Nat) (l_0 : T_Lib) (facts_1 : (List ByteArray)) : Option (List Int × T_Gra × Int) :=
  Option.bind (pc_situation_f k_ l_0 facts_1) fun e3 =>
  bif e3 != 0 then
    some ([], (T_Gra.mk 0 []), e3)
  else
    Option.bind (loopF k_ (pc_Citable_l1f k_ l_0 facts_1) (0, [])) fun q41 : (List Int) =>
    Option.bind (loopF k_ (pc_Citable_l2f k_ l_0 facts_1 q41) (0, [])) fun q348 : (List T_Pai) =>
    some (q41, (T_Gra.mk (q41.length : Int) q348), 0)

theorem pc_Citable_f_le {k_ : Nat} {l_0 : T_Lib} {facts_1 : (List ByteArray)} : Le (pc_Citable_f k_ l_0 facts_1) (pc_Citable_m l_0 facts_1) := by
  unfold pc_Citable_f pc_Citable_m
  repeat' with_reducible (first | exact Le.refl _ | refine pc_situation_f_le | refine Le.loop (fun _ => pc_Citable_l1f_le) | refine Le.loop (fun _ => pc_Citable_l2f_le) | refine Le.bind ?_ (Le.sumK fun _ => ?_) | refine Le.bind ?_ (fun _ => ?_) | refine Le.cond ?_ ?_ | refine Le.letM (fun _ => ?_) | refine Le.join (fun _ => ?_) (fun _ _ hj => ?_) | exact hj _)

def mb_Mul64_f (k_ : Nat) (x_0 : Int) (y_1 : Int) : Option (Int × Int) :=
  letM (iand .u64 x_0 4294967295) fun x01 =>
  letM (ishr .u64 x_0 32) fun x12 =>
  letM (iand .u64 y_1 4294967295) fun y03 =>
  letM (ishr .u64 y_1 32) fun y14 =>
  letM (imul .u64 x01 y03) fun w05 =>
  letM (iadd .u64 (imul .u64 x12 y03) (ishr .u64 w05 32)) fun t6 =>
  letM (iand .u64 t6 4294967295) fun w17 =>
  letM (ishr .u64 t6 32) fun w28 =>
  letM (iadd .u64 w17 (imul .u64 x01 y14)) fun w19 =>
  letM (iadd .u64 (iadd .u64 (imul .u64 x12 y14) w28) (ishr .u64 w19 32)) fun hi10 =>
  letM (imul .u64 x_0 y_1) fun lo11 =>
  some (hi10, lo11)

theorem mb_Mul64_f_le {k_ : Nat} {x_0 : Int} {y_1 : Int} : Le (mb_Mul64_f k_ x_0 y_1) (mb_Mul64_m x_0 y_1) := by
  unfold mb_Mul64_f mb_Mul64_m
  repeat' with_reducible (first | exact Le.refl _ | refine Le.bind ?_ (Le.sumK fun _ => ?_) | refine Le.bind ?_ (fun _ => ?_) | refine Le.cond ?_ ?_ | refine Le.letM (fun _ => ?_) | refine Le.join (fun _ => ?_) (fun _ _ hj => ?_) | exact hj _)

def mb_Mul_f (k_ : Nat) (x_0 : Int) (y_1 : Int) : Option (Int × Int) :=
  Option.bind (mb_Mul64_f k_ x_0 y_1) fun t1 =>
  some (t1.1, t1.2)

theorem mb_Mul_f_le {k_ : Nat} {x_0 : Int} {y_1 : Int} : Le (mb_Mul_f k_ x_0 y_1) (mb_Mul_m x_0 y_1) := by
  unfold mb_Mul_f mb_Mul_m
  repeat' with_reducible (first | exact Le.refl _ | refine mb_Mul64_f_le | refine Le.bind ?_ (Le.sumK fun _ => ?_) | refine Le.bind ?_ (fun _ => ?_) | refine Le.cond ?_ ?_ | refine Le.letM (fun _ => ?_) | refine Le.join (fun _ => ?_) (fun _ _ hj => ?_) | exact hj _)

def slices_Repeat_int_int_l1f (k_ : Nat)  (s17 : Int × (List Int)) : Option (Sum ((List Int)) (Int × (List Int))) :=
  bif decide (s17.1 < (s17.2.length : Int)) then
    Option.bind (slM s17.2 s17.1 (s17.2.length : Int)) fun t20 =>
    Option.bind (slM s17.2 0 s17.1) fun t21 =>
    some (Sum.inr (iadd .i64 s17.1 ((min t21.length t20.length : Nat) : Int), cpO s17.2 s17.1 (s17.2.length : Int) 0 s17.1))
  else
    some (Sum.inl s17.2)

theorem slices_Repeat_int_int_l1f_le {k_ : Nat} {s17 : Int × (List Int)} : Le (slices_Repeat_int_int_l1f k_ s17) (slices_Repeat_int_int_l1 s17) := by
  unfold slices_Repeat_int_int_l1f slices_Repeat_int_int_l1
  repeat' with_reducible (first | exact Le.refl _ | refine Le.bind ?_ (Le.sumK fun _ => ?_) | refine Le.bind ?_ (fun _ => ?_) | refine Le.cond ?_ ?_ | refine Le.letM (fun _ => ?_) | refine Le.join (fun _ => ?_) (fun _ _ hj => ?_) | exact hj _)

def slices_Repeat_int_int_f (k_ : Nat) (x_0 : (List Int)) (count_1 : Int) : Option (List Int) :=
  bif decide (count_1 < 0) then
    none
  else
    Option.bind (mb_Mul_f k_ (IntKind.wrap .u64 (x_0.length : Int)) (IntKind.wrap .u64 count_1)) fun t2 =>
    bif decide (t2.1 > 0) then
      none
    else
      bif decide (t2.2 > 9223372036854775807) then
        none
      else
        Option.bind (mkM 8 0 (IntKind.wrap .i64 t2.2)) fun newslice4 =>
        letM (((min x_0.length newslice4.length : Nat) : Int)) fun n6 =>
        Option.bind (loopF k_ (slices_Repeat_int_int_l1f k_) (n6, cpA newslice4 x_0)) fun q22 : (List Int) =>
        some q22

theorem slices_Repeat_int_int_f_le {k_ : Nat} {x_0 : (List Int)} {count_1 : Int} : Le (slices_Repeat_int_int_f k_ x_0 count_1) (slices_Repeat_int_int_m x_0 count_1) := by
  unfold slices_Repeat_int_int_f slices_Repeat_int_int_m
  repeat' with_reducible (first | exact Le.refl _ | refine mb_Mul_f_le | refine Le.loop (fun _ => slices_Repeat_int_int_l1f_le) | refine Le.bind ?_ (Le.sumK fun _ => ?_) | refine Le.bind ?_ (fun _ => ?_) | refine Le.cond ?_ ?_ | refine Le.letM (fun _ => ?_) | refine Le.join (fun _ => ?_) (fun _ _ hj => ?_) | exact hj _)

def cmp_isNaN_int_f (k_ : Nat) (x_0 : Int) : Option (Bool) :=
  some (x_0 != x_0)

theorem cmp_isNaN_int_f_le {k_ : Nat} {x_0 : Int} : Le (cmp_isNaN_int_f k_ x_0) (cmp_isNaN_int_m x_0) := by
  unfold cmp_isNaN_int_f cmp_isNaN_int_m
  repeat' with_reducible (first | exact Le.refl _ | refine Le.bind ?_ (Le.sumK fun _ => ?_) | refine Le.bind ?_ (fun _ => ?_) | refine Le.cond ?_ ?_ | refine Le.letM (fun _ => ?_) | refine Le.join (fun _ => ?_) (fun _ _ hj => ?_) | exact hj _)

def cmp_Compare_int_f (k_ : Nat) (x_0 : Int) (y_1 : Int) : Option (Int) :=
  Option.bind (cmp_isNaN_int_f k_ x_0) fun xNaN1 =>
  Option.bind (cmp_isNaN_int_f k_ y_1) fun yNaN2 =>
  bif xNaN1 then
    bif yNaN2 then
      some 0
    else
      some (-1)
  else
    bif yNaN2 then
      some 1
    else
      bif decide (x_0 < y_1) then
        some (-1)
      else
        bif decide (x_0 > y_1) then
          some 1
        else
          some 0

theorem cmp_Compare_int_f_le {k_ : Nat} {x_0 : Int} {y_1 : Int} : Le (cmp_Compare_int_f k_ x_0 y_1) (cmp_Compare_int_m x_0 y_1) := by
  unfold cmp_Compare_int_f cmp_Compare_int_m
  repeat' with_reducible (first | exact Le.refl _ | refine cmp_isNaN_int_f_le | refine Le.bind ?_ (Le.sumK fun _ => ?_) | refine Le.bind ?_ (fun _ => ?_) | refine Le.cond ?_ ?_ | refine Le.letM (fun _ => ?_) | refine Le.join (fun _ => ?_) (fun _ _ hj => ?_) | exact hj _)

def cmp_Or_int_l1f (k_ : Nat) (vals_0 : (List Int)) (s6 : Int) : Option (Sum ((Sum (Int) (Unit))) (Int)) :=
  bif decide (s6 < (vals_0.length : Int)) then
    Option.bind (idxM vals_0 s6) fun val9 =>
    bif val9 != 0 then
      some (Sum.inl (Sum.inl val9))
    else
      some (Sum.inr (iadd .i64 s6 1))
  else
    some (Sum.inl (Sum.inr ()))

theorem cmp_Or_int_l1f_le {k_ : Nat} {vals_0 : (List Int)} {s6 : Int} : Le (cmp_Or_int_l1f k_ vals_0 s6) (cmp_Or_int_l1 vals_0 s6) := by
  unfold cmp_Or_int_l1f cmp_Or_int_l1
  repeat' with_reducible (first | exact Le.refl _ | refine Le.bind ?_ (Le.sumK fun _ => ?_) | refine Le.bind ?_ (fun _ => ?_) | refine Le.cond ?_ ?_ | refine Le.letM (fun _ => ?_) | refine Le.join (fun _ => ?_) (fun _ _ hj => ?_) | exact hj _)

def cmp_Or_int_f (k_ : Nat) (vals_0 : (List Int)) : Option (Int) :=
  Option.bind (loopF k_ (cmp_Or_int_l1f k_ vals_0) 0) (sumK (fun a : Int => some a) fun q11 : Unit =>
    some 0)

theorem cmp_Or_int_f_le {k_ : Nat} {vals_0 : (List Int)} : Le (cmp_Or_int_f k_ vals_0) (cmp_Or_int_m vals_0) := by
  unfold cmp_Or_int_f cmp_Or_int_m
  repeat' with_reducible (first | exact Le.refl _ | refine Le.loop (fun _ => cmp_Or_int_l1f_le) | refine Le.bind ?_ (Le.sumK fun _ => ?_) | refine Le.bind ?_ (fun _ => ?_) | refine Le.cond ?_ ?_ | refine Le.letM (fun _ => ?_) | refine Le.join (fun _ => ?_) (fun _ _ hj => ?_) | exact hj _)

def graph_compare_f (k_ : Nat) (a__0 : T_Pai) (b_1 : T_Pai) : Option (Int) :=
  Option.bind (cmp_Compare_int_f k_ a__0.From b_1.From) fun t3 =>
  Option.bind (cmp_Compare_int_f k_ a__0.To b_1.To) fun t4 =>
  Option.bind (cmp_Or_int_f k_ [t3, t4]) fun t5 =>
  some t5

theorem graph_compare_f_le {k_ : Nat} {a__0 : T_Pai} {b_1 : T_Pai} : Le (graph_compare_f k_ a__0 b_1) (graph_compare_m a__0 b_1) := by
  unfold graph_compare_f graph_compare_m
  repeat' with_reducible (first | exact Le.refl _ | refine cmp_Compare_int_f_le | refine cmp_Or_int_f_le | refine Le.bind ?_ (Le.sumK fun _ => ?_) | refine Le.bind ?_ (fun _ => ?_) | refine Le.cond ?_ ?_ | refine Le.letM (fun _ => ?_) | refine Le.join (fun _ => ?_) (fun _ _ hj => ?_) | exact hj _)

def graph_Validate_l1f (k_ : Nat) (g_0 : T_Gra) (s12 : Int) : Option (Sum ((Sum (Int) (Unit))) (Int)) :=
  bif decide (s12 < (g_0.L.length : Int)) then
    Option.bind (idxM g_0.L s12) fun t15 =>
    bif decide ((imin t15.From t15.To) < 0) then
      some (Sum.inl (Sum.inl 1))
    else
      bif decide ((imax t15.From t15.To) ≥ g_0.N) then
        some (Sum.inl (Sum.inl 1))
      else
        bif decide (s12 > 0) then
          Option.bind (idxM g_0.L (isub .i64 s12 1)) fun t18 =>
          Option.bind (graph_compare_f k_ t18 t15) fun t19 =>
          bif decide (t19 ≥ 0) then
            some (Sum.inl (Sum.inl 8))
          else
            some (Sum.inr (iadd .i64 s12 1))
        else
          some (Sum.inr (iadd .i64 s12 1))
  else
    some (Sum.inl (Sum.inr ()))

theorem graph_Validate_l1f_le {k_ : Nat} {g_0 : T_Gra} {s12 : Int} : Le (graph_Validate_l1f k_ g_0 s12) (graph_Validate_l1 g_0 s12) := by
  unfold graph_Validate_l1f graph_Validate_l1
  repeat' with_reducible (first | exact Le.refl _ | refine graph_compare_f_le | refine Le.bind ?_ (Le.sumK fun _ => ?_) | refine Le.bind ?_ (fun _ => ?_) | refine Le.cond ?_ ?_ | refine Le.letM (fun _ => ?_) | refine Le.join (fun _ => ?_) (fun _ _ hj => ?_) | exact hj _)

def graph_Validate_f (k_ : Nat) (g_0 : T_Gra) : Option (Int) :=
  bif decide (g_0.N < 0) then
    some 1
  else
    bif decide (g_0.N > 40) then
      some 1
    else
      Option.bind (loopF k_ (graph_Validate_l1f k_ g_0) 0) (sumK (fun a : Int => some a) fun q21 : Unit =>
        some 0)

theorem graph_Validate_f_le {k_ : Nat} {g_0 : T_Gra} : Le (graph_Validate_f k_ g_0) (graph_Validate_m g_0) := by
  unfold graph_Validate_f graph_Validate_m
  repeat' with_reducible (first | exact Le.refl _ | refine Le.loop (fun _ => graph_Validate_l1f_le) | refine Le.bind ?_ (Le.sumK fun _ => ?_) | refine Le.bind ?_ (fun _ => ?_) | refine Le.cond ?_ ?_ | refine Le.letM (fun _ => ?_) | refine Le.join (fun _ => ?_) (fun _ _ hj => ?_) | exact hj _)

def graph_proper_f (k_ : Nat) (g_0 : T_Gra) : Option (T_Gra) :=
  Option.bind (graph_Validate_f k_ g_0) fun t3 =>
  bif t3 != 0 then
    some (T_Gra.mk 0 [])
  else
    some g_0

theorem graph_proper_f_le {k_ : Nat} {g_0 : T_Gra} : Le (graph_proper_f k_ g_0) (graph_proper_m g_0) := by
  unfold graph_proper_f graph_proper_m
  repeat' with_reducible (first | exact Le.refl _ | refine graph_Validate_f_le | refine Le.bind ?_ (Le.sumK fun _ => ?_) | refine Le.bind ?_ (fun _ => ?_) | refine Le.cond ?_ ?_ | refine Le.letM (fun _ => ?_) | refine Le.join (fun _ => ?_) (fun _ _ hj => ?_) | exact hj _)

def graph_masks_l1f (k_ : Nat) (g_0 : T_Gra) (s20 : Int × (List Int)) : Option (Sum ((List Int)) (Int × (List Int))) :=
  bif decide (s20.1 < (g_0.L.length : Int)) then
    Option.bind (idxM g_0.L s20.1) fun t23 =>
    Option.bind (idxM s20.2 t23.From) fun t25 =>
    Option.bind (ishlM .u64 1 t23.To) fun t26 =>
    Option.bind (idxM s20.2 t23.From) fun t27 =>
    some (Sum.inr (iadd .i64 s20.1 1, s20.2.set (Int.toNat t23.From) (ior .u64 t25 t26)))
  else
    some (Sum.inl s20.2)

theorem graph_masks_l1f_le {k_ : Nat} {g_0 : T_Gra} {s20 : Int × (List Int)} : Le (graph_masks_l1f k_ g_0 s20) (graph_masks_l1 g_0 s20) := by
  unfold graph_masks_l1f graph_masks_l1
  repeat' with_reducible (first | exact Le.refl _ | refine Le.bind ?_ (Le.sumK fun _ => ?_) | refine Le.bind ?_ (fun _ => ?_) | refine Le.cond ?_ ?_ | refine Le.letM (fun _ => ?_) | refine Le.join (fun _ => ?_) (fun _ _ hj => ?_) | exact hj _)

def graph_masks_f (k_ : Nat) (g_0 : T_Gra) : Option (List Int) :=
  Option.bind (mkM 8 0 g_0.N) fun out2 =>
  Option.bind (loopF k_ (graph_masks_l1f k_ g_0) (0, out2)) fun q28 : (List Int) =>
  some q28

theorem graph_masks_f_le {k_ : Nat} {g_0 : T_Gra} : Le (graph_masks_f k_ g_0) (graph_masks_m g_0) := by
  unfold graph_masks_f graph_masks_m
  repeat' with_reducible (first | exact Le.refl _ | refine Le.loop (fun _ => graph_masks_l1f_le) | refine Le.bind ?_ (Le.sumK fun _ => ?_) | refine Le.bind ?_ (fun _ => ?_) | refine Le.cond ?_ ?_ | refine Le.letM (fun _ => ?_) | refine Le.join (fun _ => ?_) (fun _ _ hj => ?_) | exact hj _)

def mb_TrailingZeros64_f (k_ : Nat) (x_0 : Int) : Option (Int) :=
  bif x_0 == 0 then
    some 64
  else
    Option.bind (idxM tab_0 (ishr .u64 (imul .u64 (iand .u64 x_0 (ineg .u64 x_0)) 285870213051353865) 58)) fun t2 =>
    letM (IntKind.wrap .i64 t2) fun t3 =>
    some t3

theorem mb_TrailingZeros64_f_le {k_ : Nat} {x_0 : Int} : Le (mb_TrailingZeros64_f k_ x_0) (mb_TrailingZeros64_m x_0) := by
  unfold mb_TrailingZeros64_f mb_TrailingZeros64_m
  repeat' with_reducible (first | exact Le.refl _ | refine Le.bind ?_ (Le.sumK fun _ => ?_) | refine Le.bind ?_ (fun _ => ?_) | refine Le.cond ?_ ?_ | refine Le.letM (fun _ => ?_) | refine Le.join (fun _ => ?_) (fun _ _ hj => ?_) | exact hj _)

def graph_list_l1f (k_ : Nat)  (s15 : Int × (List Int)) : Option (Sum ((List Int)) (Int × (List Int))) :=
  bif s15.1 != 0 then
    Option.bind (mb_TrailingZeros64_f k_ s15.1) fun t18 =>
    Option.bind (appM 8 s15.2 [t18]) fun out19 =>
    letM (iand .u64 s15.1 (isub .u64 s15.1 1)) fun set_21 =>
    some (Sum.inr (set_21, out19))
  else
    some (Sum.inl s15.2)

theorem graph_list_l1f_le {k_ : Nat} {s15 : Int × (List Int)} : Le (graph_list_l1f k_ s15) (graph_list_l1 s15) := by
  unfold graph_list_l1f graph_list_l1
  repeat' with_reducible (first | exact Le.refl _ | refine mb_TrailingZeros64_f_le | refine Le.bind ?_ (Le.sumK fun _ => ?_) | refine Le.bind ?_ (fun _ => ?_) | refine Le.cond ?_ ?_ | refine Le.letM (fun _ => ?_) | refine Le.join (fun _ => ?_) (fun _ _ hj => ?_) | exact hj _)

def graph_list_f (k_ : Nat) (set__0 : Int) : Option (List Int) :=
  Option.bind (loopF k_ (graph_list_l1f k_) (set__0, [])) fun q22 : (List Int) =>
  some q22

theorem graph_list_f_le {k_ : Nat} {set__0 : Int} : Le (graph_list_f k_ set__0) (graph_list_m set__0) := by
  unfold graph_list_f graph_list_m
  repeat' with_reducible (first | exact Le.refl _ | refine Le.loop (fun _ => graph_list_l1f_le) | refine Le.bind ?_ (Le.sumK fun _ => ?_) | refine Le.bind ?_ (fun _ => ?_) | refine Le.cond ?_ ?_ | refine Le.letM (fun _ => ?_) | refine Le.join (fun _ => ?_) (fun _ _ hj => ?_) | exact hj _)

def graph_Attacked_f (k_ : Nat) (g_0 : T_Gra) (i_1 : Int) : Option (List Int) :=
  Option.bind (graph_proper_f k_ g_0) fun t2 =>
  bif decide (i_1 < 0) then
    some []
  else
    bif decide (i_1 ≥ t2.N) then
      some []
    else
      Option.bind (graph_masks_f k_ t2) fun t4 =>
      Option.bind (idxM t4 i_1) fun t6 =>
      Option.bind (graph_list_f k_ t6) fun t7 =>
      some t7

theorem graph_Attacked_f_le {k_ : Nat} {g_0 : T_Gra} {i_1 : Int} : Le (graph_Attacked_f k_ g_0 i_1) (graph_Attacked_m g_0 i_1) := by
  unfold graph_Attacked_f graph_Attacked_m
  repeat' with_reducible (first | exact Le.refl _ | refine graph_proper_f_le | refine graph_masks_f_le | refine graph_list_f_le | refine Le.bind ?_ (Le.sumK fun _ => ?_) | refine Le.bind ?_ (fun _ => ?_) | refine Le.cond ?_ ?_ | refine Le.letM (fun _ => ?_) | refine Le.join (fun _ => ?_) (fun _ _ hj => ?_) | exact hj _)

def grounded_build_l1f (k_ : Nat) (g_0 : T_Gra) (s22 : Int × (List Int)) : Option (Sum ((List Int)) (Int × (List Int))) :=
  bif decide (s22.1 < (g_0.L.length : Int)) then
    Option.bind (idxM g_0.L s22.1) fun t25 =>
    Option.bind (vidxM 40 s22.2 t25.To) fun t27 =>
    Option.bind (vidxM 40 s22.2 t25.To) fun t28 =>
    some (Sum.inr (iadd .i64 s22.1 1, s22.2.set (Int.toNat t25.To) (iadd .i64 t27 1)))
  else
    some (Sum.inl s22.2)

theorem grounded_build_l1f_le {k_ : Nat} {g_0 : T_Gra} {s22 : Int × (List Int)} : Le (grounded_build_l1f k_ g_0 s22) (grounded_build_l1 g_0 s22) := by
  unfold grounded_build_l1f grounded_build_l1
  repeat' with_reducible (first | exact Le.refl _ | refine Le.bind ?_ (Le.sumK fun _ => ?_) | refine Le.bind ?_ (fun _ => ?_) | refine Le.cond ?_ ?_ | refine Le.letM (fun _ => ?_) | refine Le.join (fun _ => ?_) (fun _ _ hj => ?_) | exact hj _)

def grounded_build_l2f (k_ : Nat) (g_0 : T_Gra) (q29 : (List Int)) (s45 : Int × (List Int)) : Option (Sum ((List Int)) (Int × (List Int))) :=
  bif decide (s45.1 < g_0.N) then
    Option.bind (vidxM 40 q29 s45.1) fun t48 =>
    bif t48 == 0 then
      Option.bind (appM 8 s45.2 [s45.1]) fun queue50 =>
      some (Sum.inr (iadd .i64 s45.1 1, queue50))
    else
      some (Sum.inr (iadd .i64 s45.1 1, s45.2))
  else
    some (Sum.inl s45.2)

theorem grounded_build_l2f_le {k_ : Nat} {g_0 : T_Gra} {q29 : (List Int)} {s45 : Int × (List Int)} : Le (grounded_build_l2f k_ g_0 q29 s45) (grounded_build_l2 g_0 q29 s45) := by
  unfold grounded_build_l2f grounded_build_l2
  repeat' with_reducible (first | exact Le.refl _ | refine Le.bind ?_ (Le.sumK fun _ => ?_) | refine Le.bind ?_ (fun _ => ?_) | refine Le.cond ?_ ?_ | refine Le.letM (fun _ => ?_) | refine Le.join (fun _ => ?_) (fun _ _ hj => ?_) | exact hj _)

def grounded_build_l4f (k_ : Nat) (s909 : Int × (List Int) × (List Int) × (List Int) × (List Int)) (s924 : Int × (List Int) × (List Int)) : Option (Sum ((List Int) × (List Int)) (Int × (List Int) × (List Int))) :=
  bif decide (s924.1 < (s909.2.2.2.2.length : Int)) then
    Option.bind (idxM s909.2.2.2.2 s924.1) fun i927 =>
    Option.bind (idxM s924.2.1 i927) fun t928 =>
    Option.bind (idxM s924.2.2 i927) fun t929 =>
    some (Sum.inr (iadd .i64 s924.1 1, s924.2.1.set (Int.toNat i927) 1, s924.2.2.set (Int.toNat i927) s909.1))
  else
    some (Sum.inl (s924.2.1, s924.2.2))

theorem grounded_build_l4f_le {k_ : Nat} {s909 : Int × (List Int) × (List Int) × (List Int) × (List Int)} {s924 : Int × (List Int) × (List Int)} : Le (grounded_build_l4f k_ s909 s924) (grounded_build_l4 s909 s924) := by
  unfold grounded_build_l4f grounded_build_l4
  repeat' with_reducible (first | exact Le.refl _ | refine Le.bind ?_ (Le.sumK fun _ => ?_) | refine Le.bind ?_ (fun _ => ?_) | refine Le.cond ?_ ?_ | refine Le.letM (fun _ => ?_) | refine Le.join (fun _ => ?_) (fun _ _ hj => ?_) | exact hj _)

def grounded_build_l7f (k_ : Nat) (s1278 : Int × (List Int) × (List Int) × (List Int) × (List Int)) (k1281 : Int) (t1286 : List Int) (s1316 : Int × (List Int) × (List Int)) : Option (Sum ((List Int) × (List Int)) (Int × (List Int) × (List Int))) :=
  bif decide (s1316.1 < (t1286.length : Int)) then
    Option.bind (idxM t1286 s1316.1) fun j1319 =>
    Option.bind (vidxM 40 s1316.2.1 j1319) fun t1320 =>
    Option.bind (vidxM 40 s1316.2.1 j1319) fun t1321 =>
    joinM (fun j1324 : Bool =>
        bif j1324 then
          Option.bind (appM 8 s1316.2.2 [j1319]) fun next1328 =>
          some (Sum.inr (iadd .i64 s1316.1 1, s1316.2.1.set (Int.toNat j1319) (isub .i64 t1320 1), next1328))
        else
          some (Sum.inr (iadd .i64 s1316.1 1, s1316.2.1.set (Int.toNat j1319) (isub .i64 t1320 1), s1316.2.2))) fun k1326 =>
    Option.bind (vidxM 40 (s1316.2.1.set (Int.toNat j1319) (isub .i64 t1320 1)) j1319) fun t1322 =>
    bif t1322 == 0 then
      Option.bind (idxM (s1278.2.1.set (Int.toNat k1281) 2) j1319) fun t1323 =>
      k1326 (t1323 == 3)
    else
      k1326 false
  else
    some (Sum.inl (s1316.2.1, s1316.2.2))

theorem grounded_build_l7f_le {k_ : Nat} {s1278 : Int × (List Int) × (List Int) × (List Int) × (List Int)} {k1281 : Int} {t1286 : List Int} {s1316 : Int × (List Int) × (List Int)} : Le (grounded_build_l7f k_ s1278 k1281 t1286 s1316) (grounded_build_l7 s1278 k1281 t1286 s1316) := by
  unfold grounded_build_l7f grounded_build_l7
  repeat' with_reducible (first | exact Le.refl _ | refine Le.bind ?_ (Le.sumK fun _ => ?_) | refine Le.bind ?_ (fun _ => ?_) | refine Le.cond ?_ ?_ | refine Le.letM (fun _ => ?_) | refine Le.join (fun _ => ?_) (fun _ _ hj => ?_) | exact hj _)

def grounded_build_l6f (k_ : Nat) (g_0 : T_Gra) (s909 : Int × (List Int) × (List Int) × (List Int) × (List Int)) (t1222 : List Int) (s1278 : Int × (List Int) × (List Int) × (List Int) × (List Int)) : Option (Sum ((List Int) × (List Int) × (List Int) × (List Int)) (Int × (List Int) × (List Int) × (List Int) × (List Int))) :=
  bif decide (s1278.1 < (t1222.length : Int)) then
    Option.bind (idxM t1222 s1278.1) fun k1281 =>
    Option.bind (idxM s1278.2.1 k1281) fun t1282 =>
    bif t1282 != 3 then
      some (Sum.inr (iadd .i64 s1278.1 1, s1278.2.1, s1278.2.2.1, s1278.2.2.2.1, s1278.2.2.2.2))
    else
      Option.bind (idxM s1278.2.1 k1281) fun t1284 =>
      Option.bind (idxM s1278.2.2.1 k1281) fun t1285 =>
      Option.bind (graph_Attacked_f k_ g_0 k1281) fun t1286 =>
      Option.bind (loopF k_ (grounded_build_l7f k_ s1278 k1281 t1286) (0, s1278.2.2.2.1, s1278.2.2.2.2)) fun q1330 : (List Int) × (List Int) =>
      some (Sum.inr (iadd .i64 s1278.1 1, s1278.2.1.set (Int.toNat k1281) 2, s1278.2.2.1.set (Int.toNat k1281) s909.1, q1330.1, q1330.2))
  else
    some (Sum.inl (s1278.2.1, s1278.2.2.1, s1278.2.2.2.1, s1278.2.2.2.2))

theorem grounded_build_l6f_le {k_ : Nat} {g_0 : T_Gra} {s909 : Int × (List Int) × (List Int) × (List Int) × (List Int)} {t1222 : List Int} {s1278 : Int × (List Int) × (List Int) × (List Int) × (List Int)} : Le (grounded_build_l6f k_ g_0 s909 t1222 s1278) (grounded_build_l6 g_0 s909 t1222 s1278) := by
  unfold grounded_build_l6f grounded_build_l6
  repeat' with_reducible (first | exact Le.refl _ | refine graph_Attacked_f_le | refine Le.loop (fun _ => grounded_build_l7f_le) | refine Le.bind ?_ (Le.sumK fun _ => ?_) | refine Le.bind ?_ (fun _ => ?_) | refine Le.cond ?_ ?_ | refine Le.letM (fun _ => ?_) | refine Le.join (fun _ => ?_) (fun _ _ hj => ?_) | exact hj _)

def grounded_build_l5f (k_ : Nat) (g_0 : T_Gra) (s909 : Int × (List Int) × (List Int) × (List Int) × (List Int)) (s1218 : Int × (List Int) × (List Int) × (List Int) × (List Int)) : Option (Sum ((List Int) × (List Int) × (List Int) × (List Int)) (Int × (List Int) × (List Int) × (List Int) × (List Int))) :=
  bif decide (s1218.1 < (s909.2.2.2.2.length : Int)) then
    Option.bind (idxM s909.2.2.2.2 s1218.1) fun i1221 =>
    Option.bind (graph_Attacked_f k_ g_0 i1221) fun t1222 =>
    Option.bind (loopF k_ (grounded_build_l6f k_ g_0 s909 t1222) (0, s1218.2.1, s1218.2.2.1, s1218.2.2.2.1, s1218.2.2.2.2)) fun q1332 : (List Int) × (List Int) × (List Int) × (List Int) =>
    some (Sum.inr (iadd .i64 s1218.1 1, q1332.1, q1332.2.1, q1332.2.2.1, q1332.2.2.2))
  else
    some (Sum.inl (s1218.2.1, s1218.2.2.1, s1218.2.2.2.1, s1218.2.2.2.2))

theorem grounded_build_l5f_le {k_ : Nat} {g_0 : T_Gra} {s909 : Int × (List Int) × (List Int) × (List Int) × (List Int)} {s1218 : Int × (List Int) × (List Int) × (List Int) × (List Int)} : Le (grounded_build_l5f k_ g_0 s909 s1218) (grounded_build_l5 g_0 s909 s1218) := by
  unfold grounded_build_l5f grounded_build_l5
  repeat' with_reducible (first | exact Le.refl _ | refine graph_Attacked_f_le | refine Le.loop (fun _ => grounded_build_l6f_le) | refine Le.bind ?_ (Le.sumK fun _ => ?_) | refine Le.bind ?_ (fun _ => ?_) | refine Le.cond ?_ ?_ | refine Le.letM (fun _ => ?_) | refine Le.join (fun _ => ?_) (fun _ _ hj => ?_) | exact hj _)

def grounded_build_l3f (k_ : Nat) (g_0 : T_Gra) (s909 : Int × (List Int) × (List Int) × (List Int) × (List Int)) : Option (Sum ((List Int) × (List Int)) (Int × (List Int) × (List Int) × (List Int) × (List Int))) :=
  bif decide ((s909.2.2.2.2.length : Int) > 0) then
    Option.bind (loopF k_ (grounded_build_l4f k_ s909) (0, s909.2.1, s909.2.2.1)) fun q930 : (List Int) × (List Int) =>
    Option.bind (loopF k_ (grounded_build_l5f k_ g_0 s909) (0, q930.1, q930.2, s909.2.2.2.1, [])) fun q1334 : (List Int) × (List Int) × (List Int) × (List Int) =>
    letM (iadd .i64 s909.1 1) fun round1336 =>
    some (Sum.inr (round1336, q1334.1, q1334.2.1, q1334.2.2.1, q1334.2.2.2))
  else
    some (Sum.inl (s909.2.1, s909.2.2.1))

theorem grounded_build_l3f_le {k_ : Nat} {g_0 : T_Gra} {s909 : Int × (List Int) × (List Int) × (List Int) × (List Int)} : Le (grounded_build_l3f k_ g_0 s909) (grounded_build_l3 g_0 s909) := by
  unfold grounded_build_l3f grounded_build_l3
  repeat' with_reducible (first | exact Le.refl _ | refine Le.loop (fun _ => grounded_build_l4f_le) | refine Le.loop (fun _ => grounded_build_l5f_le) | refine Le.bind ?_ (Le.sumK fun _ => ?_) | refine Le.bind ?_ (fun _ => ?_) | refine Le.cond ?_ ?_ | refine Le.letM (fun _ => ?_) | refine Le.join (fun _ => ?_) (fun _ _ hj => ?_) | exact hj _)

def grounded_build_f (k_ : Nat) (g_0 : T_Gra) : Option (List Int × List Int) :=
  Option.bind (slices_Repeat_int_int_f k_ [3] g_0.N) fun labels3 =>
  Option.bind (mkM 8 0 g_0.N) fun ranks5 =>
  Option.bind (loopF k_ (grounded_build_l1f k_ g_0) (0, (List.replicate 40 0))) fun q29 : (List Int) =>
  Option.bind (loopF k_ (grounded_build_l2f k_ g_0 q29) (0, [])) fun q52 : (List Int) =>
  Option.bind (loopF k_ (grounded_build_l3f k_ g_0) (1, labels3, ranks5, q29, q52)) fun q1337 : (List Int) × (List Int) =>
  some (q1337.1, q1337.2)

theorem grounded_build_f_le {k_ : Nat} {g_0 : T_Gra} : Le (grounded_build_f k_ g_0) (grounded_build_m g_0) := by
  unfold grounded_build_f grounded_build_m
  repeat' with_reducible (first | exact Le.refl _ | refine slices_Repeat_int_int_f_le | refine Le.loop (fun _ => grounded_build_l1f_le) | refine Le.loop (fun _ => grounded_build_l2f_le) | refine Le.loop (fun _ => grounded_build_l3f_le) | refine Le.bind ?_ (Le.sumK fun _ => ?_) | refine Le.bind ?_ (fun _ => ?_) | refine Le.cond ?_ ?_ | refine Le.letM (fun _ => ?_) | refine Le.join (fun _ => ?_) (fun _ _ hj => ?_) | exact hj _)

def grounded_Label_f (k_ : Nat) (g_0 : T_Gra) : Option (List Int) :=
  Option.bind (grounded_build_f k_ g_0) fun t2 =>
  some t2.1

theorem grounded_Label_f_le {k_ : Nat} {g_0 : T_Gra} : Le (grounded_Label_f k_ g_0) (grounded_Label_m g_0) := by
  unfold grounded_Label_f grounded_Label_m
  repeat' with_reducible (first | exact Le.refl _ | refine grounded_build_f_le | refine Le.bind ?_ (Le.sumK fun _ => ?_) | refine Le.bind ?_ (fun _ => ?_) | refine Le.cond ?_ ?_ | refine Le.letM (fun _ => ?_) | refine Le.join (fun _ => ?_) (fun _ _ hj => ?_) | exact hj _)

def pc_Decide_l1f (k_ : Nat) (l_0 : T_Lib) (t2 : List Int × T_Gra × Int) (labels6 : List Int) (s18 : Int) : Option (Sum ((Sum (Int × Int × Int) (Unit))) (Int)) :=
  bif decide (s18 < (t2.1.length : Int)) then
    Option.bind (idxM t2.1 s18) fun i21 =>
    joinM (fun j23 : Bool =>
        bif j23 then
          Option.bind (idxM l_0.Cases i21) fun t27 =>
          some (Sum.inl (Sum.inl (t27.Winner, i21, 0)))
        else
          some (Sum.inr (iadd .i64 s18 1))) fun k25 =>
    bif decide (s18 < (labels6.length : Int)) then
      Option.bind (idxM labels6 s18) fun t22 =>
      k25 (t22 == 1)
    else
      k25 false
  else
    some (Sum.inl (Sum.inr ()))

theorem pc_Decide_l1f_le {k_ : Nat} {l_0 : T_Lib} {t2 : List Int × T_Gra × Int} {labels6 : List Int} {s18 : Int} : Le (pc_Decide_l1f k_ l_0 t2 labels6 s18) (pc_Decide_l1 l_0 t2 labels6 s18) := by
  unfold pc_Decide_l1f pc_Decide_l1
  repeat' with_reducible (first | exact Le.refl _ | refine Le.bind ?_ (Le.sumK fun _ => ?_) | refine Le.bind ?_ (fun _ => ?_) | refine Le.cond ?_ ?_ | refine Le.letM (fun _ => ?_) | refine Le.join (fun _ => ?_) (fun _ _ hj => ?_) | exact hj _)

def pc_Decide_f (k_ : Nat) (l_0 : T_Lib) (facts_1 : (List ByteArray)) : Option (Int × Int × Int) :=
  Option.bind (pc_Citable_f k_ l_0 facts_1) fun t2 =>
  bif t2.2.2 != 0 then
    some (0, 0, t2.2.2)
  else
    Option.bind (grounded_Label_f k_ t2.2.1) fun labels6 =>
    Option.bind (loopF k_ (pc_Decide_l1f k_ l_0 t2 labels6) 0) (sumK (fun a : Int × Int × Int => some a) fun q28 : Unit =>
      some (0, (-1), 0))

theorem pc_Decide_f_le {k_ : Nat} {l_0 : T_Lib} {facts_1 : (List ByteArray)} : Le (pc_Decide_f k_ l_0 facts_1) (pc_Decide_m l_0 facts_1) := by
  unfold pc_Decide_f pc_Decide_m
  repeat' with_reducible (first | exact Le.refl _ | refine pc_Citable_f_le | refine grounded_Label_f_le | refine Le.loop (fun _ => pc_Decide_l1f_le) | refine Le.bind ?_ (Le.sumK fun _ => ?_) | refine Le.bind ?_ (fun _ => ?_) | refine Le.cond ?_ ?_ | refine Le.letM (fun _ => ?_) | refine Le.join (fun _ => ?_) (fun _ _ hj => ?_) | exact hj _)

def keep_Ints_l1f (k_ : Nat) (a__0 : (List Int)) (b_1 : (List Int)) (s8 : Int) : Option (Sum ((Sum (Bool) (Unit))) (Int)) :=
  bif decide (s8 < (a__0.length : Int)) then
    Option.bind (idxM a__0 s8) fun t11 =>
    Option.bind (idxM b_1 s8) fun t12 =>
    bif t11 != t12 then
      some (Sum.inl (Sum.inl false))
    else
      some (Sum.inr (iadd .i64 s8 1))
  else
    some (Sum.inl (Sum.inr ()))

theorem keep_Ints_l1f_le {k_ : Nat} {a__0 : (List Int)} {b_1 : (List Int)} {s8 : Int} : Le (keep_Ints_l1f k_ a__0 b_1 s8) (keep_Ints_l1 a__0 b_1 s8) := by
  unfold keep_Ints_l1f keep_Ints_l1
  repeat' with_reducible (first | exact Le.refl _ | refine Le.bind ?_ (Le.sumK fun _ => ?_) | refine Le.bind ?_ (fun _ => ?_) | refine Le.cond ?_ ?_ | refine Le.letM (fun _ => ?_) | refine Le.join (fun _ => ?_) (fun _ _ hj => ?_) | exact hj _)

def keep_Ints_f (k_ : Nat) (a__0 : (List Int)) (b_1 : (List Int)) : Option (Bool) :=
  bif (a__0.length : Int) != (b_1.length : Int) then
    some false
  else
    Option.bind (loopF k_ (keep_Ints_l1f k_ a__0 b_1) 0) (sumK (fun a : Bool => some a) fun q14 : Unit =>
      some true)

theorem keep_Ints_f_le {k_ : Nat} {a__0 : (List Int)} {b_1 : (List Int)} : Le (keep_Ints_f k_ a__0 b_1) (keep_Ints_m a__0 b_1) := by
  unfold keep_Ints_f keep_Ints_m
  repeat' with_reducible (first | exact Le.refl _ | refine Le.loop (fun _ => keep_Ints_l1f_le) | refine Le.bind ?_ (Le.sumK fun _ => ?_) | refine Le.bind ?_ (fun _ => ?_) | refine Le.cond ?_ ?_ | refine Le.letM (fun _ => ?_) | refine Le.join (fun _ => ?_) (fun _ _ hj => ?_) | exact hj _)

def ref38_Same_l1f (k_ : Nat) (a__0 : (List ByteArray)) (b_1 : (List ByteArray)) (s8 : Int) : Option (Sum ((Sum (Bool) (Unit))) (Int)) :=
  bif decide (s8 < (a__0.length : Int)) then
    Option.bind (idxM a__0 s8) fun t11 =>
    Option.bind (idxM b_1 s8) fun t12 =>
    bif !(t11.toList == t12.toList) then
      some (Sum.inl (Sum.inl false))
    else
      some (Sum.inr (iadd .i64 s8 1))
  else
    some (Sum.inl (Sum.inr ()))

theorem ref38_Same_l1f_le {k_ : Nat} {a__0 : (List ByteArray)} {b_1 : (List ByteArray)} {s8 : Int} : Le (ref38_Same_l1f k_ a__0 b_1 s8) (ref38_Same_l1 a__0 b_1 s8) := by
  unfold ref38_Same_l1f ref38_Same_l1
  repeat' with_reducible (first | exact Le.refl _ | refine Le.bind ?_ (Le.sumK fun _ => ?_) | refine Le.bind ?_ (fun _ => ?_) | refine Le.cond ?_ ?_ | refine Le.letM (fun _ => ?_) | refine Le.join (fun _ => ?_) (fun _ _ hj => ?_) | exact hj _)

def ref38_Same_f (k_ : Nat) (a__0 : (List ByteArray)) (b_1 : (List ByteArray)) : Option (Bool) :=
  bif (a__0.length : Int) != (b_1.length : Int) then
    some false
  else
    Option.bind (loopF k_ (ref38_Same_l1f k_ a__0 b_1) 0) (sumK (fun a : Bool => some a) fun q14 : Unit =>
      some true)

theorem ref38_Same_f_le {k_ : Nat} {a__0 : (List ByteArray)} {b_1 : (List ByteArray)} : Le (ref38_Same_f k_ a__0 b_1) (ref38_Same_m a__0 b_1) := by
  unfold ref38_Same_f ref38_Same_m
  repeat' with_reducible (first | exact Le.refl _ | refine Le.loop (fun _ => ref38_Same_l1f_le) | refine Le.bind ?_ (Le.sumK fun _ => ?_) | refine Le.bind ?_ (fun _ => ?_) | refine Le.cond ?_ ?_ | refine Le.letM (fun _ => ?_) | refine Le.join (fun _ => ?_) (fun _ _ hj => ?_) | exact hj _)

def law38_awake_f (k_ : Nat)  : Option (Bool) :=
  Option.bind (law38_sides_f k_ ) fun t1 =>
  Option.bind (pc_Reasons_f k_ (T_Lib.mk t1 [(T_Cas.mk (ByteArray.mk #[99]) [(ByteArray.mk #[97]), (ByteArray.mk #[98]), (ByteArray.mk #[120])] 1 [(ByteArray.mk #[97])])]) [(ByteArray.mk #[97]), (ByteArray.mk #[120])]) fun t3 =>
  Option.bind (pc_Strong_f k_ (T_Lib.mk t1 [(T_Cas.mk (ByteArray.mk #[99]) [(ByteArray.mk #[97]), (ByteArray.mk #[98]), (ByteArray.mk #[120])] 1 [(ByteArray.mk #[97])])]) [(ByteArray.mk #[97]), (ByteArray.mk #[120])]) fun t5 =>
  Option.bind (pc_Distinguish_f k_ (T_Lib.mk t1 [(T_Cas.mk (ByteArray.mk #[99]) [(ByteArray.mk #[97]), (ByteArray.mk #[98]), (ByteArray.mk #[120])] 1 [(ByteArray.mk #[97])])]) 0 [(ByteArray.mk #[97]), (ByteArray.mk #[120])]) fun t7 =>
  Option.bind (pc_Distinguish_f k_ (T_Lib.mk t1 [(T_Cas.mk (ByteArray.mk #[99]) [(ByteArray.mk #[97]), (ByteArray.mk #[98]), (ByteArray.mk #[120])] 1 [(ByteArray.mk #[97])])]) 0 [(ByteArray.mk #[97]), (ByteArray.mk #[98]), (ByteArray.mk #[120]), (ByteArray.mk #[121])]) fun t9 =>
  Option.bind (pc_Decide_f k_ (T_Lib.mk t1 [(T_Cas.mk (ByteArray.mk #[99]) [(ByteArray.mk #[97]), (ByteArray.mk #[98]), (ByteArray.mk #[120])] 1 [(ByteArray.mk #[97])])]) [(ByteArray.mk #[97]), (ByteArray.mk #[120])]) fun t11 =>
  bif t3.2 == 0 then
    bif t5.2 == 0 then
      bif t7.2 == 0 then
        bif t9.2 == 0 then
          bif t11.2.2 == 0 then
            Option.bind (keep_Ints_f k_ t3.1.For [0]) fun t12 =>
            bif t12 then
              bif (t5.1.For.length : Int) == 0 then
                Option.bind (ref38_Same_f k_ t7.1 [(ByteArray.mk #[98])]) fun t13 =>
                bif t13 then
                  Option.bind (ref38_Same_f k_ t9.1 [(ByteArray.mk #[121])]) fun t14 =>
                  bif t14 then
                    bif t11.1 == 1 then
                      some (t11.2.1 == 0)
                    else
                      some false
                  else
                    some false
                else
                  some false
              else
                some false
            else
              some false
          else
            some false
        else
          some false
      else
        some false
    else
      some false
  else
    some false

theorem law38_awake_f_le {k_ : Nat}  : Le (law38_awake_f k_ ) (law38_awake_m ) := by
  unfold law38_awake_f law38_awake_m
  repeat' with_reducible (first | exact Le.refl _ | refine law38_sides_f_le | refine pc_Reasons_f_le | refine pc_Strong_f_le | refine pc_Distinguish_f_le | refine pc_Decide_f_le | refine keep_Ints_f_le | refine ref38_Same_f_le | refine Le.bind ?_ (Le.sumK fun _ => ?_) | refine Le.bind ?_ (fun _ => ?_) | refine Le.cond ?_ ?_ | refine Le.letM (fun _ => ?_) | refine Le.join (fun _ => ?_) (fun _ _ hj => ?_) | exact hj _)

end Go.Dc
