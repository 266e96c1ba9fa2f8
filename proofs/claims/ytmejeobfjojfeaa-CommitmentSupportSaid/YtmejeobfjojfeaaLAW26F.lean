/- Part LAW26.F of a proof: lemmas. -/
import Derived.Test.YtmejeobfjojfeaaLAW26W
import Derived.Test.YtmejeobfjojfeaaMFuelM
set_option linter.unusedVariables false
set_option maxRecDepth 100000
set_option maxHeartbeats 1000000
namespace Go.Dc

def commitment_New_f (k_ : Nat) (n_0 : Int) : Option (T_api_Stores × Int) :=
 bif decide (n_0 < 0) then
 some (((T_api_Stores.mk []), 1))
 else
 bif decide (n_0 > 6) then
 some (((T_api_Stores.mk []), 1))
 else
 Option.bind (mkM 24 [] n_0) fun t1 =>
 some (((T_api_Stores.mk t1), 0))

theorem commitment_New_f_le {k_ : Nat} {n_0 : Int} : Le (commitment_New_f k_ n_0) (commitment_New_m n_0) := by
 unfold commitment_New_f commitment_New_m
 repeat' with_reducible (first | exact Le.refl _ | refine Le.bind ?_ (fun _ => ?_) | refine Le.cond ?_ ?_)

def commitment_Validate_1_f (k_ : Nat) (l_0 : (List T_api_Commitment)) : Option (Bool) :=
 some (decide (((l_0.length : Int)) > 40))

theorem commitment_Validate_1_f_le {k_ : Nat} {l_0 : (List T_api_Commitment)} : Le (commitment_Validate_1_f k_ l_0) (commitment_Validate_1_m l_0) := by
 unfold commitment_Validate_1_f commitment_Validate_1_m
 repeat' with_reducible (first | exact Le.refl _)

def sIFC_l1f (k_ : Nat) (s_0 : (List (List T_api_Commitment))) (s7 : Int) : Option (Sum (Sum (Int) (Unit)) (Int)) :=
 bif decide (s7 < ((s_0.length : Int))) then
 Option.bind (idxM s_0 s7) fun t8 =>
 Option.bind ((commitment_Validate_1_f k_) t8) fun t9 =>
 bif t9 then
 some (Sum.inl (Sum.inl s7))
 else
 some (Sum.inr (iadd .i64 s7 1))
 else
 some (Sum.inl (Sum.inr (())))

theorem sIFC_l1f_le {k_ : Nat} {s_0 : (List (List T_api_Commitment))} {s7 : Int} : Le (sIFC_l1f k_ s_0 s7) (sIFC_l1 s_0 s7) := by
 unfold sIFC_l1f sIFC_l1
 repeat' with_reducible (first | exact Le.refl _ | refine commitment_Validate_1_f_le | refine Le.bind ?_ (fun _ => ?_) | refine Le.cond ?_ ?_)

def sIFC_f (k_ : Nat) (s_0 : (List (List T_api_Commitment))) : Option (Int) :=
 Option.bind (loopF k_ ((sIFC_l1f k_) s_0) 0) (sumK (fun a : Int => some a) fun q10 : Unit =>
 some ((-1)))

theorem sIFC_f_le {k_ : Nat} {s_0 : (List (List T_api_Commitment))} : Le (sIFC_f k_ s_0) (sIFC_m s_0) := by
 unfold sIFC_f sIFC_m
 repeat' with_reducible (first | exact Le.refl _ | refine Le.loop (fun _ => sIFC_l1f_le) | refine Le.bind ?_ (Le.sumKK (fun _ => ?_) fun _ => ?_) | refine Le.bind ?_ (Le.sumK fun _ => ?_) | refine Le.bind ?_ (fun _ => ?_))

def sCFC_f (k_ : Nat) (s_0 : (List (List T_api_Commitment))) : Option (Bool) :=
 Option.bind ((sIFC_f k_) s_0) fun t1 =>
 some (decide (t1 ≥ 0))

theorem sCFC_f_le {k_ : Nat} {s_0 : (List (List T_api_Commitment))} : Le (sCFC_f k_ s_0) (sCFC_m s_0) := by
 unfold sCFC_f sCFC_m
 repeat' with_reducible (first | exact Le.refl _ | refine sIFC_f_le | refine Le.bind ?_ (fun _ => ?_))

def literal_ValidName_l1f (k_ : Nat) (s_0 : ByteArray) (s9 : Int) : Option (Sum (Sum (Bool) (Unit)) (Int)) :=
 bif decide (s9 < ((s_0.size : Int))) then
 Option.bind (sidxM s_0 s9) fun c10 =>
 joinM (fun j12 : Bool =>
 bif j12 then
 some (Sum.inr (iadd .i64 s9 1))
 else
 bif decide (s9 > 0) then
 bif decide (c10 ≥ 48) then
 bif decide (c10 ≤ 57) then
 some (Sum.inr (iadd .i64 s9 1))
 else
 bif (c10 : Int) == 95 then
 some (Sum.inr (iadd .i64 s9 1))
 else
 some (Sum.inl (Sum.inl false))
 else
 bif (c10 : Int) == 95 then
 some (Sum.inr (iadd .i64 s9 1))
 else
 some (Sum.inl (Sum.inl false))
 else
 some (Sum.inl (Sum.inl false))) fun k11 =>
 bif decide (c10 ≥ 97) then
 k11 (decide (c10 ≤ 122))
 else
 k11 false
 else
 some (Sum.inl (Sum.inr (())))

theorem literal_ValidName_l1f_le {k_ : Nat} {s_0 : ByteArray} {s9 : Int} : Le (literal_ValidName_l1f k_ s_0 s9) (literal_ValidName_l1 s_0 s9) := by
 unfold literal_ValidName_l1f literal_ValidName_l1
 repeat' with_reducible (first | exact Le.refl _ | refine Le.bind ?_ (fun _ => ?_) | refine Le.cond ?_ ?_ | refine Le.join (fun _ => ?_) (fun _ _ hj => ?_) | exact hj _)

def literal_ValidName_f (k_ : Nat) (s_0 : ByteArray) : Option (Bool) :=
 bif ((s_0.size : Int) : Int) == 0 then
 some false
 else
 bif decide (((s_0.size : Int)) > 12) then
 some false
 else
 Option.bind (loopF k_ ((literal_ValidName_l1f k_) s_0) 0) (sumK (fun a : Bool => some a) fun q13 : Unit =>
 some true)

theorem literal_ValidName_f_le {k_ : Nat} {s_0 : ByteArray} : Le (literal_ValidName_f k_ s_0) (literal_ValidName_m s_0) := by
 unfold literal_ValidName_f literal_ValidName_m
 repeat' with_reducible (first | exact Le.refl _ | refine Le.loop (fun _ => literal_ValidName_l1f_le) | refine Le.bind ?_ (Le.sumKK (fun _ => ?_) fun _ => ?_) | refine Le.bind ?_ (Le.sumK fun _ => ?_) | refine Le.bind ?_ (fun _ => ?_) | refine Le.cond ?_ ?_)

def literal_Valid_f (k_ : Nat) (x_0 : T_api_Literal) : Option (Bool) :=
 Option.bind ((literal_ValidName_f k_) x_0.Name) fun t1 =>
 some t1

theorem literal_Valid_f_le {k_ : Nat} {x_0 : T_api_Literal} : Le (literal_Valid_f k_ x_0) (literal_Valid_m x_0) := by
 unfold literal_Valid_f literal_Valid_m
 repeat' with_reducible (first | exact Le.refl _ | refine literal_ValidName_f_le | refine Le.bind ?_ (fun _ => ?_))

def commitment_sound_1_f (k_ : Nat) (x_0 : T_api_Literal) : Option (Bool) :=
 Option.bind ((literal_Valid_f k_) x_0) fun t1 =>
 some (!t1)

theorem commitment_sound_1_f_le {k_ : Nat} {x_0 : T_api_Literal} : Le (commitment_sound_1_f k_ x_0) (commitment_sound_1_m x_0) := by
 unfold commitment_sound_1_f commitment_sound_1_m
 repeat' with_reducible (first | exact Le.refl _ | refine literal_Valid_f_le | refine Le.bind ?_ (fun _ => ?_))

def sIFL_l1f (k_ : Nat) (s_0 : (List T_api_Literal)) (s7 : Int) : Option (Sum (Sum (Int) (Unit)) (Int)) :=
 bif decide (s7 < ((s_0.length : Int))) then
 Option.bind (idxM s_0 s7) fun t8 =>
 Option.bind ((commitment_sound_1_f k_) t8) fun t9 =>
 bif t9 then
 some (Sum.inl (Sum.inl s7))
 else
 some (Sum.inr (iadd .i64 s7 1))
 else
 some (Sum.inl (Sum.inr (())))

theorem sIFL_l1f_le {k_ : Nat} {s_0 : (List T_api_Literal)} {s7 : Int} : Le (sIFL_l1f k_ s_0 s7) (sIFL_l1 s_0 s7) := by
 unfold sIFL_l1f sIFL_l1
 repeat' with_reducible (first | exact Le.refl _ | refine commitment_sound_1_f_le | refine Le.bind ?_ (fun _ => ?_) | refine Le.cond ?_ ?_)

def sIFL_f (k_ : Nat) (s_0 : (List T_api_Literal)) : Option (Int) :=
 Option.bind (loopF k_ ((sIFL_l1f k_) s_0) 0) (sumK (fun a : Int => some a) fun q10 : Unit =>
 some ((-1)))

theorem sIFL_f_le {k_ : Nat} {s_0 : (List T_api_Literal)} : Le (sIFL_f k_ s_0) (sIFL_m s_0) := by
 unfold sIFL_f sIFL_m
 repeat' with_reducible (first | exact Le.refl _ | refine Le.loop (fun _ => sIFL_l1f_le) | refine Le.bind ?_ (Le.sumKK (fun _ => ?_) fun _ => ?_) | refine Le.bind ?_ (Le.sumK fun _ => ?_) | refine Le.bind ?_ (fun _ => ?_))

def sCFL_f (k_ : Nat) (s_0 : (List T_api_Literal)) : Option (Bool) :=
 Option.bind ((sIFL_f k_) s_0) fun t1 =>
 some (decide (t1 ≥ 0))

theorem sCFL_f_le {k_ : Nat} {s_0 : (List T_api_Literal)} : Le (sCFL_f k_ s_0) (sCFL_m s_0) := by
 unfold sCFL_f sCFL_m
 repeat' with_reducible (first | exact Le.refl _ | refine sIFL_f_le | refine Le.bind ?_ (fun _ => ?_))

def commitment_sound_f (k_ : Nat) (l_0 : (List T_api_Literal)) : Option (Bool) :=
 Option.bind ((sCFL_f k_) l_0) fun t1 =>
 some (!t1)

theorem commitment_sound_f_le {k_ : Nat} {l_0 : (List T_api_Literal)} : Le (commitment_sound_f k_ l_0) (commitment_sound_m l_0) := by
 unfold commitment_sound_f commitment_sound_m
 repeat' with_reducible (first | exact Le.refl _ | refine sCFL_f_le | refine Le.bind ?_ (fun _ => ?_))

def commitment_Validate_3_f (k_ : Nat) (c_0 : T_api_Commitment) : Option (Bool) :=
 Option.bind ((literal_Valid_f k_) c_0.Claim) fun t1 =>
 bif !t1 then
 some true
 else
 Option.bind ((commitment_sound_f k_) c_0.Grounds) fun t2 =>
 some (!t2)

theorem commitment_Validate_3_f_le {k_ : Nat} {c_0 : T_api_Commitment} : Le (commitment_Validate_3_f k_ c_0) (commitment_Validate_3_m c_0) := by
 unfold commitment_Validate_3_f commitment_Validate_3_m
 repeat' with_reducible (first | exact Le.refl _ | refine literal_Valid_f_le | refine commitment_sound_f_le | refine Le.bind ?_ (fun _ => ?_) | refine Le.cond ?_ ?_)

def sIFC_s1__l1f (k_ : Nat) (s_0 : (List T_api_Commitment)) (s7 : Int) : Option (Sum (Sum (Int) (Unit)) (Int)) :=
 bif decide (s7 < ((s_0.length : Int))) then
 Option.bind (idxM s_0 s7) fun t8 =>
 Option.bind ((commitment_Validate_3_f k_) t8) fun t9 =>
 bif t9 then
 some (Sum.inl (Sum.inl s7))
 else
 some (Sum.inr (iadd .i64 s7 1))
 else
 some (Sum.inl (Sum.inr (())))

theorem sIFC_s1__l1f_le {k_ : Nat} {s_0 : (List T_api_Commitment)} {s7 : Int} : Le (sIFC_s1__l1f k_ s_0 s7) (sIFC_s1__l1 s_0 s7) := by
 unfold sIFC_s1__l1f sIFC_s1__l1
 repeat' with_reducible (first | exact Le.refl _ | refine commitment_Validate_3_f_le | refine Le.bind ?_ (fun _ => ?_) | refine Le.cond ?_ ?_)

def sIFC_s1__f (k_ : Nat) (s_0 : (List T_api_Commitment)) : Option (Int) :=
 Option.bind (loopF k_ ((sIFC_s1__l1f k_) s_0) 0) (sumK (fun a : Int => some a) fun q10 : Unit =>
 some ((-1)))

theorem sIFC_s1__f_le {k_ : Nat} {s_0 : (List T_api_Commitment)} : Le (sIFC_s1__f k_ s_0) (sIFC_s1__m s_0) := by
 unfold sIFC_s1__f sIFC_s1__m
 repeat' with_reducible (first | exact Le.refl _ | refine Le.loop (fun _ => sIFC_s1__l1f_le) | refine Le.bind ?_ (Le.sumKK (fun _ => ?_) fun _ => ?_) | refine Le.bind ?_ (Le.sumK fun _ => ?_) | refine Le.bind ?_ (fun _ => ?_))

def sCFC_s1__f (k_ : Nat) (s_0 : (List T_api_Commitment)) : Option (Bool) :=
 Option.bind ((sIFC_s1__f k_) s_0) fun t1 =>
 some (decide (t1 ≥ 0))

theorem sCFC_s1__f_le {k_ : Nat} {s_0 : (List T_api_Commitment)} : Le (sCFC_s1__f k_ s_0) (sCFC_s1__m s_0) := by
 unfold sCFC_s1__f sCFC_s1__m
 repeat' with_reducible (first | exact Le.refl _ | refine sIFC_s1__f_le | refine Le.bind ?_ (fun _ => ?_))

def commitment_some_1_s1_f (k_ : Nat) (l_0 : (List T_api_Commitment)) : Option (Bool) :=
 Option.bind ((sCFC_s1__f k_) l_0) fun t1 =>
 some t1

theorem commitment_some_1_s1_f_le {k_ : Nat} {l_0 : (List T_api_Commitment)} : Le (commitment_some_1_s1_f k_ l_0) (commitment_some_1_s1_m l_0) := by
 unfold commitment_some_1_s1_f commitment_some_1_s1_m
 repeat' with_reducible (first | exact Le.refl _ | refine sCFC_s1__f_le | refine Le.bind ?_ (fun _ => ?_))

def sIFC_s2_l1f (k_ : Nat) (s_0 : (List (List T_api_Commitment))) (s7 : Int) : Option (Sum (Sum (Int) (Unit)) (Int)) :=
 bif decide (s7 < ((s_0.length : Int))) then
 Option.bind (idxM s_0 s7) fun t8 =>
 Option.bind ((commitment_some_1_s1_f k_) t8) fun t9 =>
 bif t9 then
 some (Sum.inl (Sum.inl s7))
 else
 some (Sum.inr (iadd .i64 s7 1))
 else
 some (Sum.inl (Sum.inr (())))

theorem sIFC_s2_l1f_le {k_ : Nat} {s_0 : (List (List T_api_Commitment))} {s7 : Int} : Le (sIFC_s2_l1f k_ s_0 s7) (sIFC_s2_l1 s_0 s7) := by
 unfold sIFC_s2_l1f sIFC_s2_l1
 repeat' with_reducible (first | exact Le.refl _ | refine commitment_some_1_s1_f_le | refine Le.bind ?_ (fun _ => ?_) | refine Le.cond ?_ ?_)

def sIFC_s2_f (k_ : Nat) (s_0 : (List (List T_api_Commitment))) : Option (Int) :=
 Option.bind (loopF k_ ((sIFC_s2_l1f k_) s_0) 0) (sumK (fun a : Int => some a) fun q10 : Unit =>
 some ((-1)))

theorem sIFC_s2_f_le {k_ : Nat} {s_0 : (List (List T_api_Commitment))} : Le (sIFC_s2_f k_ s_0) (sIFC_s2_m s_0) := by
 unfold sIFC_s2_f sIFC_s2_m
 repeat' with_reducible (first | exact Le.refl _ | refine Le.loop (fun _ => sIFC_s2_l1f_le) | refine Le.bind ?_ (Le.sumKK (fun _ => ?_) fun _ => ?_) | refine Le.bind ?_ (Le.sumK fun _ => ?_) | refine Le.bind ?_ (fun _ => ?_))

def sCFC_s2_f (k_ : Nat) (s_0 : (List (List T_api_Commitment))) : Option (Bool) :=
 Option.bind ((sIFC_s2_f k_) s_0) fun t1 =>
 some (decide (t1 ≥ 0))

theorem sCFC_s2_f_le {k_ : Nat} {s_0 : (List (List T_api_Commitment))} : Le (sCFC_s2_f k_ s_0) (sCFC_s2_m s_0) := by
 unfold sCFC_s2_f sCFC_s2_m
 repeat' with_reducible (first | exact Le.refl _ | refine sIFC_s2_f_le | refine Le.bind ?_ (fun _ => ?_))

def commitment_some_s1_f (k_ : Nat) (s_0 : T_api_Stores) : Option (Bool) :=
 Option.bind ((sCFC_s2_f k_) s_0.L) fun t1 =>
 some t1

theorem commitment_some_s1_f_le {k_ : Nat} {s_0 : T_api_Stores} : Le (commitment_some_s1_f k_ s_0) (commitment_some_s1_m s_0) := by
 unfold commitment_some_s1_f commitment_some_s1_m
 repeat' with_reducible (first | exact Le.refl _ | refine sCFC_s2_f_le | refine Le.bind ?_ (fun _ => ?_))

def slices_Index_api_Literal_api_Literal_l1f (k_ : Nat) (s_0 : (List T_api_Literal)) (v_1 : T_api_Literal) (s5 : Int) : Option (Sum (Sum (Int) (Unit)) (Int)) :=
 bif decide (s5 < ((s_0.length : Int))) then
 Option.bind (idxM s_0 s5) fun t6 =>
 bif decide (v_1 = t6) then
 some (Sum.inl (Sum.inl s5))
 else
 some (Sum.inr (iadd .i64 s5 1))
 else
 some (Sum.inl (Sum.inr (())))

theorem slices_Index_api_Literal_api_Literal_l1f_le {k_ : Nat} {s_0 : (List T_api_Literal)} {v_1 : T_api_Literal} {s5 : Int} : Le (slices_Index_api_Literal_api_Literal_l1f k_ s_0 v_1 s5) (slices_Index_api_Literal_api_Literal_l1 s_0 v_1 s5) := by
 unfold slices_Index_api_Literal_api_Literal_l1f slices_Index_api_Literal_api_Literal_l1
 repeat' with_reducible (first | exact Le.refl _ | refine Le.bind ?_ (fun _ => ?_) | refine Le.cond ?_ ?_)

def slices_Index_api_Literal_api_Literal_f (k_ : Nat) (s_0 : (List T_api_Literal)) (v_1 : T_api_Literal) : Option (Int) :=
 Option.bind (loopF k_ ((slices_Index_api_Literal_api_Literal_l1f k_) s_0 v_1) 0) (sumK (fun a : Int => some a) fun q7 : Unit =>
 some ((-1)))

theorem slices_Index_api_Literal_api_Literal_f_le {k_ : Nat} {s_0 : (List T_api_Literal)} {v_1 : T_api_Literal} : Le (slices_Index_api_Literal_api_Literal_f k_ s_0 v_1) (slices_Index_api_Literal_api_Literal_m s_0 v_1) := by
 unfold slices_Index_api_Literal_api_Literal_f slices_Index_api_Literal_api_Literal_m
 repeat' with_reducible (first | exact Le.refl _ | refine Le.loop (fun _ => slices_Index_api_Literal_api_Literal_l1f_le) | refine Le.bind ?_ (Le.sumKK (fun _ => ?_) fun _ => ?_) | refine Le.bind ?_ (Le.sumK fun _ => ?_) | refine Le.bind ?_ (fun _ => ?_))

def sCnL_f (k_ : Nat) (s_0 : (List T_api_Literal)) (v_1 : T_api_Literal) : Option (Bool) :=
 Option.bind ((slices_Index_api_Literal_api_Literal_f k_) s_0 v_1) fun t1 =>
 some (decide (t1 ≥ 0))

theorem sCnL_f_le {k_ : Nat} {s_0 : (List T_api_Literal)} {v_1 : T_api_Literal} : Le (sCnL_f k_ s_0 v_1) (sCnL_m s_0 v_1) := by
 unfold sCnL_f sCnL_m
 repeat' with_reducible (first | exact Le.refl _ | refine slices_Index_api_Literal_api_Literal_f_le | refine Le.bind ?_ (fun _ => ?_))

def commitment_Validate_6_f (k_ : Nat) (c_0 : T_api_Commitment) : Option (Bool) :=
 bif c_0.Conceded then
 bif c_0.Burden then
 some true
 else
 bif c_0.Conceded then
 bif decide (((c_0.Grounds.length : Int)) > 0) then
 some true
 else
 Option.bind ((sCnL_f k_) c_0.Grounds c_0.Claim) fun t1 =>
 some t1
 else
 Option.bind ((sCnL_f k_) c_0.Grounds c_0.Claim) fun t2 =>
 some t2
 else
 bif decide (((c_0.Grounds.length : Int)) > 0) then
 bif c_0.Burden then
 some true
 else
 bif c_0.Conceded then
 bif decide (((c_0.Grounds.length : Int)) > 0) then
 some true
 else
 Option.bind ((sCnL_f k_) c_0.Grounds c_0.Claim) fun t3 =>
 some t3
 else
 Option.bind ((sCnL_f k_) c_0.Grounds c_0.Claim) fun t4 =>
 some t4
 else
 bif c_0.Conceded then
 bif decide (((c_0.Grounds.length : Int)) > 0) then
 some true
 else
 Option.bind ((sCnL_f k_) c_0.Grounds c_0.Claim) fun t5 =>
 some t5
 else
 Option.bind ((sCnL_f k_) c_0.Grounds c_0.Claim) fun t6 =>
 some t6

theorem commitment_Validate_6_f_le {k_ : Nat} {c_0 : T_api_Commitment} : Le (commitment_Validate_6_f k_ c_0) (commitment_Validate_6_m c_0) := by
 unfold commitment_Validate_6_f commitment_Validate_6_m
 repeat' with_reducible (first | exact Le.refl _ | refine sCnL_f_le | refine Le.bind ?_ (fun _ => ?_) | refine Le.cond ?_ ?_)

def sIFC_s3__l1f (k_ : Nat) (s_0 : (List T_api_Commitment)) (s7 : Int) : Option (Sum (Sum (Int) (Unit)) (Int)) :=
 bif decide (s7 < ((s_0.length : Int))) then
 Option.bind (idxM s_0 s7) fun t8 =>
 Option.bind ((commitment_Validate_6_f k_) t8) fun t9 =>
 bif t9 then
 some (Sum.inl (Sum.inl s7))
 else
 some (Sum.inr (iadd .i64 s7 1))
 else
 some (Sum.inl (Sum.inr (())))

theorem sIFC_s3__l1f_le {k_ : Nat} {s_0 : (List T_api_Commitment)} {s7 : Int} : Le (sIFC_s3__l1f k_ s_0 s7) (sIFC_s3__l1 s_0 s7) := by
 unfold sIFC_s3__l1f sIFC_s3__l1
 repeat' with_reducible (first | exact Le.refl _ | refine commitment_Validate_6_f_le | refine Le.bind ?_ (fun _ => ?_) | refine Le.cond ?_ ?_)

def sIFC_s3__f (k_ : Nat) (s_0 : (List T_api_Commitment)) : Option (Int) :=
 Option.bind (loopF k_ ((sIFC_s3__l1f k_) s_0) 0) (sumK (fun a : Int => some a) fun q10 : Unit =>
 some ((-1)))

theorem sIFC_s3__f_le {k_ : Nat} {s_0 : (List T_api_Commitment)} : Le (sIFC_s3__f k_ s_0) (sIFC_s3__m s_0) := by
 unfold sIFC_s3__f sIFC_s3__m
 repeat' with_reducible (first | exact Le.refl _ | refine Le.loop (fun _ => sIFC_s3__l1f_le) | refine Le.bind ?_ (Le.sumKK (fun _ => ?_) fun _ => ?_) | refine Le.bind ?_ (Le.sumK fun _ => ?_) | refine Le.bind ?_ (fun _ => ?_))

def sCFC_s3__f (k_ : Nat) (s_0 : (List T_api_Commitment)) : Option (Bool) :=
 Option.bind ((sIFC_s3__f k_) s_0) fun t1 =>
 some (decide (t1 ≥ 0))

theorem sCFC_s3__f_le {k_ : Nat} {s_0 : (List T_api_Commitment)} : Le (sCFC_s3__f k_ s_0) (sCFC_s3__m s_0) := by
 unfold sCFC_s3__f sCFC_s3__m
 repeat' with_reducible (first | exact Le.refl _ | refine sIFC_s3__f_le | refine Le.bind ?_ (fun _ => ?_))

def commitment_some_1_s3_f (k_ : Nat) (l_0 : (List T_api_Commitment)) : Option (Bool) :=
 Option.bind ((sCFC_s3__f k_) l_0) fun t1 =>
 some t1

theorem commitment_some_1_s3_f_le {k_ : Nat} {l_0 : (List T_api_Commitment)} : Le (commitment_some_1_s3_f k_ l_0) (commitment_some_1_s3_m l_0) := by
 unfold commitment_some_1_s3_f commitment_some_1_s3_m
 repeat' with_reducible (first | exact Le.refl _ | refine sCFC_s3__f_le | refine Le.bind ?_ (fun _ => ?_))

def sIFC_s5_l1f (k_ : Nat) (s_0 : (List (List T_api_Commitment))) (s7 : Int) : Option (Sum (Sum (Int) (Unit)) (Int)) :=
 bif decide (s7 < ((s_0.length : Int))) then
 Option.bind (idxM s_0 s7) fun t8 =>
 Option.bind ((commitment_some_1_s3_f k_) t8) fun t9 =>
 bif t9 then
 some (Sum.inl (Sum.inl s7))
 else
 some (Sum.inr (iadd .i64 s7 1))
 else
 some (Sum.inl (Sum.inr (())))

theorem sIFC_s5_l1f_le {k_ : Nat} {s_0 : (List (List T_api_Commitment))} {s7 : Int} : Le (sIFC_s5_l1f k_ s_0 s7) (sIFC_s5_l1 s_0 s7) := by
 unfold sIFC_s5_l1f sIFC_s5_l1
 repeat' with_reducible (first | exact Le.refl _ | refine commitment_some_1_s3_f_le | refine Le.bind ?_ (fun _ => ?_) | refine Le.cond ?_ ?_)

def sIFC_s5_f (k_ : Nat) (s_0 : (List (List T_api_Commitment))) : Option (Int) :=
 Option.bind (loopF k_ ((sIFC_s5_l1f k_) s_0) 0) (sumK (fun a : Int => some a) fun q10 : Unit =>
 some ((-1)))

theorem sIFC_s5_f_le {k_ : Nat} {s_0 : (List (List T_api_Commitment))} : Le (sIFC_s5_f k_ s_0) (sIFC_s5_m s_0) := by
 unfold sIFC_s5_f sIFC_s5_m
 repeat' with_reducible (first | exact Le.refl _ | refine Le.loop (fun _ => sIFC_s5_l1f_le) | refine Le.bind ?_ (Le.sumKK (fun _ => ?_) fun _ => ?_) | refine Le.bind ?_ (Le.sumK fun _ => ?_) | refine Le.bind ?_ (fun _ => ?_))

def sCFC_s5_f (k_ : Nat) (s_0 : (List (List T_api_Commitment))) : Option (Bool) :=
 Option.bind ((sIFC_s5_f k_) s_0) fun t1 =>
 some (decide (t1 ≥ 0))

theorem sCFC_s5_f_le {k_ : Nat} {s_0 : (List (List T_api_Commitment))} : Le (sCFC_s5_f k_ s_0) (sCFC_s5_m s_0) := by
 unfold sCFC_s5_f sCFC_s5_m
 repeat' with_reducible (first | exact Le.refl _ | refine sIFC_s5_f_le | refine Le.bind ?_ (fun _ => ?_))

def commitment_some_s3_f (k_ : Nat) (s_0 : T_api_Stores) : Option (Bool) :=
 Option.bind ((sCFC_s5_f k_) s_0.L) fun t1 =>
 some t1

theorem commitment_some_s3_f_le {k_ : Nat} {s_0 : T_api_Stores} : Le (commitment_some_s3_f k_ s_0) (commitment_some_s3_m s_0) := by
 unfold commitment_some_s3_f commitment_some_s3_m
 repeat' with_reducible (first | exact Le.refl _ | refine sCFC_s5_f_le | refine Le.bind ?_ (fun _ => ?_))

def commitment_claims_l1f (k_ : Nat) (l_0 : (List T_api_Commitment)) (s10 : Int × (List T_api_Literal)) : Option (Sum ((List T_api_Literal)) (Int × (List T_api_Literal))) :=
 bif decide (s10.1 < ((l_0.length : Int))) then
 Option.bind (idxM l_0 s10.1) fun t11 =>
 Option.bind (appM 24 s10.2 [t11.Claim]) fun out12 =>
 some (Sum.inr ((iadd .i64 s10.1 1, out12)))
 else
 some (Sum.inl s10.2)

theorem commitment_claims_l1f_le {k_ : Nat} {l_0 : (List T_api_Commitment)} {s10 : Int × (List T_api_Literal)} : Le (commitment_claims_l1f k_ l_0 s10) (commitment_claims_l1 l_0 s10) := by
 unfold commitment_claims_l1f commitment_claims_l1
 repeat' with_reducible (first | exact Le.refl _ | refine Le.bind ?_ (fun _ => ?_) | refine Le.cond ?_ ?_)

def commitment_claims_f (k_ : Nat) (l_0 : (List T_api_Commitment)) : Option ((List T_api_Literal)) :=
 Option.bind (loopF k_ ((commitment_claims_l1f k_) l_0) ((0, []))) fun q13 : (List T_api_Literal) =>
 some q13

theorem commitment_claims_f_le {k_ : Nat} {l_0 : (List T_api_Commitment)} : Le (commitment_claims_f k_ l_0) (commitment_claims_m l_0) := by
 unfold commitment_claims_f commitment_claims_m
 repeat' with_reducible (first | exact Le.refl _ | refine Le.loop (fun _ => commitment_claims_l1f_le) | refine Le.bind ?_ (fun _ => ?_))

def literal_Complement_q_f (k_ : Nat) (x_0 : T_api_Literal) : Option (T_api_Literal) :=
 some (T_api_Literal.mk (!x_0.Neg) x_0.Name)

theorem literal_Complement_q_f_le {k_ : Nat} {x_0 : T_api_Literal} : Le (literal_Complement_q_f k_ x_0) (literal_Complement_q_m x_0) := by
 unfold literal_Complement_q_f literal_Complement_q_m
 repeat' with_reducible (first | exact Le.refl _)

def literal_Consistent_q_l1f (k_ : Nat) (l_0 : (List T_api_Literal)) (s20 : Int × (List (T_api_Literal × T_anon100))) : Option (Sum ((Sum (Bool) (Unit))) (Int × (List (T_api_Literal × T_anon100)))) :=
 bif decide (s20.1 < (l_0.length : Int)) then
  Option.bind (idxM l_0 s20.1) fun t23 =>
  Option.bind ((literal_Complement_q_f k_) t23) fun t25 =>
  letM (mapHas (mapPut s20.2 t23 (T_anon100.mk )) t25) fun ok27 =>
  bif ok27 then
   some (Sum.inl (Sum.inl false))
  else
   some (Sum.inr (iadd .i64 s20.1 1, mapPut s20.2 t23 (T_anon100.mk )))
 else
  some (Sum.inl (Sum.inr ()))

theorem literal_Consistent_q_l1f_le {k_ : Nat} {l_0 : (List T_api_Literal)} {s20 : Int × (List (T_api_Literal × T_anon100))} : Le (literal_Consistent_q_l1f k_ l_0 s20) (literal_Consistent_q_l1 l_0 s20) := by
 unfold literal_Consistent_q_l1f literal_Consistent_q_l1
 repeat' with_reducible (first | exact Le.refl _ | refine literal_Complement_q_f_le | refine Le.bind ?_ (fun _ => ?_) | refine Le.cond ?_ ?_ | refine Le.letM (fun _ => ?_))

def literal_Consistent_q_f (k_ : Nat) (l_0 : (List T_api_Literal)) : Option (Bool) :=
 Option.bind (loopF k_ ((literal_Consistent_q_l1f k_) l_0) (0, [])) (sumK (fun a : Bool => some a) fun q29 : Unit =>
  some true)

theorem literal_Consistent_q_f_le {k_ : Nat} {l_0 : (List T_api_Literal)} : Le (literal_Consistent_q_f k_ l_0) (literal_Consistent_q_m l_0) := by
 unfold literal_Consistent_q_f literal_Consistent_q_m
 repeat' with_reducible (first | exact Le.refl _ | refine Le.loop (fun _ => literal_Consistent_q_l1f_le) | refine Le.bind ?_ (Le.sumKK (fun _ => ?_) fun _ => ?_) | refine Le.bind ?_ (Le.sumK fun _ => ?_) | refine Le.bind ?_ (fun _ => ?_))

def commitment_Validate_7_f (k_ : Nat) (l_0 : (List T_api_Commitment)) : Option (Bool) :=
 Option.bind ((commitment_claims_f k_) l_0) fun t1 =>
 Option.bind ((literal_Consistent_q_f k_) t1) fun t2 =>
 some (!t2)

theorem commitment_Validate_7_f_le {k_ : Nat} {l_0 : (List T_api_Commitment)} : Le (commitment_Validate_7_f k_ l_0) (commitment_Validate_7_m l_0) := by
 unfold commitment_Validate_7_f commitment_Validate_7_m
 repeat' with_reducible (first | exact Le.refl _ | refine commitment_claims_f_le | refine literal_Consistent_q_f_le | refine Le.bind ?_ (fun _ => ?_))

def sIFC_s6_l1f (k_ : Nat) (s_0 : (List (List T_api_Commitment))) (s7 : Int) : Option (Sum (Sum (Int) (Unit)) (Int)) :=
 bif decide (s7 < ((s_0.length : Int))) then
 Option.bind (idxM s_0 s7) fun t8 =>
 Option.bind ((commitment_Validate_7_f k_) t8) fun t9 =>
 bif t9 then
 some (Sum.inl (Sum.inl s7))
 else
 some (Sum.inr (iadd .i64 s7 1))
 else
 some (Sum.inl (Sum.inr (())))

theorem sIFC_s6_l1f_le {k_ : Nat} {s_0 : (List (List T_api_Commitment))} {s7 : Int} : Le (sIFC_s6_l1f k_ s_0 s7) (sIFC_s6_l1 s_0 s7) := by
 unfold sIFC_s6_l1f sIFC_s6_l1
 repeat' with_reducible (first | exact Le.refl _ | refine commitment_Validate_7_f_le | refine Le.bind ?_ (fun _ => ?_) | refine Le.cond ?_ ?_)

def sIFC_s6_f (k_ : Nat) (s_0 : (List (List T_api_Commitment))) : Option (Int) :=
 Option.bind (loopF k_ ((sIFC_s6_l1f k_) s_0) 0) (sumK (fun a : Int => some a) fun q10 : Unit =>
 some ((-1)))

theorem sIFC_s6_f_le {k_ : Nat} {s_0 : (List (List T_api_Commitment))} : Le (sIFC_s6_f k_ s_0) (sIFC_s6_m s_0) := by
 unfold sIFC_s6_f sIFC_s6_m
 repeat' with_reducible (first | exact Le.refl _ | refine Le.loop (fun _ => sIFC_s6_l1f_le) | refine Le.bind ?_ (Le.sumKK (fun _ => ?_) fun _ => ?_) | refine Le.bind ?_ (Le.sumK fun _ => ?_) | refine Le.bind ?_ (fun _ => ?_))

def sCFC_s6_f (k_ : Nat) (s_0 : (List (List T_api_Commitment))) : Option (Bool) :=
 Option.bind ((sIFC_s6_f k_) s_0) fun t1 =>
 some (decide (t1 ≥ 0))

theorem sCFC_s6_f_le {k_ : Nat} {s_0 : (List (List T_api_Commitment))} : Le (sCFC_s6_f k_ s_0) (sCFC_s6_m s_0) := by
 unfold sCFC_s6_f sCFC_s6_m
 repeat' with_reducible (first | exact Le.refl _ | refine sIFC_s6_f_le | refine Le.bind ?_ (fun _ => ?_))

def cmp_isNaN_string_f (k_ : Nat) (x_0 : ByteArray) : Option (Bool) :=
 some (!(x_0.toList == x_0.toList))

theorem cmp_isNaN_string_f_le {k_ : Nat} {x_0 : ByteArray} : Le (cmp_isNaN_string_f k_ x_0) (cmp_isNaN_string_m x_0) := by
 unfold cmp_isNaN_string_f cmp_isNaN_string_m
 repeat' with_reducible (first | exact Le.refl _)

def cmp_Compare_string_f (k_ : Nat) (x_0 : ByteArray) (y_1 : ByteArray) : Option (Int) :=
 Option.bind ((cmp_isNaN_string_f k_) x_0) fun xNaN1 =>
 Option.bind ((cmp_isNaN_string_f k_) y_1) fun yNaN2 =>
 bif xNaN1 then
 bif yNaN2 then
 some 0
 else
 some ((-1))
 else
 bif yNaN2 then
 some 1
 else
 bif Op.bytesLess x_0.toList y_1.toList then
 some ((-1))
 else
 bif !(Op.bytesLess x_0.toList y_1.toList || x_0.toList == y_1.toList) then
 some 1
 else
 some 0

theorem cmp_Compare_string_f_le {k_ : Nat} {x_0 : ByteArray} {y_1 : ByteArray} : Le (cmp_Compare_string_f k_ x_0 y_1) (cmp_Compare_string_m x_0 y_1) := by
 unfold cmp_Compare_string_f cmp_Compare_string_m
 repeat' with_reducible (first | exact Le.refl _ | refine cmp_isNaN_string_f_le | refine Le.bind ?_ (fun _ => ?_) | refine Le.cond ?_ ?_)

def literal_Compare_f (k_ : Nat) (a_0 : T_api_Literal) (b_1 : T_api_Literal) : Option (Int) :=
 Option.bind ((cmp_Compare_string_f k_) a_0.Name b_1.Name) fun c2 =>
 bif (c2 : Int) != 0 then
 some c2
 else
 bif a_0.Neg == b_1.Neg then
 some c2
 else
 bif b_1.Neg then
 some ((-1))
 else
 some 1

theorem literal_Compare_f_le {k_ : Nat} {a_0 : T_api_Literal} {b_1 : T_api_Literal} : Le (literal_Compare_f k_ a_0 b_1) (literal_Compare_m a_0 b_1) := by
 unfold literal_Compare_f literal_Compare_m
 repeat' with_reducible (first | exact Le.refl _ | refine cmp_Compare_string_f_le | refine Le.bind ?_ (fun _ => ?_) | refine Le.cond ?_ ?_)

def commitment_rising_l1f (k_ : Nat) (l_0 : (List T_api_Literal)) (s9 : Int) : Option (Sum (Sum (Bool) (Unit)) (Int)) :=
 bif decide (s9 < ((l_0.length : Int))) then
 Option.bind (idxM l_0 (isub .i64 s9 1)) fun t10 =>
 Option.bind (idxM l_0 s9) fun t11 =>
 Option.bind ((literal_Compare_f k_) t10 t11) fun t12 =>
 bif decide (t12 ≥ 0) then
 some (Sum.inl (Sum.inl false))
 else
 some (Sum.inr (iadd .i64 s9 1))
 else
 some (Sum.inl (Sum.inr (())))

theorem commitment_rising_l1f_le {k_ : Nat} {l_0 : (List T_api_Literal)} {s9 : Int} : Le (commitment_rising_l1f k_ l_0 s9) (commitment_rising_l1 l_0 s9) := by
 unfold commitment_rising_l1f commitment_rising_l1
 repeat' with_reducible (first | exact Le.refl _ | refine literal_Compare_f_le | refine Le.bind ?_ (fun _ => ?_) | refine Le.cond ?_ ?_)

def commitment_rising_f (k_ : Nat) (l_0 : (List T_api_Literal)) : Option (Bool) :=
 Option.bind (loopF k_ ((commitment_rising_l1f k_) l_0) 1) (sumK (fun a : Bool => some a) fun q13 : Unit =>
 some true)

theorem commitment_rising_f_le {k_ : Nat} {l_0 : (List T_api_Literal)} : Le (commitment_rising_f k_ l_0) (commitment_rising_m l_0) := by
 unfold commitment_rising_f commitment_rising_m
 repeat' with_reducible (first | exact Le.refl _ | refine Le.loop (fun _ => commitment_rising_l1f_le) | refine Le.bind ?_ (Le.sumKK (fun _ => ?_) fun _ => ?_) | refine Le.bind ?_ (Le.sumK fun _ => ?_) | refine Le.bind ?_ (fun _ => ?_))

def commitment_Validate_4_f (k_ : Nat) (l_0 : (List T_api_Commitment)) : Option (Bool) :=
 Option.bind ((commitment_claims_f k_) l_0) fun t1 =>
 Option.bind ((commitment_rising_f k_) t1) fun t2 =>
 some (!t2)

theorem commitment_Validate_4_f_le {k_ : Nat} {l_0 : (List T_api_Commitment)} : Le (commitment_Validate_4_f k_ l_0) (commitment_Validate_4_m l_0) := by
 unfold commitment_Validate_4_f commitment_Validate_4_m
 repeat' with_reducible (first | exact Le.refl _ | refine commitment_claims_f_le | refine commitment_rising_f_le | refine Le.bind ?_ (fun _ => ?_))

def sIFC_s3_l1f (k_ : Nat) (s_0 : (List (List T_api_Commitment))) (s7 : Int) : Option (Sum (Sum (Int) (Unit)) (Int)) :=
 bif decide (s7 < ((s_0.length : Int))) then
 Option.bind (idxM s_0 s7) fun t8 =>
 Option.bind ((commitment_Validate_4_f k_) t8) fun t9 =>
 bif t9 then
 some (Sum.inl (Sum.inl s7))
 else
 some (Sum.inr (iadd .i64 s7 1))
 else
 some (Sum.inl (Sum.inr (())))

theorem sIFC_s3_l1f_le {k_ : Nat} {s_0 : (List (List T_api_Commitment))} {s7 : Int} : Le (sIFC_s3_l1f k_ s_0 s7) (sIFC_s3_l1 s_0 s7) := by
 unfold sIFC_s3_l1f sIFC_s3_l1
 repeat' with_reducible (first | exact Le.refl _ | refine commitment_Validate_4_f_le | refine Le.bind ?_ (fun _ => ?_) | refine Le.cond ?_ ?_)

def sIFC_s3_f (k_ : Nat) (s_0 : (List (List T_api_Commitment))) : Option (Int) :=
 Option.bind (loopF k_ ((sIFC_s3_l1f k_) s_0) 0) (sumK (fun a : Int => some a) fun q10 : Unit =>
 some ((-1)))

theorem sIFC_s3_f_le {k_ : Nat} {s_0 : (List (List T_api_Commitment))} : Le (sIFC_s3_f k_ s_0) (sIFC_s3_m s_0) := by
 unfold sIFC_s3_f sIFC_s3_m
 repeat' with_reducible (first | exact Le.refl _ | refine Le.loop (fun _ => sIFC_s3_l1f_le) | refine Le.bind ?_ (Le.sumKK (fun _ => ?_) fun _ => ?_) | refine Le.bind ?_ (Le.sumK fun _ => ?_) | refine Le.bind ?_ (fun _ => ?_))

def sCFC_s3_f (k_ : Nat) (s_0 : (List (List T_api_Commitment))) : Option (Bool) :=
 Option.bind ((sIFC_s3_f k_) s_0) fun t1 =>
 some (decide (t1 ≥ 0))

theorem sCFC_s3_f_le {k_ : Nat} {s_0 : (List (List T_api_Commitment))} : Le (sCFC_s3_f k_ s_0) (sCFC_s3_m s_0) := by
 unfold sCFC_s3_f sCFC_s3_m
 repeat' with_reducible (first | exact Le.refl _ | refine sIFC_s3_f_le | refine Le.bind ?_ (fun _ => ?_))

def commitment_rising_s1_l1f (k_ : Nat) (l_0 : (List T_api_Literal)) (s9 : Int) : Option (Sum (Sum (Bool) (Unit)) (Int)) :=
 bif decide (s9 < ((l_0.length : Int))) then
 Option.bind (idxM l_0 (isub .i64 s9 1)) fun t10 =>
 Option.bind (idxM l_0 s9) fun t11 =>
 Option.bind ((literal_Compare_f k_) t10 t11) fun t12 =>
 bif decide (t12 ≥ 0) then
 some (Sum.inl (Sum.inl false))
 else
 some (Sum.inr (iadd .i64 s9 1))
 else
 some (Sum.inl (Sum.inr (())))

theorem commitment_rising_s1_l1f_le {k_ : Nat} {l_0 : (List T_api_Literal)} {s9 : Int} : Le (commitment_rising_s1_l1f k_ l_0 s9) (commitment_rising_s1_l1 l_0 s9) := by
 unfold commitment_rising_s1_l1f commitment_rising_s1_l1
 repeat' with_reducible (first | exact Le.refl _ | refine literal_Compare_f_le | refine Le.bind ?_ (fun _ => ?_) | refine Le.cond ?_ ?_)

def commitment_rising_s1_f (k_ : Nat) (l_0 : (List T_api_Literal)) : Option (Bool) :=
 Option.bind (loopF k_ ((commitment_rising_s1_l1f k_) l_0) 1) (sumK (fun a : Bool => some a) fun q13 : Unit =>
 some true)

theorem commitment_rising_s1_f_le {k_ : Nat} {l_0 : (List T_api_Literal)} : Le (commitment_rising_s1_f k_ l_0) (commitment_rising_s1_m l_0) := by
 unfold commitment_rising_s1_f commitment_rising_s1_m
 repeat' with_reducible (first | exact Le.refl _ | refine Le.loop (fun _ => commitment_rising_s1_l1f_le) | refine Le.bind ?_ (Le.sumKK (fun _ => ?_) fun _ => ?_) | refine Le.bind ?_ (Le.sumK fun _ => ?_) | refine Le.bind ?_ (fun _ => ?_))

def commitment_Validate_5_f (k_ : Nat) (c_0 : T_api_Commitment) : Option (Bool) :=
 Option.bind ((commitment_rising_s1_f k_) c_0.Grounds) fun t1 =>
 some (!t1)

theorem commitment_Validate_5_f_le {k_ : Nat} {c_0 : T_api_Commitment} : Le (commitment_Validate_5_f k_ c_0) (commitment_Validate_5_m c_0) := by
 unfold commitment_Validate_5_f commitment_Validate_5_m
 repeat' with_reducible (first | exact Le.refl _ | refine commitment_rising_s1_f_le | refine Le.bind ?_ (fun _ => ?_))

def sIFC_s2__l1f (k_ : Nat) (s_0 : (List T_api_Commitment)) (s7 : Int) : Option (Sum (Sum (Int) (Unit)) (Int)) :=
 bif decide (s7 < ((s_0.length : Int))) then
 Option.bind (idxM s_0 s7) fun t8 =>
 Option.bind ((commitment_Validate_5_f k_) t8) fun t9 =>
 bif t9 then
 some (Sum.inl (Sum.inl s7))
 else
 some (Sum.inr (iadd .i64 s7 1))
 else
 some (Sum.inl (Sum.inr (())))

theorem sIFC_s2__l1f_le {k_ : Nat} {s_0 : (List T_api_Commitment)} {s7 : Int} : Le (sIFC_s2__l1f k_ s_0 s7) (sIFC_s2__l1 s_0 s7) := by
 unfold sIFC_s2__l1f sIFC_s2__l1
 repeat' with_reducible (first | exact Le.refl _ | refine commitment_Validate_5_f_le | refine Le.bind ?_ (fun _ => ?_) | refine Le.cond ?_ ?_)

def sIFC_s2__f (k_ : Nat) (s_0 : (List T_api_Commitment)) : Option (Int) :=
 Option.bind (loopF k_ ((sIFC_s2__l1f k_) s_0) 0) (sumK (fun a : Int => some a) fun q10 : Unit =>
 some ((-1)))

theorem sIFC_s2__f_le {k_ : Nat} {s_0 : (List T_api_Commitment)} : Le (sIFC_s2__f k_ s_0) (sIFC_s2__m s_0) := by
 unfold sIFC_s2__f sIFC_s2__m
 repeat' with_reducible (first | exact Le.refl _ | refine Le.loop (fun _ => sIFC_s2__l1f_le) | refine Le.bind ?_ (Le.sumKK (fun _ => ?_) fun _ => ?_) | refine Le.bind ?_ (Le.sumK fun _ => ?_) | refine Le.bind ?_ (fun _ => ?_))

def sCFC_s2__f (k_ : Nat) (s_0 : (List T_api_Commitment)) : Option (Bool) :=
 Option.bind ((sIFC_s2__f k_) s_0) fun t1 =>
 some (decide (t1 ≥ 0))

theorem sCFC_s2__f_le {k_ : Nat} {s_0 : (List T_api_Commitment)} : Le (sCFC_s2__f k_ s_0) (sCFC_s2__m s_0) := by
 unfold sCFC_s2__f sCFC_s2__m
 repeat' with_reducible (first | exact Le.refl _ | refine sIFC_s2__f_le | refine Le.bind ?_ (fun _ => ?_))

def commitment_some_1_s2_f (k_ : Nat) (l_0 : (List T_api_Commitment)) : Option (Bool) :=
 Option.bind ((sCFC_s2__f k_) l_0) fun t1 =>
 some t1

theorem commitment_some_1_s2_f_le {k_ : Nat} {l_0 : (List T_api_Commitment)} : Le (commitment_some_1_s2_f k_ l_0) (commitment_some_1_s2_m l_0) := by
 unfold commitment_some_1_s2_f commitment_some_1_s2_m
 repeat' with_reducible (first | exact Le.refl _ | refine sCFC_s2__f_le | refine Le.bind ?_ (fun _ => ?_))

def sIFC_s4_l1f (k_ : Nat) (s_0 : (List (List T_api_Commitment))) (s7 : Int) : Option (Sum (Sum (Int) (Unit)) (Int)) :=
 bif decide (s7 < ((s_0.length : Int))) then
 Option.bind (idxM s_0 s7) fun t8 =>
 Option.bind ((commitment_some_1_s2_f k_) t8) fun t9 =>
 bif t9 then
 some (Sum.inl (Sum.inl s7))
 else
 some (Sum.inr (iadd .i64 s7 1))
 else
 some (Sum.inl (Sum.inr (())))

theorem sIFC_s4_l1f_le {k_ : Nat} {s_0 : (List (List T_api_Commitment))} {s7 : Int} : Le (sIFC_s4_l1f k_ s_0 s7) (sIFC_s4_l1 s_0 s7) := by
 unfold sIFC_s4_l1f sIFC_s4_l1
 repeat' with_reducible (first | exact Le.refl _ | refine commitment_some_1_s2_f_le | refine Le.bind ?_ (fun _ => ?_) | refine Le.cond ?_ ?_)

def sIFC_s4_f (k_ : Nat) (s_0 : (List (List T_api_Commitment))) : Option (Int) :=
 Option.bind (loopF k_ ((sIFC_s4_l1f k_) s_0) 0) (sumK (fun a : Int => some a) fun q10 : Unit =>
 some ((-1)))

theorem sIFC_s4_f_le {k_ : Nat} {s_0 : (List (List T_api_Commitment))} : Le (sIFC_s4_f k_ s_0) (sIFC_s4_m s_0) := by
 unfold sIFC_s4_f sIFC_s4_m
 repeat' with_reducible (first | exact Le.refl _ | refine Le.loop (fun _ => sIFC_s4_l1f_le) | refine Le.bind ?_ (Le.sumKK (fun _ => ?_) fun _ => ?_) | refine Le.bind ?_ (Le.sumK fun _ => ?_) | refine Le.bind ?_ (fun _ => ?_))

def sCFC_s4_f (k_ : Nat) (s_0 : (List (List T_api_Commitment))) : Option (Bool) :=
 Option.bind ((sIFC_s4_f k_) s_0) fun t1 =>
 some (decide (t1 ≥ 0))

theorem sCFC_s4_f_le {k_ : Nat} {s_0 : (List (List T_api_Commitment))} : Le (sCFC_s4_f k_ s_0) (sCFC_s4_m s_0) := by
 unfold sCFC_s4_f sCFC_s4_m
 repeat' with_reducible (first | exact Le.refl _ | refine sIFC_s4_f_le | refine Le.bind ?_ (fun _ => ?_))

def commitment_some_s2_f (k_ : Nat) (s_0 : T_api_Stores) : Option (Bool) :=
 Option.bind ((sCFC_s4_f k_) s_0.L) fun t1 =>
 some t1

theorem commitment_some_s2_f_le {k_ : Nat} {s_0 : T_api_Stores} : Le (commitment_some_s2_f k_ s_0) (commitment_some_s2_m s_0) := by
 unfold commitment_some_s2_f commitment_some_s2_m
 repeat' with_reducible (first | exact Le.refl _ | refine sCFC_s4_f_le | refine Le.bind ?_ (fun _ => ?_))

def commitment_Validate_2_f (k_ : Nat) (c_0 : T_api_Commitment) : Option (Bool) :=
 some (decide (((c_0.Grounds.length : Int)) > 6))

theorem commitment_Validate_2_f_le {k_ : Nat} {c_0 : T_api_Commitment} : Le (commitment_Validate_2_f k_ c_0) (commitment_Validate_2_m c_0) := by
 unfold commitment_Validate_2_f commitment_Validate_2_m
 repeat' with_reducible (first | exact Le.refl _)

def sIFC__l1f (k_ : Nat) (s_0 : (List T_api_Commitment)) (s7 : Int) : Option (Sum (Sum (Int) (Unit)) (Int)) :=
 bif decide (s7 < ((s_0.length : Int))) then
 Option.bind (idxM s_0 s7) fun t8 =>
 Option.bind ((commitment_Validate_2_f k_) t8) fun t9 =>
 bif t9 then
 some (Sum.inl (Sum.inl s7))
 else
 some (Sum.inr (iadd .i64 s7 1))
 else
 some (Sum.inl (Sum.inr (())))

theorem sIFC__l1f_le {k_ : Nat} {s_0 : (List T_api_Commitment)} {s7 : Int} : Le (sIFC__l1f k_ s_0 s7) (sIFC__l1 s_0 s7) := by
 unfold sIFC__l1f sIFC__l1
 repeat' with_reducible (first | exact Le.refl _ | refine commitment_Validate_2_f_le | refine Le.bind ?_ (fun _ => ?_) | refine Le.cond ?_ ?_)

def sIFC__f (k_ : Nat) (s_0 : (List T_api_Commitment)) : Option (Int) :=
 Option.bind (loopF k_ ((sIFC__l1f k_) s_0) 0) (sumK (fun a : Int => some a) fun q10 : Unit =>
 some ((-1)))

theorem sIFC__f_le {k_ : Nat} {s_0 : (List T_api_Commitment)} : Le (sIFC__f k_ s_0) (sIFC__m s_0) := by
 unfold sIFC__f sIFC__m
 repeat' with_reducible (first | exact Le.refl _ | refine Le.loop (fun _ => sIFC__l1f_le) | refine Le.bind ?_ (Le.sumKK (fun _ => ?_) fun _ => ?_) | refine Le.bind ?_ (Le.sumK fun _ => ?_) | refine Le.bind ?_ (fun _ => ?_))

def sCFC__f (k_ : Nat) (s_0 : (List T_api_Commitment)) : Option (Bool) :=
 Option.bind ((sIFC__f k_) s_0) fun t1 =>
 some (decide (t1 ≥ 0))

theorem sCFC__f_le {k_ : Nat} {s_0 : (List T_api_Commitment)} : Le (sCFC__f k_ s_0) (sCFC__m s_0) := by
 unfold sCFC__f sCFC__m
 repeat' with_reducible (first | exact Le.refl _ | refine sIFC__f_le | refine Le.bind ?_ (fun _ => ?_))

def commitment_some_1_f (k_ : Nat) (l_0 : (List T_api_Commitment)) : Option (Bool) :=
 Option.bind ((sCFC__f k_) l_0) fun t1 =>
 some t1

theorem commitment_some_1_f_le {k_ : Nat} {l_0 : (List T_api_Commitment)} : Le (commitment_some_1_f k_ l_0) (commitment_some_1_m l_0) := by
 unfold commitment_some_1_f commitment_some_1_m
 repeat' with_reducible (first | exact Le.refl _ | refine sCFC__f_le | refine Le.bind ?_ (fun _ => ?_))

def sIFC_s1_l1f (k_ : Nat) (s_0 : (List (List T_api_Commitment))) (s7 : Int) : Option (Sum (Sum (Int) (Unit)) (Int)) :=
 bif decide (s7 < ((s_0.length : Int))) then
 Option.bind (idxM s_0 s7) fun t8 =>
 Option.bind ((commitment_some_1_f k_) t8) fun t9 =>
 bif t9 then
 some (Sum.inl (Sum.inl s7))
 else
 some (Sum.inr (iadd .i64 s7 1))
 else
 some (Sum.inl (Sum.inr (())))

theorem sIFC_s1_l1f_le {k_ : Nat} {s_0 : (List (List T_api_Commitment))} {s7 : Int} : Le (sIFC_s1_l1f k_ s_0 s7) (sIFC_s1_l1 s_0 s7) := by
 unfold sIFC_s1_l1f sIFC_s1_l1
 repeat' with_reducible (first | exact Le.refl _ | refine commitment_some_1_f_le | refine Le.bind ?_ (fun _ => ?_) | refine Le.cond ?_ ?_)

def sIFC_s1_f (k_ : Nat) (s_0 : (List (List T_api_Commitment))) : Option (Int) :=
 Option.bind (loopF k_ ((sIFC_s1_l1f k_) s_0) 0) (sumK (fun a : Int => some a) fun q10 : Unit =>
 some ((-1)))

theorem sIFC_s1_f_le {k_ : Nat} {s_0 : (List (List T_api_Commitment))} : Le (sIFC_s1_f k_ s_0) (sIFC_s1_m s_0) := by
 unfold sIFC_s1_f sIFC_s1_m
 repeat' with_reducible (first | exact Le.refl _ | refine Le.loop (fun _ => sIFC_s1_l1f_le) | refine Le.bind ?_ (Le.sumKK (fun _ => ?_) fun _ => ?_) | refine Le.bind ?_ (Le.sumK fun _ => ?_) | refine Le.bind ?_ (fun _ => ?_))

def sCFC_s1_f (k_ : Nat) (s_0 : (List (List T_api_Commitment))) : Option (Bool) :=
 Option.bind ((sIFC_s1_f k_) s_0) fun t1 =>
 some (decide (t1 ≥ 0))

theorem sCFC_s1_f_le {k_ : Nat} {s_0 : (List (List T_api_Commitment))} : Le (sCFC_s1_f k_ s_0) (sCFC_s1_m s_0) := by
 unfold sCFC_s1_f sCFC_s1_m
 repeat' with_reducible (first | exact Le.refl _ | refine sIFC_s1_f_le | refine Le.bind ?_ (fun _ => ?_))

def commitment_some_f (k_ : Nat) (s_0 : T_api_Stores) : Option (Bool) :=
 Option.bind ((sCFC_s1_f k_) s_0.L) fun t1 =>
 some t1

theorem commitment_some_f_le {k_ : Nat} {s_0 : T_api_Stores} : Le (commitment_some_f k_ s_0) (commitment_some_m s_0) := by
 unfold commitment_some_f commitment_some_m
 repeat' with_reducible (first | exact Le.refl _ | refine sCFC_s1_f_le | refine Le.bind ?_ (fun _ => ?_))

def commitment_Validate_f (k_ : Nat) (s_0 : T_api_Stores) : Option (Int) :=
 Option.bind ((sCFC_f k_) s_0.L) fun long1 =>
 joinM (fun j4 : Bool =>
 bif j4 then
 some 2
 else
 Option.bind ((commitment_some_s1_f k_) s_0) fun t5 =>
 bif t5 then
 some 3
 else
 joinM (fun j9 : Bool =>
 bif j9 then
 some 8
 else
 Option.bind ((commitment_some_s3_f k_) s_0) fun t10 =>
 bif t10 then
 some 7
 else
 Option.bind ((sCFC_s6_f k_) s_0.L) fun t11 =>
 bif t11 then
 some 10
 else
 some 0) fun k8 =>
 Option.bind ((sCFC_s3_f k_) s_0.L) fun t12 =>
 bif t12 then
 k8 t12
 else
 Option.bind ((commitment_some_s2_f k_) s_0) fun t13 =>
 k8 t13) fun k3 =>
 bif decide (((s_0.L.length : Int)) > 6) then
 k3 true
 else
 bif long1 then
 k3 true
 else
 Option.bind ((commitment_some_f k_) s_0) fun t14 =>
 k3 t14

theorem commitment_Validate_f_le {k_ : Nat} {s_0 : T_api_Stores} : Le (commitment_Validate_f k_ s_0) (commitment_Validate_m s_0) := by
 unfold commitment_Validate_f commitment_Validate_m
 repeat' with_reducible (first | exact Le.refl _ | refine sCFC_f_le | refine commitment_some_s1_f_le | refine commitment_some_s3_f_le | refine sCFC_s6_f_le | refine sCFC_s3_f_le | refine commitment_some_s2_f_le | refine commitment_some_f_le | refine Le.bind ?_ (fun _ => ?_) | refine Le.cond ?_ ?_ | refine Le.join (fun _ => ?_) (fun _ _ hj => ?_) | exact hj _)

def slices_Clone_api_Commitment_api_Commitment_f (k_ : Nat) (d_0 : List T_api_Commitment) : Option (List T_api_Commitment) := appM 56 [] d_0

theorem slices_Clone_api_Commitment_api_Commitment_f_le {k_ : Nat} {d_0 : List T_api_Commitment} : Le (slices_Clone_api_Commitment_api_Commitment_f k_ d_0) (slices_Clone_api_Commitment_api_Commitment_m d_0) := by
 unfold slices_Clone_api_Commitment_api_Commitment_f slices_Clone_api_Commitment_api_Commitment_m
 repeat' with_reducible (first | exact Le.refl _)

def slices_Clone_api_Literal_api_Literal_f (k_ : Nat) (d_0 : List T_api_Literal) : Option (List T_api_Literal) := appM 24 [] d_0

theorem slices_Clone_api_Literal_api_Literal_f_le {k_ : Nat} {d_0 : List T_api_Literal} : Le (slices_Clone_api_Literal_api_Literal_f k_ d_0) (slices_Clone_api_Literal_api_Literal_m d_0) := by
 unfold slices_Clone_api_Literal_api_Literal_f slices_Clone_api_Literal_api_Literal_m
 repeat' with_reducible (first | exact Le.refl _)

def commitment_copied_l1f (k_ : Nat) (s44 : Int × (List (List T_api_Commitment))) (t50 : (List T_api_Commitment)) (s63 : Int × (List (List T_api_Commitment))) : Option (Sum ((List (List T_api_Commitment))) (Int × (List (List T_api_Commitment)))) :=
 bif decide (s63.1 < ((t50.length : Int))) then
 Option.bind (idxM s63.2 s44.1) fun t64 =>
 Option.bind (idxM s63.2 s44.1) fun t65 =>
 Option.bind (idxM t65 s63.1) fun t66 =>
 Option.bind ((slices_Clone_api_Literal_api_Literal_f k_) t66.Grounds) fun t67 =>
 Option.bind (idxM t64 s63.1) fun t68 =>
 some (Sum.inr ((iadd .i64 s63.1 1, s63.2.set (Int.toNat s44.1) (t64.set (Int.toNat s63.1) ((T_api_Commitment.mk t68.Claim t68.Conceded t68.Burden t67))))))
 else
 some (Sum.inl s63.2)

theorem commitment_copied_l1f_le {k_ : Nat} {s44 : Int × (List (List T_api_Commitment))} {t50 : (List T_api_Commitment)} {s63 : Int × (List (List T_api_Commitment))} : Le (commitment_copied_l1f k_ s44 t50 s63) (commitment_copied_l1 s44 t50 s63) := by
 unfold commitment_copied_l1f commitment_copied_l1
 repeat' with_reducible (first | exact Le.refl _ | refine slices_Clone_api_Literal_api_Literal_f_le | refine Le.bind ?_ (fun _ => ?_) | refine Le.cond ?_ ?_)

def commitment_copied_l2f (k_ : Nat) (s_0 : T_api_Stores) (s44 : Int × (List (List T_api_Commitment))) : Option (Sum ((List (List T_api_Commitment))) (Int × (List (List T_api_Commitment)))) :=
 bif decide (s44.1 < ((s_0.L.length : Int))) then
 Option.bind (idxM s_0.L s44.1) fun t45 =>
 Option.bind ((slices_Clone_api_Commitment_api_Commitment_f k_) t45) fun t48 =>
 Option.bind (idxM s44.2 s44.1) fun t49 =>
 Option.bind (idxM (s44.2.set (Int.toNat s44.1) t48) s44.1) fun t50 =>
 Option.bind (loopF k_ ((commitment_copied_l1f k_) s44 t50) ((0, s44.2.set (Int.toNat s44.1) t48))) fun q69 : (List (List T_api_Commitment)) =>
 some (Sum.inr ((iadd .i64 s44.1 1, q69)))
 else
 some (Sum.inl s44.2)

theorem commitment_copied_l2f_le {k_ : Nat} {s_0 : T_api_Stores} {s44 : Int × (List (List T_api_Commitment))} : Le (commitment_copied_l2f k_ s_0 s44) (commitment_copied_l2 s_0 s44) := by
 unfold commitment_copied_l2f commitment_copied_l2
 repeat' with_reducible (first | exact Le.refl _ | refine slices_Clone_api_Commitment_api_Commitment_f_le | refine Le.loop (fun _ => commitment_copied_l1f_le) | refine Le.bind ?_ (fun _ => ?_) | refine Le.cond ?_ ?_)

def commitment_copied_f (k_ : Nat) (s_0 : T_api_Stores) : Option ((List (List T_api_Commitment))) :=
 Option.bind (mkM 24 [] ((s_0.L.length : Int))) fun t1 =>
 Option.bind (loopF k_ ((commitment_copied_l2f k_) s_0) ((0, t1))) fun q70 : (List (List T_api_Commitment)) =>
 some q70

theorem commitment_copied_f_le {k_ : Nat} {s_0 : T_api_Stores} : Le (commitment_copied_f k_ s_0) (commitment_copied_m s_0) := by
 unfold commitment_copied_f commitment_copied_m
 repeat' with_reducible (first | exact Le.refl _ | refine Le.loop (fun _ => commitment_copied_l2f_le) | refine Le.bind ?_ (fun _ => ?_))

def commitment_find_1_f (k_ : Nat) (c_0 : T_api_Commitment) (y_1 : T_api_Literal) : Option (Int) :=
 Option.bind ((literal_Compare_f k_) c_0.Claim y_1) fun t1 =>
 some t1

theorem commitment_find_1_f_le {k_ : Nat} {c_0 : T_api_Commitment} {y_1 : T_api_Literal} : Le (commitment_find_1_f k_ c_0 y_1) (commitment_find_1_m c_0 y_1) := by
 unfold commitment_find_1_f commitment_find_1_m
 repeat' with_reducible (first | exact Le.refl _ | refine literal_Compare_f_le | refine Le.bind ?_ (fun _ => ?_))

def sBSC_l1f (k_ : Nat) (x_0 : (List T_api_Commitment)) (target_1 : T_api_Literal) (s15 : Int × Int) : Option (Sum (Int) (Int × Int)) :=
 bif decide (s15.1 < s15.2) then
 Option.bind (idxM x_0 (IntKind.wrap .i64 (ishr .u64 (IntKind.wrap .u64 (iadd .i64 s15.1 s15.2)) 1))) fun t16 =>
 Option.bind ((commitment_find_1_f k_) t16 target_1) fun t17 =>
 bif decide (t17 < 0) then
 some (Sum.inr ((iadd .i64 (IntKind.wrap .i64 (ishr .u64 (IntKind.wrap .u64 (iadd .i64 s15.1 s15.2)) 1)) 1, s15.2)))
 else
 some (Sum.inr ((s15.1, IntKind.wrap .i64 (ishr .u64 (IntKind.wrap .u64 (iadd .i64 s15.1 s15.2)) 1))))
 else
 some (Sum.inl s15.1)

theorem sBSC_l1f_le {k_ : Nat} {x_0 : (List T_api_Commitment)} {target_1 : T_api_Literal} {s15 : Int × Int} : Le (sBSC_l1f k_ x_0 target_1 s15) (sBSC_l1 x_0 target_1 s15) := by
 unfold sBSC_l1f sBSC_l1
 repeat' with_reducible (first | exact Le.refl _ | refine commitment_find_1_f_le | refine Le.bind ?_ (fun _ => ?_) | refine Le.cond ?_ ?_)

def sBSC_f (k_ : Nat) (x_0 : (List T_api_Commitment)) (target_1 : T_api_Literal) : Option (Int × Bool) :=
 Option.bind (loopF k_ ((sBSC_l1f k_) x_0 target_1) ((0, (x_0.length : Int)))) fun q18 : Int =>
 bif decide (q18 < ((x_0.length : Int))) then
 Option.bind (idxM x_0 q18) fun t19 =>
 Option.bind ((commitment_find_1_f k_) t19 target_1) fun t20 =>
 some ((q18, (t20 : Int) == 0))
 else
 some ((q18, false))

theorem sBSC_f_le {k_ : Nat} {x_0 : (List T_api_Commitment)} {target_1 : T_api_Literal} : Le (sBSC_f k_ x_0 target_1) (sBSC_m x_0 target_1) := by
 unfold sBSC_f sBSC_m
 repeat' with_reducible (first | exact Le.refl _ | refine commitment_find_1_f_le | refine Le.loop (fun _ => sBSC_l1f_le) | refine Le.bind ?_ (fun _ => ?_) | refine Le.cond ?_ ?_)

def commitment_find_f (k_ : Nat) (l_0 : (List T_api_Commitment)) (x_1 : T_api_Literal) : Option (Int × Bool) :=
 Option.bind ((sBSC_f k_) l_0 x_1) fun t1 =>
 some ((t1.1, t1.2))

theorem commitment_find_f_le {k_ : Nat} {l_0 : (List T_api_Commitment)} {x_1 : T_api_Literal} : Le (commitment_find_f k_ l_0 x_1) (commitment_find_m l_0 x_1) := by
 unfold commitment_find_f commitment_find_m
 repeat' with_reducible (first | exact Le.refl _ | refine sBSC_f_le | refine Le.bind ?_ (fun _ => ?_))

def commitment_speaker_has_f (k_ : Nat) (p_0_s_L : (List (List T_api_Commitment))) (p_0_x_Kind : Int) (p_0_x_By : Int) (p_0_x_To : Int) (p_0_x_Claim_Neg : Bool) (p_0_x_Claim_Name : ByteArray) (p_0_x_Grounds : (List T_api_Literal)) (who_1 : Int) (x_2 : T_api_Literal) : Option (Int × Bool) :=
 Option.bind (idxM p_0_s_L who_1) fun t1 =>
 Option.bind ((commitment_find_f k_) t1 x_2) fun t2 =>
 some ((t2.1, t2.2))

theorem commitment_speaker_has_f_le {k_ : Nat} {p_0_s_L : (List (List T_api_Commitment))} {p_0_x_Kind : Int} {p_0_x_By : Int} {p_0_x_To : Int} {p_0_x_Claim_Neg : Bool} {p_0_x_Claim_Name : ByteArray} {p_0_x_Grounds : (List T_api_Literal)} {who_1 : Int} {x_2 : T_api_Literal} : Le (commitment_speaker_has_f k_ p_0_s_L p_0_x_Kind p_0_x_By p_0_x_To p_0_x_Claim_Neg p_0_x_Claim_Name p_0_x_Grounds who_1 x_2) (commitment_speaker_has_m p_0_s_L p_0_x_Kind p_0_x_By p_0_x_To p_0_x_Claim_Neg p_0_x_Claim_Name p_0_x_Grounds who_1 x_2) := by
 unfold commitment_speaker_has_f commitment_speaker_has_m
 repeat' with_reducible (first | exact Le.refl _ | refine commitment_find_f_le | refine Le.bind ?_ (fun _ => ?_))

def commitment_speaker_put_f (k_ : Nat) (p_0_s_L : (List (List T_api_Commitment))) (p_0_x_Kind : Int) (p_0_x_By : Int) (p_0_x_To : Int) (p_0_x_Claim_Neg : Bool) (p_0_x_Claim_Name : ByteArray) (p_0_x_Grounds : (List T_api_Literal)) (x_1 : T_api_Literal) (conceded_2 : Bool) : Option (Int × Int × Int × Bool × ByteArray × (List T_api_Literal) × (List (List T_api_Commitment))) :=
 Option.bind (idxM p_0_s_L p_0_x_By) fun t2 =>
 Option.bind ((commitment_find_f k_) t2 x_1) fun t3 =>
 bif !t3.2 then
 Option.bind (slices_Insert_api_Commitment_api_Commitment_q_m t2 t3.1 ([(T_api_Commitment.mk x_1 conceded_2 false [])])) fun t4 =>
 Option.bind (idxM p_0_s_L p_0_x_By) fun t5 =>
 some ((p_0_x_Kind, p_0_x_By, p_0_x_To, p_0_x_Claim_Neg, p_0_x_Claim_Name, p_0_x_Grounds, p_0_s_L.set (Int.toNat p_0_x_By) t4))
 else
 some ((p_0_x_Kind, p_0_x_By, p_0_x_To, p_0_x_Claim_Neg, p_0_x_Claim_Name, p_0_x_Grounds, p_0_s_L))

theorem commitment_speaker_put_f_le {k_ : Nat} {p_0_s_L : (List (List T_api_Commitment))} {p_0_x_Kind : Int} {p_0_x_By : Int} {p_0_x_To : Int} {p_0_x_Claim_Neg : Bool} {p_0_x_Claim_Name : ByteArray} {p_0_x_Grounds : (List T_api_Literal)} {x_1 : T_api_Literal} {conceded_2 : Bool} : Le (commitment_speaker_put_f k_ p_0_s_L p_0_x_Kind p_0_x_By p_0_x_To p_0_x_Claim_Neg p_0_x_Claim_Name p_0_x_Grounds x_1 conceded_2) (commitment_speaker_put_m p_0_s_L p_0_x_Kind p_0_x_By p_0_x_To p_0_x_Claim_Neg p_0_x_Claim_Name p_0_x_Grounds x_1 conceded_2) := by
 unfold commitment_speaker_put_f commitment_speaker_put_m
 repeat' with_reducible (first | exact Le.refl _ | refine commitment_find_f_le | refine Le.bind ?_ (fun _ => ?_) | refine Le.cond ?_ ?_)

def literal_Complement_f (k_ : Nat) (x_0 : T_api_Literal) : Option (T_api_Literal) :=
 some ((T_api_Literal.mk (!x_0.Neg) x_0.Name))

theorem literal_Complement_f_le {k_ : Nat} {x_0 : T_api_Literal} : Le (literal_Complement_f k_ x_0) (literal_Complement_m x_0) := by
 unfold literal_Complement_f literal_Complement_m
 repeat' with_reducible (first | exact Le.refl _)

def commitment_speaker_opposed_f (k_ : Nat) (p_0_s_L : (List (List T_api_Commitment))) (p_0_x_Kind : Int) (p_0_x_By : Int) (p_0_x_To : Int) (p_0_x_Claim_Neg : Bool) (p_0_x_Claim_Name : ByteArray) (p_0_x_Grounds : (List T_api_Literal)) (x_1 : T_api_Literal) : Option (Bool) :=
 Option.bind ((literal_Complement_f k_) x_1) fun t1 =>
 Option.bind ((commitment_speaker_has_f k_) p_0_s_L p_0_x_Kind p_0_x_By p_0_x_To p_0_x_Claim_Neg p_0_x_Claim_Name p_0_x_Grounds p_0_x_By t1) fun t2 =>
 some t2.2

theorem commitment_speaker_opposed_f_le {k_ : Nat} {p_0_s_L : (List (List T_api_Commitment))} {p_0_x_Kind : Int} {p_0_x_By : Int} {p_0_x_To : Int} {p_0_x_Claim_Neg : Bool} {p_0_x_Claim_Name : ByteArray} {p_0_x_Grounds : (List T_api_Literal)} {x_1 : T_api_Literal} : Le (commitment_speaker_opposed_f k_ p_0_s_L p_0_x_Kind p_0_x_By p_0_x_To p_0_x_Claim_Neg p_0_x_Claim_Name p_0_x_Grounds x_1) (commitment_speaker_opposed_m p_0_s_L p_0_x_Kind p_0_x_By p_0_x_To p_0_x_Claim_Neg p_0_x_Claim_Name p_0_x_Grounds x_1) := by
 unfold commitment_speaker_opposed_f commitment_speaker_opposed_m
 repeat' with_reducible (first | exact Le.refl _ | refine literal_Complement_f_le | refine commitment_speaker_has_f_le | refine Le.bind ?_ (fun _ => ?_))

def commitment_speaker_room_f (k_ : Nat) (p_0_s_L : (List (List T_api_Commitment))) (p_0_x_Kind : Int) (p_0_x_By : Int) (p_0_x_To : Int) (p_0_x_Claim_Neg : Bool) (p_0_x_Claim_Name : ByteArray) (p_0_x_Grounds : (List T_api_Literal)) (n_1 : Int) : Option (Bool) :=
 Option.bind (idxM p_0_s_L p_0_x_By) fun t1 =>
 some (decide ((iadd .i64 ((t1.length : Int)) n_1) ≤ 40))

theorem commitment_speaker_room_f_le {k_ : Nat} {p_0_s_L : (List (List T_api_Commitment))} {p_0_x_Kind : Int} {p_0_x_By : Int} {p_0_x_To : Int} {p_0_x_Claim_Neg : Bool} {p_0_x_Claim_Name : ByteArray} {p_0_x_Grounds : (List T_api_Literal)} {n_1 : Int} : Le (commitment_speaker_room_f k_ p_0_s_L p_0_x_Kind p_0_x_By p_0_x_To p_0_x_Claim_Neg p_0_x_Claim_Name p_0_x_Grounds n_1) (commitment_speaker_room_m p_0_s_L p_0_x_Kind p_0_x_By p_0_x_To p_0_x_Claim_Neg p_0_x_Claim_Name p_0_x_Grounds n_1) := by
 unfold commitment_speaker_room_f commitment_speaker_room_m
 repeat' with_reducible (first | exact Le.refl _ | refine Le.bind ?_ (fun _ => ?_))

def commitment_speaker_assert_f (k_ : Nat) (p_0_s_L : (List (List T_api_Commitment))) (p_0_x_Kind : Int) (p_0_x_By : Int) (p_0_x_To : Int) (p_0_x_Claim_Neg : Bool) (p_0_x_Claim_Name : ByteArray) (p_0_x_Grounds : (List T_api_Literal)) : Option (Int × Int × Int × Int × Bool × ByteArray × (List T_api_Literal) × (List (List T_api_Commitment))) :=
 Option.bind ((commitment_speaker_has_f k_) p_0_s_L p_0_x_Kind p_0_x_By p_0_x_To p_0_x_Claim_Neg p_0_x_Claim_Name p_0_x_Grounds p_0_x_By ((T_api_Literal.mk p_0_x_Claim_Neg p_0_x_Claim_Name))) fun t2 =>
 joinM (fun j12 : Unit =>
 Option.bind ((commitment_speaker_put_f k_) p_0_s_L p_0_x_Kind p_0_x_By p_0_x_To p_0_x_Claim_Neg p_0_x_Claim_Name p_0_x_Grounds ((T_api_Literal.mk p_0_x_Claim_Neg p_0_x_Claim_Name)) false) fun t13 =>
 Option.bind (idxM t13.2.2.2.2.2.2 t13.2.1) fun t14 =>
 Option.bind (idxM t14 t2.1) fun t15 =>
 some ((0, t13.1, t13.2.1, t13.2.2.1, t13.2.2.2.1, t13.2.2.2.2.1, t13.2.2.2.2.2.1, t13.2.2.2.2.2.2.set (Int.toNat t13.2.1) (t14.set (Int.toNat t2.1) ((T_api_Commitment.mk t15.Claim false t15.Burden t15.Grounds)))))) fun k11 =>
 joinM (fun j19 : Bool =>
 bif j19 then
 some ((5, p_0_x_Kind, p_0_x_By, p_0_x_To, p_0_x_Claim_Neg, p_0_x_Claim_Name, p_0_x_Grounds, p_0_s_L))
 else
 Option.bind ((commitment_speaker_opposed_f k_) p_0_s_L p_0_x_Kind p_0_x_By p_0_x_To p_0_x_Claim_Neg p_0_x_Claim_Name p_0_x_Grounds ((T_api_Literal.mk p_0_x_Claim_Neg p_0_x_Claim_Name))) fun t20 =>
 bif t20 then
 some ((10, p_0_x_Kind, p_0_x_By, p_0_x_To, p_0_x_Claim_Neg, p_0_x_Claim_Name, p_0_x_Grounds, p_0_s_L))
 else
 bif !t2.2 then
 Option.bind ((commitment_speaker_room_f k_) p_0_s_L p_0_x_Kind p_0_x_By p_0_x_To p_0_x_Claim_Neg p_0_x_Claim_Name p_0_x_Grounds 1) fun t21 =>
 bif !t21 then
 some ((2, p_0_x_Kind, p_0_x_By, p_0_x_To, p_0_x_Claim_Neg, p_0_x_Claim_Name, p_0_x_Grounds, p_0_s_L))
 else
 k11 (())
 else
 k11 (())) fun k18 =>
 bif t2.2 then
 Option.bind (idxM p_0_s_L p_0_x_By) fun t22 =>
 Option.bind (idxM t22 t2.1) fun t23 =>
 k18 (!t23.Conceded)
 else
 k18 false

theorem commitment_speaker_assert_f_le {k_ : Nat} {p_0_s_L : (List (List T_api_Commitment))} {p_0_x_Kind : Int} {p_0_x_By : Int} {p_0_x_To : Int} {p_0_x_Claim_Neg : Bool} {p_0_x_Claim_Name : ByteArray} {p_0_x_Grounds : (List T_api_Literal)} : Le (commitment_speaker_assert_f k_ p_0_s_L p_0_x_Kind p_0_x_By p_0_x_To p_0_x_Claim_Neg p_0_x_Claim_Name p_0_x_Grounds) (commitment_speaker_assert_m p_0_s_L p_0_x_Kind p_0_x_By p_0_x_To p_0_x_Claim_Neg p_0_x_Claim_Name p_0_x_Grounds) := by
 unfold commitment_speaker_assert_f commitment_speaker_assert_m
 repeat' with_reducible (first | exact Le.refl _ | refine commitment_speaker_has_f_le | refine commitment_speaker_put_f_le | refine commitment_speaker_opposed_f_le | refine commitment_speaker_room_f_le | refine Le.bind ?_ (fun _ => ?_) | refine Le.cond ?_ ?_ | refine Le.join (fun _ => ?_) (fun _ _ hj => ?_) | exact hj _)

def commitment_Say_1_f (k_ : Nat) (who_0 : Int) (p_1_0 : (List (List T_api_Commitment))) : Option (Bool) :=
 bif decide (who_0 ≥ 0) then
 some (decide (who_0 < ((p_1_0.length : Int))))
 else
 some false

theorem commitment_Say_1_f_le {k_ : Nat} {who_0 : Int} {p_1_0 : (List (List T_api_Commitment))} : Le (commitment_Say_1_f k_ who_0 p_1_0) (commitment_Say_1_m who_0 p_1_0) := by
 unfold commitment_Say_1_f commitment_Say_1_m
 repeat' with_reducible (first | exact Le.refl _ | refine Le.cond ?_ ?_)

def commitment_speaker_challenge_f (k_ : Nat) (p_0_s_L : (List (List T_api_Commitment))) (p_0_x_Kind : Int) (p_0_x_By : Int) (p_0_x_To : Int) (p_0_x_Claim_Neg : Bool) (p_0_x_Claim_Name : ByteArray) (p_0_x_Grounds : (List T_api_Literal)) : Option (Int × (List (List T_api_Commitment))) :=
 bif (p_0_x_By : Int) == p_0_x_To then
 some ((7, p_0_s_L))
 else
 Option.bind (idxM p_0_s_L p_0_x_To) fun t2 =>
 Option.bind ((commitment_speaker_has_f k_) p_0_s_L p_0_x_Kind p_0_x_By p_0_x_To p_0_x_Claim_Neg p_0_x_Claim_Name p_0_x_Grounds p_0_x_To ((T_api_Literal.mk p_0_x_Claim_Neg p_0_x_Claim_Name))) fun t4 =>
 bif !t4.2 then
 some ((6, p_0_s_L))
 else
 Option.bind (idxM t2 t4.1) fun t6 =>
 bif t6.Conceded then
 some ((6, p_0_s_L))
 else
 Option.bind (idxM t2 t4.1) fun t8 =>
 bif t8.Burden then
 some ((5, p_0_s_L))
 else
 Option.bind ((commitment_speaker_has_f k_) p_0_s_L p_0_x_Kind p_0_x_By p_0_x_To p_0_x_Claim_Neg p_0_x_Claim_Name p_0_x_Grounds p_0_x_By ((T_api_Literal.mk p_0_x_Claim_Neg p_0_x_Claim_Name))) fun t10 =>
 bif t10.2 then
 some ((7, p_0_s_L))
 else
 Option.bind (idxM t2 t4.1) fun t11 =>
 Option.bind (idxM (p_0_s_L.set (Int.toNat p_0_x_To) (t2.set (Int.toNat t4.1) ((T_api_Commitment.mk t11.Claim t11.Conceded true t11.Grounds)))) p_0_x_To) fun l12 =>
 Option.bind (idxM l12 t4.1) fun t13 =>
 Option.bind (idxM (p_0_s_L.set (Int.toNat p_0_x_To) (t2.set (Int.toNat t4.1) ((T_api_Commitment.mk t11.Claim t11.Conceded true t11.Grounds)))) p_0_x_To) fun l14 =>
 some ((0, (p_0_s_L.set (Int.toNat p_0_x_To) (t2.set (Int.toNat t4.1) ((T_api_Commitment.mk t11.Claim t11.Conceded true t11.Grounds)))).set (Int.toNat p_0_x_To) (l14.set (Int.toNat t4.1) ((T_api_Commitment.mk t13.Claim t13.Conceded t13.Burden [])))))

theorem commitment_speaker_challenge_f_le {k_ : Nat} {p_0_s_L : (List (List T_api_Commitment))} {p_0_x_Kind : Int} {p_0_x_By : Int} {p_0_x_To : Int} {p_0_x_Claim_Neg : Bool} {p_0_x_Claim_Name : ByteArray} {p_0_x_Grounds : (List T_api_Literal)} : Le (commitment_speaker_challenge_f k_ p_0_s_L p_0_x_Kind p_0_x_By p_0_x_To p_0_x_Claim_Neg p_0_x_Claim_Name p_0_x_Grounds) (commitment_speaker_challenge_m p_0_s_L p_0_x_Kind p_0_x_By p_0_x_To p_0_x_Claim_Neg p_0_x_Claim_Name p_0_x_Grounds) := by
 unfold commitment_speaker_challenge_f commitment_speaker_challenge_m
 repeat' with_reducible (first | exact Le.refl _ | refine commitment_speaker_has_f_le | refine Le.bind ?_ (fun _ => ?_) | refine Le.cond ?_ ?_)

def sIFL_s1_l1f (k_ : Nat) (s_0 : (List T_api_Literal)) (f_1_0_0 : (List (List T_api_Commitment))) (f_1_0_1 : Int) (f_1_0_2 : Int) (f_1_0_3 : Int) (f_1_0_4 : Bool) (f_1_0_5 : ByteArray) (f_1_0_6 : (List T_api_Literal)) (s7 : Int) : Option (Sum (Sum (Int) (Unit)) (Int)) :=
 bif decide (s7 < ((s_0.length : Int))) then
 Option.bind (idxM s_0 s7) fun t8 =>
 Option.bind ((commitment_speaker_opposed_f k_) f_1_0_0 f_1_0_1 f_1_0_2 f_1_0_3 f_1_0_4 f_1_0_5 f_1_0_6 t8) fun t9 =>
 bif t9 then
 some (Sum.inl (Sum.inl s7))
 else
 some (Sum.inr (iadd .i64 s7 1))
 else
 some (Sum.inl (Sum.inr (())))

theorem sIFL_s1_l1f_le {k_ : Nat} {s_0 : (List T_api_Literal)} {f_1_0_0 : (List (List T_api_Commitment))} {f_1_0_1 : Int} {f_1_0_2 : Int} {f_1_0_3 : Int} {f_1_0_4 : Bool} {f_1_0_5 : ByteArray} {f_1_0_6 : (List T_api_Literal)} {s7 : Int} : Le (sIFL_s1_l1f k_ s_0 f_1_0_0 f_1_0_1 f_1_0_2 f_1_0_3 f_1_0_4 f_1_0_5 f_1_0_6 s7) (sIFL_s1_l1 s_0 f_1_0_0 f_1_0_1 f_1_0_2 f_1_0_3 f_1_0_4 f_1_0_5 f_1_0_6 s7) := by
 unfold sIFL_s1_l1f sIFL_s1_l1
 repeat' with_reducible (first | exact Le.refl _ | refine commitment_speaker_opposed_f_le | refine Le.bind ?_ (fun _ => ?_) | refine Le.cond ?_ ?_)

def sIFL_s1_f (k_ : Nat) (s_0 : (List T_api_Literal)) (f_1_0_0 : (List (List T_api_Commitment))) (f_1_0_1 : Int) (f_1_0_2 : Int) (f_1_0_3 : Int) (f_1_0_4 : Bool) (f_1_0_5 : ByteArray) (f_1_0_6 : (List T_api_Literal)) : Option (Int) :=
 Option.bind (loopF k_ ((sIFL_s1_l1f k_) s_0 f_1_0_0 f_1_0_1 f_1_0_2 f_1_0_3 f_1_0_4 f_1_0_5 f_1_0_6) 0) (sumK (fun a : Int => some a) fun q10 : Unit =>
 some ((-1)))

theorem sIFL_s1_f_le {k_ : Nat} {s_0 : (List T_api_Literal)} {f_1_0_0 : (List (List T_api_Commitment))} {f_1_0_1 : Int} {f_1_0_2 : Int} {f_1_0_3 : Int} {f_1_0_4 : Bool} {f_1_0_5 : ByteArray} {f_1_0_6 : (List T_api_Literal)} : Le (sIFL_s1_f k_ s_0 f_1_0_0 f_1_0_1 f_1_0_2 f_1_0_3 f_1_0_4 f_1_0_5 f_1_0_6) (sIFL_s1_m s_0 f_1_0_0 f_1_0_1 f_1_0_2 f_1_0_3 f_1_0_4 f_1_0_5 f_1_0_6) := by
 unfold sIFL_s1_f sIFL_s1_m
 repeat' with_reducible (first | exact Le.refl _ | refine Le.loop (fun _ => sIFL_s1_l1f_le) | refine Le.bind ?_ (Le.sumKK (fun _ => ?_) fun _ => ?_) | refine Le.bind ?_ (Le.sumK fun _ => ?_) | refine Le.bind ?_ (fun _ => ?_))

def sCFL_s1_f (k_ : Nat) (s_0 : (List T_api_Literal)) (f_1_0_0 : (List (List T_api_Commitment))) (f_1_0_1 : Int) (f_1_0_2 : Int) (f_1_0_3 : Int) (f_1_0_4 : Bool) (f_1_0_5 : ByteArray) (f_1_0_6 : (List T_api_Literal)) : Option (Bool) :=
 Option.bind ((sIFL_s1_f k_) s_0 f_1_0_0 f_1_0_1 f_1_0_2 f_1_0_3 f_1_0_4 f_1_0_5 f_1_0_6) fun t1 =>
 some (decide (t1 ≥ 0))

theorem sCFL_s1_f_le {k_ : Nat} {s_0 : (List T_api_Literal)} {f_1_0_0 : (List (List T_api_Commitment))} {f_1_0_1 : Int} {f_1_0_2 : Int} {f_1_0_3 : Int} {f_1_0_4 : Bool} {f_1_0_5 : ByteArray} {f_1_0_6 : (List T_api_Literal)} : Le (sCFL_s1_f k_ s_0 f_1_0_0 f_1_0_1 f_1_0_2 f_1_0_3 f_1_0_4 f_1_0_5 f_1_0_6) (sCFL_s1_m s_0 f_1_0_0 f_1_0_1 f_1_0_2 f_1_0_3 f_1_0_4 f_1_0_5 f_1_0_6) := by
 unfold sCFL_s1_f sCFL_s1_m
 repeat' with_reducible (first | exact Le.refl _ | refine sIFL_s1_f_le | refine Le.bind ?_ (fun _ => ?_))

def commitment_speaker_argue_l1f (k_ : Nat) (p_0_s_L : (List (List T_api_Commitment))) (p_0_x_Kind : Int) (p_0_x_By : Int) (p_0_x_To : Int) (p_0_x_Claim_Neg : Bool) (p_0_x_Claim_Name : ByteArray) (p_0_x_Grounds : (List T_api_Literal)) (s36 : Int × Int) : Option (Sum (Int) (Int × Int)) :=
 bif decide (s36.2 < ((p_0_x_Grounds.length : Int))) then
 Option.bind (idxM p_0_x_Grounds s36.2) fun t37 =>
 Option.bind ((commitment_speaker_has_f k_) p_0_s_L p_0_x_Kind p_0_x_By p_0_x_To p_0_x_Claim_Neg p_0_x_Claim_Name p_0_x_Grounds p_0_x_By t37) fun t38 =>
 bif !t38.2 then
 some (Sum.inr ((iadd .i64 s36.1 1, iadd .i64 s36.2 1)))
 else
 some (Sum.inr ((s36.1, iadd .i64 s36.2 1)))
 else
 some (Sum.inl s36.1)

theorem commitment_speaker_argue_l1f_le {k_ : Nat} {p_0_s_L : (List (List T_api_Commitment))} {p_0_x_Kind : Int} {p_0_x_By : Int} {p_0_x_To : Int} {p_0_x_Claim_Neg : Bool} {p_0_x_Claim_Name : ByteArray} {p_0_x_Grounds : (List T_api_Literal)} {s36 : Int × Int} : Le (commitment_speaker_argue_l1f k_ p_0_s_L p_0_x_Kind p_0_x_By p_0_x_To p_0_x_Claim_Neg p_0_x_Claim_Name p_0_x_Grounds s36) (commitment_speaker_argue_l1 p_0_s_L p_0_x_Kind p_0_x_By p_0_x_To p_0_x_Claim_Neg p_0_x_Claim_Name p_0_x_Grounds s36) := by
 unfold commitment_speaker_argue_l1f commitment_speaker_argue_l1
 repeat' with_reducible (first | exact Le.refl _ | refine commitment_speaker_has_f_le | refine Le.bind ?_ (fun _ => ?_) | refine Le.cond ?_ ?_)

def commitment_speaker_argue_l2f (k_ : Nat) (p_0_x_Grounds : (List T_api_Literal)) (s53 : Int × Int × Int × Int × Bool × ByteArray × (List T_api_Literal) × (List (List T_api_Commitment))) : Option (Sum (Int × Int × Int × Bool × ByteArray × (List T_api_Literal) × (List (List T_api_Commitment))) (Int × Int × Int × Int × Bool × ByteArray × (List T_api_Literal) × (List (List T_api_Commitment)))) :=
 bif decide (s53.1 < ((p_0_x_Grounds.length : Int))) then
 Option.bind (idxM p_0_x_Grounds s53.1) fun t54 =>
 Option.bind ((commitment_speaker_put_f k_) s53.2.2.2.2.2.2.2 s53.2.1 s53.2.2.1 s53.2.2.2.1 s53.2.2.2.2.1 s53.2.2.2.2.2.1 s53.2.2.2.2.2.2.1 t54 false) fun t55 =>
 some (Sum.inr ((iadd .i64 s53.1 1, t55.1, t55.2.1, t55.2.2.1, t55.2.2.2.1, t55.2.2.2.2.1, t55.2.2.2.2.2.1, t55.2.2.2.2.2.2)))
 else
 some (Sum.inl ((s53.2.1, s53.2.2.1, s53.2.2.2.1, s53.2.2.2.2.1, s53.2.2.2.2.2.1, s53.2.2.2.2.2.2.1, s53.2.2.2.2.2.2.2)))

theorem commitment_speaker_argue_l2f_le {k_ : Nat} {p_0_x_Grounds : (List T_api_Literal)} {s53 : Int × Int × Int × Int × Bool × ByteArray × (List T_api_Literal) × (List (List T_api_Commitment))} : Le (commitment_speaker_argue_l2f k_ p_0_x_Grounds s53) (commitment_speaker_argue_l2 p_0_x_Grounds s53) := by
 unfold commitment_speaker_argue_l2f commitment_speaker_argue_l2
 repeat' with_reducible (first | exact Le.refl _ | refine commitment_speaker_put_f_le | refine Le.bind ?_ (fun _ => ?_) | refine Le.cond ?_ ?_)

def commitment_speaker_argue_f (k_ : Nat) (p_0_s_L : (List (List T_api_Commitment))) (p_0_x_Kind : Int) (p_0_x_By : Int) (p_0_x_To : Int) (p_0_x_Claim_Neg : Bool) (p_0_x_Claim_Name : ByteArray) (p_0_x_Grounds : (List T_api_Literal)) : Option (Int × Int × Int × Int × Bool × ByteArray × (List T_api_Literal) × (List (List T_api_Commitment))) :=
 Option.bind (idxM p_0_s_L p_0_x_By) fun t2 =>
 Option.bind ((commitment_speaker_has_f k_) p_0_s_L p_0_x_Kind p_0_x_By p_0_x_To p_0_x_Claim_Neg p_0_x_Claim_Name p_0_x_Grounds p_0_x_By ((T_api_Literal.mk p_0_x_Claim_Neg p_0_x_Claim_Name))) fun t4 =>
 joinM (fun j16 : Bool =>
 bif j16 then
 some ((6, p_0_x_Kind, p_0_x_By, p_0_x_To, p_0_x_Claim_Neg, p_0_x_Claim_Name, p_0_x_Grounds, p_0_s_L))
 else
 bif ((p_0_x_Grounds.length : Int) : Int) == 0 then
 some ((1, p_0_x_Kind, p_0_x_By, p_0_x_To, p_0_x_Claim_Neg, p_0_x_Claim_Name, p_0_x_Grounds, p_0_s_L))
 else
 bif decide (((p_0_x_Grounds.length : Int)) > 6) then
 some ((2, p_0_x_Kind, p_0_x_By, p_0_x_To, p_0_x_Claim_Neg, p_0_x_Claim_Name, p_0_x_Grounds, p_0_s_L))
 else
 Option.bind ((commitment_sound_f k_) p_0_x_Grounds) fun t17 =>
 bif !t17 then
 some ((3, p_0_x_Kind, p_0_x_By, p_0_x_To, p_0_x_Claim_Neg, p_0_x_Claim_Name, p_0_x_Grounds, p_0_s_L))
 else
 Option.bind ((commitment_rising_s1_f k_) p_0_x_Grounds) fun t18 =>
 bif !t18 then
 some ((8, p_0_x_Kind, p_0_x_By, p_0_x_To, p_0_x_Claim_Neg, p_0_x_Claim_Name, p_0_x_Grounds, p_0_s_L))
 else
 Option.bind ((sCnL_f k_) p_0_x_Grounds ((T_api_Literal.mk p_0_x_Claim_Neg p_0_x_Claim_Name))) fun t19 =>
 bif t19 then
 some ((7, p_0_x_Kind, p_0_x_By, p_0_x_To, p_0_x_Claim_Neg, p_0_x_Claim_Name, p_0_x_Grounds, p_0_s_L))
 else
 Option.bind ((sCFL_s1_f k_) p_0_x_Grounds p_0_s_L p_0_x_Kind p_0_x_By p_0_x_To p_0_x_Claim_Neg p_0_x_Claim_Name p_0_x_Grounds) fun t20 =>
 bif t20 then
 some ((10, p_0_x_Kind, p_0_x_By, p_0_x_To, p_0_x_Claim_Neg, p_0_x_Claim_Name, p_0_x_Grounds, p_0_s_L))
 else
 Option.bind ((literal_Consistent_q_f k_) p_0_x_Grounds) fun t21 =>
 bif !t21 then
 some ((10, p_0_x_Kind, p_0_x_By, p_0_x_To, p_0_x_Claim_Neg, p_0_x_Claim_Name, p_0_x_Grounds, p_0_s_L))
 else
 Option.bind (loopF k_ ((commitment_speaker_argue_l1f k_) p_0_s_L p_0_x_Kind p_0_x_By p_0_x_To p_0_x_Claim_Neg p_0_x_Claim_Name p_0_x_Grounds) ((0, 0))) fun q39 : Int =>
 Option.bind ((commitment_speaker_room_f k_) p_0_s_L p_0_x_Kind p_0_x_By p_0_x_To p_0_x_Claim_Neg p_0_x_Claim_Name p_0_x_Grounds q39) fun t41 =>
 bif !t41 then
 some ((2, p_0_x_Kind, p_0_x_By, p_0_x_To, p_0_x_Claim_Neg, p_0_x_Claim_Name, p_0_x_Grounds, p_0_s_L))
 else
 Option.bind ((slices_Clone_api_Literal_api_Literal_f k_) p_0_x_Grounds) fun t42 =>
 Option.bind (idxM t2 t4.1) fun t43 =>
 Option.bind (idxM (p_0_s_L.set (Int.toNat p_0_x_By) (t2.set (Int.toNat t4.1) ((T_api_Commitment.mk t43.Claim t43.Conceded false t43.Grounds)))) p_0_x_By) fun l44 =>
 Option.bind (idxM l44 t4.1) fun t45 =>
 Option.bind (idxM (p_0_s_L.set (Int.toNat p_0_x_By) (t2.set (Int.toNat t4.1) ((T_api_Commitment.mk t43.Claim t43.Conceded false t43.Grounds)))) p_0_x_By) fun l46 =>
 Option.bind (loopF k_ ((commitment_speaker_argue_l2f k_) p_0_x_Grounds) ((0, p_0_x_Kind, p_0_x_By, p_0_x_To, p_0_x_Claim_Neg, p_0_x_Claim_Name, p_0_x_Grounds, (p_0_s_L.set (Int.toNat p_0_x_By) (t2.set (Int.toNat t4.1) ((T_api_Commitment.mk t43.Claim t43.Conceded false t43.Grounds)))).set (Int.toNat p_0_x_By) (l46.set (Int.toNat t4.1) ((T_api_Commitment.mk t45.Claim t45.Conceded t45.Burden t42)))))) fun q56 : Int × Int × Int × Bool × ByteArray × (List T_api_Literal) × (List (List T_api_Commitment)) =>
 some ((0, q56.1, q56.2.1, q56.2.2.1, q56.2.2.2.1, q56.2.2.2.2.1, q56.2.2.2.2.2.1, q56.2.2.2.2.2.2))) fun k15 =>
 bif !t4.2 then
 k15 true
 else
 Option.bind (idxM t2 t4.1) fun t57 =>
 k15 (!t57.Burden)

theorem commitment_speaker_argue_f_le {k_ : Nat} {p_0_s_L : (List (List T_api_Commitment))} {p_0_x_Kind : Int} {p_0_x_By : Int} {p_0_x_To : Int} {p_0_x_Claim_Neg : Bool} {p_0_x_Claim_Name : ByteArray} {p_0_x_Grounds : (List T_api_Literal)} : Le (commitment_speaker_argue_f k_ p_0_s_L p_0_x_Kind p_0_x_By p_0_x_To p_0_x_Claim_Neg p_0_x_Claim_Name p_0_x_Grounds) (commitment_speaker_argue_m p_0_s_L p_0_x_Kind p_0_x_By p_0_x_To p_0_x_Claim_Neg p_0_x_Claim_Name p_0_x_Grounds) := by
 unfold commitment_speaker_argue_f commitment_speaker_argue_m
 repeat' with_reducible (first | exact Le.refl _ | refine commitment_speaker_has_f_le | refine commitment_sound_f_le | refine commitment_rising_s1_f_le | refine sCnL_f_le | refine sCFL_s1_f_le | refine literal_Consistent_q_f_le | refine commitment_speaker_room_f_le | refine slices_Clone_api_Literal_api_Literal_f_le | refine Le.loop (fun _ => commitment_speaker_argue_l1f_le) | refine Le.loop (fun _ => commitment_speaker_argue_l2f_le) | refine Le.bind ?_ (fun _ => ?_) | refine Le.cond ?_ ?_ | refine Le.join (fun _ => ?_) (fun _ _ hj => ?_) | exact hj _)

def commitment_speaker_concede_1_f (k_ : Nat) (l_0 : (List T_api_Commitment)) (p_1_0_0 : (Int × List (List T_api_Commitment))) (p_1_0_1 : Int) (p_1_0_2 : Int) (p_1_0_3 : Int) (p_1_0_4 : Bool) (p_1_0_5 : ByteArray) (p_1_0_6 : (List T_api_Literal)) : Option (Bool) :=
 Option.bind ((commitment_find_f k_) l_0 ((T_api_Literal.mk p_1_0_4 p_1_0_5))) fun t1 =>
 some t1.2

theorem commitment_speaker_concede_1_f_le {k_ : Nat} {l_0 : (List T_api_Commitment)} {p_1_0_0 : (Int × List (List T_api_Commitment))} {p_1_0_1 : Int} {p_1_0_2 : Int} {p_1_0_3 : Int} {p_1_0_4 : Bool} {p_1_0_5 : ByteArray} {p_1_0_6 : (List T_api_Literal)} : Le (commitment_speaker_concede_1_f k_ l_0 p_1_0_0 p_1_0_1 p_1_0_2 p_1_0_3 p_1_0_4 p_1_0_5 p_1_0_6) (commitment_speaker_concede_1_m l_0 p_1_0_0 p_1_0_1 p_1_0_2 p_1_0_3 p_1_0_4 p_1_0_5 p_1_0_6) := by
 unfold commitment_speaker_concede_1_f commitment_speaker_concede_1_m
 repeat' with_reducible (first | exact Le.refl _ | refine commitment_find_f_le | refine Le.bind ?_ (fun _ => ?_))

def sIFC_s7_l1f (k_ : Nat) (s_0 : (List (List T_api_Commitment))) (f_1_0_0_1 : Int) (f_1_0_0_2 : Int) (f_1_0_0_3 : Int) (f_1_0_0_4 : Bool) (f_1_0_0_5 : ByteArray) (f_1_0_0_6 : (List T_api_Literal)) (s7 : Int) : Option (Sum (Sum (Int) (Unit)) (Int)) :=
 bif decide (s7 < ((s_0.length : Int))) then
 Option.bind (idxM s_0 s7) fun t8 =>
 Option.bind ((commitment_speaker_concede_1_f k_) t8 ((s7, s_0)) f_1_0_0_1 f_1_0_0_2 f_1_0_0_3 f_1_0_0_4 f_1_0_0_5 f_1_0_0_6) fun t9 =>
 bif t9 then
 some (Sum.inl (Sum.inl s7))
 else
 some (Sum.inr (iadd .i64 s7 1))
 else
 some (Sum.inl (Sum.inr (())))

theorem sIFC_s7_l1f_le {k_ : Nat} {s_0 : (List (List T_api_Commitment))} {f_1_0_0_1 : Int} {f_1_0_0_2 : Int} {f_1_0_0_3 : Int} {f_1_0_0_4 : Bool} {f_1_0_0_5 : ByteArray} {f_1_0_0_6 : (List T_api_Literal)} {s7 : Int} : Le (sIFC_s7_l1f k_ s_0 f_1_0_0_1 f_1_0_0_2 f_1_0_0_3 f_1_0_0_4 f_1_0_0_5 f_1_0_0_6 s7) (sIFC_s7_l1 s_0 f_1_0_0_1 f_1_0_0_2 f_1_0_0_3 f_1_0_0_4 f_1_0_0_5 f_1_0_0_6 s7) := by
 unfold sIFC_s7_l1f sIFC_s7_l1
 repeat' with_reducible (first | exact Le.refl _ | refine commitment_speaker_concede_1_f_le | refine Le.bind ?_ (fun _ => ?_) | refine Le.cond ?_ ?_)

def sIFC_s7_f (k_ : Nat) (s_0 : (List (List T_api_Commitment))) (f_1_0_0_1 : Int) (f_1_0_0_2 : Int) (f_1_0_0_3 : Int) (f_1_0_0_4 : Bool) (f_1_0_0_5 : ByteArray) (f_1_0_0_6 : (List T_api_Literal)) : Option (Int) :=
 Option.bind (loopF k_ ((sIFC_s7_l1f k_) s_0 f_1_0_0_1 f_1_0_0_2 f_1_0_0_3 f_1_0_0_4 f_1_0_0_5 f_1_0_0_6) 0) (sumK (fun a : Int => some a) fun q10 : Unit =>
 some ((-1)))

theorem sIFC_s7_f_le {k_ : Nat} {s_0 : (List (List T_api_Commitment))} {f_1_0_0_1 : Int} {f_1_0_0_2 : Int} {f_1_0_0_3 : Int} {f_1_0_0_4 : Bool} {f_1_0_0_5 : ByteArray} {f_1_0_0_6 : (List T_api_Literal)} : Le (sIFC_s7_f k_ s_0 f_1_0_0_1 f_1_0_0_2 f_1_0_0_3 f_1_0_0_4 f_1_0_0_5 f_1_0_0_6) (sIFC_s7_m s_0 f_1_0_0_1 f_1_0_0_2 f_1_0_0_3 f_1_0_0_4 f_1_0_0_5 f_1_0_0_6) := by
 unfold sIFC_s7_f sIFC_s7_m
 repeat' with_reducible (first | exact Le.refl _ | refine Le.loop (fun _ => sIFC_s7_l1f_le) | refine Le.bind ?_ (Le.sumKK (fun _ => ?_) fun _ => ?_) | refine Le.bind ?_ (Le.sumK fun _ => ?_) | refine Le.bind ?_ (fun _ => ?_))

def sCFC_s7_f (k_ : Nat) (s_0 : (List (List T_api_Commitment))) (f_1_0_0_1 : Int) (f_1_0_0_2 : Int) (f_1_0_0_3 : Int) (f_1_0_0_4 : Bool) (f_1_0_0_5 : ByteArray) (f_1_0_0_6 : (List T_api_Literal)) : Option (Bool) :=
 Option.bind ((sIFC_s7_f k_) s_0 f_1_0_0_1 f_1_0_0_2 f_1_0_0_3 f_1_0_0_4 f_1_0_0_5 f_1_0_0_6) fun t1 =>
 some (decide (t1 ≥ 0))

theorem sCFC_s7_f_le {k_ : Nat} {s_0 : (List (List T_api_Commitment))} {f_1_0_0_1 : Int} {f_1_0_0_2 : Int} {f_1_0_0_3 : Int} {f_1_0_0_4 : Bool} {f_1_0_0_5 : ByteArray} {f_1_0_0_6 : (List T_api_Literal)} : Le (sCFC_s7_f k_ s_0 f_1_0_0_1 f_1_0_0_2 f_1_0_0_3 f_1_0_0_4 f_1_0_0_5 f_1_0_0_6) (sCFC_s7_m s_0 f_1_0_0_1 f_1_0_0_2 f_1_0_0_3 f_1_0_0_4 f_1_0_0_5 f_1_0_0_6) := by
 unfold sCFC_s7_f sCFC_s7_m
 repeat' with_reducible (first | exact Le.refl _ | refine sIFC_s7_f_le | refine Le.bind ?_ (fun _ => ?_))

def commitment_speaker_concede_f (k_ : Nat) (p_0_s_L : (List (List T_api_Commitment))) (p_0_x_Kind : Int) (p_0_x_By : Int) (p_0_x_To : Int) (p_0_x_Claim_Neg : Bool) (p_0_x_Claim_Name : ByteArray) (p_0_x_Grounds : (List T_api_Literal)) : Option (Int × Int × Int × Int × Bool × ByteArray × (List T_api_Literal) × (List (List T_api_Commitment))) :=
 Option.bind ((commitment_speaker_has_f k_) p_0_s_L p_0_x_Kind p_0_x_By p_0_x_To p_0_x_Claim_Neg p_0_x_Claim_Name p_0_x_Grounds p_0_x_By ((T_api_Literal.mk p_0_x_Claim_Neg p_0_x_Claim_Name))) fun t2 =>
 bif t2.2 then
 some ((5, p_0_x_Kind, p_0_x_By, p_0_x_To, p_0_x_Claim_Neg, p_0_x_Claim_Name, p_0_x_Grounds, p_0_s_L))
 else
 Option.bind ((sCFC_s7_f k_) p_0_s_L p_0_x_Kind p_0_x_By p_0_x_To p_0_x_Claim_Neg p_0_x_Claim_Name p_0_x_Grounds) fun t4 =>
 bif !t4 then
 some ((6, p_0_x_Kind, p_0_x_By, p_0_x_To, p_0_x_Claim_Neg, p_0_x_Claim_Name, p_0_x_Grounds, p_0_s_L))
 else
 Option.bind ((commitment_speaker_opposed_f k_) p_0_s_L p_0_x_Kind p_0_x_By p_0_x_To p_0_x_Claim_Neg p_0_x_Claim_Name p_0_x_Grounds ((T_api_Literal.mk p_0_x_Claim_Neg p_0_x_Claim_Name))) fun t9 =>
 bif t9 then
 some ((10, p_0_x_Kind, p_0_x_By, p_0_x_To, p_0_x_Claim_Neg, p_0_x_Claim_Name, p_0_x_Grounds, p_0_s_L))
 else
 Option.bind ((commitment_speaker_room_f k_) p_0_s_L p_0_x_Kind p_0_x_By p_0_x_To p_0_x_Claim_Neg p_0_x_Claim_Name p_0_x_Grounds 1) fun t10 =>
 bif !t10 then
 some ((2, p_0_x_Kind, p_0_x_By, p_0_x_To, p_0_x_Claim_Neg, p_0_x_Claim_Name, p_0_x_Grounds, p_0_s_L))
 else
 Option.bind ((commitment_speaker_put_f k_) p_0_s_L p_0_x_Kind p_0_x_By p_0_x_To p_0_x_Claim_Neg p_0_x_Claim_Name p_0_x_Grounds ((T_api_Literal.mk p_0_x_Claim_Neg p_0_x_Claim_Name)) true) fun t11 =>
 some ((0, t11.1, t11.2.1, t11.2.2.1, t11.2.2.2.1, t11.2.2.2.2.1, t11.2.2.2.2.2.1, t11.2.2.2.2.2.2))

theorem commitment_speaker_concede_f_le {k_ : Nat} {p_0_s_L : (List (List T_api_Commitment))} {p_0_x_Kind : Int} {p_0_x_By : Int} {p_0_x_To : Int} {p_0_x_Claim_Neg : Bool} {p_0_x_Claim_Name : ByteArray} {p_0_x_Grounds : (List T_api_Literal)} : Le (commitment_speaker_concede_f k_ p_0_s_L p_0_x_Kind p_0_x_By p_0_x_To p_0_x_Claim_Neg p_0_x_Claim_Name p_0_x_Grounds) (commitment_speaker_concede_m p_0_s_L p_0_x_Kind p_0_x_By p_0_x_To p_0_x_Claim_Neg p_0_x_Claim_Name p_0_x_Grounds) := by
 unfold commitment_speaker_concede_f commitment_speaker_concede_m
 repeat' with_reducible (first | exact Le.refl _ | refine commitment_speaker_has_f_le | refine sCFC_s7_f_le | refine commitment_speaker_opposed_f_le | refine commitment_speaker_room_f_le | refine commitment_speaker_put_f_le | refine Le.bind ?_ (fun _ => ?_) | refine Le.cond ?_ ?_)

def commitment_speaker_retract_l1f (k_ : Nat) (p_0_x_Claim_Neg : Bool) (p_0_x_Claim_Name : ByteArray) (l6 : ((List T_api_Commitment))) (s37 : Int × (List T_api_Commitment)) : Option (Sum ((List T_api_Commitment)) (Int × (List T_api_Commitment))) :=
 bif decide (s37.1 < ((l6.length : Int))) then
 Option.bind (idxM s37.2 s37.1) fun t40 =>
 Option.bind ((sCnL_f k_) t40.Grounds ((T_api_Literal.mk p_0_x_Claim_Neg p_0_x_Claim_Name))) fun t41 =>
 bif t41 then
 Option.bind (idxM s37.2 s37.1) fun t42 =>
 Option.bind (idxM (s37.2.set (Int.toNat s37.1) ((T_api_Commitment.mk t42.Claim t42.Conceded true t42.Grounds))) s37.1) fun t43 =>
 some (Sum.inr ((iadd .i64 s37.1 1, (s37.2.set (Int.toNat s37.1) ((T_api_Commitment.mk t42.Claim t42.Conceded true t42.Grounds))).set (Int.toNat s37.1) ((T_api_Commitment.mk t43.Claim t43.Conceded t43.Burden [])))))
 else
 some (Sum.inr ((iadd .i64 s37.1 1, s37.2)))
 else
 some (Sum.inl s37.2)

theorem commitment_speaker_retract_l1f_le {k_ : Nat} {p_0_x_Claim_Neg : Bool} {p_0_x_Claim_Name : ByteArray} {l6 : ((List T_api_Commitment))} {s37 : Int × (List T_api_Commitment)} : Le (commitment_speaker_retract_l1f k_ p_0_x_Claim_Neg p_0_x_Claim_Name l6 s37) (commitment_speaker_retract_l1 p_0_x_Claim_Neg p_0_x_Claim_Name l6 s37) := by
 unfold commitment_speaker_retract_l1f commitment_speaker_retract_l1
 repeat' with_reducible (first | exact Le.refl _ | refine sCnL_f_le | refine Le.bind ?_ (fun _ => ?_) | refine Le.cond ?_ ?_)

def commitment_speaker_retract_f (k_ : Nat) (p_0_s_L : (List (List T_api_Commitment))) (p_0_x_Kind : Int) (p_0_x_By : Int) (p_0_x_To : Int) (p_0_x_Claim_Neg : Bool) (p_0_x_Claim_Name : ByteArray) (p_0_x_Grounds : (List T_api_Literal)) : Option (Int × Int × Int × Int × Bool × ByteArray × (List T_api_Literal) × (List (List T_api_Commitment))) :=
 Option.bind ((commitment_speaker_has_f k_) p_0_s_L p_0_x_Kind p_0_x_By p_0_x_To p_0_x_Claim_Neg p_0_x_Claim_Name p_0_x_Grounds p_0_x_By ((T_api_Literal.mk p_0_x_Claim_Neg p_0_x_Claim_Name))) fun t2 =>
 bif !t2.2 then
 some ((6, p_0_x_Kind, p_0_x_By, p_0_x_To, p_0_x_Claim_Neg, p_0_x_Claim_Name, p_0_x_Grounds, p_0_s_L))
 else
 Option.bind (idxM p_0_s_L p_0_x_By) fun t5 =>
 Option.bind (slices_Delete_api_Commitment_api_Commitment_q_m t5 t2.1 (iadd .i64 t2.1 1)) fun l6 =>
 Option.bind (loopF k_ ((commitment_speaker_retract_l1f k_) p_0_x_Claim_Neg p_0_x_Claim_Name l6) ((0, l6))) fun q44 : (List T_api_Commitment) =>
 Option.bind (idxM p_0_s_L p_0_x_By) fun t45 =>
 some ((0, p_0_x_Kind, p_0_x_By, p_0_x_To, p_0_x_Claim_Neg, p_0_x_Claim_Name, p_0_x_Grounds, p_0_s_L.set (Int.toNat p_0_x_By) q44))

theorem commitment_speaker_retract_f_le {k_ : Nat} {p_0_s_L : (List (List T_api_Commitment))} {p_0_x_Kind : Int} {p_0_x_By : Int} {p_0_x_To : Int} {p_0_x_Claim_Neg : Bool} {p_0_x_Claim_Name : ByteArray} {p_0_x_Grounds : (List T_api_Literal)} : Le (commitment_speaker_retract_f k_ p_0_s_L p_0_x_Kind p_0_x_By p_0_x_To p_0_x_Claim_Neg p_0_x_Claim_Name p_0_x_Grounds) (commitment_speaker_retract_m p_0_s_L p_0_x_Kind p_0_x_By p_0_x_To p_0_x_Claim_Neg p_0_x_Claim_Name p_0_x_Grounds) := by
 unfold commitment_speaker_retract_f commitment_speaker_retract_m
 repeat' with_reducible (first | exact Le.refl _ | refine commitment_speaker_has_f_le | refine Le.loop (fun _ => commitment_speaker_retract_l1f_le) | refine Le.bind ?_ (fun _ => ?_) | refine Le.cond ?_ ?_)

def commitment_Say_f (k_ : Nat) (s_0 : T_api_Stores) (x_1 : T_api_Speech) : Option (T_api_Stores × Int) :=
 Option.bind ((commitment_Validate_f k_) s_0) fun e2 =>
 bif (e2 : Int) != 0 then
 some (((T_api_Stores.mk []), e2))
 else
 Option.bind ((commitment_copied_f k_) s_0) fun t4 =>
 bif (x_1.Kind : Int) == 1 then
 bif !true then
 some (((T_api_Stores.mk []), 4))
 else
 joinM (fun j15 : Bool =>
 bif j15 then
 some (((T_api_Stores.mk []), 1))
 else
 Option.bind ((literal_Valid_f k_) x_1.Claim) fun t16 =>
 bif !t16 then
 some (((T_api_Stores.mk []), 3))
 else
 Option.bind ((commitment_speaker_assert_f k_) t4 x_1.Kind x_1.By x_1.To x_1.Claim.Neg x_1.Claim.Name x_1.Grounds) fun e17 =>
 bif (e17.1 : Int) != 0 then
 some (((T_api_Stores.mk []), e17.1))
 else
 some (((T_api_Stores.mk e17.2.2.2.2.2.2.2), 0))) fun k14 =>
 Option.bind ((commitment_Say_1_f k_) x_1.By s_0.L) fun t18 =>
 bif !t18 then
 k14 true
 else
 bif (x_1.Kind : Int) == 2 then
 Option.bind ((commitment_Say_1_f k_) x_1.To s_0.L) fun t19 =>
 k14 (!t19)
 else
 k14 false
 else
 bif (x_1.Kind : Int) == 2 then
 bif !true then
 some (((T_api_Stores.mk []), 4))
 else
 joinM (fun j30 : Bool =>
 bif j30 then
 some (((T_api_Stores.mk []), 1))
 else
 Option.bind ((literal_Valid_f k_) x_1.Claim) fun t31 =>
 bif !t31 then
 some (((T_api_Stores.mk []), 3))
 else
 Option.bind ((commitment_speaker_challenge_f k_) t4 x_1.Kind x_1.By x_1.To x_1.Claim.Neg x_1.Claim.Name x_1.Grounds) fun e32 =>
 bif (e32.1 : Int) != 0 then
 some (((T_api_Stores.mk []), e32.1))
 else
 some (((T_api_Stores.mk e32.2), 0))) fun k29 =>
 Option.bind ((commitment_Say_1_f k_) x_1.By s_0.L) fun t33 =>
 bif !t33 then
 k29 true
 else
 bif (x_1.Kind : Int) == 2 then
 Option.bind ((commitment_Say_1_f k_) x_1.To s_0.L) fun t34 =>
 k29 (!t34)
 else
 k29 false
 else
 bif (x_1.Kind : Int) == 3 then
 bif !true then
 some (((T_api_Stores.mk []), 4))
 else
 joinM (fun j45 : Bool =>
 bif j45 then
 some (((T_api_Stores.mk []), 1))
 else
 Option.bind ((literal_Valid_f k_) x_1.Claim) fun t46 =>
 bif !t46 then
 some (((T_api_Stores.mk []), 3))
 else
 Option.bind ((commitment_speaker_argue_f k_) t4 x_1.Kind x_1.By x_1.To x_1.Claim.Neg x_1.Claim.Name x_1.Grounds) fun e47 =>
 bif (e47.1 : Int) != 0 then
 some (((T_api_Stores.mk []), e47.1))
 else
 some (((T_api_Stores.mk e47.2.2.2.2.2.2.2), 0))) fun k44 =>
 Option.bind ((commitment_Say_1_f k_) x_1.By s_0.L) fun t48 =>
 bif !t48 then
 k44 true
 else
 bif (x_1.Kind : Int) == 2 then
 Option.bind ((commitment_Say_1_f k_) x_1.To s_0.L) fun t49 =>
 k44 (!t49)
 else
 k44 false
 else
 bif (x_1.Kind : Int) == 4 then
 bif !true then
 some (((T_api_Stores.mk []), 4))
 else
 joinM (fun j60 : Bool =>
 bif j60 then
 some (((T_api_Stores.mk []), 1))
 else
 Option.bind ((literal_Valid_f k_) x_1.Claim) fun t61 =>
 bif !t61 then
 some (((T_api_Stores.mk []), 3))
 else
 Option.bind ((commitment_speaker_concede_f k_) t4 x_1.Kind x_1.By x_1.To x_1.Claim.Neg x_1.Claim.Name x_1.Grounds) fun e62 =>
 bif (e62.1 : Int) != 0 then
 some (((T_api_Stores.mk []), e62.1))
 else
 some (((T_api_Stores.mk e62.2.2.2.2.2.2.2), 0))) fun k59 =>
 Option.bind ((commitment_Say_1_f k_) x_1.By s_0.L) fun t63 =>
 bif !t63 then
 k59 true
 else
 bif (x_1.Kind : Int) == 2 then
 Option.bind ((commitment_Say_1_f k_) x_1.To s_0.L) fun t64 =>
 k59 (!t64)
 else
 k59 false
 else
 bif (x_1.Kind : Int) == 5 then
 bif !true then
 some (((T_api_Stores.mk []), 4))
 else
 joinM (fun j75 : Bool =>
 bif j75 then
 some (((T_api_Stores.mk []), 1))
 else
 Option.bind ((literal_Valid_f k_) x_1.Claim) fun t76 =>
 bif !t76 then
 some (((T_api_Stores.mk []), 3))
 else
 Option.bind ((commitment_speaker_retract_f k_) t4 x_1.Kind x_1.By x_1.To x_1.Claim.Neg x_1.Claim.Name x_1.Grounds) fun e77 =>
 bif (e77.1 : Int) != 0 then
 some (((T_api_Stores.mk []), e77.1))
 else
 some (((T_api_Stores.mk e77.2.2.2.2.2.2.2), 0))) fun k74 =>
 Option.bind ((commitment_Say_1_f k_) x_1.By s_0.L) fun t78 =>
 bif !t78 then
 k74 true
 else
 bif (x_1.Kind : Int) == 2 then
 Option.bind ((commitment_Say_1_f k_) x_1.To s_0.L) fun t79 =>
 k74 (!t79)
 else
 k74 false
 else
 bif !false then
 some (((T_api_Stores.mk []), 4))
 else
 joinM (fun j90 : Bool =>
 bif j90 then
 some (((T_api_Stores.mk []), 1))
 else
 Option.bind ((literal_Valid_f k_) x_1.Claim) fun t91 =>
 bif !t91 then
 some (((T_api_Stores.mk []), 3))
 else
 none) fun k89 =>
 Option.bind ((commitment_Say_1_f k_) x_1.By s_0.L) fun t92 =>
 bif !t92 then
 k89 true
 else
 bif (x_1.Kind : Int) == 2 then
 Option.bind ((commitment_Say_1_f k_) x_1.To s_0.L) fun t93 =>
 k89 (!t93)
 else
 k89 false

theorem commitment_Say_f_le {k_ : Nat} {s_0 : T_api_Stores} {x_1 : T_api_Speech} : Le (commitment_Say_f k_ s_0 x_1) (commitment_Say_m s_0 x_1) := by
 unfold commitment_Say_f commitment_Say_m
 repeat' with_reducible (first | exact Le.refl _ | refine commitment_Validate_f_le | refine commitment_copied_f_le | refine literal_Valid_f_le | refine commitment_speaker_assert_f_le | refine commitment_Say_1_f_le | refine commitment_speaker_challenge_f_le | refine commitment_speaker_argue_f_le | refine commitment_speaker_concede_f_le | refine commitment_speaker_retract_f_le | refine Le.bind ?_ (fun _ => ?_) | refine Le.cond ?_ ?_ | refine Le.join (fun _ => ?_) (fun _ _ hj => ?_) | exact hj _)

def commitment_usable_f (k_ : Nat) (s_0 : T_api_Stores) (who_1 : Int) : Option (Bool) :=
 Option.bind ((commitment_Validate_f k_) s_0) fun t1 =>
 bif (t1 : Int) == 0 then
 bif decide (who_1 ≥ 0) then
 some (decide (who_1 < ((s_0.L.length : Int))))
 else
 some false
 else
 some false

theorem commitment_usable_f_le {k_ : Nat} {s_0 : T_api_Stores} {who_1 : Int} : Le (commitment_usable_f k_ s_0 who_1) (commitment_usable_m s_0 who_1) := by
 unfold commitment_usable_f commitment_usable_m
 repeat' with_reducible (first | exact Le.refl _ | refine commitment_Validate_f_le | refine Le.bind ?_ (fun _ => ?_) | refine Le.cond ?_ ?_)

def commitment_Burdens_l1f (k_ : Nat) (t3 : (List T_api_Commitment)) (s13 : Int × (List T_api_Literal)) : Option (Sum ((List T_api_Literal)) (Int × (List T_api_Literal))) :=
 bif decide (s13.1 < ((t3.length : Int))) then
 Option.bind (idxM t3 s13.1) fun t14 =>
 bif t14.Burden then
 Option.bind (appM 24 s13.2 [t14.Claim]) fun out15 =>
 some (Sum.inr ((iadd .i64 s13.1 1, out15)))
 else
 some (Sum.inr ((iadd .i64 s13.1 1, s13.2)))
 else
 some (Sum.inl s13.2)

theorem commitment_Burdens_l1f_le {k_ : Nat} {t3 : (List T_api_Commitment)} {s13 : Int × (List T_api_Literal)} : Le (commitment_Burdens_l1f k_ t3 s13) (commitment_Burdens_l1 t3 s13) := by
 unfold commitment_Burdens_l1f commitment_Burdens_l1
 repeat' with_reducible (first | exact Le.refl _ | refine Le.bind ?_ (fun _ => ?_) | refine Le.cond ?_ ?_)

def commitment_Burdens_f (k_ : Nat) (s_0 : T_api_Stores) (who_1 : Int) : Option ((List T_api_Literal)) :=
 Option.bind ((commitment_usable_f k_) s_0 who_1) fun t2 =>
 bif !t2 then
 some []
 else
 Option.bind (idxM s_0.L who_1) fun t3 =>
 Option.bind (loopF k_ ((commitment_Burdens_l1f k_) t3) ((0, []))) fun q16 : (List T_api_Literal) =>
 some q16

theorem commitment_Burdens_f_le {k_ : Nat} {s_0 : T_api_Stores} {who_1 : Int} : Le (commitment_Burdens_f k_ s_0 who_1) (commitment_Burdens_m s_0 who_1) := by
 unfold commitment_Burdens_f commitment_Burdens_m
 repeat' with_reducible (first | exact Le.refl _ | refine commitment_usable_f_le | refine Le.loop (fun _ => commitment_Burdens_l1f_le) | refine Le.bind ?_ (fun _ => ?_) | refine Le.cond ?_ ?_)

def sBSC_s1_l1f (k_ : Nat) (x_0 : (List T_api_Commitment)) (target_1 : T_api_Literal) (s15 : Int × Int) : Option (Sum (Int) (Int × Int)) :=
 bif decide (s15.1 < s15.2) then
 Option.bind (idxM x_0 (IntKind.wrap .i64 (ishr .u64 (IntKind.wrap .u64 (iadd .i64 s15.1 s15.2)) 1))) fun t16 =>
 Option.bind ((commitment_find_1_f k_) t16 target_1) fun t17 =>
 bif decide (t17 < 0) then
 some (Sum.inr ((iadd .i64 (IntKind.wrap .i64 (ishr .u64 (IntKind.wrap .u64 (iadd .i64 s15.1 s15.2)) 1)) 1, s15.2)))
 else
 some (Sum.inr ((s15.1, IntKind.wrap .i64 (ishr .u64 (IntKind.wrap .u64 (iadd .i64 s15.1 s15.2)) 1))))
 else
 some (Sum.inl s15.1)

theorem sBSC_s1_l1f_le {k_ : Nat} {x_0 : (List T_api_Commitment)} {target_1 : T_api_Literal} {s15 : Int × Int} : Le (sBSC_s1_l1f k_ x_0 target_1 s15) (sBSC_s1_l1 x_0 target_1 s15) := by
 unfold sBSC_s1_l1f sBSC_s1_l1
 repeat' with_reducible (first | exact Le.refl _ | refine commitment_find_1_f_le | refine Le.bind ?_ (fun _ => ?_) | refine Le.cond ?_ ?_)

def sBSC_s1_f (k_ : Nat) (x_0 : (List T_api_Commitment)) (target_1 : T_api_Literal) : Option (Int × Bool) :=
 Option.bind (loopF k_ ((sBSC_s1_l1f k_) x_0 target_1) ((0, (x_0.length : Int)))) fun q18 : Int =>
 bif decide (q18 < ((x_0.length : Int))) then
 Option.bind (idxM x_0 q18) fun t19 =>
 Option.bind ((commitment_find_1_f k_) t19 target_1) fun t20 =>
 some ((q18, (t20 : Int) == 0))
 else
 some ((q18, false))

theorem sBSC_s1_f_le {k_ : Nat} {x_0 : (List T_api_Commitment)} {target_1 : T_api_Literal} : Le (sBSC_s1_f k_ x_0 target_1) (sBSC_s1_m x_0 target_1) := by
 unfold sBSC_s1_f sBSC_s1_m
 repeat' with_reducible (first | exact Le.refl _ | refine commitment_find_1_f_le | refine Le.loop (fun _ => sBSC_s1_l1f_le) | refine Le.bind ?_ (fun _ => ?_) | refine Le.cond ?_ ?_)

def commitment_find_s1_f (k_ : Nat) (l_0 : (List T_api_Commitment)) (x_1 : T_api_Literal) : Option (Int × Bool) :=
 Option.bind ((sBSC_s1_f k_) l_0 x_1) fun t1 =>
 some ((t1.1, t1.2))

theorem commitment_find_s1_f_le {k_ : Nat} {l_0 : (List T_api_Commitment)} {x_1 : T_api_Literal} : Le (commitment_find_s1_f k_ l_0 x_1) (commitment_find_s1_m l_0 x_1) := by
 unfold commitment_find_s1_f commitment_find_s1_m
 repeat' with_reducible (first | exact Le.refl _ | refine sBSC_s1_f_le | refine Le.bind ?_ (fun _ => ?_))

def commitment_Has_f (k_ : Nat) (s_0 : T_api_Stores) (who_1 : Int) (x_2 : T_api_Literal) : Option (Bool) :=
 Option.bind ((commitment_usable_f k_) s_0 who_1) fun t2 =>
 bif !t2 then
 some false
 else
 Option.bind (idxM s_0.L who_1) fun t3 =>
 Option.bind ((commitment_find_s1_f k_) t3 x_2) fun t4 =>
 some t4.2

theorem commitment_Has_f_le {k_ : Nat} {s_0 : T_api_Stores} {who_1 : Int} {x_2 : T_api_Literal} : Le (commitment_Has_f k_ s_0 who_1 x_2) (commitment_Has_m s_0 who_1 x_2) := by
 unfold commitment_Has_f commitment_Has_m
 repeat' with_reducible (first | exact Le.refl _ | refine commitment_usable_f_le | refine commitment_find_s1_f_le | refine Le.bind ?_ (fun _ => ?_) | refine Le.cond ?_ ?_)

def net_Literals_l1f (k_ : Nat) (a_0 : (List T_api_Literal)) (b_1 : (List T_api_Literal)) (s7 : Int) : Option (Sum (Sum (Bool) (Unit)) (Int)) :=
 bif decide (s7 < ((a_0.length : Int))) then
 Option.bind (idxM a_0 s7) fun t8 =>
 Option.bind (idxM b_1 s7) fun t9 =>
 bif !decide (t8 = t9) then
 some (Sum.inl (Sum.inl false))
 else
 some (Sum.inr (iadd .i64 s7 1))
 else
 some (Sum.inl (Sum.inr (())))

theorem net_Literals_l1f_le {k_ : Nat} {a_0 : (List T_api_Literal)} {b_1 : (List T_api_Literal)} {s7 : Int} : Le (net_Literals_l1f k_ a_0 b_1 s7) (net_Literals_l1 a_0 b_1 s7) := by
 unfold net_Literals_l1f net_Literals_l1
 repeat' with_reducible (first | exact Le.refl _ | refine Le.bind ?_ (fun _ => ?_) | refine Le.cond ?_ ?_)

def net_Literals_f (k_ : Nat) (a_0 : (List T_api_Literal)) (b_1 : (List T_api_Literal)) : Option (Bool) :=
 bif ((a_0.length : Int) : Int) != ((b_1.length : Int)) then
 some false
 else
 Option.bind (loopF k_ ((net_Literals_l1f k_) a_0 b_1) 0) (sumK (fun a : Bool => some a) fun q10 : Unit =>
 some true)

theorem net_Literals_f_le {k_ : Nat} {a_0 : (List T_api_Literal)} {b_1 : (List T_api_Literal)} : Le (net_Literals_f k_ a_0 b_1) (net_Literals_m a_0 b_1) := by
 unfold net_Literals_f net_Literals_m
 repeat' with_reducible (first | exact Le.refl _ | refine Le.loop (fun _ => net_Literals_l1f_le) | refine Le.bind ?_ (Le.sumKK (fun _ => ?_) fun _ => ?_) | refine Le.bind ?_ (Le.sumK fun _ => ?_) | refine Le.bind ?_ (fun _ => ?_) | refine Le.cond ?_ ?_)

def law26_awake_f (k_ : Nat) : Option (Bool) :=
 Option.bind ((commitment_New_f k_) 2) fun t1 =>
 Option.bind ((commitment_Say_f k_) t1.1 ((T_api_Speech.mk 1 0 0 ((T_api_Literal.mk false ((ByteArray.mk #[112])))) []))) fun t2 =>
 Option.bind ((commitment_Say_f k_) t2.1 ((T_api_Speech.mk 2 1 0 ((T_api_Literal.mk false ((ByteArray.mk #[112])))) []))) fun t3 =>
 Option.bind ((commitment_Say_f k_) t3.1 ((T_api_Speech.mk 3 0 0 ((T_api_Literal.mk false ((ByteArray.mk #[112])))) ([(T_api_Literal.mk false ((ByteArray.mk #[113])))])))) fun t4 =>
 Option.bind ((commitment_Say_f k_) t4.1 ((T_api_Speech.mk 5 0 0 ((T_api_Literal.mk false ((ByteArray.mk #[113])))) []))) fun t5 =>
 bif (t1.2 : Int) == 0 then
 bif (t2.2 : Int) == 0 then
 bif (t3.2 : Int) == 0 then
 bif (t4.2 : Int) == 0 then
 bif (t5.2 : Int) == 0 then
 Option.bind ((commitment_Burdens_f k_) t3.1 0) fun t6 =>
 bif ((t6.length : Int) : Int) == 1 then
 Option.bind ((commitment_Has_f k_) t4.1 0 ((T_api_Literal.mk false ((ByteArray.mk #[113]))))) fun t7 =>
 bif t7 then
 Option.bind ((commitment_Burdens_f k_) t4.1 0) fun t8 =>
 bif ((t8.length : Int) : Int) == 0 then
 meetF (
 Option.bind ((commitment_Burdens_f k_) t5.1 0) fun t9 =>
 Option.bind ((net_Literals_f k_) t9 ([(T_api_Literal.mk false ((ByteArray.mk #[112])))])) fun t10 =>
 some t10) (
 Option.bind ((commitment_Burdens_f k_) t5.1 0) fun t11 =>
 Option.bind ((net_Literals_f k_) t11 ([(T_api_Literal.mk false ((ByteArray.mk #[112])))])) fun t12 =>
 some t12)
 else
 meetF (
 some false) (
 some false)
 else
 meetF (
 some false) (
 some false)
 else
 meetF (
 some false) (
 some false)
 else
 meetF (
 some false) (
 some false)
 else
 meetF (
 some false) (
 some false)
 else
 meetF (
 some false) (
 some false)
 else
 meetF (
 some false) (
 some false)
 else
 meetF (
 some false) (
 some false)

theorem law26_awake_f_le {k_ : Nat}  : Le (law26_awake_f k_ ) (law26_awake_m ) := by
 unfold law26_awake_f law26_awake_m
 repeat' with_reducible (first | exact Le.refl _ | refine commitment_New_f_le | refine commitment_Say_f_le | refine commitment_Burdens_f_le | refine commitment_Has_f_le | refine net_Literals_f_le | refine Le.meet ?_ ?_ | refine Le.bind ?_ (fun _ => ?_) | refine Le.cond ?_ ?_)

end Go.Dc
