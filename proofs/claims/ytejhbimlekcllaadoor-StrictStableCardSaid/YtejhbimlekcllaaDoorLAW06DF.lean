/- Part LAW06D.F of a proof: lemmas. -/
import Derived.Test.YtejhbimlekcllaaDoorP06Ref
import Derived.Test.YtejhbimlekcllaaDoorDcFuel
set_option linter.unusedVariables false
set_option maxRecDepth 100000
namespace Go.Dc

def slices_Clone_api_Literal_api_Literal_f (k_ : Nat) (d_0 : List T_api_Literal) : Option (List T_api_Literal) := appM 24 [] d_0

theorem slices_Clone_api_Literal_api_Literal_f_le {k_ : Nat} {d_0 : List T_api_Literal} : Le (slices_Clone_api_Literal_api_Literal_f k_ d_0) (slices_Clone_api_Literal_api_Literal_m d_0) := by
  unfold slices_Clone_api_Literal_api_Literal_f slices_Clone_api_Literal_api_Literal_m
  repeat' with_reducible (first | exact Le.refl _ | refine Le.bind ?_ (Le.sumK fun _ => ?_) | refine Le.bind ?_ (fun _ => ?_) | refine Le.cond ?_ ?_ | refine Le.letM (fun _ => ?_) | refine Le.join (fun _ => ?_) (fun _ _ hj => ?_) | exact hj _)

def cmp_isNaN_string_f (k_ : Nat) (x_0 : ByteArray) : Option (Bool) :=
  letM (!(x_0.toList == x_0.toList)) fun t1 =>
  some t1

theorem cmp_isNaN_string_f_le {k_ : Nat} {x_0 : ByteArray} : Le (cmp_isNaN_string_f k_ x_0) (cmp_isNaN_string_m x_0) := by
  unfold cmp_isNaN_string_f cmp_isNaN_string_m
  repeat' with_reducible (first | exact Le.refl _ | refine Le.bind ?_ (Le.sumK fun _ => ?_) | refine Le.bind ?_ (fun _ => ?_) | refine Le.cond ?_ ?_ | refine Le.letM (fun _ => ?_) | refine Le.join (fun _ => ?_) (fun _ _ hj => ?_) | exact hj _)

def cmp_Compare_string_f (k_ : Nat) (x_0 : ByteArray) (y_1 : ByteArray) : Option (Int) :=
  Option.bind (cmp_isNaN_string_f k_ x_0) fun xNaN1 =>
  Option.bind (cmp_isNaN_string_f k_ y_1) fun yNaN2 =>
  bif xNaN1 then
    bif yNaN2 then
      some 0
    else
      some (-1)
  else
    bif yNaN2 then
      some 1
    else
      bif Op.bytesLess x_0.toList y_1.toList then
        some (-1)
      else
        bif !(Op.bytesLess x_0.toList y_1.toList || x_0.toList == y_1.toList) then
          some 1
        else
          some 0

theorem cmp_Compare_string_f_le {k_ : Nat} {x_0 : ByteArray} {y_1 : ByteArray} : Le (cmp_Compare_string_f k_ x_0 y_1) (cmp_Compare_string_m x_0 y_1) := by
  unfold cmp_Compare_string_f cmp_Compare_string_m
  repeat' with_reducible (first | exact Le.refl _ | refine cmp_isNaN_string_f_le | refine Le.bind ?_ (Le.sumK fun _ => ?_) | refine Le.bind ?_ (fun _ => ?_) | refine Le.cond ?_ ?_ | refine Le.letM (fun _ => ?_) | refine Le.join (fun _ => ?_) (fun _ _ hj => ?_) | exact hj _)

def literal_Compare_f (k_ : Nat) (a__0 : T_api_Literal) (b_1 : T_api_Literal) : Option (Int) :=
  Option.bind (cmp_Compare_string_f k_ a__0.Name b_1.Name) fun c3 =>
  bif c3 != 0 then
    some c3
  else
    bif a__0.Neg == b_1.Neg then
      some c3
    else
      bif b_1.Neg then
        some (-1)
      else
        some 1

theorem literal_Compare_f_le {k_ : Nat} {a__0 : T_api_Literal} {b_1 : T_api_Literal} : Le (literal_Compare_f k_ a__0 b_1) (literal_Compare_m a__0 b_1) := by
  unfold literal_Compare_f literal_Compare_m
  repeat' with_reducible (first | exact Le.refl _ | refine cmp_Compare_string_f_le | refine Le.bind ?_ (Le.sumK fun _ => ?_) | refine Le.bind ?_ (fun _ => ?_) | refine Le.cond ?_ ?_ | refine Le.letM (fun _ => ?_) | refine Le.join (fun _ => ?_) (fun _ _ hj => ?_) | exact hj _)

def ref01_Compare_f (k_ : Nat) (a__0 : T_api_Literal) (b_1 : T_api_Literal) : Option (Int) :=
  letM (decide (a__0 = b_1)) fun t3 =>
  bif t3 then
    some 0
  else
    bif Op.bytesLess a__0.Name.toList b_1.Name.toList then
      some (-1)
    else
      bif a__0.Name.toList == b_1.Name.toList then
        bif b_1.Neg then
          some (-1)
        else
          some 1
      else
        some 1

theorem ref01_Compare_f_le {k_ : Nat} {a__0 : T_api_Literal} {b_1 : T_api_Literal} : Le (ref01_Compare_f k_ a__0 b_1) (ref01_Compare_m a__0 b_1) := by
  unfold ref01_Compare_f ref01_Compare_m
  repeat' with_reducible (first | exact Le.refl _ | refine Le.bind ?_ (Le.sumK fun _ => ?_) | refine Le.bind ?_ (fun _ => ?_) | refine Le.cond ?_ ?_ | refine Le.letM (fun _ => ?_) | refine Le.join (fun _ => ?_) (fun _ _ hj => ?_) | exact hj _)

def ref01_Insert_l1f (k_ : Nat) (l_0 : (List T_api_Literal)) (x_1 : T_api_Literal) (s7 : Int) : Option (Sum (Int) (Int)) :=
  bif decide (s7 < (l_0.length : Int)) then
    Option.bind (idxM l_0 s7) fun t9 =>
    Option.bind (ref01_Compare_f k_ t9 x_1) fun t10 =>
    bif decide (t10 < 0) then
      some (Sum.inr (iadd .i64 s7 1))
    else
      some (Sum.inl s7)
  else
    some (Sum.inl s7)

theorem ref01_Insert_l1f_le {k_ : Nat} {l_0 : (List T_api_Literal)} {x_1 : T_api_Literal} {s7 : Int} : Le (ref01_Insert_l1f k_ l_0 x_1 s7) (ref01_Insert_l1 l_0 x_1 s7) := by
  unfold ref01_Insert_l1f ref01_Insert_l1
  repeat' with_reducible (first | exact Le.refl _ | refine ref01_Compare_f_le | refine Le.bind ?_ (Le.sumK fun _ => ?_) | refine Le.bind ?_ (fun _ => ?_) | refine Le.cond ?_ ?_ | refine Le.letM (fun _ => ?_) | refine Le.join (fun _ => ?_) (fun _ _ hj => ?_) | exact hj _)

def ref01_Insert_f (k_ : Nat) (l_0 : (List T_api_Literal)) (x_1 : T_api_Literal) : Option (List T_api_Literal) :=
  Option.bind (loopF k_ (ref01_Insert_l1f k_ l_0 x_1) 0) fun q12 : Int =>
  joinM (fun j16 : Unit =>
      Option.bind (slM l_0 0 q12) fun t20 =>
      Option.bind (appM 24 [] t20) fun out21 =>
      Option.bind (slM l_0 q12 (l_0.length : Int)) fun t23 =>
      Option.bind (appM 24 out21 [x_1]) fun t24 =>
      Option.bind (appM 24 t24 t23) fun t26 =>
      some t26) fun k18 =>
  bif decide (q12 < (l_0.length : Int)) then
    Option.bind (idxM l_0 q12) fun t14 =>
    bif decide (t14 = x_1) then
      some l_0
    else
      k18 ()
  else
    k18 ()

theorem ref01_Insert_f_le {k_ : Nat} {l_0 : (List T_api_Literal)} {x_1 : T_api_Literal} : Le (ref01_Insert_f k_ l_0 x_1) (ref01_Insert_m l_0 x_1) := by
  unfold ref01_Insert_f ref01_Insert_m
  repeat' with_reducible (first | exact Le.refl _ | refine Le.loop (fun _ => ref01_Insert_l1f_le) | refine Le.bind ?_ (Le.sumK fun _ => ?_) | refine Le.bind ?_ (fun _ => ?_) | refine Le.cond ?_ ?_ | refine Le.letM (fun _ => ?_) | refine Le.join (fun _ => ?_) (fun _ _ hj => ?_) | exact hj _)

def ref01_Normal_l1f (k_ : Nat) (l_0 : (List T_api_Literal)) (s11 : (List T_api_Literal) × Int) : Option (Sum ((List T_api_Literal)) ((List T_api_Literal) × Int)) :=
  bif decide (s11.2 < (l_0.length : Int)) then
    Option.bind (idxM l_0 s11.2) fun t14 =>
    Option.bind (ref01_Insert_f k_ s11.1 t14) fun out15 =>
    letM (iadd .i64 s11.2 1) fun i16x =>
    some (Sum.inr (out15, i16x))
  else
    some (Sum.inl s11.1)

theorem ref01_Normal_l1f_le {k_ : Nat} {l_0 : (List T_api_Literal)} {s11 : (List T_api_Literal) × Int} : Le (ref01_Normal_l1f k_ l_0 s11) (ref01_Normal_l1 l_0 s11) := by
  unfold ref01_Normal_l1f ref01_Normal_l1
  repeat' with_reducible (first | exact Le.refl _ | refine ref01_Insert_f_le | refine Le.bind ?_ (Le.sumK fun _ => ?_) | refine Le.bind ?_ (fun _ => ?_) | refine Le.cond ?_ ?_ | refine Le.letM (fun _ => ?_) | refine Le.join (fun _ => ?_) (fun _ _ hj => ?_) | exact hj _)

def ref01_Normal_f (k_ : Nat) (l_0 : (List T_api_Literal)) : Option (List T_api_Literal) :=
  Option.bind (loopF k_ (ref01_Normal_l1f k_ l_0) ([], 0)) fun q17 : (List T_api_Literal) =>
  some q17

theorem ref01_Normal_f_le {k_ : Nat} {l_0 : (List T_api_Literal)} : Le (ref01_Normal_f k_ l_0) (ref01_Normal_m l_0) := by
  unfold ref01_Normal_f ref01_Normal_m
  repeat' with_reducible (first | exact Le.refl _ | refine Le.loop (fun _ => ref01_Normal_l1f_le) | refine Le.bind ?_ (Le.sumK fun _ => ?_) | refine Le.bind ?_ (fun _ => ?_) | refine Le.cond ?_ ?_ | refine Le.letM (fun _ => ?_) | refine Le.join (fun _ => ?_) (fun _ _ hj => ?_) | exact hj _)

def literal_Normal_f (k_ : Nat) (l_0 : (List T_api_Literal)) : Option (List T_api_Literal) := bif decide (l_0.length ≤ 1000) then ref01_Normal_f k_ l_0 else none

theorem literal_Normal_f_le {k_ : Nat} {l_0 : (List T_api_Literal)} : Le (literal_Normal_f k_ l_0) (literal_Normal_m l_0) := by
  intro r hr
  unfold literal_Normal_f at hr
  by_cases h : l_0.length ≤ 1000
  · rw [decide_eq_true h, cond_true] at hr
    have h1 := ref01_Normal_f_le r hr
    obtain ⟨r1, e1, q1⟩ := rNormal_plain (l := l_0) (by omega)
    obtain ⟨r2, e2, q2⟩ := Normal_plain (l := l_0) (by omega)
    rw [e1] at h1; cases h1
    rw [e2, q2.eq q1 fun _ => Iff.rfl]
  · rw [decide_eq_false h, cond_false] at hr; cases hr


def ref01_Has_l1f (k_ : Nat) (l_0 : (List T_api_Literal)) (x_1 : T_api_Literal) (s7 : Int) : Option (Sum ((Sum (Bool) (Unit))) (Int)) :=
  bif decide (s7 < (l_0.length : Int)) then
    Option.bind (idxM l_0 s7) fun t10 =>
    bif decide (t10 = x_1) then
      some (Sum.inl (Sum.inl true))
    else
      some (Sum.inr (iadd .i64 s7 1))
  else
    some (Sum.inl (Sum.inr ()))

theorem ref01_Has_l1f_le {k_ : Nat} {l_0 : (List T_api_Literal)} {x_1 : T_api_Literal} {s7 : Int} : Le (ref01_Has_l1f k_ l_0 x_1 s7) (ref01_Has_l1 l_0 x_1 s7) := by
  unfold ref01_Has_l1f ref01_Has_l1
  repeat' with_reducible (first | exact Le.refl _ | refine Le.bind ?_ (Le.sumK fun _ => ?_) | refine Le.bind ?_ (fun _ => ?_) | refine Le.cond ?_ ?_ | refine Le.letM (fun _ => ?_) | refine Le.join (fun _ => ?_) (fun _ _ hj => ?_) | exact hj _)

def ref01_Has_f (k_ : Nat) (l_0 : (List T_api_Literal)) (x_1 : T_api_Literal) : Option (Bool) :=
  Option.bind (loopF k_ (ref01_Has_l1f k_ l_0 x_1) 0) (sumK (fun a : Bool => some a) fun q12 : Unit =>
    some false)

theorem ref01_Has_f_le {k_ : Nat} {l_0 : (List T_api_Literal)} {x_1 : T_api_Literal} : Le (ref01_Has_f k_ l_0 x_1) (ref01_Has_m l_0 x_1) := by
  unfold ref01_Has_f ref01_Has_m
  repeat' with_reducible (first | exact Le.refl _ | refine Le.loop (fun _ => ref01_Has_l1f_le) | refine Le.bind ?_ (Le.sumK fun _ => ?_) | refine Le.bind ?_ (fun _ => ?_) | refine Le.cond ?_ ?_ | refine Le.letM (fun _ => ?_) | refine Le.join (fun _ => ?_) (fun _ _ hj => ?_) | exact hj _)

def ref06_all_l1f (k_ : Nat) (l_0 : (List T_api_Literal)) (body_1 : (List T_api_Literal)) (s7 : Int) : Option (Sum ((Sum (Bool) (Unit))) (Int)) :=
  bif decide (s7 < (body_1.length : Int)) then
    Option.bind (idxM body_1 s7) fun t10 =>
    Option.bind (ref01_Has_f k_ l_0 t10) fun t11 =>
    bif !t11 then
      some (Sum.inl (Sum.inl false))
    else
      some (Sum.inr (iadd .i64 s7 1))
  else
    some (Sum.inl (Sum.inr ()))

theorem ref06_all_l1f_le {k_ : Nat} {l_0 : (List T_api_Literal)} {body_1 : (List T_api_Literal)} {s7 : Int} : Le (ref06_all_l1f k_ l_0 body_1 s7) (ref06_all_l1 l_0 body_1 s7) := by
  unfold ref06_all_l1f ref06_all_l1
  repeat' with_reducible (first | exact Le.refl _ | refine ref01_Has_f_le | refine Le.bind ?_ (Le.sumK fun _ => ?_) | refine Le.bind ?_ (fun _ => ?_) | refine Le.cond ?_ ?_ | refine Le.letM (fun _ => ?_) | refine Le.join (fun _ => ?_) (fun _ _ hj => ?_) | exact hj _)

def ref06_all_f (k_ : Nat) (l_0 : (List T_api_Literal)) (body_1 : (List T_api_Literal)) : Option (Bool) :=
  Option.bind (loopF k_ (ref06_all_l1f k_ l_0 body_1) 0) (sumK (fun a : Bool => some a) fun q13 : Unit =>
    some true)

theorem ref06_all_f_le {k_ : Nat} {l_0 : (List T_api_Literal)} {body_1 : (List T_api_Literal)} : Le (ref06_all_f k_ l_0 body_1) (ref06_all_m l_0 body_1) := by
  unfold ref06_all_f ref06_all_m
  repeat' with_reducible (first | exact Le.refl _ | refine Le.loop (fun _ => ref06_all_l1f_le) | refine Le.bind ?_ (Le.sumK fun _ => ?_) | refine Le.bind ?_ (fun _ => ?_) | refine Le.cond ?_ ?_ | refine Le.letM (fun _ => ?_) | refine Le.join (fun _ => ?_) (fun _ _ hj => ?_) | exact hj _)

def ref06_Closure_l2f (k_ : Nat) (b_0 : T_api_Base) (s48 : (List T_api_Literal) × Bool × Int) : Option (Sum ((List T_api_Literal) × Bool) ((List T_api_Literal) × Bool × Int)) :=
  bif decide (s48.2.2 < (b_0.Rules.length : Int)) then
    Option.bind (idxM b_0.Rules s48.2.2) fun t51 =>
    joinM (fun j55 : Bool =>
        bif j55 then
          Option.bind (ref01_Insert_f k_ s48.1 t51.Head) fun out59 =>
          letM (iadd .i64 s48.2.2 1) fun i60 =>
          some (Sum.inr (out59, true, i60))
        else
          letM (iadd .i64 s48.2.2 1) fun i61 =>
          some (Sum.inr (s48.1, s48.2.1, i61))) fun k57 =>
    bif t51.Strict then
      Option.bind (ref06_all_f k_ s48.1 t51.Body) fun t53 =>
      bif t53 then
        Option.bind (ref01_Has_f k_ s48.1 t51.Head) fun t54 =>
        k57 (!t54)
      else
        k57 false
    else
      k57 false
  else
    some (Sum.inl (s48.1, s48.2.1))

theorem ref06_Closure_l2f_le {k_ : Nat} {b_0 : T_api_Base} {s48 : (List T_api_Literal) × Bool × Int} : Le (ref06_Closure_l2f k_ b_0 s48) (ref06_Closure_l2 b_0 s48) := by
  unfold ref06_Closure_l2f ref06_Closure_l2
  repeat' with_reducible (first | exact Le.refl _ | refine ref01_Insert_f_le | refine ref06_all_f_le | refine ref01_Has_f_le | refine Le.bind ?_ (Le.sumK fun _ => ?_) | refine Le.bind ?_ (fun _ => ?_) | refine Le.cond ?_ ?_ | refine Le.letM (fun _ => ?_) | refine Le.join (fun _ => ?_) (fun _ _ hj => ?_) | exact hj _)

def ref06_Closure_l1f (k_ : Nat) (b_0 : T_api_Base) (s33 : (List T_api_Literal) × Bool) : Option (Sum ((List T_api_Literal)) ((List T_api_Literal) × Bool)) :=
  bif s33.2 then
    Option.bind (loopF k_ (ref06_Closure_l2f k_ b_0) (s33.1, false, 0)) fun q62 : (List T_api_Literal) × Bool =>
    some (Sum.inr (q62.1, q62.2))
  else
    some (Sum.inl s33.1)

theorem ref06_Closure_l1f_le {k_ : Nat} {b_0 : T_api_Base} {s33 : (List T_api_Literal) × Bool} : Le (ref06_Closure_l1f k_ b_0 s33) (ref06_Closure_l1 b_0 s33) := by
  unfold ref06_Closure_l1f ref06_Closure_l1
  repeat' with_reducible (first | exact Le.refl _ | refine Le.loop (fun _ => ref06_Closure_l2f_le) | refine Le.bind ?_ (Le.sumK fun _ => ?_) | refine Le.bind ?_ (fun _ => ?_) | refine Le.cond ?_ ?_ | refine Le.letM (fun _ => ?_) | refine Le.join (fun _ => ?_) (fun _ _ hj => ?_) | exact hj _)

def ref06_Closure_f (k_ : Nat) (b_0 : T_api_Base) (l_1 : (List T_api_Literal)) : Option (List T_api_Literal) :=
  Option.bind (ref01_Normal_f k_ l_1) fun out2 =>
  Option.bind (loopF k_ (ref06_Closure_l1f k_ b_0) (out2, true)) fun q64 : (List T_api_Literal) =>
  some q64

theorem ref06_Closure_f_le {k_ : Nat} {b_0 : T_api_Base} {l_1 : (List T_api_Literal)} : Le (ref06_Closure_f k_ b_0 l_1) (ref06_Closure_m b_0 l_1) := by
  unfold ref06_Closure_f ref06_Closure_m
  repeat' with_reducible (first | exact Le.refl _ | refine ref01_Normal_f_le | refine Le.loop (fun _ => ref06_Closure_l1f_le) | refine Le.bind ?_ (Le.sumK fun _ => ?_) | refine Le.bind ?_ (fun _ => ?_) | refine Le.cond ?_ ?_ | refine Le.letM (fun _ => ?_) | refine Le.join (fun _ => ?_) (fun _ _ hj => ?_) | exact hj _)

def strict_Closure_f (k_ : Nat) (b_0 : T_api_Base) (l_1 : (List T_api_Literal)) : Option (List T_api_Literal) := bif decide (l_1.length + b_0.Rules.length ≤ 1000) && b_0.Rules.all (fun r => decide (r.Body.length ≤ 1000)) then ref06_Closure_f k_ b_0 l_1 else none

theorem strict_Closure_f_le {k_ : Nat} {b_0 : T_api_Base} {l_1 : (List T_api_Literal)} : Le (strict_Closure_f k_ b_0 l_1) (strict_Closure_m b_0 l_1) := by
  intro r hr
  unfold strict_Closure_f at hr
  cases h : decide (l_1.length + b_0.Rules.length ≤ 1000) && b_0.Rules.all (fun r => decide (r.Body.length ≤ 1000)) with
  | false => rw [h, cond_false] at hr; cases hr
  | true =>
    rw [h, cond_true] at hr
    rw [Bool.and_eq_true, decide_eq_true_iff, List.all_eq_true] at h
    have hB : ∀ r ∈ b_0.Rules, r.Body.length ≤ 100000 := fun r hr => by have := of_decide_eq_true (h.2 r hr); omega
    have h1 := ref06_Closure_f_le r hr
    obtain ⟨r1, e1, q1⟩ := rClosure_plain (b := b_0) (l := l_1) (by omega) hB
    obtain ⟨r2, e2, q2⟩ := Closure_plain (b := b_0) (l := l_1) (by omega) (by omega) hB
    rw [e1] at h1; cases h1
    rw [e2, ascL_ext q2.1 q1.1 fun x => (q2.2.1 x).trans (q1.2.1 x).symm]


def law06_one_f (k_ : Nat)  : Option (T_api_Base) :=
  some (T_api_Base.mk [] [(T_api_Rule.mk (ByteArray.mk #[115]) true 0 [(T_api_Literal.mk false (ByteArray.mk #[112])), (T_api_Literal.mk false (ByteArray.mk #[113]))] (T_api_Literal.mk false (ByteArray.mk #[114])))] [])

theorem law06_one_f_le {k_ : Nat}  : Le (law06_one_f k_ ) (law06_one_m ) := by
  unfold law06_one_f law06_one_m
  repeat' with_reducible (first | exact Le.refl _ | refine Le.bind ?_ (Le.sumK fun _ => ?_) | refine Le.bind ?_ (fun _ => ?_) | refine Le.cond ?_ ?_ | refine Le.letM (fun _ => ?_) | refine Le.join (fun _ => ?_) (fun _ _ hj => ?_) | exact hj _)

def rulebase_ranked_f (k_ : Nat) (n_0 : Int) : Option (Bool) :=
  bif decide (n_0 ≥ 0) then
    letM (decide (n_0 ≤ 9)) fun t1 =>
    some t1
  else
    some false

theorem rulebase_ranked_f_le {k_ : Nat} {n_0 : Int} : Le (rulebase_ranked_f k_ n_0) (rulebase_ranked_m n_0) := by
  unfold rulebase_ranked_f rulebase_ranked_m
  repeat' with_reducible (first | exact Le.refl _ | refine Le.bind ?_ (Le.sumK fun _ => ?_) | refine Le.bind ?_ (fun _ => ?_) | refine Le.cond ?_ ?_ | refine Le.letM (fun _ => ?_) | refine Le.join (fun _ => ?_) (fun _ _ hj => ?_) | exact hj _)

def literal_ValidName_l1f (k_ : Nat) (s_0 : ByteArray) (s13 : Int) : Option (Sum ((Sum (Bool) (Unit))) (Int)) :=
  bif decide (s13 < (s_0.size : Int)) then
    Option.bind (sidxM s_0 s13) fun c16 =>
    joinM (fun j18 : Bool =>
        bif j18 then
          some (Sum.inr (iadd .i64 s13 1))
        else
          bif decide (s13 > 0) then
            bif decide (c16 ≥ 48) then
              bif decide (c16 ≤ 57) then
                some (Sum.inr (iadd .i64 s13 1))
              else
                bif c16 == 95 then
                  some (Sum.inr (iadd .i64 s13 1))
                else
                  some (Sum.inl (Sum.inl false))
            else
              bif c16 == 95 then
                some (Sum.inr (iadd .i64 s13 1))
              else
                some (Sum.inl (Sum.inl false))
          else
            some (Sum.inl (Sum.inl false))) fun k20 =>
    bif decide (c16 ≥ 97) then
      letM (decide (c16 ≤ 122)) fun t17 =>
      k20 t17
    else
      k20 false
  else
    some (Sum.inl (Sum.inr ()))

theorem literal_ValidName_l1f_le {k_ : Nat} {s_0 : ByteArray} {s13 : Int} : Le (literal_ValidName_l1f k_ s_0 s13) (literal_ValidName_l1 s_0 s13) := by
  unfold literal_ValidName_l1f literal_ValidName_l1
  repeat' with_reducible (first | exact Le.refl _ | refine Le.bind ?_ (Le.sumK fun _ => ?_) | refine Le.bind ?_ (fun _ => ?_) | refine Le.cond ?_ ?_ | refine Le.letM (fun _ => ?_) | refine Le.join (fun _ => ?_) (fun _ _ hj => ?_) | exact hj _)

def literal_ValidName_f (k_ : Nat) (s_0 : ByteArray) : Option (Bool) :=
  bif (s_0.size : Int) == 0 then
    some false
  else
    bif decide ((s_0.size : Int) > 12) then
      some false
    else
      Option.bind (loopF k_ (literal_ValidName_l1f k_ s_0) 0) (sumK (fun a : Bool => some a) fun q24 : Unit =>
        some true)

theorem literal_ValidName_f_le {k_ : Nat} {s_0 : ByteArray} : Le (literal_ValidName_f k_ s_0) (literal_ValidName_m s_0) := by
  unfold literal_ValidName_f literal_ValidName_m
  repeat' with_reducible (first | exact Le.refl _ | refine Le.loop (fun _ => literal_ValidName_l1f_le) | refine Le.bind ?_ (Le.sumK fun _ => ?_) | refine Le.bind ?_ (fun _ => ?_) | refine Le.cond ?_ ?_ | refine Le.letM (fun _ => ?_) | refine Le.join (fun _ => ?_) (fun _ _ hj => ?_) | exact hj _)

def literal_Valid_f (k_ : Nat) (x_0 : T_api_Literal) : Option (Bool) :=
  Option.bind (literal_ValidName_f k_ x_0.Name) fun t2 =>
  some t2

theorem literal_Valid_f_le {k_ : Nat} {x_0 : T_api_Literal} : Le (literal_Valid_f k_ x_0) (literal_Valid_m x_0) := by
  unfold literal_Valid_f literal_Valid_m
  repeat' with_reducible (first | exact Le.refl _ | refine literal_ValidName_f_le | refine Le.bind ?_ (Le.sumK fun _ => ?_) | refine Le.bind ?_ (fun _ => ?_) | refine Le.cond ?_ ?_ | refine Le.letM (fun _ => ?_) | refine Le.join (fun _ => ?_) (fun _ _ hj => ?_) | exact hj _)

def rulebase_sourced_f (k_ : Nat) (s_0 : ByteArray) : Option (Bool) :=
  bif s_0.toList == (ByteArray.mk #[]).toList then
    some true
  else
    Option.bind (literal_ValidName_f k_ s_0) fun t1 =>
    some t1

theorem rulebase_sourced_f_le {k_ : Nat} {s_0 : ByteArray} : Le (rulebase_sourced_f k_ s_0) (rulebase_sourced_m s_0) := by
  unfold rulebase_sourced_f rulebase_sourced_m
  repeat' with_reducible (first | exact Le.refl _ | refine literal_ValidName_f_le | refine Le.bind ?_ (Le.sumK fun _ => ?_) | refine Le.bind ?_ (fun _ => ?_) | refine Le.cond ?_ ?_ | refine Le.letM (fun _ => ?_) | refine Le.join (fun _ => ?_) (fun _ _ hj => ?_) | exact hj _)

def rulebase_premise_f (k_ : Nat) (p_0 : T_api_Premise) : Option (Int) :=
  joinM (fun j11 : Unit =>
      Option.bind (literal_Valid_f k_ p_0.Literal) fun t14 =>
      bif !t14 then
        some 1
      else
        Option.bind (rulebase_sourced_f k_ p_0.Source) fun t15 =>
        bif !t15 then
          some 1
        else
          some 0) fun k13 =>
  joinM (fun j3 : Bool =>
      bif j3 then
        bif p_0.Rank != 0 then
          some 1
        else
          k13 ()
      else
        bif p_0.Kind == 2 then
          Option.bind (rulebase_ranked_f k_ p_0.Rank) fun t9 =>
          bif !t9 then
            some 1
          else
            k13 ()
        else
          some 4) fun k5 =>
  bif p_0.Kind == 1 then
    k5 (p_0.Kind == 1)
  else
    k5 (p_0.Kind == 3)

theorem rulebase_premise_f_le {k_ : Nat} {p_0 : T_api_Premise} : Le (rulebase_premise_f k_ p_0) (rulebase_premise_m p_0) := by
  unfold rulebase_premise_f rulebase_premise_m
  repeat' with_reducible (first | exact Le.refl _ | refine literal_Valid_f_le | refine rulebase_sourced_f_le | refine rulebase_ranked_f_le | refine Le.bind ?_ (Le.sumK fun _ => ?_) | refine Le.bind ?_ (fun _ => ?_) | refine Le.cond ?_ ?_ | refine Le.letM (fun _ => ?_) | refine Le.join (fun _ => ?_) (fun _ _ hj => ?_) | exact hj _)

def rulebase_Premise_1_f (k_ : Nat) (p_0 : T_api_Premise) (p_1 : T_api_Literal) : Option (Bool) :=
  letM (decide (p_0.Literal = p_1)) fun t2 =>
  some t2

theorem rulebase_Premise_1_f_le {k_ : Nat} {p_0 : T_api_Premise} {p_1 : T_api_Literal} : Le (rulebase_Premise_1_f k_ p_0 p_1) (rulebase_Premise_1_m p_0 p_1) := by
  unfold rulebase_Premise_1_f rulebase_Premise_1_m
  repeat' with_reducible (first | exact Le.refl _ | refine Le.bind ?_ (Le.sumK fun _ => ?_) | refine Le.bind ?_ (fun _ => ?_) | refine Le.cond ?_ ?_ | refine Le.letM (fun _ => ?_) | refine Le.join (fun _ => ?_) (fun _ _ hj => ?_) | exact hj _)

def slices_IndexFunc_api_Premise_api_Premise_l1f (k_ : Nat) (s_0 : (List T_api_Premise)) (e_0 : T_api_Literal) (s7 : Int) : Option (Sum ((Sum (Int) (Unit))) (Int)) :=
  bif decide (s7 < (s_0.length : Int)) then
    Option.bind (idxM s_0 s7) fun t10 =>
    Option.bind (rulebase_Premise_1_f k_ t10 e_0) fun t11 =>
    bif t11 then
      some (Sum.inl (Sum.inl s7))
    else
      some (Sum.inr (iadd .i64 s7 1))
  else
    some (Sum.inl (Sum.inr ()))

theorem slices_IndexFunc_api_Premise_api_Premise_l1f_le {k_ : Nat} {s_0 : (List T_api_Premise)} {e_0 : T_api_Literal} {s7 : Int} : Le (slices_IndexFunc_api_Premise_api_Premise_l1f k_ s_0 e_0 s7) (slices_IndexFunc_api_Premise_api_Premise_l1 s_0 e_0 s7) := by
  unfold slices_IndexFunc_api_Premise_api_Premise_l1f slices_IndexFunc_api_Premise_api_Premise_l1
  repeat' with_reducible (first | exact Le.refl _ | refine rulebase_Premise_1_f_le | refine Le.bind ?_ (Le.sumK fun _ => ?_) | refine Le.bind ?_ (fun _ => ?_) | refine Le.cond ?_ ?_ | refine Le.letM (fun _ => ?_) | refine Le.join (fun _ => ?_) (fun _ _ hj => ?_) | exact hj _)

def slices_IndexFunc_api_Premise_api_Premise_f (k_ : Nat) (s_0 : (List T_api_Premise)) (e_0 : T_api_Literal) : Option (Int) :=
  Option.bind (loopF k_ (slices_IndexFunc_api_Premise_api_Premise_l1f k_ s_0 e_0) 0) (sumK (fun a : Int => some a) fun q13 : Unit =>
    some (-1))

theorem slices_IndexFunc_api_Premise_api_Premise_f_le {k_ : Nat} {s_0 : (List T_api_Premise)} {e_0 : T_api_Literal} : Le (slices_IndexFunc_api_Premise_api_Premise_f k_ s_0 e_0) (slices_IndexFunc_api_Premise_api_Premise_m s_0 e_0) := by
  unfold slices_IndexFunc_api_Premise_api_Premise_f slices_IndexFunc_api_Premise_api_Premise_m
  repeat' with_reducible (first | exact Le.refl _ | refine Le.loop (fun _ => slices_IndexFunc_api_Premise_api_Premise_l1f_le) | refine Le.bind ?_ (Le.sumK fun _ => ?_) | refine Le.bind ?_ (fun _ => ?_) | refine Le.cond ?_ ?_ | refine Le.letM (fun _ => ?_) | refine Le.join (fun _ => ?_) (fun _ _ hj => ?_) | exact hj _)

def rulebase_Premise_f (k_ : Nat) (b_0 : T_api_Base) (x_1 : T_api_Literal) : Option (Int) :=
  Option.bind (slices_IndexFunc_api_Premise_api_Premise_f k_ b_0.Premises x_1) fun t3 =>
  some t3

theorem rulebase_Premise_f_le {k_ : Nat} {b_0 : T_api_Base} {x_1 : T_api_Literal} : Le (rulebase_Premise_f k_ b_0 x_1) (rulebase_Premise_m b_0 x_1) := by
  unfold rulebase_Premise_f rulebase_Premise_m
  repeat' with_reducible (first | exact Le.refl _ | refine slices_IndexFunc_api_Premise_api_Premise_f_le | refine Le.bind ?_ (Le.sumK fun _ => ?_) | refine Le.bind ?_ (fun _ => ?_) | refine Le.cond ?_ ?_ | refine Le.letM (fun _ => ?_) | refine Le.join (fun _ => ?_) (fun _ _ hj => ?_) | exact hj _)

def rulebase_rule_l1f (k_ : Nat) (r__0 : T_api_Rule) (s17 : Int) : Option (Sum ((Sum (Int) (Unit))) (Int)) :=
  bif decide (s17 < (r__0.Body.length : Int)) then
    Option.bind (idxM r__0.Body s17) fun t20 =>
    Option.bind (literal_Valid_f k_ t20) fun t22 =>
    bif !t22 then
      some (Sum.inl (Sum.inl 1))
    else
      some (Sum.inr (iadd .i64 s17 1))
  else
    some (Sum.inl (Sum.inr ()))

theorem rulebase_rule_l1f_le {k_ : Nat} {r__0 : T_api_Rule} {s17 : Int} : Le (rulebase_rule_l1f k_ r__0 s17) (rulebase_rule_l1 r__0 s17) := by
  unfold rulebase_rule_l1f rulebase_rule_l1
  repeat' with_reducible (first | exact Le.refl _ | refine literal_Valid_f_le | refine Le.bind ?_ (Le.sumK fun _ => ?_) | refine Le.bind ?_ (fun _ => ?_) | refine Le.cond ?_ ?_ | refine Le.letM (fun _ => ?_) | refine Le.join (fun _ => ?_) (fun _ _ hj => ?_) | exact hj _)

def rulebase_rule_l2f (k_ : Nat) (r__0 : T_api_Rule) (s33 : Int) : Option (Sum ((Sum (Int) (Unit))) (Int)) :=
  bif decide (s33 < (r__0.Body.length : Int)) then
    Option.bind (idxM r__0.Body (isub .i64 s33 1)) fun t36 =>
    Option.bind (idxM r__0.Body s33) fun t37 =>
    Option.bind (literal_Compare_f k_ t36 t37) fun t38 =>
    bif decide (t38 ≥ 0) then
      some (Sum.inl (Sum.inl 8))
    else
      letM (iadd .i64 s33 1) fun i40 =>
      some (Sum.inr i40)
  else
    some (Sum.inl (Sum.inr ()))

theorem rulebase_rule_l2f_le {k_ : Nat} {r__0 : T_api_Rule} {s33 : Int} : Le (rulebase_rule_l2f k_ r__0 s33) (rulebase_rule_l2 r__0 s33) := by
  unfold rulebase_rule_l2f rulebase_rule_l2
  repeat' with_reducible (first | exact Le.refl _ | refine literal_Compare_f_le | refine Le.bind ?_ (Le.sumK fun _ => ?_) | refine Le.bind ?_ (fun _ => ?_) | refine Le.cond ?_ ?_ | refine Le.letM (fun _ => ?_) | refine Le.join (fun _ => ?_) (fun _ _ hj => ?_) | exact hj _)

def rulebase_rule_f (k_ : Nat) (r__0 : T_api_Rule) : Option (Int) :=
  bif decide ((r__0.Body.length : Int) > 4) then
    some 2
  else
    joinM (fun j7 : Unit =>
        Option.bind (loopF k_ (rulebase_rule_l1f k_ r__0) 0) (sumK (fun a : Int => some a) fun q24 : Unit =>
          Option.bind (loopF k_ (rulebase_rule_l2f k_ r__0) 1) (sumK (fun a : Int => some a) fun q41 : Unit =>
            some 0))) fun k9 =>
    Option.bind (literal_ValidName_f k_ r__0.Name) fun t3 =>
    bif !t3 then
      some 1
    else
      Option.bind (literal_Valid_f k_ r__0.Head) fun t4 =>
      bif !t4 then
        some 1
      else
        Option.bind (rulebase_ranked_f k_ r__0.Rank) fun t5 =>
        bif !t5 then
          some 1
        else
          bif r__0.Strict then
            bif r__0.Rank != 0 then
              some 1
            else
              k9 ()
          else
            k9 ()

theorem rulebase_rule_f_le {k_ : Nat} {r__0 : T_api_Rule} : Le (rulebase_rule_f k_ r__0) (rulebase_rule_m r__0) := by
  unfold rulebase_rule_f rulebase_rule_m
  repeat' with_reducible (first | exact Le.refl _ | refine literal_ValidName_f_le | refine literal_Valid_f_le | refine rulebase_ranked_f_le | refine Le.loop (fun _ => rulebase_rule_l1f_le) | refine Le.loop (fun _ => rulebase_rule_l2f_le) | refine Le.bind ?_ (Le.sumK fun _ => ?_) | refine Le.bind ?_ (fun _ => ?_) | refine Le.cond ?_ ?_ | refine Le.letM (fun _ => ?_) | refine Le.join (fun _ => ?_) (fun _ _ hj => ?_) | exact hj _)

def rulebase_Find_1_f (k_ : Nat) (r__0 : T_api_Rule) (p_1 : ByteArray) : Option (Bool) :=
  letM (r__0.Name.toList == p_1.toList) fun t2 =>
  some t2

theorem rulebase_Find_1_f_le {k_ : Nat} {r__0 : T_api_Rule} {p_1 : ByteArray} : Le (rulebase_Find_1_f k_ r__0 p_1) (rulebase_Find_1_m r__0 p_1) := by
  unfold rulebase_Find_1_f rulebase_Find_1_m
  repeat' with_reducible (first | exact Le.refl _ | refine Le.bind ?_ (Le.sumK fun _ => ?_) | refine Le.bind ?_ (fun _ => ?_) | refine Le.cond ?_ ?_ | refine Le.letM (fun _ => ?_) | refine Le.join (fun _ => ?_) (fun _ _ hj => ?_) | exact hj _)

def slices_IndexFunc_api_Rule_api_Rule_l1f (k_ : Nat) (s_0 : (List T_api_Rule)) (e_0 : ByteArray) (s7 : Int) : Option (Sum ((Sum (Int) (Unit))) (Int)) :=
  bif decide (s7 < (s_0.length : Int)) then
    Option.bind (idxM s_0 s7) fun t10 =>
    Option.bind (rulebase_Find_1_f k_ t10 e_0) fun t11 =>
    bif t11 then
      some (Sum.inl (Sum.inl s7))
    else
      some (Sum.inr (iadd .i64 s7 1))
  else
    some (Sum.inl (Sum.inr ()))

theorem slices_IndexFunc_api_Rule_api_Rule_l1f_le {k_ : Nat} {s_0 : (List T_api_Rule)} {e_0 : ByteArray} {s7 : Int} : Le (slices_IndexFunc_api_Rule_api_Rule_l1f k_ s_0 e_0 s7) (slices_IndexFunc_api_Rule_api_Rule_l1 s_0 e_0 s7) := by
  unfold slices_IndexFunc_api_Rule_api_Rule_l1f slices_IndexFunc_api_Rule_api_Rule_l1
  repeat' with_reducible (first | exact Le.refl _ | refine rulebase_Find_1_f_le | refine Le.bind ?_ (Le.sumK fun _ => ?_) | refine Le.bind ?_ (fun _ => ?_) | refine Le.cond ?_ ?_ | refine Le.letM (fun _ => ?_) | refine Le.join (fun _ => ?_) (fun _ _ hj => ?_) | exact hj _)

def slices_IndexFunc_api_Rule_api_Rule_f (k_ : Nat) (s_0 : (List T_api_Rule)) (e_0 : ByteArray) : Option (Int) :=
  Option.bind (loopF k_ (slices_IndexFunc_api_Rule_api_Rule_l1f k_ s_0 e_0) 0) (sumK (fun a : Int => some a) fun q13 : Unit =>
    some (-1))

theorem slices_IndexFunc_api_Rule_api_Rule_f_le {k_ : Nat} {s_0 : (List T_api_Rule)} {e_0 : ByteArray} : Le (slices_IndexFunc_api_Rule_api_Rule_f k_ s_0 e_0) (slices_IndexFunc_api_Rule_api_Rule_m s_0 e_0) := by
  unfold slices_IndexFunc_api_Rule_api_Rule_f slices_IndexFunc_api_Rule_api_Rule_m
  repeat' with_reducible (first | exact Le.refl _ | refine Le.loop (fun _ => slices_IndexFunc_api_Rule_api_Rule_l1f_le) | refine Le.bind ?_ (Le.sumK fun _ => ?_) | refine Le.bind ?_ (fun _ => ?_) | refine Le.cond ?_ ?_ | refine Le.letM (fun _ => ?_) | refine Le.join (fun _ => ?_) (fun _ _ hj => ?_) | exact hj _)

def rulebase_Find_f (k_ : Nat) (b_0 : T_api_Base) (name_1 : ByteArray) : Option (Int) :=
  Option.bind (slices_IndexFunc_api_Rule_api_Rule_f k_ b_0.Rules name_1) fun t3 =>
  some t3

theorem rulebase_Find_f_le {k_ : Nat} {b_0 : T_api_Base} {name_1 : ByteArray} : Le (rulebase_Find_f k_ b_0 name_1) (rulebase_Find_m b_0 name_1) := by
  unfold rulebase_Find_f rulebase_Find_m
  repeat' with_reducible (first | exact Le.refl _ | refine slices_IndexFunc_api_Rule_api_Rule_f_le | refine Le.bind ?_ (Le.sumK fun _ => ?_) | refine Le.bind ?_ (fun _ => ?_) | refine Le.cond ?_ ?_ | refine Le.letM (fun _ => ?_) | refine Le.join (fun _ => ?_) (fun _ _ hj => ?_) | exact hj _)

def rulebase_promotion_f (k_ : Nat) (b_0 : T_api_Base) (p_1 : T_api_Promotion) : Option (Int) :=
  Option.bind (rulebase_ranked_f k_ p_1.Rank) fun t3 =>
  bif !t3 then
    some 1
  else
    Option.bind (literal_Valid_f k_ p_1.If) fun t4 =>
    bif !t4 then
      some 1
    else
      Option.bind (rulebase_Find_f k_ b_0 p_1.Rule) fun i6 =>
      letM (decide (i6 < 0)) fun t7 =>
      bif t7 then
        some 6
      else
        Option.bind (idxM b_0.Rules i6) fun t9 =>
        bif t9.Strict then
          some 4
        else
          some 0

theorem rulebase_promotion_f_le {k_ : Nat} {b_0 : T_api_Base} {p_1 : T_api_Promotion} : Le (rulebase_promotion_f k_ b_0 p_1) (rulebase_promotion_m b_0 p_1) := by
  unfold rulebase_promotion_f rulebase_promotion_m
  repeat' with_reducible (first | exact Le.refl _ | refine rulebase_ranked_f_le | refine literal_Valid_f_le | refine rulebase_Find_f_le | refine Le.bind ?_ (Le.sumK fun _ => ?_) | refine Le.bind ?_ (fun _ => ?_) | refine Le.cond ?_ ?_ | refine Le.letM (fun _ => ?_) | refine Le.join (fun _ => ?_) (fun _ _ hj => ?_) | exact hj _)

def rulebase_Validate_l1f (k_ : Nat) (b_0 : T_api_Base) (s12 : Int) : Option (Sum ((Sum (Int) (Unit))) (Int)) :=
  bif decide (s12 < (b_0.Premises.length : Int)) then
    Option.bind (idxM b_0.Premises s12) fun t15 =>
    Option.bind (rulebase_premise_f k_ t15) fun e17 =>
    bif e17 != 0 then
      some (Sum.inl (Sum.inl e17))
    else
      Option.bind (rulebase_Premise_f k_ b_0 t15.Literal) fun t19 =>
      bif decide (t19 < s12) then
        some (Sum.inl (Sum.inl 5))
      else
        some (Sum.inr (iadd .i64 s12 1))
  else
    some (Sum.inl (Sum.inr ()))

theorem rulebase_Validate_l1f_le {k_ : Nat} {b_0 : T_api_Base} {s12 : Int} : Le (rulebase_Validate_l1f k_ b_0 s12) (rulebase_Validate_l1 b_0 s12) := by
  unfold rulebase_Validate_l1f rulebase_Validate_l1
  repeat' with_reducible (first | exact Le.refl _ | refine rulebase_premise_f_le | refine rulebase_Premise_f_le | refine Le.bind ?_ (Le.sumK fun _ => ?_) | refine Le.bind ?_ (fun _ => ?_) | refine Le.cond ?_ ?_ | refine Le.letM (fun _ => ?_) | refine Le.join (fun _ => ?_) (fun _ _ hj => ?_) | exact hj _)

def rulebase_Validate_l2f (k_ : Nat) (b_0 : T_api_Base) (s32 : Int) : Option (Sum ((Sum (Int) (Unit))) (Int)) :=
  bif decide (s32 < (b_0.Rules.length : Int)) then
    Option.bind (idxM b_0.Rules s32) fun t35 =>
    Option.bind (rulebase_rule_f k_ t35) fun e37 =>
    bif e37 != 0 then
      some (Sum.inl (Sum.inl e37))
    else
      Option.bind (rulebase_Find_f k_ b_0 t35.Name) fun t39 =>
      bif decide (t39 < s32) then
        some (Sum.inl (Sum.inl 5))
      else
        some (Sum.inr (iadd .i64 s32 1))
  else
    some (Sum.inl (Sum.inr ()))

theorem rulebase_Validate_l2f_le {k_ : Nat} {b_0 : T_api_Base} {s32 : Int} : Le (rulebase_Validate_l2f k_ b_0 s32) (rulebase_Validate_l2 b_0 s32) := by
  unfold rulebase_Validate_l2f rulebase_Validate_l2
  repeat' with_reducible (first | exact Le.refl _ | refine rulebase_rule_f_le | refine rulebase_Find_f_le | refine Le.bind ?_ (Le.sumK fun _ => ?_) | refine Le.bind ?_ (fun _ => ?_) | refine Le.cond ?_ ?_ | refine Le.letM (fun _ => ?_) | refine Le.join (fun _ => ?_) (fun _ _ hj => ?_) | exact hj _)

def rulebase_Validate_l3f (k_ : Nat) (b_0 : T_api_Base) (s50 : Int) : Option (Sum ((Sum (Int) (Unit))) (Int)) :=
  bif decide (s50 < (b_0.Promotions.length : Int)) then
    Option.bind (idxM b_0.Promotions s50) fun t53 =>
    Option.bind (rulebase_promotion_f k_ b_0 t53) fun e55 =>
    bif e55 != 0 then
      some (Sum.inl (Sum.inl e55))
    else
      some (Sum.inr (iadd .i64 s50 1))
  else
    some (Sum.inl (Sum.inr ()))

theorem rulebase_Validate_l3f_le {k_ : Nat} {b_0 : T_api_Base} {s50 : Int} : Le (rulebase_Validate_l3f k_ b_0 s50) (rulebase_Validate_l3 b_0 s50) := by
  unfold rulebase_Validate_l3f rulebase_Validate_l3
  repeat' with_reducible (first | exact Le.refl _ | refine rulebase_promotion_f_le | refine Le.bind ?_ (Le.sumK fun _ => ?_) | refine Le.bind ?_ (fun _ => ?_) | refine Le.cond ?_ ?_ | refine Le.letM (fun _ => ?_) | refine Le.join (fun _ => ?_) (fun _ _ hj => ?_) | exact hj _)

def rulebase_Validate_f (k_ : Nat) (b_0 : T_api_Base) : Option (Int) :=
  bif decide ((b_0.Premises.length : Int) > 16) then
    some 2
  else
    bif decide ((b_0.Rules.length : Int) > 24) then
      some 2
    else
      bif decide ((b_0.Promotions.length : Int) > 8) then
        some 2
      else
        Option.bind (loopF k_ (rulebase_Validate_l1f k_ b_0) 0) (sumK (fun a : Int => some a) fun q21 : Unit =>
          Option.bind (loopF k_ (rulebase_Validate_l2f k_ b_0) 0) (sumK (fun a : Int => some a) fun q41 : Unit =>
            Option.bind (loopF k_ (rulebase_Validate_l3f k_ b_0) 0) (sumK (fun a : Int => some a) fun q57 : Unit =>
              some 0)))

theorem rulebase_Validate_f_le {k_ : Nat} {b_0 : T_api_Base} : Le (rulebase_Validate_f k_ b_0) (rulebase_Validate_m b_0) := by
  unfold rulebase_Validate_f rulebase_Validate_m
  repeat' with_reducible (first | exact Le.refl _ | refine Le.loop (fun _ => rulebase_Validate_l1f_le) | refine Le.loop (fun _ => rulebase_Validate_l2f_le) | refine Le.loop (fun _ => rulebase_Validate_l3f_le) | refine Le.bind ?_ (Le.sumK fun _ => ?_) | refine Le.bind ?_ (fun _ => ?_) | refine Le.cond ?_ ?_ | refine Le.letM (fun _ => ?_) | refine Le.join (fun _ => ?_) (fun _ _ hj => ?_) | exact hj _)

def slices_Clone_api_Premise_api_Premise_f (k_ : Nat) (d_0 : List T_api_Premise) : Option (List T_api_Premise) := appM 56 [] d_0

theorem slices_Clone_api_Premise_api_Premise_f_le {k_ : Nat} {d_0 : List T_api_Premise} : Le (slices_Clone_api_Premise_api_Premise_f k_ d_0) (slices_Clone_api_Premise_api_Premise_m d_0) := by
  unfold slices_Clone_api_Premise_api_Premise_f slices_Clone_api_Premise_api_Premise_m
  repeat' with_reducible (first | exact Le.refl _ | refine Le.bind ?_ (Le.sumK fun _ => ?_) | refine Le.bind ?_ (fun _ => ?_) | refine Le.cond ?_ ?_ | refine Le.letM (fun _ => ?_) | refine Le.join (fun _ => ?_) (fun _ _ hj => ?_) | exact hj _)

def slices_Clone_api_Rule_api_Rule_f (k_ : Nat) (d_0 : List T_api_Rule) : Option (List T_api_Rule) := appM 80 [] d_0

theorem slices_Clone_api_Rule_api_Rule_f_le {k_ : Nat} {d_0 : List T_api_Rule} : Le (slices_Clone_api_Rule_api_Rule_f k_ d_0) (slices_Clone_api_Rule_api_Rule_m d_0) := by
  unfold slices_Clone_api_Rule_api_Rule_f slices_Clone_api_Rule_api_Rule_m
  repeat' with_reducible (first | exact Le.refl _ | refine Le.bind ?_ (Le.sumK fun _ => ?_) | refine Le.bind ?_ (fun _ => ?_) | refine Le.cond ?_ ?_ | refine Le.letM (fun _ => ?_) | refine Le.join (fun _ => ?_) (fun _ _ hj => ?_) | exact hj _)

def slices_Clone_api_Promotion_api_Promotion_f (k_ : Nat) (d_0 : List T_api_Promotion) : Option (List T_api_Promotion) := appM 48 [] d_0

theorem slices_Clone_api_Promotion_api_Promotion_f_le {k_ : Nat} {d_0 : List T_api_Promotion} : Le (slices_Clone_api_Promotion_api_Promotion_f k_ d_0) (slices_Clone_api_Promotion_api_Promotion_m d_0) := by
  unfold slices_Clone_api_Promotion_api_Promotion_f slices_Clone_api_Promotion_api_Promotion_m
  repeat' with_reducible (first | exact Le.refl _ | refine Le.bind ?_ (Le.sumK fun _ => ?_) | refine Le.bind ?_ (fun _ => ?_) | refine Le.cond ?_ ?_ | refine Le.letM (fun _ => ?_) | refine Le.join (fun _ => ?_) (fun _ _ hj => ?_) | exact hj _)

def slices_Index_api_Literal_api_Literal_l1f (k_ : Nat) (s_0 : (List T_api_Literal)) (v_1 : T_api_Literal) (s7 : Int) : Option (Sum ((Sum (Int) (Unit))) (Int)) :=
  bif decide (s7 < (s_0.length : Int)) then
    Option.bind (idxM s_0 s7) fun t10 =>
    bif decide (v_1 = t10) then
      some (Sum.inl (Sum.inl s7))
    else
      some (Sum.inr (iadd .i64 s7 1))
  else
    some (Sum.inl (Sum.inr ()))

theorem slices_Index_api_Literal_api_Literal_l1f_le {k_ : Nat} {s_0 : (List T_api_Literal)} {v_1 : T_api_Literal} {s7 : Int} : Le (slices_Index_api_Literal_api_Literal_l1f k_ s_0 v_1 s7) (slices_Index_api_Literal_api_Literal_l1 s_0 v_1 s7) := by
  unfold slices_Index_api_Literal_api_Literal_l1f slices_Index_api_Literal_api_Literal_l1
  repeat' with_reducible (first | exact Le.refl _ | refine Le.bind ?_ (Le.sumK fun _ => ?_) | refine Le.bind ?_ (fun _ => ?_) | refine Le.cond ?_ ?_ | refine Le.letM (fun _ => ?_) | refine Le.join (fun _ => ?_) (fun _ _ hj => ?_) | exact hj _)

def slices_Index_api_Literal_api_Literal_f (k_ : Nat) (s_0 : (List T_api_Literal)) (v_1 : T_api_Literal) : Option (Int) :=
  Option.bind (loopF k_ (slices_Index_api_Literal_api_Literal_l1f k_ s_0 v_1) 0) (sumK (fun a : Int => some a) fun q12 : Unit =>
    some (-1))

theorem slices_Index_api_Literal_api_Literal_f_le {k_ : Nat} {s_0 : (List T_api_Literal)} {v_1 : T_api_Literal} : Le (slices_Index_api_Literal_api_Literal_f k_ s_0 v_1) (slices_Index_api_Literal_api_Literal_m s_0 v_1) := by
  unfold slices_Index_api_Literal_api_Literal_f slices_Index_api_Literal_api_Literal_m
  repeat' with_reducible (first | exact Le.refl _ | refine Le.loop (fun _ => slices_Index_api_Literal_api_Literal_l1f_le) | refine Le.bind ?_ (Le.sumK fun _ => ?_) | refine Le.bind ?_ (fun _ => ?_) | refine Le.cond ?_ ?_ | refine Le.letM (fun _ => ?_) | refine Le.join (fun _ => ?_) (fun _ _ hj => ?_) | exact hj _)

def slices_Contains_api_Literal_api_Literal_f (k_ : Nat) (s_0 : (List T_api_Literal)) (v_1 : T_api_Literal) : Option (Bool) :=
  Option.bind (slices_Index_api_Literal_api_Literal_f k_ s_0 v_1) fun t2 =>
  letM (decide (t2 ≥ 0)) fun t3 =>
  some t3

theorem slices_Contains_api_Literal_api_Literal_f_le {k_ : Nat} {s_0 : (List T_api_Literal)} {v_1 : T_api_Literal} : Le (slices_Contains_api_Literal_api_Literal_f k_ s_0 v_1) (slices_Contains_api_Literal_api_Literal_m s_0 v_1) := by
  unfold slices_Contains_api_Literal_api_Literal_f slices_Contains_api_Literal_api_Literal_m
  repeat' with_reducible (first | exact Le.refl _ | refine slices_Index_api_Literal_api_Literal_f_le | refine Le.bind ?_ (Le.sumK fun _ => ?_) | refine Le.bind ?_ (fun _ => ?_) | refine Le.cond ?_ ?_ | refine Le.letM (fun _ => ?_) | refine Le.join (fun _ => ?_) (fun _ _ hj => ?_) | exact hj _)

def literal_Has_f (k_ : Nat) (l_0 : (List T_api_Literal)) (x_1 : T_api_Literal) : Option (Bool) :=
  Option.bind (slices_Contains_api_Literal_api_Literal_f k_ l_0 x_1) fun t2 =>
  some t2

theorem literal_Has_f_le {k_ : Nat} {l_0 : (List T_api_Literal)} {x_1 : T_api_Literal} : Le (literal_Has_f k_ l_0 x_1) (literal_Has_m l_0 x_1) := by
  unfold literal_Has_f literal_Has_m
  repeat' with_reducible (first | exact Le.refl _ | refine slices_Contains_api_Literal_api_Literal_f_le | refine Le.bind ?_ (Le.sumK fun _ => ?_) | refine Le.bind ?_ (fun _ => ?_) | refine Le.cond ?_ ?_ | refine Le.letM (fun _ => ?_) | refine Le.join (fun _ => ?_) (fun _ _ hj => ?_) | exact hj _)

def rulebase_Promote_l2f (k_ : Nat) (b_0 : T_api_Base) (accepted_1 : (List T_api_Literal)) (s97 : Int × (List T_api_Rule)) (t100 : T_api_Rule) (s127 : Int × (List T_api_Rule)) : Option (Sum ((List T_api_Rule)) (Int × (List T_api_Rule))) :=
  bif decide (s127.1 < (b_0.Promotions.length : Int)) then
    Option.bind (idxM b_0.Promotions s127.1) fun t130 =>
    joinM (fun j133 : Bool =>
        bif j133 then
          Option.bind (idxM s127.2 s97.1) fun t137 =>
          some (Sum.inr (iadd .i64 s127.1 1, s127.2.set (Int.toNat s97.1) (T_api_Rule.mk t137.Name t137.Strict t130.Rank t137.Body t137.Head)))
        else
          some (Sum.inr (iadd .i64 s127.1 1, s127.2))) fun k135 =>
    bif !t100.Strict then
      bif t130.Rule.toList == t100.Name.toList then
        Option.bind (literal_Has_f k_ accepted_1 t130.If) fun t132 =>
        k135 t132
      else
        k135 false
    else
      k135 false
  else
    some (Sum.inl s127.2)

theorem rulebase_Promote_l2f_le {k_ : Nat} {b_0 : T_api_Base} {accepted_1 : (List T_api_Literal)} {s97 : Int × (List T_api_Rule)} {t100 : T_api_Rule} {s127 : Int × (List T_api_Rule)} : Le (rulebase_Promote_l2f k_ b_0 accepted_1 s97 t100 s127) (rulebase_Promote_l2 b_0 accepted_1 s97 t100 s127) := by
  unfold rulebase_Promote_l2f rulebase_Promote_l2
  repeat' with_reducible (first | exact Le.refl _ | refine literal_Has_f_le | refine Le.bind ?_ (Le.sumK fun _ => ?_) | refine Le.bind ?_ (fun _ => ?_) | refine Le.cond ?_ ?_ | refine Le.letM (fun _ => ?_) | refine Le.join (fun _ => ?_) (fun _ _ hj => ?_) | exact hj _)

def rulebase_Promote_l1f (k_ : Nat) (b_0 : T_api_Base) (accepted_1 : (List T_api_Literal)) (s97 : Int × (List T_api_Rule)) : Option (Sum ((List T_api_Rule)) (Int × (List T_api_Rule))) :=
  bif decide (s97.1 < (b_0.Rules.length : Int)) then
    Option.bind (idxM b_0.Rules s97.1) fun t100 =>
    Option.bind (slices_Clone_api_Literal_api_Literal_f k_ t100.Body) fun t102 =>
    Option.bind (idxM s97.2 s97.1) fun t104 =>
    Option.bind (loopF k_ (rulebase_Promote_l2f k_ b_0 accepted_1 s97 t100) (0, s97.2.set (Int.toNat s97.1) (T_api_Rule.mk t104.Name t104.Strict t104.Rank t102 t104.Head))) fun q138 : (List T_api_Rule) =>
    some (Sum.inr (iadd .i64 s97.1 1, q138))
  else
    some (Sum.inl s97.2)

theorem rulebase_Promote_l1f_le {k_ : Nat} {b_0 : T_api_Base} {accepted_1 : (List T_api_Literal)} {s97 : Int × (List T_api_Rule)} : Le (rulebase_Promote_l1f k_ b_0 accepted_1 s97) (rulebase_Promote_l1 b_0 accepted_1 s97) := by
  unfold rulebase_Promote_l1f rulebase_Promote_l1
  repeat' with_reducible (first | exact Le.refl _ | refine slices_Clone_api_Literal_api_Literal_f_le | refine Le.loop (fun _ => rulebase_Promote_l2f_le) | refine Le.bind ?_ (Le.sumK fun _ => ?_) | refine Le.bind ?_ (fun _ => ?_) | refine Le.cond ?_ ?_ | refine Le.letM (fun _ => ?_) | refine Le.join (fun _ => ?_) (fun _ _ hj => ?_) | exact hj _)

def rulebase_Promote_f (k_ : Nat) (b_0 : T_api_Base) (accepted_1 : (List T_api_Literal)) : Option (T_api_Base) :=
  Option.bind (slices_Clone_api_Premise_api_Premise_f k_ b_0.Premises) fun t4 =>
  Option.bind (slices_Clone_api_Rule_api_Rule_f k_ b_0.Rules) fun t6 =>
  Option.bind (slices_Clone_api_Promotion_api_Promotion_f k_ b_0.Promotions) fun t8 =>
  Option.bind (loopF k_ (rulebase_Promote_l1f k_ b_0 accepted_1) (0, t6)) fun q140 : (List T_api_Rule) =>
  some (T_api_Base.mk t4 q140 t8)

theorem rulebase_Promote_f_le {k_ : Nat} {b_0 : T_api_Base} {accepted_1 : (List T_api_Literal)} : Le (rulebase_Promote_f k_ b_0 accepted_1) (rulebase_Promote_m b_0 accepted_1) := by
  unfold rulebase_Promote_f rulebase_Promote_m
  repeat' with_reducible (first | exact Le.refl _ | refine slices_Clone_api_Premise_api_Premise_f_le | refine slices_Clone_api_Rule_api_Rule_f_le | refine slices_Clone_api_Promotion_api_Promotion_f_le | refine Le.loop (fun _ => rulebase_Promote_l1f_le) | refine Le.bind ?_ (Le.sumK fun _ => ?_) | refine Le.bind ?_ (fun _ => ?_) | refine Le.cond ?_ ?_ | refine Le.letM (fun _ => ?_) | refine Le.join (fun _ => ?_) (fun _ _ hj => ?_) | exact hj _)

def slices_Delete_api_Literal_api_Literal_f (k_ : Nat) (s : List T_api_Literal) (i j : Int) : Option (List T_api_Literal) := delM s i j

theorem slices_Delete_api_Literal_api_Literal_f_le {k_ : Nat} {s : List T_api_Literal} {i j : Int} : Le (slices_Delete_api_Literal_api_Literal_f k_ s i j) (slices_Delete_api_Literal_api_Literal_m s i j) := by
  unfold slices_Delete_api_Literal_api_Literal_f slices_Delete_api_Literal_api_Literal_m
  repeat' with_reducible (first | exact Le.refl _ | refine Le.bind ?_ (Le.sumK fun _ => ?_) | refine Le.bind ?_ (fun _ => ?_) | refine Le.cond ?_ ?_ | refine Le.letM (fun _ => ?_) | refine Le.join (fun _ => ?_) (fun _ _ hj => ?_) | exact hj _)

def literal_Complement_f (k_ : Nat) (x_0 : T_api_Literal) : Option (T_api_Literal) :=
  some (T_api_Literal.mk (!x_0.Neg) x_0.Name)

theorem literal_Complement_f_le {k_ : Nat} {x_0 : T_api_Literal} : Le (literal_Complement_f k_ x_0) (literal_Complement_m x_0) := by
  unfold literal_Complement_f literal_Complement_m
  repeat' with_reducible (first | exact Le.refl _ | refine Le.bind ?_ (Le.sumK fun _ => ?_) | refine Le.bind ?_ (fun _ => ?_) | refine Le.cond ?_ ?_ | refine Le.letM (fun _ => ?_) | refine Le.join (fun _ => ?_) (fun _ _ hj => ?_) | exact hj _)

def strict_transposes_l1f (k_ : Nat) (r__0 : T_api_Rule) (s34 : Int × (List T_api_Rule)) : Option (Sum ((List T_api_Rule)) (Int × (List T_api_Rule))) :=
  bif decide (s34.1 < (r__0.Body.length : Int)) then
    Option.bind (idxM r__0.Body s34.1) fun t37 =>
    Option.bind (slices_Clone_api_Literal_api_Literal_f k_ r__0.Body) fun t39 =>
    Option.bind (slices_Delete_api_Literal_api_Literal_f k_ t39 s34.1 (iadd .i64 s34.1 1)) fun body41 =>
    Option.bind (literal_Complement_f k_ r__0.Head) fun t43 =>
    Option.bind (appM 24 body41 [t43]) fun t44 =>
    Option.bind (literal_Normal_f k_ t44) fun body46 =>
    Option.bind (literal_Complement_f k_ t37) fun t47 =>
    Option.bind (appM 80 s34.2 [(T_api_Rule.mk ByteArray.empty true 0 body46 t47)]) fun out48 =>
    some (Sum.inr (iadd .i64 s34.1 1, out48))
  else
    some (Sum.inl s34.2)

theorem strict_transposes_l1f_le {k_ : Nat} {r__0 : T_api_Rule} {s34 : Int × (List T_api_Rule)} : Le (strict_transposes_l1f k_ r__0 s34) (strict_transposes_l1 r__0 s34) := by
  unfold strict_transposes_l1f strict_transposes_l1
  repeat' with_reducible (first | exact Le.refl _ | refine slices_Clone_api_Literal_api_Literal_f_le | refine slices_Delete_api_Literal_api_Literal_f_le | refine literal_Complement_f_le | refine literal_Normal_f_le | refine Le.bind ?_ (Le.sumK fun _ => ?_) | refine Le.bind ?_ (fun _ => ?_) | refine Le.cond ?_ ?_ | refine Le.letM (fun _ => ?_) | refine Le.join (fun _ => ?_) (fun _ _ hj => ?_) | exact hj _)

def strict_transposes_f (k_ : Nat) (r__0 : T_api_Rule) : Option (List T_api_Rule) :=
  Option.bind (loopF k_ (strict_transposes_l1f k_ r__0) (0, [])) fun q50 : (List T_api_Rule) =>
  some q50

theorem strict_transposes_f_le {k_ : Nat} {r__0 : T_api_Rule} : Le (strict_transposes_f k_ r__0) (strict_transposes_m r__0) := by
  unfold strict_transposes_f strict_transposes_m
  repeat' with_reducible (first | exact Le.refl _ | refine Le.loop (fun _ => strict_transposes_l1f_le) | refine Le.bind ?_ (Le.sumK fun _ => ?_) | refine Le.bind ?_ (fun _ => ?_) | refine Le.cond ?_ ?_ | refine Le.letM (fun _ => ?_) | refine Le.join (fun _ => ?_) (fun _ _ hj => ?_) | exact hj _)

def slices_Equal_api_Literal_api_Literal_l1f (k_ : Nat) (s1_0 : (List T_api_Literal)) (s2_1 : (List T_api_Literal)) (s8 : Int) : Option (Sum ((Sum (Bool) (Unit))) (Int)) :=
  bif decide (s8 < (s1_0.length : Int)) then
    Option.bind (idxM s1_0 s8) fun t11 =>
    Option.bind (idxM s2_1 s8) fun t12 =>
    bif !decide (t11 = t12) then
      some (Sum.inl (Sum.inl false))
    else
      some (Sum.inr (iadd .i64 s8 1))
  else
    some (Sum.inl (Sum.inr ()))

theorem slices_Equal_api_Literal_api_Literal_l1f_le {k_ : Nat} {s1_0 : (List T_api_Literal)} {s2_1 : (List T_api_Literal)} {s8 : Int} : Le (slices_Equal_api_Literal_api_Literal_l1f k_ s1_0 s2_1 s8) (slices_Equal_api_Literal_api_Literal_l1 s1_0 s2_1 s8) := by
  unfold slices_Equal_api_Literal_api_Literal_l1f slices_Equal_api_Literal_api_Literal_l1
  repeat' with_reducible (first | exact Le.refl _ | refine Le.bind ?_ (Le.sumK fun _ => ?_) | refine Le.bind ?_ (fun _ => ?_) | refine Le.cond ?_ ?_ | refine Le.letM (fun _ => ?_) | refine Le.join (fun _ => ?_) (fun _ _ hj => ?_) | exact hj _)

def slices_Equal_api_Literal_api_Literal_f (k_ : Nat) (s1_0 : (List T_api_Literal)) (s2_1 : (List T_api_Literal)) : Option (Bool) :=
  bif (s1_0.length : Int) != (s2_1.length : Int) then
    some false
  else
    Option.bind (loopF k_ (slices_Equal_api_Literal_api_Literal_l1f k_ s1_0 s2_1) 0) (sumK (fun a : Bool => some a) fun q14 : Unit =>
      some true)

theorem slices_Equal_api_Literal_api_Literal_f_le {k_ : Nat} {s1_0 : (List T_api_Literal)} {s2_1 : (List T_api_Literal)} : Le (slices_Equal_api_Literal_api_Literal_f k_ s1_0 s2_1) (slices_Equal_api_Literal_api_Literal_m s1_0 s2_1) := by
  unfold slices_Equal_api_Literal_api_Literal_f slices_Equal_api_Literal_api_Literal_m
  repeat' with_reducible (first | exact Le.refl _ | refine Le.loop (fun _ => slices_Equal_api_Literal_api_Literal_l1f_le) | refine Le.bind ?_ (Le.sumK fun _ => ?_) | refine Le.bind ?_ (fun _ => ?_) | refine Le.cond ?_ ?_ | refine Le.letM (fun _ => ?_) | refine Le.join (fun _ => ?_) (fun _ _ hj => ?_) | exact hj _)

def strict_alike_f (k_ : Nat) (r__0 : T_api_Rule) : Option (T_api_Rule) :=
  some r__0

theorem strict_alike_f_le {k_ : Nat} {r__0 : T_api_Rule} : Le (strict_alike_f k_ r__0) (strict_alike_m r__0) := by
  unfold strict_alike_f strict_alike_m
  repeat' with_reducible (first | exact Le.refl _ | refine Le.bind ?_ (Le.sumK fun _ => ?_) | refine Le.bind ?_ (fun _ => ?_) | refine Le.cond ?_ ?_ | refine Le.letM (fun _ => ?_) | refine Le.join (fun _ => ?_) (fun _ _ hj => ?_) | exact hj _)

def internal_strconv_small_f (k_ : Nat) (i_0 : Int) : Option (ByteArray) :=
  bif decide (i_0 < 10) then
    Option.bind (ssubM (ByteArray.mk #[48, 49, 50, 51, 52, 53, 54, 55, 56, 57, 97, 98, 99, 100, 101, 102, 103, 104, 105, 106, 107, 108, 109, 110, 111, 112, 113, 114, 115, 116, 117, 118, 119, 120, 121, 122]) i_0 (iadd .i64 i_0 1)) fun t2 =>
    some t2
  else
    Option.bind (ssubM (ByteArray.mk #[48, 48, 48, 49, 48, 50, 48, 51, 48, 52, 48, 53, 48, 54, 48, 55, 48, 56, 48, 57, 49, 48, 49, 49, 49, 50, 49, 51, 49, 52, 49, 53, 49, 54, 49, 55, 49, 56, 49, 57, 50, 48, 50, 49, 50, 50, 50, 51, 50, 52, 50, 53, 50, 54, 50, 55, 50, 56, 50, 57, 51, 48, 51, 49, 51, 50, 51, 51, 51, 52, 51, 53, 51, 54, 51, 55, 51, 56, 51, 57, 52, 48, 52, 49, 52, 50, 52, 51, 52, 52, 52, 53, 52, 54, 52, 55, 52, 56, 52, 57, 53, 48, 53, 49, 53, 50, 53, 51, 53, 52, 53, 53, 53, 54, 53, 55, 53, 56, 53, 57, 54, 48, 54, 49, 54, 50, 54, 51, 54, 52, 54, 53, 54, 54, 54, 55, 54, 56, 54, 57, 55, 48, 55, 49, 55, 50, 55, 51, 55, 52, 55, 53, 55, 54, 55, 55, 55, 56, 55, 57, 56, 48, 56, 49, 56, 50, 56, 51, 56, 52, 56, 53, 56, 54, 56, 55, 56, 56, 56, 57, 57, 48, 57, 49, 57, 50, 57, 51, 57, 52, 57, 53, 57, 54, 57, 55, 57, 56, 57, 57]) (imul .i64 i_0 2) (iadd .i64 (imul .i64 i_0 2) 2)) fun t3 =>
    some t3

theorem internal_strconv_small_f_le {k_ : Nat} {i_0 : Int} : Le (internal_strconv_small_f k_ i_0) (internal_strconv_small_m i_0) := by
  unfold internal_strconv_small_f internal_strconv_small_m
  repeat' with_reducible (first | exact Le.refl _ | refine Le.bind ?_ (Le.sumK fun _ => ?_) | refine Le.bind ?_ (fun _ => ?_) | refine Le.cond ?_ ?_ | refine Le.letM (fun _ => ?_) | refine Le.join (fun _ => ?_) (fun _ _ hj => ?_) | exact hj _)

def internal_strconv_FormatInt_f (k_ : Nat) (i_0 : Int) (base_1 : Int) : Option (ByteArray) :=
  bif base_1 == 10 then
    joinM (fun j4 : Unit =>
        letM (IntKind.wrap .u64 i_0) fun u8x =>
        joinM (fun j10 : Int =>
            none) fun k12 =>
        bif decide (i_0 < 0) then
          k12 (ineg .u64 u8x)
        else
          k12 u8x) fun k6 =>
    bif decide (0 ≤ i_0) then
      bif decide (i_0 < 100) then
        Option.bind (internal_strconv_small_f k_ i_0) fun t3 =>
        some t3
      else
        k6 ()
    else
      k6 ()
  else
    none

theorem internal_strconv_FormatInt_f_le {k_ : Nat} {i_0 : Int} {base_1 : Int} : Le (internal_strconv_FormatInt_f k_ i_0 base_1) (internal_strconv_FormatInt_m i_0 base_1) := by
  unfold internal_strconv_FormatInt_f internal_strconv_FormatInt_m
  repeat' with_reducible (first | exact Le.refl _ | refine internal_strconv_small_f_le | refine Le.bind ?_ (Le.sumK fun _ => ?_) | refine Le.bind ?_ (fun _ => ?_) | refine Le.cond ?_ ?_ | refine Le.letM (fun _ => ?_) | refine Le.join (fun _ => ?_) (fun _ _ hj => ?_) | exact hj _)

def internal_strconv_Itoa_f (k_ : Nat) (i_0 : Int) : Option (ByteArray) :=
  Option.bind (internal_strconv_FormatInt_f k_ i_0 10) fun t1 =>
  some t1

theorem internal_strconv_Itoa_f_le {k_ : Nat} {i_0 : Int} : Le (internal_strconv_Itoa_f k_ i_0) (internal_strconv_Itoa_m i_0) := by
  unfold internal_strconv_Itoa_f internal_strconv_Itoa_m
  repeat' with_reducible (first | exact Le.refl _ | refine internal_strconv_FormatInt_f_le | refine Le.bind ?_ (Le.sumK fun _ => ?_) | refine Le.bind ?_ (fun _ => ?_) | refine Le.cond ?_ ?_ | refine Le.letM (fun _ => ?_) | refine Le.join (fun _ => ?_) (fun _ _ hj => ?_) | exact hj _)

def strconv_Itoa_f (k_ : Nat) (i_0 : Int) : Option (ByteArray) :=
  Option.bind (internal_strconv_Itoa_f k_ i_0) fun t1 =>
  some t1

theorem strconv_Itoa_f_le {k_ : Nat} {i_0 : Int} : Le (strconv_Itoa_f k_ i_0) (strconv_Itoa_m i_0) := by
  unfold strconv_Itoa_f strconv_Itoa_m
  repeat' with_reducible (first | exact Le.refl _ | refine internal_strconv_Itoa_f_le | refine Le.bind ?_ (Le.sumK fun _ => ?_) | refine Le.bind ?_ (fun _ => ?_) | refine Le.cond ?_ ?_ | refine Le.letM (fun _ => ?_) | refine Le.join (fun _ => ?_) (fun _ _ hj => ?_) | exact hj _)

def strict_fresh_l1f (k_ : Nat) (b_0 : T_api_Base) (s8 : Int) : Option (Sum (ByteArray) (Int)) :=
  Option.bind (strconv_Itoa_f k_ s8) fun t10 =>
  Option.bind (sconM (ByteArray.mk #[116]) t10) fun s11 =>
  Option.bind (rulebase_Find_f k_ b_0 s11) fun t12 =>
  bif decide (t12 < 0) then
    some (Sum.inl s11)
  else
    some (Sum.inr (iadd .i64 s8 1))

theorem strict_fresh_l1f_le {k_ : Nat} {b_0 : T_api_Base} {s8 : Int} : Le (strict_fresh_l1f k_ b_0 s8) (strict_fresh_l1 b_0 s8) := by
  unfold strict_fresh_l1f strict_fresh_l1
  repeat' with_reducible (first | exact Le.refl _ | refine strconv_Itoa_f_le | refine rulebase_Find_f_le | refine Le.bind ?_ (Le.sumK fun _ => ?_) | refine Le.bind ?_ (fun _ => ?_) | refine Le.cond ?_ ?_ | refine Le.letM (fun _ => ?_) | refine Le.join (fun _ => ?_) (fun _ _ hj => ?_) | exact hj _)

def strict_fresh_f (k_ : Nat) (b_0 : T_api_Base) : Option (ByteArray) :=
  Option.bind (loopF k_ (strict_fresh_l1f k_ b_0) 1) (fun a : ByteArray => some a)

theorem strict_fresh_f_le {k_ : Nat} {b_0 : T_api_Base} : Le (strict_fresh_f k_ b_0) (strict_fresh_m b_0) := by
  unfold strict_fresh_f strict_fresh_m
  repeat' with_reducible (first | exact Le.refl _ | refine Le.loop (fun _ => strict_fresh_l1f_le) | refine Le.bind ?_ (Le.sumK fun _ => ?_) | refine Le.bind ?_ (fun _ => ?_) | refine Le.cond ?_ ?_ | refine Le.letM (fun _ => ?_) | refine Le.join (fun _ => ?_) (fun _ _ hj => ?_) | exact hj _)

def strict_alike_1_f (k_ : Nat) (q_0 : T_api_Rule) (p_1 : T_api_Rule) : Option (Bool) :=
  bif q_0.Strict then
    bif decide (q_0.Head = p_1.Head) then
      Option.bind (slices_Equal_api_Literal_api_Literal_f k_ q_0.Body p_1.Body) fun t2 =>
      some t2
    else
      some false
  else
    some false

theorem strict_alike_1_f_le {k_ : Nat} {q_0 : T_api_Rule} {p_1 : T_api_Rule} : Le (strict_alike_1_f k_ q_0 p_1) (strict_alike_1_m q_0 p_1) := by
  unfold strict_alike_1_f strict_alike_1_m
  repeat' with_reducible (first | exact Le.refl _ | refine slices_Equal_api_Literal_api_Literal_f_le | refine Le.bind ?_ (Le.sumK fun _ => ?_) | refine Le.bind ?_ (fun _ => ?_) | refine Le.cond ?_ ?_ | refine Le.letM (fun _ => ?_) | refine Le.join (fun _ => ?_) (fun _ _ hj => ?_) | exact hj _)

def slices_IndexFunc_api_Rule_api_Rule_1_l1f (k_ : Nat) (s_0 : (List T_api_Rule)) (e_1 : T_api_Rule) (s7 : Int) : Option (Sum ((Sum (Int) (Unit))) (Int)) :=
  bif decide (s7 < (s_0.length : Int)) then
    Option.bind (idxM s_0 s7) fun t10 =>
    Option.bind (strict_alike_1_f k_ t10 e_1) fun t11 =>
    bif t11 then
      some (Sum.inl (Sum.inl s7))
    else
      some (Sum.inr (iadd .i64 s7 1))
  else
    some (Sum.inl (Sum.inr ()))

theorem slices_IndexFunc_api_Rule_api_Rule_1_l1f_le {k_ : Nat} {s_0 : (List T_api_Rule)} {e_1 : T_api_Rule} {s7 : Int} : Le (slices_IndexFunc_api_Rule_api_Rule_1_l1f k_ s_0 e_1 s7) (slices_IndexFunc_api_Rule_api_Rule_1_l1 s_0 e_1 s7) := by
  unfold slices_IndexFunc_api_Rule_api_Rule_1_l1f slices_IndexFunc_api_Rule_api_Rule_1_l1
  repeat' with_reducible (first | exact Le.refl _ | refine strict_alike_1_f_le | refine Le.bind ?_ (Le.sumK fun _ => ?_) | refine Le.bind ?_ (fun _ => ?_) | refine Le.cond ?_ ?_ | refine Le.letM (fun _ => ?_) | refine Le.join (fun _ => ?_) (fun _ _ hj => ?_) | exact hj _)

def slices_IndexFunc_api_Rule_api_Rule_1_f (k_ : Nat) (s_0 : (List T_api_Rule)) (e_1 : T_api_Rule) : Option (Int) :=
  Option.bind (loopF k_ (slices_IndexFunc_api_Rule_api_Rule_1_l1f k_ s_0 e_1) 0) (sumK (fun a : Int => some a) fun q13 : Unit =>
    some (-1))

theorem slices_IndexFunc_api_Rule_api_Rule_1_f_le {k_ : Nat} {s_0 : (List T_api_Rule)} {e_1 : T_api_Rule} : Le (slices_IndexFunc_api_Rule_api_Rule_1_f k_ s_0 e_1) (slices_IndexFunc_api_Rule_api_Rule_1_m s_0 e_1) := by
  unfold slices_IndexFunc_api_Rule_api_Rule_1_f slices_IndexFunc_api_Rule_api_Rule_1_m
  repeat' with_reducible (first | exact Le.refl _ | refine Le.loop (fun _ => slices_IndexFunc_api_Rule_api_Rule_1_l1f_le) | refine Le.bind ?_ (Le.sumK fun _ => ?_) | refine Le.bind ?_ (fun _ => ?_) | refine Le.cond ?_ ?_ | refine Le.letM (fun _ => ?_) | refine Le.join (fun _ => ?_) (fun _ _ hj => ?_) | exact hj _)

def slices_ContainsFunc_api_Rule_api_Rule_f (k_ : Nat) (s_0 : (List T_api_Rule)) (e_1 : T_api_Rule) : Option (Bool) :=
  Option.bind (slices_IndexFunc_api_Rule_api_Rule_1_f k_ s_0 e_1) fun t1 =>
  letM (decide (t1 ≥ 0)) fun t2 =>
  some t2

theorem slices_ContainsFunc_api_Rule_api_Rule_f_le {k_ : Nat} {s_0 : (List T_api_Rule)} {e_1 : T_api_Rule} : Le (slices_ContainsFunc_api_Rule_api_Rule_f k_ s_0 e_1) (slices_ContainsFunc_api_Rule_api_Rule_m s_0 e_1) := by
  unfold slices_ContainsFunc_api_Rule_api_Rule_f slices_ContainsFunc_api_Rule_api_Rule_m
  repeat' with_reducible (first | exact Le.refl _ | refine slices_IndexFunc_api_Rule_api_Rule_1_f_le | refine Le.bind ?_ (Le.sumK fun _ => ?_) | refine Le.bind ?_ (fun _ => ?_) | refine Le.cond ?_ ?_ | refine Le.letM (fun _ => ?_) | refine Le.join (fun _ => ?_) (fun _ _ hj => ?_) | exact hj _)

def strict_Transpose_l2f (k_ : Nat) (t5 : T_api_Base) (t50 : List T_api_Rule) (s65 : Int × (List T_api_Rule)) : Option (Sum ((Sum (T_api_Base × Int) ((List T_api_Rule)))) (Int × (List T_api_Rule))) :=
  bif decide (s65.1 < (t50.length : Int)) then
    Option.bind (idxM t50 s65.1) fun t68 =>
    Option.bind (strict_alike_f k_ t68) fun t70 =>
    Option.bind (slices_ContainsFunc_api_Rule_api_Rule_f k_ s65.2 t70) fun t72 =>
    bif t72 then
      some (Sum.inr (iadd .i64 s65.1 1, s65.2))
    else
      bif (s65.2.length : Int) == 24 then
        some (Sum.inl (Sum.inl ((T_api_Base.mk [] [] []), 2)))
      else
        Option.bind (strict_fresh_f k_ (T_api_Base.mk t5.Premises s65.2 t5.Promotions)) fun t75 =>
        Option.bind (appM 80 s65.2 [(T_api_Rule.mk t75 t68.Strict t68.Rank t68.Body t68.Head)]) fun t76 =>
        some (Sum.inr (iadd .i64 s65.1 1, t76))
  else
    some (Sum.inl (Sum.inr s65.2))

theorem strict_Transpose_l2f_le {k_ : Nat} {t5 : T_api_Base} {t50 : List T_api_Rule} {s65 : Int × (List T_api_Rule)} : Le (strict_Transpose_l2f k_ t5 t50 s65) (strict_Transpose_l2 t5 t50 s65) := by
  unfold strict_Transpose_l2f strict_Transpose_l2
  repeat' with_reducible (first | exact Le.refl _ | refine strict_alike_f_le | refine slices_ContainsFunc_api_Rule_api_Rule_f_le | refine strict_fresh_f_le | refine Le.bind ?_ (Le.sumK fun _ => ?_) | refine Le.bind ?_ (fun _ => ?_) | refine Le.cond ?_ ?_ | refine Le.letM (fun _ => ?_) | refine Le.join (fun _ => ?_) (fun _ _ hj => ?_) | exact hj _)

def strict_Transpose_l1f (k_ : Nat) (t5 : T_api_Base) (s44 : Int × (List T_api_Rule)) : Option (Sum ((Sum (T_api_Base × Int) ((List T_api_Rule)))) (Int × (List T_api_Rule))) :=
  bif decide (s44.1 < (s44.2.length : Int)) then
    Option.bind (idxM s44.2 s44.1) fun t47 =>
    bif !t47.Strict then
      letM (iadd .i64 s44.1 1) fun i80 =>
      some (Sum.inr (i80, s44.2))
    else
      Option.bind (idxM s44.2 s44.1) fun t49 =>
      Option.bind (strict_transposes_f k_ t49) fun t50 =>
      Option.bind (loopF k_ (strict_Transpose_l2f k_ t5 t50) (0, s44.2)) (sumK (fun a : T_api_Base × Int => some (Sum.inl (Sum.inl a))) fun q78 : (List T_api_Rule) =>
        letM (iadd .i64 s44.1 1) fun i81 =>
        some (Sum.inr (i81, q78)))
  else
    some (Sum.inl (Sum.inr s44.2))

theorem strict_Transpose_l1f_le {k_ : Nat} {t5 : T_api_Base} {s44 : Int × (List T_api_Rule)} : Le (strict_Transpose_l1f k_ t5 s44) (strict_Transpose_l1 t5 s44) := by
  unfold strict_Transpose_l1f strict_Transpose_l1
  repeat' with_reducible (first | exact Le.refl _ | refine strict_transposes_f_le | refine Le.loop (fun _ => strict_Transpose_l2f_le) | refine Le.bind ?_ (Le.sumK fun _ => ?_) | refine Le.bind ?_ (fun _ => ?_) | refine Le.cond ?_ ?_ | refine Le.letM (fun _ => ?_) | refine Le.join (fun _ => ?_) (fun _ _ hj => ?_) | exact hj _)

def strict_Transpose_f (k_ : Nat) (b_0 : T_api_Base) : Option (T_api_Base × Int) :=
  Option.bind (rulebase_Validate_f k_ b_0) fun e3 =>
  bif e3 != 0 then
    some ((T_api_Base.mk [] [] []), e3)
  else
    Option.bind (rulebase_Promote_f k_ b_0 []) fun t5 =>
    Option.bind (loopF k_ (strict_Transpose_l1f k_ t5) (0, t5.Rules)) (sumK (fun a : T_api_Base × Int => some a) fun q82 : (List T_api_Rule) =>
      some ((T_api_Base.mk t5.Premises q82 t5.Promotions), 0))

theorem strict_Transpose_f_le {k_ : Nat} {b_0 : T_api_Base} : Le (strict_Transpose_f k_ b_0) (strict_Transpose_m b_0) := by
  unfold strict_Transpose_f strict_Transpose_m
  repeat' with_reducible (first | exact Le.refl _ | refine rulebase_Validate_f_le | refine rulebase_Promote_f_le | refine Le.loop (fun _ => strict_Transpose_l1f_le) | refine Le.bind ?_ (Le.sumK fun _ => ?_) | refine Le.bind ?_ (fun _ => ?_) | refine Le.cond ?_ ?_ | refine Le.letM (fun _ => ?_) | refine Le.join (fun _ => ?_) (fun _ _ hj => ?_) | exact hj _)

def strict_Derives_f (k_ : Nat) (b_0 : T_api_Base) (l_1 : (List T_api_Literal)) (x_2 : T_api_Literal) : Option (Bool) :=
  Option.bind (strict_Closure_f k_ b_0 l_1) fun t3 =>
  Option.bind (literal_Has_f k_ t3 x_2) fun t4 =>
  some t4

theorem strict_Derives_f_le {k_ : Nat} {b_0 : T_api_Base} {l_1 : (List T_api_Literal)} {x_2 : T_api_Literal} : Le (strict_Derives_f k_ b_0 l_1 x_2) (strict_Derives_m b_0 l_1 x_2) := by
  unfold strict_Derives_f strict_Derives_m
  repeat' with_reducible (first | exact Le.refl _ | refine strict_Closure_f_le | refine literal_Has_f_le | refine Le.bind ?_ (Le.sumK fun _ => ?_) | refine Le.bind ?_ (fun _ => ?_) | refine Le.cond ?_ ?_ | refine Le.letM (fun _ => ?_) | refine Le.join (fun _ => ?_) (fun _ _ hj => ?_) | exact hj _)

def slices_IndexFunc_api_Rule_api_Rule_2_l1f (k_ : Nat) (s_0 : (List T_api_Rule)) (e_0 : T_api_Rule) (s7 : Int) : Option (Sum ((Sum (Int) (Unit))) (Int)) :=
  bif decide (s7 < (s_0.length : Int)) then
    Option.bind (idxM s_0 s7) fun t10 =>
    Option.bind (strict_alike_1_f k_ t10 e_0) fun t11 =>
    bif t11 then
      some (Sum.inl (Sum.inl s7))
    else
      some (Sum.inr (iadd .i64 s7 1))
  else
    some (Sum.inl (Sum.inr ()))

theorem slices_IndexFunc_api_Rule_api_Rule_2_l1f_le {k_ : Nat} {s_0 : (List T_api_Rule)} {e_0 : T_api_Rule} {s7 : Int} : Le (slices_IndexFunc_api_Rule_api_Rule_2_l1f k_ s_0 e_0 s7) (slices_IndexFunc_api_Rule_api_Rule_2_l1 s_0 e_0 s7) := by
  unfold slices_IndexFunc_api_Rule_api_Rule_2_l1f slices_IndexFunc_api_Rule_api_Rule_2_l1
  repeat' with_reducible (first | exact Le.refl _ | refine strict_alike_1_f_le | refine Le.bind ?_ (Le.sumK fun _ => ?_) | refine Le.bind ?_ (fun _ => ?_) | refine Le.cond ?_ ?_ | refine Le.letM (fun _ => ?_) | refine Le.join (fun _ => ?_) (fun _ _ hj => ?_) | exact hj _)

def slices_IndexFunc_api_Rule_api_Rule_2_f (k_ : Nat) (s_0 : (List T_api_Rule)) (e_0 : T_api_Rule) : Option (Int) :=
  Option.bind (loopF k_ (slices_IndexFunc_api_Rule_api_Rule_2_l1f k_ s_0 e_0) 0) (sumK (fun a : Int => some a) fun q13 : Unit =>
    some (-1))

theorem slices_IndexFunc_api_Rule_api_Rule_2_f_le {k_ : Nat} {s_0 : (List T_api_Rule)} {e_0 : T_api_Rule} : Le (slices_IndexFunc_api_Rule_api_Rule_2_f k_ s_0 e_0) (slices_IndexFunc_api_Rule_api_Rule_2_m s_0 e_0) := by
  unfold slices_IndexFunc_api_Rule_api_Rule_2_f slices_IndexFunc_api_Rule_api_Rule_2_m
  repeat' with_reducible (first | exact Le.refl _ | refine Le.loop (fun _ => slices_IndexFunc_api_Rule_api_Rule_2_l1f_le) | refine Le.bind ?_ (Le.sumK fun _ => ?_) | refine Le.bind ?_ (fun _ => ?_) | refine Le.cond ?_ ?_ | refine Le.letM (fun _ => ?_) | refine Le.join (fun _ => ?_) (fun _ _ hj => ?_) | exact hj _)

def slices_ContainsFunc_api_Rule_api_Rule_1_f (k_ : Nat) (s_0 : (List T_api_Rule)) (e_0 : T_api_Rule) : Option (Bool) :=
  Option.bind (slices_IndexFunc_api_Rule_api_Rule_2_f k_ s_0 e_0) fun t1 =>
  letM (decide (t1 ≥ 0)) fun t2 =>
  some t2

theorem slices_ContainsFunc_api_Rule_api_Rule_1_f_le {k_ : Nat} {s_0 : (List T_api_Rule)} {e_0 : T_api_Rule} : Le (slices_ContainsFunc_api_Rule_api_Rule_1_f k_ s_0 e_0) (slices_ContainsFunc_api_Rule_api_Rule_1_m s_0 e_0) := by
  unfold slices_ContainsFunc_api_Rule_api_Rule_1_f slices_ContainsFunc_api_Rule_api_Rule_1_m
  repeat' with_reducible (first | exact Le.refl _ | refine slices_IndexFunc_api_Rule_api_Rule_2_f_le | refine Le.bind ?_ (Le.sumK fun _ => ?_) | refine Le.bind ?_ (fun _ => ?_) | refine Le.cond ?_ ?_ | refine Le.letM (fun _ => ?_) | refine Le.join (fun _ => ?_) (fun _ _ hj => ?_) | exact hj _)

def strict_Closed_l2f (k_ : Nat) (b_0 : T_api_Base) (t36 : List T_api_Rule) (s47 : Int) : Option (Sum ((Sum (Bool) (Unit))) (Int)) :=
  bif decide (s47 < (t36.length : Int)) then
    Option.bind (idxM t36 s47) fun t50 =>
    Option.bind (strict_alike_f k_ t50) fun t52 =>
    Option.bind (slices_ContainsFunc_api_Rule_api_Rule_1_f k_ b_0.Rules t52) fun t54 =>
    bif !t54 then
      some (Sum.inl (Sum.inl false))
    else
      some (Sum.inr (iadd .i64 s47 1))
  else
    some (Sum.inl (Sum.inr ()))

theorem strict_Closed_l2f_le {k_ : Nat} {b_0 : T_api_Base} {t36 : List T_api_Rule} {s47 : Int} : Le (strict_Closed_l2f k_ b_0 t36 s47) (strict_Closed_l2 b_0 t36 s47) := by
  unfold strict_Closed_l2f strict_Closed_l2
  repeat' with_reducible (first | exact Le.refl _ | refine strict_alike_f_le | refine slices_ContainsFunc_api_Rule_api_Rule_1_f_le | refine Le.bind ?_ (Le.sumK fun _ => ?_) | refine Le.bind ?_ (fun _ => ?_) | refine Le.cond ?_ ?_ | refine Le.letM (fun _ => ?_) | refine Le.join (fun _ => ?_) (fun _ _ hj => ?_) | exact hj _)

def strict_Closed_l1f (k_ : Nat) (b_0 : T_api_Base) (s30 : Int) : Option (Sum ((Sum (Bool) (Unit))) (Int)) :=
  bif decide (s30 < (b_0.Rules.length : Int)) then
    Option.bind (idxM b_0.Rules s30) fun t33 =>
    bif !t33.Strict then
      some (Sum.inr (iadd .i64 s30 1))
    else
      Option.bind (strict_transposes_f k_ t33) fun t36 =>
      Option.bind (loopF k_ (strict_Closed_l2f k_ b_0 t36) 0) (sumK (fun a : Bool => some (Sum.inl (Sum.inl a))) fun q56 : Unit =>
        some (Sum.inr (iadd .i64 s30 1)))
  else
    some (Sum.inl (Sum.inr ()))

theorem strict_Closed_l1f_le {k_ : Nat} {b_0 : T_api_Base} {s30 : Int} : Le (strict_Closed_l1f k_ b_0 s30) (strict_Closed_l1 b_0 s30) := by
  unfold strict_Closed_l1f strict_Closed_l1
  repeat' with_reducible (first | exact Le.refl _ | refine strict_transposes_f_le | refine Le.loop (fun _ => strict_Closed_l2f_le) | refine Le.bind ?_ (Le.sumK fun _ => ?_) | refine Le.bind ?_ (fun _ => ?_) | refine Le.cond ?_ ?_ | refine Le.letM (fun _ => ?_) | refine Le.join (fun _ => ?_) (fun _ _ hj => ?_) | exact hj _)

def strict_Closed_f (k_ : Nat) (b_0 : T_api_Base) : Option (Bool) :=
  Option.bind (loopF k_ (strict_Closed_l1f k_ b_0) 0) (sumK (fun a : Bool => some a) fun q58 : Unit =>
    some true)

theorem strict_Closed_f_le {k_ : Nat} {b_0 : T_api_Base} : Le (strict_Closed_f k_ b_0) (strict_Closed_m b_0) := by
  unfold strict_Closed_f strict_Closed_m
  repeat' with_reducible (first | exact Le.refl _ | refine Le.loop (fun _ => strict_Closed_l1f_le) | refine Le.bind ?_ (Le.sumK fun _ => ?_) | refine Le.bind ?_ (fun _ => ?_) | refine Le.cond ?_ ?_ | refine Le.letM (fun _ => ?_) | refine Le.join (fun _ => ?_) (fun _ _ hj => ?_) | exact hj _)

def strict_Axioms_l1f (k_ : Nat) (b_0 : T_api_Base) (s18 : Int × (List T_api_Literal)) : Option (Sum ((List T_api_Literal)) (Int × (List T_api_Literal))) :=
  bif decide (s18.1 < (b_0.Premises.length : Int)) then
    Option.bind (idxM b_0.Premises s18.1) fun t21 =>
    bif t21.Kind == 1 then
      Option.bind (appM 24 s18.2 [t21.Literal]) fun out24 =>
      some (Sum.inr (iadd .i64 s18.1 1, out24))
    else
      some (Sum.inr (iadd .i64 s18.1 1, s18.2))
  else
    some (Sum.inl s18.2)

theorem strict_Axioms_l1f_le {k_ : Nat} {b_0 : T_api_Base} {s18 : Int × (List T_api_Literal)} : Le (strict_Axioms_l1f k_ b_0 s18) (strict_Axioms_l1 b_0 s18) := by
  unfold strict_Axioms_l1f strict_Axioms_l1
  repeat' with_reducible (first | exact Le.refl _ | refine Le.bind ?_ (Le.sumK fun _ => ?_) | refine Le.bind ?_ (fun _ => ?_) | refine Le.cond ?_ ?_ | refine Le.letM (fun _ => ?_) | refine Le.join (fun _ => ?_) (fun _ _ hj => ?_) | exact hj _)

def strict_Axioms_f (k_ : Nat) (b_0 : T_api_Base) : Option (List T_api_Literal) :=
  Option.bind (loopF k_ (strict_Axioms_l1f k_ b_0) (0, [])) fun q26 : (List T_api_Literal) =>
  Option.bind (literal_Normal_f k_ q26) fun t28 =>
  some t28

theorem strict_Axioms_f_le {k_ : Nat} {b_0 : T_api_Base} : Le (strict_Axioms_f k_ b_0) (strict_Axioms_m b_0) := by
  unfold strict_Axioms_f strict_Axioms_m
  repeat' with_reducible (first | exact Le.refl _ | refine literal_Normal_f_le | refine Le.loop (fun _ => strict_Axioms_l1f_le) | refine Le.bind ?_ (Le.sumK fun _ => ?_) | refine Le.bind ?_ (fun _ => ?_) | refine Le.cond ?_ ?_ | refine Le.letM (fun _ => ?_) | refine Le.join (fun _ => ?_) (fun _ _ hj => ?_) | exact hj _)

def literal_Consistent_l1f (k_ : Nat) (l_0 : (List T_api_Literal)) (s20 : Int × (List (T_api_Literal × T_anon61))) : Option (Sum ((Sum (Bool) (Unit))) (Int × (List (T_api_Literal × T_anon61)))) :=
  bif decide (s20.1 < (l_0.length : Int)) then
    Option.bind (idxM l_0 s20.1) fun t23 =>
    Option.bind (literal_Complement_f k_ t23) fun t25 =>
    letM (mapHas (mapPut s20.2 t23 (T_anon61.mk )) t25) fun ok27 =>
    bif ok27 then
      some (Sum.inl (Sum.inl false))
    else
      some (Sum.inr (iadd .i64 s20.1 1, mapPut s20.2 t23 (T_anon61.mk )))
  else
    some (Sum.inl (Sum.inr ()))

theorem literal_Consistent_l1f_le {k_ : Nat} {l_0 : (List T_api_Literal)} {s20 : Int × (List (T_api_Literal × T_anon61))} : Le (literal_Consistent_l1f k_ l_0 s20) (literal_Consistent_l1 l_0 s20) := by
  unfold literal_Consistent_l1f literal_Consistent_l1
  repeat' with_reducible (first | exact Le.refl _ | refine literal_Complement_f_le | refine Le.bind ?_ (Le.sumK fun _ => ?_) | refine Le.bind ?_ (fun _ => ?_) | refine Le.cond ?_ ?_ | refine Le.letM (fun _ => ?_) | refine Le.join (fun _ => ?_) (fun _ _ hj => ?_) | exact hj _)

def literal_Consistent_f (k_ : Nat) (l_0 : (List T_api_Literal)) : Option (Bool) :=
  Option.bind (loopF k_ (literal_Consistent_l1f k_ l_0) (0, [])) (sumK (fun a : Bool => some a) fun q29 : Unit =>
    some true)

theorem literal_Consistent_f_le {k_ : Nat} {l_0 : (List T_api_Literal)} : Le (literal_Consistent_f k_ l_0) (literal_Consistent_m l_0) := by
  unfold literal_Consistent_f literal_Consistent_m
  repeat' with_reducible (first | exact Le.refl _ | refine Le.loop (fun _ => literal_Consistent_l1f_le) | refine Le.bind ?_ (Le.sumK fun _ => ?_) | refine Le.bind ?_ (fun _ => ?_) | refine Le.cond ?_ ?_ | refine Le.letM (fun _ => ?_) | refine Le.join (fun _ => ?_) (fun _ _ hj => ?_) | exact hj _)

def strict_Sound_f (k_ : Nat) (b_0 : T_api_Base) : Option (Bool) :=
  Option.bind (rulebase_Validate_f k_ b_0) fun t2 =>
  bif t2 == 0 then
    Option.bind (strict_Closed_f k_ b_0) fun t3 =>
    bif t3 then
      Option.bind (strict_Axioms_f k_ b_0) fun t4 =>
      Option.bind (strict_Closure_f k_ b_0 t4) fun t5 =>
      Option.bind (literal_Consistent_f k_ t5) fun t6 =>
      some t6
    else
      some false
  else
    some false

theorem strict_Sound_f_le {k_ : Nat} {b_0 : T_api_Base} : Le (strict_Sound_f k_ b_0) (strict_Sound_m b_0) := by
  unfold strict_Sound_f strict_Sound_m
  repeat' with_reducible (first | exact Le.refl _ | refine rulebase_Validate_f_le | refine strict_Closed_f_le | refine strict_Axioms_f_le | refine strict_Closure_f_le | refine literal_Consistent_f_le | refine Le.bind ?_ (Le.sumK fun _ => ?_) | refine Le.bind ?_ (fun _ => ?_) | refine Le.cond ?_ ?_ | refine Le.letM (fun _ => ?_) | refine Le.join (fun _ => ?_) (fun _ _ hj => ?_) | exact hj _)

def law06_awake_f (k_ : Nat)  : Option (Bool) :=
  Option.bind (law06_one_f k_ ) fun t1 =>
  Option.bind (idxM t1.Rules 0) fun t3 =>
  Option.bind (strict_Transpose_f k_ t1) fun t4 =>
  Option.bind (idxM t1.Rules 0) fun t6 =>
  Option.bind (strict_Derives_f k_ t1 t3.Body t6.Head) fun t7 =>
  bif t7 then
    Option.bind (strict_Closure_f k_ t1 t3.Body) fun t8 =>
    bif (t8.length : Int) == 3 then
      bif t4.2 == 0 then
        bif (t4.1.Rules.length : Int) == 3 then
          Option.bind (idxM t4.1.Rules 1) fun t9 =>
          bif t9.Name.toList == (ByteArray.mk #[116, 49]).toList then
            Option.bind (idxM t4.1.Rules 1) fun t10 =>
            bif decide (t10.Head = (T_api_Literal.mk true (ByteArray.mk #[112]))) then
              Option.bind (strict_Closed_f k_ t4.1) fun t11 =>
              bif t11 then
                Option.bind (strict_Closed_f k_ t1) fun t12 =>
                bif !t12 then
                  Option.bind (strict_Sound_f k_ t4.1) fun t13 =>
                  some t13
                else
                  some false
              else
                some false
            else
              some false
          else
            some false
        else
          some false
      else
        some false
    else
      some false
  else
    some false

theorem law06_awake_f_le {k_ : Nat}  : Le (law06_awake_f k_ ) (law06_awake_m ) := by
  unfold law06_awake_f law06_awake_m
  repeat' with_reducible (first | exact Le.refl _ | refine law06_one_f_le | refine strict_Transpose_f_le | refine strict_Derives_f_le | refine strict_Closure_f_le | refine strict_Closed_f_le | refine strict_Sound_f_le | refine Le.bind ?_ (Le.sumK fun _ => ?_) | refine Le.bind ?_ (fun _ => ?_) | refine Le.cond ?_ ?_ | refine Le.letM (fun _ => ?_) | refine Le.join (fun _ => ?_) (fun _ _ hj => ?_) | exact hj _)

end Go.Dc
