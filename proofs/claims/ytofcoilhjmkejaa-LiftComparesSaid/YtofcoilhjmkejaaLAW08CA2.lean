/- Part LAW08C.A2 of a proof: lemmas. -/
import Derived.Test.YtofcoilhjmkejaaLAW08CA1
import Derived.Test.YtofcoilhjmkejaaProg
set_option linter.unusedVariables false
set_option maxRecDepth 100000
set_option maxHeartbeats 4000000
namespace Go.Dc
open Go.Proofs
open Go.Proofs.Try (prog)

/-! deliberation/lift.Less$4 -/
noncomputable def lift_Less_4_m (e_1 : T_api_Base) (e_2 : (List T_api_Argument)) (e_3 : Int) (e_4 : Int) (e_6 : T_api_Ordering) : Option (Bool) :=
  Option.bind (lift_Less_2_1_m e_1 e_2 e_3 e_4) fun t1 =>
  bif t1 then
    Option.bind (lift_Less_1_1_m e_1 e_2 e_3 e_4 e_6) fun t3 =>
    some t3
  else
    Option.bind (lift_Less_2_2_m e_1 e_2 e_3 e_4) fun t4 =>
    bif t4 then
      Option.bind (lift_Less_1_2_m e_1 e_2 e_3 e_4 e_6) fun t6 =>
      some t6
    else
      Option.bind (lift_Less_1_1_m e_1 e_2 e_3 e_4 e_6) fun t7 =>
      bif t7 then
        Option.bind (lift_Less_1_2_m e_1 e_2 e_3 e_4 e_6) fun t8 =>
        some t8
      else
        some false

theorem lift_Less_4_ok {e_1 : T_api_Base} {e_2 : (List T_api_Argument)} {e_3 : Int} {e_4 : Int} {e_6 : T_api_Ordering} {b_0 : Nat} {be_1 : Nat} {be_2 : Nat} {be_3 : Nat} {be_4 : Nat} {b_1 : Nat} {be_6 : Nat} {r : Bool} (hm : lift_Less_4_m e_1 e_2 e_3 e_4 e_6 = some r) :
    FnOk prog 45 [pv (ptr b_0 0), pv (ptr b_1 0)] [oc b_0 [pv (.func (.func 43) #[] #[(ptr be_1 0), (ptr be_2 0), (ptr be_3 0), (ptr be_4 0)])], oc be_1 [slv rT_api_Premise e_1.Premises, slv rT_api_Rule e_1.Rules, slv rT_api_Promotion e_1.Promotions], oc be_2 [slv rT_api_Argument e_2], oc be_3 [iv .i64 e_3], oc be_4 [iv .i64 e_4], oc b_1 [pv (.func (.func 42) #[] #[(ptr be_1 0), (ptr be_2 0), (ptr be_3 0), (ptr be_4 0), (ptr be_6 0)])], oc be_6 [iv .i64 e_6.Link, iv .i64 e_6.Lift]] (fun (x : Unit) => [bv r]) (fun (x : Unit) => [oc b_0 [pv (.func (.func 43) #[] #[(ptr be_1 0), (ptr be_2 0), (ptr be_3 0), (ptr be_4 0)])], oc be_1 [slv rT_api_Premise e_1.Premises, slv rT_api_Rule e_1.Rules, slv rT_api_Promotion e_1.Promotions], oc be_2 [slv rT_api_Argument e_2], oc be_3 [iv .i64 e_3], oc be_4 [iv .i64 e_4], oc b_1 [pv (.func (.func 42) #[] #[(ptr be_1 0), (ptr be_2 0), (ptr be_3 0), (ptr be_4 0), (ptr be_6 0)])], oc be_6 [iv .i64 e_6.Link, iv .i64 e_6.Lift]]) := by
  refine fn_ok (fn := Try.f45) (N := 19) (res := fun r x => [bv r]) (Ω1 := fun r x => [oc b_0 [pv (.func (.func 43) #[] #[(ptr be_1 0), (ptr be_2 0), (ptr be_3 0), (ptr be_4 0)])], oc be_1 [slv rT_api_Premise e_1.Premises, slv rT_api_Rule e_1.Rules, slv rT_api_Promotion e_1.Promotions], oc be_2 [slv rT_api_Argument e_2], oc be_3 [iv .i64 e_3], oc be_4 [iv .i64 e_4], oc b_1 [pv (.func (.func 42) #[] #[(ptr be_1 0), (ptr be_2 0), (ptr be_3 0), (ptr be_4 0), (ptr be_6 0)])], oc be_6 [iv .i64 e_6.Link, iv .i64 e_6.Lift]]) Try.func45 rfl rfl hm rfl (fun E hM => ?_)
  unfold lift_Less_4_m
  refine ref_seq (ref_region ?_)
  refine as1 rfl rfl ?_
  refine l_nil (n_then (ref_seq (ref_block (ref_seq (ref_region ?_)))))
  refine s_rd (r_cload Try.isAgg73 rfl (j := 0) rfl rfl) rfl ?_
  refine pull fun t1 h_t1 => ?_
  refine s_st (s_callC [1, 2, 3, 4] [true, true, true, true] (fun (_ : Unit) => [oc be_1 [slv rT_api_Premise e_1.Premises, slv rT_api_Rule e_1.Rules, slv rT_api_Promotion e_1.Promotions], oc be_2 [slv rT_api_Argument e_2], oc be_3 [iv .i64 e_3], oc be_4 [iv .i64 e_4]]) (fun (_ : Unit) => []) (fun (_ : Unit) => bv t1) (args := [.func 17]) (caps := [(ptr be_1 0), (ptr be_2 0), (ptr be_3 0), (ptr be_4 0)]) Try.call43 rfl (lift_Less_2_1_ok h_t1) ⟨rfl, rfl, ⟨rfl, rfl, ⟨rfl, rfl, ⟨rfl, rfl, trivial⟩⟩⟩⟩ (fun _ => rfl) (fun _ => trivial) (fun _ => rfl) ⟨arg rfl, arg rfl, arg rfl, arg rfl, arg rfl, trivial⟩ (fun _ _ _ _ h => h)) rfl (fun _ => ?_)
  refine as1 rfl rfl ?_
  refine l_nil ?_
  refine b_of (nrm [oc b_0 [pv (.func (.func 43) #[] #[(ptr be_1 0), (ptr be_2 0), (ptr be_3 0), (ptr be_4 0)])], oc be_1 [slv rT_api_Premise e_1.Premises, slv rT_api_Rule e_1.Rules, slv rT_api_Promotion e_1.Promotions], oc be_2 [slv rT_api_Argument e_2], oc be_3 [iv .i64 e_3], oc be_4 [iv .i64 e_4], oc b_1 [pv (.func (.func 42) #[] #[(ptr be_1 0), (ptr be_2 0), (ptr be_3 0), (ptr be_4 0), (ptr be_6 0)])], oc be_6 [iv .i64 e_6.Link, iv .i64 e_6.Lift]] rfl) ?_
  refine n_then ?_
  refine ref_cond rfl (fun hb2 => ?_) (fun hb2 => ?_)
  · refine ref_seq (ref_region ?_)
    refine s_rd (r_cload Try.isAgg73 rfl (j := 5) rfl rfl) rfl ?_
    refine pull fun t3 h_t3 => ?_
    refine s_st (s_callC [1, 2, 3, 4, 6] [true, true, true, true, true] (fun (_ : Unit) => [oc be_1 [slv rT_api_Premise e_1.Premises, slv rT_api_Rule e_1.Rules, slv rT_api_Promotion e_1.Promotions], oc be_2 [slv rT_api_Argument e_2], oc be_3 [iv .i64 e_3], oc be_4 [iv .i64 e_4], oc be_6 [iv .i64 e_6.Link, iv .i64 e_6.Lift]]) (fun (_ : Unit) => []) (fun (_ : Unit) => bv t3) (args := [.func 15]) (caps := [(ptr be_1 0), (ptr be_2 0), (ptr be_3 0), (ptr be_4 0), (ptr be_6 0)]) Try.call42 rfl (lift_Less_1_1_ok h_t3) ⟨rfl, rfl, ⟨rfl, rfl, ⟨rfl, rfl, ⟨rfl, rfl, ⟨rfl, rfl, trivial⟩⟩⟩⟩⟩ (fun _ => rfl) (fun _ => trivial) (fun _ => rfl) ⟨arg rfl, arg rfl, arg rfl, arg rfl, arg rfl, arg rfl, trivial⟩ (fun _ _ _ _ h => h)) rfl (fun _ => ?_)
    refine as1 rfl rfl ?_
    refine l_nil ?_
    refine b_of (nrm [oc b_0 [pv (.func (.func 43) #[] #[(ptr be_1 0), (ptr be_2 0), (ptr be_3 0), (ptr be_4 0)])], oc be_1 [slv rT_api_Premise e_1.Premises, slv rT_api_Rule e_1.Rules, slv rT_api_Promotion e_1.Promotions], oc be_2 [slv rT_api_Argument e_2], oc be_3 [iv .i64 e_3], oc be_4 [iv .i64 e_4], oc b_1 [pv (.func (.func 42) #[] #[(ptr be_1 0), (ptr be_2 0), (ptr be_3 0), (ptr be_4 0), (ptr be_6 0)])], oc be_6 [iv .i64 e_6.Link, iv .i64 e_6.Lift]] rfl) ?_
    refine n_then (ref_ret (r_block (r_then ?_)))
    exact fin1 (.inl rfl) () [0, 1, 2, 3, 4, 5, 6] rfl ⟨rfl, rfl, rfl, rfl, rfl, rfl, rfl, trivial⟩ rfl (rv_tmp rfl)
  refine ref_seq (ref_region ?_)
  refine s_rd (r_cload Try.isAgg73 rfl (j := 0) rfl rfl) rfl ?_
  refine pull fun t4 h_t4 => ?_
  refine s_st (s_callC [1, 2, 3, 4] [true, true, true, true] (fun (_ : Unit) => [oc be_1 [slv rT_api_Premise e_1.Premises, slv rT_api_Rule e_1.Rules, slv rT_api_Promotion e_1.Promotions], oc be_2 [slv rT_api_Argument e_2], oc be_3 [iv .i64 e_3], oc be_4 [iv .i64 e_4]]) (fun (_ : Unit) => []) (fun (_ : Unit) => bv t4) (args := [.func 15]) (caps := [(ptr be_1 0), (ptr be_2 0), (ptr be_3 0), (ptr be_4 0)]) Try.call43 rfl (lift_Less_2_2_ok h_t4) ⟨rfl, rfl, ⟨rfl, rfl, ⟨rfl, rfl, ⟨rfl, rfl, trivial⟩⟩⟩⟩ (fun _ => rfl) (fun _ => trivial) (fun _ => rfl) ⟨arg rfl, arg rfl, arg rfl, arg rfl, arg rfl, trivial⟩ (fun _ _ _ _ h => h)) rfl (fun _ => ?_)
  refine as1 rfl rfl ?_
  refine l_nil ?_
  refine b_of (nrm [oc b_0 [pv (.func (.func 43) #[] #[(ptr be_1 0), (ptr be_2 0), (ptr be_3 0), (ptr be_4 0)])], oc be_1 [slv rT_api_Premise e_1.Premises, slv rT_api_Rule e_1.Rules, slv rT_api_Promotion e_1.Promotions], oc be_2 [slv rT_api_Argument e_2], oc be_3 [iv .i64 e_3], oc be_4 [iv .i64 e_4], oc b_1 [pv (.func (.func 42) #[] #[(ptr be_1 0), (ptr be_2 0), (ptr be_3 0), (ptr be_4 0), (ptr be_6 0)])], oc be_6 [iv .i64 e_6.Link, iv .i64 e_6.Lift]] rfl) ?_
  refine n_then ?_
  refine ref_cond rfl (fun hb5 => ?_) (fun hb5 => ?_)
  · refine ref_seq (ref_region ?_)
    refine s_rd (r_cload Try.isAgg73 rfl (j := 5) rfl rfl) rfl ?_
    refine pull fun t6 h_t6 => ?_
    refine s_st (s_callC [1, 2, 3, 4, 6] [true, true, true, true, true] (fun (_ : Unit) => [oc be_1 [slv rT_api_Premise e_1.Premises, slv rT_api_Rule e_1.Rules, slv rT_api_Promotion e_1.Promotions], oc be_2 [slv rT_api_Argument e_2], oc be_3 [iv .i64 e_3], oc be_4 [iv .i64 e_4], oc be_6 [iv .i64 e_6.Link, iv .i64 e_6.Lift]]) (fun (_ : Unit) => []) (fun (_ : Unit) => bv t6) (args := [.func 17]) (caps := [(ptr be_1 0), (ptr be_2 0), (ptr be_3 0), (ptr be_4 0), (ptr be_6 0)]) Try.call42 rfl (lift_Less_1_2_ok h_t6) ⟨rfl, rfl, ⟨rfl, rfl, ⟨rfl, rfl, ⟨rfl, rfl, ⟨rfl, rfl, trivial⟩⟩⟩⟩⟩ (fun _ => rfl) (fun _ => trivial) (fun _ => rfl) ⟨arg rfl, arg rfl, arg rfl, arg rfl, arg rfl, arg rfl, trivial⟩ (fun _ _ _ _ h => h)) rfl (fun _ => ?_)
    refine as1 rfl rfl ?_
    refine l_nil ?_
    refine b_of (nrm [oc b_0 [pv (.func (.func 43) #[] #[(ptr be_1 0), (ptr be_2 0), (ptr be_3 0), (ptr be_4 0)])], oc be_1 [slv rT_api_Premise e_1.Premises, slv rT_api_Rule e_1.Rules, slv rT_api_Promotion e_1.Promotions], oc be_2 [slv rT_api_Argument e_2], oc be_3 [iv .i64 e_3], oc be_4 [iv .i64 e_4], oc b_1 [pv (.func (.func 42) #[] #[(ptr be_1 0), (ptr be_2 0), (ptr be_3 0), (ptr be_4 0), (ptr be_6 0)])], oc be_6 [iv .i64 e_6.Link, iv .i64 e_6.Lift]] rfl) ?_
    refine n_then (ref_ret (r_block (r_then ?_)))
    exact fin1 (.inl rfl) () [0, 1, 2, 3, 4, 5, 6] rfl ⟨rfl, rfl, rfl, rfl, rfl, rfl, rfl, trivial⟩ rfl (rv_tmp rfl)
  refine ref_skip (n_block (n_then (ref_seq (ref_region ?_))))
  refine s_rd (r_cload Try.isAgg73 rfl (j := 5) rfl rfl) rfl ?_
  refine pull fun t7 h_t7 => ?_
  refine s_st (s_callC [1, 2, 3, 4, 6] [true, true, true, true, true] (fun (_ : Unit) => [oc be_1 [slv rT_api_Premise e_1.Premises, slv rT_api_Rule e_1.Rules, slv rT_api_Promotion e_1.Promotions], oc be_2 [slv rT_api_Argument e_2], oc be_3 [iv .i64 e_3], oc be_4 [iv .i64 e_4], oc be_6 [iv .i64 e_6.Link, iv .i64 e_6.Lift]]) (fun (_ : Unit) => []) (fun (_ : Unit) => bv t7) (args := [.func 15]) (caps := [(ptr be_1 0), (ptr be_2 0), (ptr be_3 0), (ptr be_4 0), (ptr be_6 0)]) Try.call42 rfl (lift_Less_1_1_ok h_t7) ⟨rfl, rfl, ⟨rfl, rfl, ⟨rfl, rfl, ⟨rfl, rfl, ⟨rfl, rfl, trivial⟩⟩⟩⟩⟩ (fun _ => rfl) (fun _ => trivial) (fun _ => rfl) ⟨arg rfl, arg rfl, arg rfl, arg rfl, arg rfl, arg rfl, trivial⟩ (fun _ _ _ _ h => h)) rfl (fun _ => ?_)
  refine mv1 rfl rfl ?_
  refine b_split (t := 15) rfl (fun _ => ?_) (fun _ => ?_)
  · refine s_on rfl rfl rfl ?_
    refine s_rd (r_cload Try.isAgg73 rfl (j := 5) rfl rfl) rfl ?_
    refine s_on rfl rfl rfl ?_
    refine pull fun t8 h_t8 => ?_
    refine s_st (s_callC [1, 2, 3, 4, 6] [true, true, true, true, true] (fun (_ : Unit) => [oc be_1 [slv rT_api_Premise e_1.Premises, slv rT_api_Rule e_1.Rules, slv rT_api_Promotion e_1.Promotions], oc be_2 [slv rT_api_Argument e_2], oc be_3 [iv .i64 e_3], oc be_4 [iv .i64 e_4], oc be_6 [iv .i64 e_6.Link, iv .i64 e_6.Lift]]) (fun (_ : Unit) => []) (fun (_ : Unit) => bv t8) (args := [.func 17]) (caps := [(ptr be_1 0), (ptr be_2 0), (ptr be_3 0), (ptr be_4 0), (ptr be_6 0)]) Try.call42 rfl (lift_Less_1_2_ok h_t8) ⟨rfl, rfl, ⟨rfl, rfl, ⟨rfl, rfl, ⟨rfl, rfl, ⟨rfl, rfl, trivial⟩⟩⟩⟩⟩ (fun _ => rfl) (fun _ => trivial) (fun _ => rfl) ⟨arg rfl, arg rfl, arg rfl, arg rfl, arg rfl, arg rfl, trivial⟩ (fun _ _ _ _ h => h)) rfl (fun _ => ?_)
    refine s_rd (r_pickT rfl rfl) rfl ?_
    refine as1 rfl rfl ?_
    refine l_nil ?_
    refine b_of (nrm [oc b_0 [pv (.func (.func 43) #[] #[(ptr be_1 0), (ptr be_2 0), (ptr be_3 0), (ptr be_4 0)])], oc be_1 [slv rT_api_Premise e_1.Premises, slv rT_api_Rule e_1.Rules, slv rT_api_Promotion e_1.Promotions], oc be_2 [slv rT_api_Argument e_2], oc be_3 [iv .i64 e_3], oc be_4 [iv .i64 e_4], oc b_1 [pv (.func (.func 42) #[] #[(ptr be_1 0), (ptr be_2 0), (ptr be_3 0), (ptr be_4 0), (ptr be_6 0)])], oc be_6 [iv .i64 e_6.Link, iv .i64 e_6.Lift]] rfl) ?_
    refine n_then (ref_ret ?_)
    exact fin1 (.inl rfl) () [0, 1, 2, 3, 4, 5, 6] rfl ⟨rfl, rfl, rfl, rfl, rfl, rfl, rfl, trivial⟩ rfl (rv_tmp rfl)
  refine s_off rfl rfl rfl rfl rfl ?_
  refine s_off rfl rfl rfl rfl rfl ?_
  refine s_rd (r_pickF rfl rfl) rfl ?_
  refine as1 rfl rfl ?_
  refine l_nil ?_
  refine b_of (nrm [oc b_0 [pv (.func (.func 43) #[] #[(ptr be_1 0), (ptr be_2 0), (ptr be_3 0), (ptr be_4 0)])], oc be_1 [slv rT_api_Premise e_1.Premises, slv rT_api_Rule e_1.Rules, slv rT_api_Promotion e_1.Promotions], oc be_2 [slv rT_api_Argument e_2], oc be_3 [iv .i64 e_3], oc be_4 [iv .i64 e_4], oc b_1 [pv (.func (.func 42) #[] #[(ptr be_1 0), (ptr be_2 0), (ptr be_3 0), (ptr be_4 0), (ptr be_6 0)])], oc be_6 [iv .i64 e_6.Link, iv .i64 e_6.Lift]] rfl) ?_
  refine n_then (ref_ret ?_)
  exact fin1 (.inl rfl) () [0, 1, 2, 3, 4, 5, 6] rfl ⟨rfl, rfl, rfl, rfl, rfl, rfl, rfl, trivial⟩ rfl (rv_tmp rfl)

/-! deliberation/lift.Less -/
noncomputable def lift_Less_m (b_0 : T_api_Base) (l_1 : (List T_api_Argument)) (i_2 : Int) (k_3 : Int) (o_4 : T_api_Ordering) : Option (Bool) :=
  bif decide ((imin i_2 k_3) < 0) then
    some false
  else
    bif decide ((imax i_2 k_3) ≥ (l_1.length : Int)) then
      some false
    else
      Option.bind (lift_Assumes_m b_0 l_1 k_3) fun t6 =>
      bif t6 then
        some false
      else
        bif o_4.Link == 1 then
          Option.bind (lift_Less_3_m b_0 l_1 i_2 k_3 o_4) fun t12 =>
          some t12
        else
          bif o_4.Link == 2 then
            Option.bind (lift_Less_4_m b_0 l_1 i_2 k_3 o_4) fun t13 =>
            some t13
          else
            some false

theorem lift_Less_ok {b_0 : T_api_Base} {l_1 : (List T_api_Argument)} {i_2 : Int} {k_3 : Int} {o_4 : T_api_Ordering} {r : Bool} (hm : lift_Less_m b_0 l_1 i_2 k_3 o_4 = some r) :
    FnOk prog 24 [ag [slv rT_api_Premise b_0.Premises, slv rT_api_Rule b_0.Rules, slv rT_api_Promotion b_0.Promotions], slv rT_api_Argument l_1, iv .i64 i_2, iv .i64 k_3, ag [iv .i64 o_4.Link, iv .i64 o_4.Lift]] [] (fun (x : Unit) => [bv r]) (fun (x : Unit) => []) := by
  refine fn_ok (fn := Try.f24) (N := 44) (res := fun r x => [bv r]) (Ω1 := fun r x => []) Try.func24 rfl rfl hm rfl (fun E hM => ?_)
  unfold lift_Less_m
  refine ref_seq (ref_region ?_)
  refine s_st (s_box (part_agO (ψs := [slv rT_api_Premise b_0.Premises, slv rT_api_Rule b_0.Rules, slv rT_api_Promotion b_0.Promotions]) rfl ⟨.inl slv_at, .inl slv_at, .inl slv_at, trivial⟩)) rfl (fun b1 => ?_)
  refine s_st (s_box (part_at rfl slv_at)) rfl (fun b2 => ?_)
  refine s_st (s_box (part_at rfl iv_at)) rfl (fun b3 => ?_)
  refine s_st (s_box (part_at rfl iv_at)) rfl (fun b4 => ?_)
  refine s_st (s_box (part_agO (ψs := [iv .i64 o_4.Link, iv .i64 o_4.Lift]) rfl ⟨.inl iv_at, .inl iv_at, trivial⟩)) rfl (fun b5 => ?_)
  refine as1 rfl rfl ?_
  refine l_nil ?_
  refine b_of (nrm [oc b1 [slv rT_api_Premise b_0.Premises, slv rT_api_Rule b_0.Rules, slv rT_api_Promotion b_0.Promotions], oc b2 [slv rT_api_Argument l_1], oc b3 [iv .i64 i_2], oc b4 [iv .i64 k_3], oc b5 [iv .i64 o_4.Link, iv .i64 o_4.Lift]] rfl) ?_
  refine n_then (ref_seq (ref_seq (ref_region ?_)))
  refine s_rd (r_cload Try.isAgg3 rfl (j := 2) rfl rfl) rfl ?_
  refine s_rd (r_cload Try.isAgg3 rfl (j := 3) rfl rfl) rfl ?_
  refine s_rd (r_min rfl rfl) rfl ?_
  refine s_rd (r_lss rfl rfl) rfl ?_
  refine mv1 rfl rfl ?_
  refine b_split (t := 18) rfl (fun _ => ?_) (fun _ => ?_)
  · refine s_off rfl rfl rfl rfl rfl ?_
    refine s_off rfl rfl rfl rfl rfl ?_
    refine s_off rfl rfl rfl rfl rfl ?_
    refine s_off rfl rfl rfl rfl rfl ?_
    refine s_off rfl rfl rfl rfl rfl ?_
    refine s_off rfl rfl rfl rfl rfl ?_
    refine s_rd (r_pickT rfl rfl) rfl ?_
    refine mv1 rfl rfl ?_
    refine s_off rfl rfl rfl rfl rfl ?_
    refine s_off rfl rfl rfl rfl rfl ?_
    refine s_off rfl rfl rfl rfl rfl ?_
    refine s_off rfl rfl rfl rfl rfl ?_
    refine s_rd (r_pickT rfl rfl) rfl ?_
    refine l_nil (n_then ?_)
    refine ref_condT rfl rfl ?_
    refine ref_seq (ref_region ?_)
    refine as1 rfl rfl ?_
    refine l_nil (n_then (ref_ret (r_then ?_)))
    exact fin1 (.inl rfl) () [] rfl trivial rfl (rv_tmp rfl)
  refine s_on rfl rfl rfl ?_
  refine s_rd (r_cload Try.isAgg3 rfl (j := 2) rfl rfl) rfl ?_
  refine s_on rfl rfl rfl ?_
  refine s_rd (r_cload Try.isAgg3 rfl (j := 3) rfl rfl) rfl ?_
  refine s_on rfl rfl rfl ?_
  refine s_rd (r_max rfl rfl) rfl ?_
  refine s_on rfl rfl rfl ?_
  refine s_rd (r_cload Try.isAgg35 rfl (j := 1) rfl rfl) rfl ?_
  refine s_on rfl rfl rfl ?_
  refine s_rd (r_len Try.underlying35 rfl) rfl ?_
  refine s_on rfl rfl rfl ?_
  refine s_rd (r_geq rfl rfl) rfl ?_
  refine s_rd (r_pickF rfl rfl) rfl ?_
  refine mv1 rfl rfl ?_
  refine b_split (t := 26) rfl (fun _ => ?_) (fun _ => ?_)
  · refine s_off rfl rfl rfl rfl rfl ?_
    refine s_off rfl rfl rfl rfl rfl ?_
    refine s_off rfl rfl rfl rfl rfl ?_
    refine s_off rfl rfl rfl rfl rfl ?_
    refine s_rd (r_pickT rfl rfl) rfl ?_
    refine l_nil (n_then ?_)
    refine ref_condT rfl rfl ?_
    refine ref_seq (ref_region ?_)
    refine as1 rfl rfl ?_
    refine l_nil (n_then (ref_ret (r_then ?_)))
    exact fin1 (.inl rfl) () [] rfl trivial rfl (rv_tmp rfl)
  refine s_on rfl rfl rfl ?_
  refine s_rd (r_cloadS Try.isAgg34 Try.sizeOf34 rfl (j := 0) rfl rfl rfl) rfl ?_
  refine s_on rfl rfl rfl ?_
  refine s_rd (r_cload Try.isAgg35 rfl (j := 1) rfl rfl) rfl ?_
  refine s_on rfl rfl rfl ?_
  refine s_rd (r_cload Try.isAgg3 rfl (j := 3) rfl rfl) rfl ?_
  refine s_on rfl rfl rfl ?_
  refine pull fun t6 h_t6 => ?_
  refine s_st (s_call (ψ := fun (_ : Unit) => bv t6) (args := [.tmp 27, .tmp 28, .tmp 29]) Try.call21 rfl (lift_Assumes_ok h_t6) ⟨arg rfl, arg rfl, arg rfl, trivial⟩ (fun _ _ _ _ h => h)) rfl (fun _ => ?_)
  refine s_rd (r_pickF rfl rfl) rfl ?_
  refine l_nil (n_then ?_)
  refine ref_cond rfl (fun hb7 => ?_) (fun hb7 => ?_)
  · refine ref_seq (ref_region ?_)
    refine as1 rfl rfl ?_
    refine l_nil (n_then (ref_ret (r_then ?_)))
    exact fin1 (.inl rfl) () [] rfl trivial rfl (rv_tmp rfl)
  refine ref_skip (n_then (ref_seq (ref_region ?_)))
  refine s_rd (r_mkfn (xs := [.tmp 5, .tmp 6, .tmp 7, .tmp 8, .tmp 9]) (vs := [(ptr b1 0), (ptr b2 0), (ptr b3 0), (ptr b4 0), (ptr b5 0)]) ⟨rfl, rfl, rfl, rfl, rfl, trivial⟩) rfl ?_
  refine s_st (s_alloc zt_73) rfl (fun b8 => ?_)
  refine s_st0 (s_cstore (out := [pv (.func (.func 42) #[] #[(ptr b1 0), (ptr b2 0), (ptr b3 0), (ptr b4 0), (ptr b5 0)])]) Try.sizeOf73 rfl (j := 5) rfl (part_at (φ := pv (.func (.func 42) #[] #[(ptr b1 0), (ptr b2 0), (ptr b3 0), (ptr b4 0), (ptr b5 0)])) rfl (pv_at rfl)) rfl rfl rfl) (fun _ => ?_)
  refine l_nil (n_then (ref_seq (ref_region ?_)))
  refine s_rd (r_mkfn (xs := [.tmp 5, .tmp 6, .tmp 7, .tmp 8]) (vs := [(ptr b1 0), (ptr b2 0), (ptr b3 0), (ptr b4 0)]) ⟨rfl, rfl, rfl, rfl, trivial⟩) rfl ?_
  refine s_st (s_alloc zt_73) rfl (fun b9 => ?_)
  refine s_st0 (s_cstore (out := [pv (.func (.func 43) #[] #[(ptr b1 0), (ptr b2 0), (ptr b3 0), (ptr b4 0)])]) Try.sizeOf73 rfl (j := 6) rfl (part_at (φ := pv (.func (.func 43) #[] #[(ptr b1 0), (ptr b2 0), (ptr b3 0), (ptr b4 0)])) rfl (pv_at rfl)) rfl rfl rfl) (fun _ => ?_)
  refine l_nil ?_
  refine b_of (nrm [oc b1 [slv rT_api_Premise b_0.Premises, slv rT_api_Rule b_0.Rules, slv rT_api_Promotion b_0.Promotions], oc b2 [slv rT_api_Argument l_1], oc b3 [iv .i64 i_2], oc b4 [iv .i64 k_3], oc b5 [iv .i64 o_4.Link, iv .i64 o_4.Lift], oc b8 [pv (.func (.func 42) #[] #[(ptr b1 0), (ptr b2 0), (ptr b3 0), (ptr b4 0), (ptr b5 0)])], oc b9 [pv (.func (.func 43) #[] #[(ptr b1 0), (ptr b2 0), (ptr b3 0), (ptr b4 0)])]] rfl) ?_
  refine n_then (ref_seq (ref_region ?_))
  refine as1 rfl rfl ?_
  refine l_nil (n_then (ref_seq (ref_seq (ref_region ?_))))
  refine s_rd (r_faddr (fo := 0) Try.underlying43 rfl rfl Try.sizeOf3 rfl) rfl ?_
  refine s_rd (r_cload Try.isAgg3 rfl (j := 4) rfl rfl) rfl ?_
  refine l_nil (n_then (ref_block (ref_seq (ref_region ?_))))
  refine s_rd (r_eql rfl rfl) rfl ?_
  refine as1 rfl rfl ?_
  refine l_nil (n_then ?_)
  refine ref_cond rfl (fun hb10 => ?_) (fun hb10 => ?_)
  · refine ref_region ?_
    refine s_rd (r_mkfn (xs := [.tmp 11, .tmp 12]) (vs := [(ptr b8 0), (ptr b9 0)]) ⟨rfl, rfl, trivial⟩) rfl ?_
    refine as1 rfl rfl ?_
    refine l_nil (n_block (n_then (ref_seq (ref_region ?_))))
    refine mv1 rfl rfl ?_
    refine pull fun t12 h_t12 => ?_
    refine s_st (s_callC [5, 0, 1, 2, 3, 4, 6] [true, true, true, true, true, true, true] (fun (_ : Unit) => [oc b8 [pv (.func (.func 42) #[] #[(ptr b1 0), (ptr b2 0), (ptr b3 0), (ptr b4 0), (ptr b5 0)])], oc b1 [slv rT_api_Premise b_0.Premises, slv rT_api_Rule b_0.Rules, slv rT_api_Promotion b_0.Promotions], oc b2 [slv rT_api_Argument l_1], oc b3 [iv .i64 i_2], oc b4 [iv .i64 k_3], oc b5 [iv .i64 o_4.Link, iv .i64 o_4.Lift], oc b9 [pv (.func (.func 43) #[] #[(ptr b1 0), (ptr b2 0), (ptr b3 0), (ptr b4 0)])]]) (fun (_ : Unit) => []) (fun (_ : Unit) => bv t12) (args := []) (caps := [(ptr b8 0), (ptr b9 0)]) Try.call44 rfl (lift_Less_3_ok h_t12) ⟨rfl, rfl, ⟨rfl, rfl, ⟨rfl, rfl, ⟨rfl, rfl, ⟨rfl, rfl, ⟨rfl, rfl, ⟨rfl, rfl, trivial⟩⟩⟩⟩⟩⟩⟩ (fun _ => rfl) (fun _ => trivial) (fun _ => rfl) ⟨arg rfl, arg rfl, trivial⟩ (fun _ _ _ _ h => h)) rfl (fun _ => ?_)
    refine as1 rfl rfl ?_
    refine l_nil ?_
    refine b_of (nrm [oc b1 [slv rT_api_Premise b_0.Premises, slv rT_api_Rule b_0.Rules, slv rT_api_Promotion b_0.Promotions], oc b2 [slv rT_api_Argument l_1], oc b3 [iv .i64 i_2], oc b4 [iv .i64 k_3], oc b5 [iv .i64 o_4.Link, iv .i64 o_4.Lift], oc b8 [pv (.func (.func 42) #[] #[(ptr b1 0), (ptr b2 0), (ptr b3 0), (ptr b4 0), (ptr b5 0)])], oc b9 [pv (.func (.func 43) #[] #[(ptr b1 0), (ptr b2 0), (ptr b3 0), (ptr b4 0)])]] rfl) ?_
    refine n_then (ref_ret ?_)
    exact fin1 (.inl rfl) () [] rfl trivial rfl (rv_tmp rfl)
  refine ref_seq (ref_region ?_)
  refine s_rd (r_eql rfl rfl) rfl ?_
  refine as1 rfl rfl ?_
  refine l_nil (n_then ?_)
  refine ref_cond rfl (fun hb11 => ?_) (fun hb11 => ?_)
  · refine ref_region ?_
    refine s_rd (r_mkfn (xs := [.tmp 12, .tmp 11]) (vs := [(ptr b9 0), (ptr b8 0)]) ⟨rfl, rfl, trivial⟩) rfl ?_
    refine as1 rfl rfl ?_
    refine l_nil (n_block (n_then (ref_seq (ref_region ?_))))
    refine mv1 rfl rfl ?_
    refine pull fun t13 h_t13 => ?_
    refine s_st (s_callC [6, 0, 1, 2, 3, 5, 4] [true, true, true, true, true, true, true] (fun (_ : Unit) => [oc b9 [pv (.func (.func 43) #[] #[(ptr b1 0), (ptr b2 0), (ptr b3 0), (ptr b4 0)])], oc b1 [slv rT_api_Premise b_0.Premises, slv rT_api_Rule b_0.Rules, slv rT_api_Promotion b_0.Promotions], oc b2 [slv rT_api_Argument l_1], oc b3 [iv .i64 i_2], oc b4 [iv .i64 k_3], oc b8 [pv (.func (.func 42) #[] #[(ptr b1 0), (ptr b2 0), (ptr b3 0), (ptr b4 0), (ptr b5 0)])], oc b5 [iv .i64 o_4.Link, iv .i64 o_4.Lift]]) (fun (_ : Unit) => []) (fun (_ : Unit) => bv t13) (args := []) (caps := [(ptr b9 0), (ptr b8 0)]) Try.call45 rfl (lift_Less_4_ok h_t13) ⟨rfl, rfl, ⟨rfl, rfl, ⟨rfl, rfl, ⟨rfl, rfl, ⟨rfl, rfl, ⟨rfl, rfl, ⟨rfl, rfl, trivial⟩⟩⟩⟩⟩⟩⟩ (fun _ => rfl) (fun _ => trivial) (fun _ => rfl) ⟨arg rfl, arg rfl, trivial⟩ (fun _ _ _ _ h => h)) rfl (fun _ => ?_)
    refine as1 rfl rfl ?_
    refine l_nil ?_
    refine b_of (nrm [oc b1 [slv rT_api_Premise b_0.Premises, slv rT_api_Rule b_0.Rules, slv rT_api_Promotion b_0.Promotions], oc b2 [slv rT_api_Argument l_1], oc b3 [iv .i64 i_2], oc b4 [iv .i64 k_3], oc b5 [iv .i64 o_4.Link, iv .i64 o_4.Lift], oc b8 [pv (.func (.func 42) #[] #[(ptr b1 0), (ptr b2 0), (ptr b3 0), (ptr b4 0), (ptr b5 0)])], oc b9 [pv (.func (.func 43) #[] #[(ptr b1 0), (ptr b2 0), (ptr b3 0), (ptr b4 0)])]] rfl) ?_
    refine n_then (ref_ret ?_)
    exact fin1 (.inl rfl) () [] rfl trivial rfl (rv_tmp rfl)
  refine ref_seq (ref_region ?_)
  refine as1 rfl rfl ?_
  refine l_nil (n_then (ref_ret (r_block (r_then ?_))))
  exact fin1 (.inl rfl) () [] rfl trivial rfl (rv_tmp rfl)

/-! deliberation/deliberationref07.Premises -/
noncomputable def ref07_Premises_l1 (l_0 : (List T_api_Argument)) (t1 : List Int) (s18 : (List Int) × Int) : Option (Sum ((List Int)) ((List Int) × Int)) :=
  bif decide (s18.2 < (t1.length : Int)) then
    Option.bind (idxM t1 s18.2) fun k21 =>
    Option.bind (idxM l_0 k21) fun t22 =>
    bif decide (t22.Premise ≥ 0) then
      Option.bind (idxM l_0 k21) fun t24 =>
      Option.bind (ref07_insert_m s18.1 t24.Premise) fun out25 =>
      some (Sum.inr (out25, iadd .i64 s18.2 1))
    else
      some (Sum.inr (s18.1, iadd .i64 s18.2 1))
  else
    some (Sum.inl s18.1)

noncomputable def ref07_Premises_m (l_0 : (List T_api_Argument)) (i_1 : Int) : Option (List Int) :=
  Option.bind (ref07_Subs_m l_0 i_1) fun t1 =>
  Option.bind (loopC (ref07_Premises_l1 l_0 t1) ([], 0)) fun q26 : (List Int) =>
  some q26

theorem ref07_Premises_ok {l_0 : (List T_api_Argument)} {i_1 : Int} {r : List Int} (hm : ref07_Premises_m l_0 i_1 = some r) :
    FnOk prog 34 [slv rT_api_Argument l_0, iv .i64 i_1] [] (fun (x : Unit) => [slv (rI .i64) r]) (fun (x : Unit) => []) := by
  refine fn_ok (fn := Try.f34) (N := 31) (res := fun r x => [slv (rI .i64) r]) (Ω1 := fun r x => []) Try.func34 rfl rfl hm rfl (fun E hM => ?_)
  unfold ref07_Premises_m
  refine ref_seq (ref_region ?_)
  refine as1 rfl rfl ?_
  refine l_nil (n_then (ref_seq (ref_region ?_)))
  refine as1 rfl rfl ?_
  refine l_nil (n_then (ref_seq (ref_seq (ref_region ?_))))
  refine mv1 rfl rfl ?_
  refine mv1 rfl rfl ?_
  refine pull fun t1 h_t1 => ?_
  refine s_st (s_call (ψ := fun (_ : Unit) => slv (rI .i64) t1) (args := [.tmp 8, .tmp 9]) Try.call58 rfl (ref07_Subs_ok h_t1) ⟨arg rfl, arg rfl, trivial⟩ (fun _ _ _ _ h => h)) rfl (fun _ => ?_)
  refine s_rd (r_len Try.underlying22 rfl) rfl ?_
  refine mv1 rfl rfl ?_
  refine l_nil (n_then ?_)
  refine b_of (sl_nil (rI .i64) (t := 5) rfl) ?_
  refine ref_loopB (f := (ref07_Premises_l1 l_0 t1)) (Γl := (fun (s18 : (List Int) × Int) (x19 : Unit) => [(0, slv rT_api_Argument l_0), (5, slv (rI .i64) s18.1), (10, slv (rI .i64) t1), (11, iv .i64 (t1.length : Int)), (12, iv .i64 s18.2)])) (Ωl := (fun (s18 : (List Int) × Int) (x19 : Unit) => [])) (Γb := (fun (q26 : (List Int)) (y27 : Unit) => [(5, slv (rI .i64) q26)])) (Ωb := (fun (q26 : (List Int)) (y27 : Unit) => [])) ([], 0) () (weak [] ⟨rfl, rfl, rfl, rfl, rfl, trivial⟩ trivial) (fun s18 x19 => ?_) (fun q26 y27 => ?_)
  · unfold ref07_Premises_l1
    refine ref_seq (ref_region ?_)
    refine s_rd (r_lss rfl rfl) rfl ?_
    refine l_nil (n_then (ref_seq ?_))
    refine ref_cond rfl (fun hb20 => ?_) (fun hb20 => ?_)
    · refine ref_skip (n_then (ref_seq (ref_block (ref_seq (ref_region ?_)))))
      refine pull fun k21 h_k21 => ?_
      refine s_rd (r_index h_k21 Try.underlying22 el_3 rfl rfl) rfl ?_
      refine s_rd (r_load el_3 rfl) rfl ?_
      refine as1 rfl rfl ?_
      refine l_nil (n_then (ref_seq (ref_region ?_)))
      refine mv1 rfl rfl ?_
      refine mv1 rfl rfl ?_
      refine pull fun t22 h_t22 => ?_
      refine s_rd (r_index h_t22 Try.underlying35 el_52 rfl rfl) rfl ?_
      refine s_rd (r_fea (fo := 0) (ρ := rT_api_Argument) (y := t22) (ρ' := (rI .i64)) (z := t22.Premise) Try.underlying52 rfl rfl Try.sizeOf3 rfl rfl rfl) rfl ?_
      refine s_rd (r_load el_3 rfl) rfl ?_
      refine s_rd (r_geq rfl rfl) rfl ?_
      refine l_nil (n_then ?_)
      refine ref_cond rfl (fun hb23 => ?_) (fun hb23 => ?_)
      · refine ref_region ?_
        refine mv1 rfl rfl ?_
        refine mv1 rfl rfl ?_
        refine mv1 rfl rfl ?_
        refine pull fun t24 h_t24 => ?_
        refine s_rd (r_index h_t24 Try.underlying35 el_52 rfl rfl) rfl ?_
        refine s_rd (r_fea (fo := 0) (ρ := rT_api_Argument) (y := t24) (ρ' := (rI .i64)) (z := t24.Premise) Try.underlying52 rfl rfl Try.sizeOf3 rfl rfl rfl) rfl ?_
        refine s_rd (r_load el_3 rfl) rfl ?_
        refine pull fun out25 h_out25 => ?_
        refine s_st (s_call (ψ := fun (_ : Unit) => slv (rI .i64) out25) (args := [.tmp 22, .tmp 27]) Try.call59 rfl (ref07_insert_ok h_out25) ⟨arg rfl, arg rfl, trivial⟩ (fun _ _ _ _ h => h)) rfl (fun _ => ?_)
        refine as1 rfl rfl ?_
        refine l_nil (n_block (n_then (ref_region ?_)))
        refine s_rd (r_add rfl rfl) rfl ?_
        refine mv1 rfl rfl ?_
        refine l_nil ?_
        exact goB () (weak [] ⟨rfl, rfl, rfl, rfl, rfl, trivial⟩ trivial)
      refine ref_skip (n_block (n_then (ref_region ?_)))
      refine s_rd (r_add rfl rfl) rfl ?_
      refine mv1 rfl rfl ?_
      refine l_nil ?_
      exact goB () (weak [] ⟨rfl, rfl, rfl, rfl, rfl, trivial⟩ trivial)
    refine ref_exit (x_then ?_)
    exact brkB () (weak [] ⟨rfl, trivial⟩ trivial)
  refine n_then (ref_seq (ref_region ?_))
  refine mv1 rfl rfl ?_
  refine as1 rfl rfl ?_
  refine l_nil (n_then (ref_ret ?_))
  exact fin1 (.inl rfl) () [] rfl trivial rfl (rv_tmp rfl)

/-! deliberation/deliberationref08.Assumes -/
noncomputable def ref08_Assumes_l1 (b_0 : T_api_Base) (t2 : List Int) (s9 : Int) : Option (Sum ((Sum (Bool) (Unit))) (Int)) :=
  bif decide (s9 < (t2.length : Int)) then
    Option.bind (idxM t2 s9) fun p12 =>
    Option.bind (idxM b_0.Premises p12) fun t13 =>
    bif t13.Kind == 3 then
      some (Sum.inl (Sum.inl true))
    else
      some (Sum.inr (iadd .i64 s9 1))
  else
    some (Sum.inl (Sum.inr ()))

noncomputable def ref08_Assumes_m (b_0 : T_api_Base) (l_1 : (List T_api_Argument)) (i_2 : Int) : Option (Bool) :=
  Option.bind (ref07_Premises_m l_1 i_2) fun t2 =>
  Option.bind (loopC (ref08_Assumes_l1 b_0 t2) 0) (sumK (fun a : Bool => some a) fun q15 : Unit =>
    some false)

theorem ref08_Assumes_ok {b_0 : T_api_Base} {l_1 : (List T_api_Argument)} {i_2 : Int} {r : Bool} (hm : ref08_Assumes_m b_0 l_1 i_2 = some r) :
    FnOk prog 22 [ag [slv rT_api_Premise b_0.Premises, slv rT_api_Rule b_0.Rules, slv rT_api_Promotion b_0.Promotions], slv rT_api_Argument l_1, iv .i64 i_2] [] (fun (x : Unit) => [bv r]) (fun (x : Unit) => []) := by
  refine fn_ok (fn := Try.f22) (N := 25) (res := fun r x => [bv r]) (Ω1 := fun r x => []) Try.func22 rfl rfl hm rfl (fun E hM => ?_)
  unfold ref08_Assumes_m
  refine ref_seq (ref_region ?_)
  refine s_st (s_box (part_agO (ψs := [slv rT_api_Premise b_0.Premises, slv rT_api_Rule b_0.Rules, slv rT_api_Promotion b_0.Promotions]) rfl ⟨.inl slv_at, .inl slv_at, .inl slv_at, trivial⟩)) rfl (fun b1 => ?_)
  refine as1 rfl rfl ?_
  refine l_nil (n_then (ref_seq (ref_seq (ref_region ?_))))
  refine mv1 rfl rfl ?_
  refine mv1 rfl rfl ?_
  refine pull fun t2 h_t2 => ?_
  refine s_st (s_call (ψ := fun (_ : Unit) => slv (rI .i64) t2) (args := [.tmp 9, .tmp 10]) Try.call34 rfl (ref07_Premises_ok h_t2) ⟨arg rfl, arg rfl, trivial⟩ (fun _ _ _ _ h => h)) rfl (fun _ => ?_)
  refine s_rd (r_len Try.underlying22 rfl) rfl ?_
  refine mv1 rfl rfl ?_
  refine l_nil (n_then ?_)
  refine ref_loopX (f := (ref08_Assumes_l1 b_0 t2)) (Γl := (fun (s9 : Int) (x10 : Unit) => [(3, pv (ptr b1 0)), (11, slv (rI .i64) t2), (12, iv .i64 (t2.length : Int)), (13, iv .i64 s9)])) (Ωl := (fun (s9 : Int) (x10 : Unit) => [oc b1 [slv rT_api_Premise b_0.Premises, slv rT_api_Rule b_0.Rules, slv rT_api_Promotion b_0.Promotions]])) (Γb := (fun (q15 : Unit) (y16 : Unit) => [])) (Ωb := (fun (q15 : Unit) (y16 : Unit) => [])) (kr := (fun a : Bool => some a)) 0 () (weak [0] ⟨rfl, rfl, rfl, rfl, trivial⟩ ⟨rfl, trivial⟩) (fun s9 x10 => ?_) (fun q15 y16 => ?_)
  · unfold ref08_Assumes_l1
    refine ref_seq (ref_region ?_)
    refine s_rd (r_lss rfl rfl) rfl ?_
    refine l_nil (n_then (ref_seq ?_))
    refine ref_cond rfl (fun hb11 => ?_) (fun hb11 => ?_)
    · refine ref_skip (n_then (ref_seq (ref_block (ref_seq (ref_region ?_)))))
      refine pull fun p12 h_p12 => ?_
      refine s_rd (r_index h_p12 Try.underlying22 el_3 rfl rfl) rfl ?_
      refine s_rd (r_load el_3 rfl) rfl ?_
      refine as1 rfl rfl ?_
      refine l_nil (n_then (ref_seq (ref_region ?_)))
      refine s_rd (r_faddr (fo := 0) Try.underlying34 rfl rfl Try.sizeOf30 rfl) rfl ?_
      refine s_rd (r_cload Try.isAgg30 rfl (j := 0) rfl rfl) rfl ?_
      refine mv1 rfl rfl ?_
      refine pull fun t13 h_t13 => ?_
      refine s_rd (r_index h_t13 Try.underlying30 el_64 rfl rfl) rfl ?_
      refine s_rd (r_fea (fo := 2) (ρ := rT_api_Premise) (y := t13) (ρ' := (rI .i64)) (z := t13.Kind) Try.underlying64 rfl rfl Try.sizeOf3 rfl rfl rfl) rfl ?_
      refine s_rd (r_load el_3 rfl) rfl ?_
      refine s_rd (r_eql rfl rfl) rfl ?_
      refine l_nil (n_then ?_)
      refine ref_cond rfl (fun hb14 => ?_) (fun hb14 => ?_)
      · refine ref_seq (ref_region ?_)
        refine as1 rfl rfl ?_
        refine l_nil (n_then (ref_ret (r_block (r_then ?_))))
        refine retX ?_
        refine r_block (r_then ?_)
        exact fin1 (.inl rfl) () [] rfl trivial rfl (rv_tmp rfl)
      refine ref_skip (n_block (n_then (ref_region ?_)))
      refine s_rd (r_add rfl rfl) rfl ?_
      refine mv1 rfl rfl ?_
      refine l_nil ?_
      exact goX () (weak [0] ⟨rfl, rfl, rfl, rfl, trivial⟩ ⟨rfl, trivial⟩)
    refine ref_exit (x_then ?_)
    exact brkX () (weak [] trivial trivial)
  refine n_then (ref_seq (ref_region ?_))
  refine as1 rfl rfl ?_
  refine l_nil (n_then (ref_ret ?_))
  exact fin1 (.inl rfl) () [] rfl trivial rfl (rv_tmp rfl)

/-! deliberation/deliberationref08.PremiseRanks -/
noncomputable def ref08_PremiseRanks_l1 (b_0 : T_api_Base) (t2 : List Int) (s27 : Int × (List Int)) : Option (Sum ((List Int)) (Int × (List Int))) :=
  bif decide (s27.1 < (t2.length : Int)) then
    Option.bind (idxM t2 s27.1) fun p30 =>
    Option.bind (idxM b_0.Premises p30) fun t31 =>
    bif t31.Kind == 2 then
      Option.bind (idxM b_0.Premises p30) fun t33 =>
      Option.bind (appM 8 s27.2 [t33.Rank]) fun out34 =>
      some (Sum.inr (iadd .i64 s27.1 1, out34))
    else
      bif t31.Kind == 3 then
        Option.bind (appM 8 s27.2 [(-1)]) fun out37 =>
        some (Sum.inr (iadd .i64 s27.1 1, out37))
      else
        some (Sum.inr (iadd .i64 s27.1 1, s27.2))
  else
    some (Sum.inl s27.2)

noncomputable def ref08_PremiseRanks_m (b_0 : T_api_Base) (l_1 : (List T_api_Argument)) (i_2 : Int) : Option (List Int) :=
  Option.bind (ref07_Premises_m l_1 i_2) fun t2 =>
  Option.bind (loopC (ref08_PremiseRanks_l1 b_0 t2) (0, [])) fun q39 : (List Int) =>
  some q39

theorem ref08_PremiseRanks_ok {b_0 : T_api_Base} {l_1 : (List T_api_Argument)} {i_2 : Int} {r : List Int} (hm : ref08_PremiseRanks_m b_0 l_1 i_2 = some r) :
    FnOk prog 16 [ag [slv rT_api_Premise b_0.Premises, slv rT_api_Rule b_0.Rules, slv rT_api_Promotion b_0.Promotions], slv rT_api_Argument l_1, iv .i64 i_2] [] (fun (x : (Value × List Nat)) => [pv x.1]) (fun (x : (Value × List Nat)) => [oa (rI .i64) x.1 x.2 r]) := by
  refine fn_ok (X := (Value × List Nat)) (fn := Try.f16) (N := 42) (res := fun r x => [pv x.1]) (Ω1 := fun r x => [oa (rI .i64) x.1 x.2 r]) Try.func16 rfl rfl hm rfl (fun E hM => ?_)
  unfold ref08_PremiseRanks_m
  refine ref_seq (ref_region ?_)
  refine s_st (s_box (part_agO (ψs := [slv rT_api_Premise b_0.Premises, slv rT_api_Rule b_0.Rules, slv rT_api_Promotion b_0.Promotions]) rfl ⟨.inl slv_at, .inl slv_at, .inl slv_at, trivial⟩)) rfl (fun b1 => ?_)
  refine as1 rfl rfl ?_
  refine l_nil (n_then (ref_seq (ref_region ?_)))
  refine as1 rfl rfl ?_
  refine l_nil (n_then (ref_seq (ref_seq (ref_region ?_))))
  refine mv1 rfl rfl ?_
  refine mv1 rfl rfl ?_
  refine pull fun t2 h_t2 => ?_
  refine s_st (s_call (ψ := fun (_ : Unit) => slv (rI .i64) t2) (args := [.tmp 10, .tmp 11]) Try.call34 rfl (ref07_Premises_ok h_t2) ⟨arg rfl, arg rfl, trivial⟩ (fun _ _ _ _ h => h)) rfl (fun _ => ?_)
  refine s_rd (r_len Try.underlying22 rfl) rfl ?_
  refine mv1 rfl rfl ?_
  refine l_nil (n_then ?_)
  refine b_of (own_nil (rI .i64)) ?_
  refine ref_loopB (f := (ref08_PremiseRanks_l1 b_0 t2)) (Γl := (fun (s27 : Int × (List Int)) (x28 : (Value × List Nat)) => [(3, pv (ptr b1 0)), (7, pv x28.1), (12, slv (rI .i64) t2), (13, iv .i64 (t2.length : Int)), (14, iv .i64 s27.1)])) (Ωl := (fun (s27 : Int × (List Int)) (x28 : (Value × List Nat)) => [oc b1 [slv rT_api_Premise b_0.Premises, slv rT_api_Rule b_0.Rules, slv rT_api_Promotion b_0.Promotions], oa (rI .i64) x28.1 x28.2 s27.2])) (Γb := (fun (q39 : (List Int)) (y40 : (Value × List Nat)) => [(7, pv y40.1)])) (Ωb := (fun (q39 : (List Int)) (y40 : (Value × List Nat)) => [oa (rI .i64) y40.1 y40.2 q39])) (0, []) ((.slice none 0 0), []) (weak [0, 1] ⟨rfl, rfl, rfl, rfl, rfl, trivial⟩ ⟨rfl, rfl, trivial⟩) (fun s27 x28 => ?_) (fun q39 y40 => ?_)
  · unfold ref08_PremiseRanks_l1
    refine ref_seq (ref_region ?_)
    refine s_rd (r_lss rfl rfl) rfl ?_
    refine l_nil (n_then (ref_seq ?_))
    refine ref_cond rfl (fun hb29 => ?_) (fun hb29 => ?_)
    · refine ref_skip (n_then (ref_seq (ref_block (ref_seq (ref_region ?_)))))
      refine pull fun p30 h_p30 => ?_
      refine s_rd (r_index h_p30 Try.underlying22 el_3 rfl rfl) rfl ?_
      refine s_rd (r_load el_3 rfl) rfl ?_
      refine as1 rfl rfl ?_
      refine l_nil (n_then (ref_seq (ref_region ?_)))
      refine s_rd (r_faddr (fo := 0) Try.underlying34 rfl rfl Try.sizeOf30 rfl) rfl ?_
      refine s_rd (r_cload Try.isAgg30 rfl (j := 0) rfl rfl) rfl ?_
      refine mv1 rfl rfl ?_
      refine pull fun t31 h_t31 => ?_
      refine s_rd (r_index h_t31 Try.underlying30 el_64 rfl rfl) rfl ?_
      refine s_rd (r_fea (fo := 2) (ρ := rT_api_Premise) (y := t31) (ρ' := (rI .i64)) (z := t31.Kind) Try.underlying64 rfl rfl Try.sizeOf3 rfl rfl rfl) rfl ?_
      refine s_rd (r_load el_3 rfl) rfl ?_
      refine l_nil (n_then (ref_block (ref_seq (ref_region ?_))))
      refine s_rd (r_eql rfl rfl) rfl ?_
      refine as1 rfl rfl ?_
      refine l_nil (n_then ?_)
      refine ref_cond rfl (fun hb32 => ?_) (fun hb32 => ?_)
      · refine ref_region ?_
        refine mv1 rfl rfl ?_
        refine s_rd (r_faddr (fo := 0) Try.underlying34 rfl rfl Try.sizeOf30 rfl) rfl ?_
        refine s_rd (r_cload Try.isAgg30 rfl (j := 0) rfl rfl) rfl ?_
        refine mv1 rfl rfl ?_
        refine pull fun t33 h_t33 => ?_
        refine s_rd (r_index h_t33 Try.underlying30 el_64 rfl rfl) rfl ?_
        refine s_rd (r_fea (fo := 3) (ρ := rT_api_Premise) (y := t33) (ρ' := (rI .i64)) (z := t33.Rank) Try.underlying64 rfl rfl Try.sizeOf3 rfl rfl rfl) rfl ?_
        refine s_rd (r_load el_3 rfl) rfl ?_
        refine s_st (s_bslice (xs := [.tmp 32]) (ds := [t33.Rank]) Try.underlying22 el_3 rfl (Nat.le_of_ble_eq_true rfl) ⟨(part_at rfl iv_at), trivial⟩) rfl (fun _ => ?_)
        refine pull fun out34 h_out34 => ?_
        refine s_st (s_append h_out34 Try.underlying22 el_3 rfl (j := 1) rfl rfl) rfl (fun o35 => ?_)
        refine as1 rfl rfl ?_
        refine l_nil ?_
        refine b_of (nrm [oc b1 [slv rT_api_Premise b_0.Premises, slv rT_api_Rule b_0.Rules, slv rT_api_Promotion b_0.Promotions], oa (rI .i64) o35.1 o35.2 out34] rfl) ?_
        refine n_block (n_block (n_then (ref_region ?_)))
        refine s_rd (r_add rfl rfl) rfl ?_
        refine mv1 rfl rfl ?_
        refine l_nil ?_
        exact goB o35 (weak [0, 1] ⟨rfl, rfl, rfl, rfl, rfl, trivial⟩ ⟨rfl, rfl, trivial⟩)
      refine ref_seq (ref_region ?_)
      refine s_rd (r_eql rfl rfl) rfl ?_
      refine as1 rfl rfl ?_
      refine l_nil (n_then ?_)
      refine ref_cond rfl (fun hb36 => ?_) (fun hb36 => ?_)
      · refine ref_region ?_
        refine mv1 rfl rfl ?_
        refine s_st (s_bslice (xs := [.const (.int .i64 (-1))]) (ds := [(-1)]) Try.underlying22 el_3 rfl (Nat.le_of_ble_eq_true rfl) ⟨(part_at rfl iv_at), trivial⟩) rfl (fun _ => ?_)
        refine pull fun out37 h_out37 => ?_
        refine s_st (s_append h_out37 Try.underlying22 el_3 rfl (j := 1) rfl rfl) rfl (fun o38 => ?_)
        refine as1 rfl rfl ?_
        refine l_nil ?_
        refine b_of (nrm [oc b1 [slv rT_api_Premise b_0.Premises, slv rT_api_Rule b_0.Rules, slv rT_api_Promotion b_0.Promotions], oa (rI .i64) o38.1 o38.2 out37] rfl) ?_
        refine n_block (n_block (n_then (ref_region ?_)))
        refine s_rd (r_add rfl rfl) rfl ?_
        refine mv1 rfl rfl ?_
        refine l_nil ?_
        exact goB o38 (weak [0, 1] ⟨rfl, rfl, rfl, rfl, rfl, trivial⟩ ⟨rfl, rfl, trivial⟩)
      refine ref_skip (n_block (n_block (n_then (ref_region ?_))))
      refine s_rd (r_add rfl rfl) rfl ?_
      refine mv1 rfl rfl ?_
      refine l_nil ?_
      exact goB x28 (weak [0, 1] ⟨rfl, rfl, rfl, rfl, rfl, trivial⟩ ⟨rfl, rfl, trivial⟩)
    refine ref_exit (x_then ?_)
    exact brkB x28 (weak [1] ⟨rfl, trivial⟩ ⟨rfl, trivial⟩)
  refine n_then (ref_seq (ref_region ?_))
  refine mv1 rfl rfl ?_
  refine as1 rfl rfl ?_
  refine l_nil (n_then (ref_ret ?_))
  exact fin1 (.inl rfl) y40 [0] rfl ⟨rfl, trivial⟩ rfl (rv_tmp rfl)

/-! deliberation/deliberationref08.extremes -/
noncomputable def ref08_extremes_l1 (l_0 : (List Int)) (s8 : Int × Int × Int) : Option (Sum (Int × Int) (Int × Int × Int)) :=
  bif decide (s8.2.2 < (l_0.length : Int)) then
    Option.bind (idxM l_0 s8.2.2) fun t11 =>
    Option.bind (idxM l_0 s8.2.2) fun t12 =>
    letM (iadd .i64 s8.2.2 1) fun i13 =>
    some (Sum.inr (imin s8.1 t11, imax s8.2.1 t12, i13))
  else
    some (Sum.inl (s8.1, s8.2.1))

noncomputable def ref08_extremes_m (l_0 : (List Int)) : Option (Int × Int) :=
  Option.bind (idxM l_0 0) fun lo1 =>
  Option.bind (idxM l_0 0) fun hi2 =>
  Option.bind (loopC (ref08_extremes_l1 l_0) (lo1, hi2, 1)) fun q14 : Int × Int =>
  some (q14.1, q14.2)

theorem ref08_extremes_ok {l_0 : (List Int)} {r : Int × Int} (hm : ref08_extremes_m l_0 = some r) :
    FnOk prog 30 [slv (rI .i64) l_0] [] (fun (x : Unit) => [iv .i64 r.1, iv .i64 r.2]) (fun (x : Unit) => []) := by
  refine fn_ok (fn := Try.f30) (N := 33) (res := fun r x => [iv .i64 r.1, iv .i64 r.2]) (Ω1 := fun r x => []) Try.func30 rfl rfl hm rfl (fun E hM => ?_)
  unfold ref08_extremes_m
  refine ref_seq (ref_region ?_)
  refine as1 rfl rfl ?_
  refine as1 rfl rfl ?_
  refine l_nil (n_then (ref_seq ?_))
  refine ref_draw [0, 1, 2, 3, 4, 5] rfl (by kernel_rfl) (fun hok => ?_)
  refine a_rd (i := 0) hok rfl (by kernel_rfl) rfl (r_move rfl) rfl ?_
  refine pull fun lo1 h_lo1 => ?_
  refine a_rd (i := 1) hok rfl (by kernel_rfl) rfl (r_index h_lo1 Try.underlying22 el_3 rfl rfl) rfl ?_
  refine a_rd (i := 2) hok rfl (by kernel_rfl) rfl (r_load el_3 rfl) rfl ?_
  refine a_rd (i := 3) hok rfl (by kernel_rfl) rfl (r_move rfl) rfl ?_
  refine pull fun hi2 h_hi2 => ?_
  refine a_rd (i := 4) hok rfl (by kernel_rfl) rfl (r_index h_hi2 Try.underlying22 el_3 rfl rfl) rfl ?_
  refine a_rd (i := 5) hok rfl (by kernel_rfl) rfl (r_load el_3 rfl) rfl ?_
  refine a_next hok 6 [] (by kernel_rfl) ?_ trivial
  refine a_st (i := 6) hok rfl rfl (St.ofRd (r_assign rfl)) (by intro _ h; cases h; rfl) (fun _ => ⟨trivial, ⟨trivial, ⟨trivial, ⟨trivial, ⟨trivial, ⟨trivial, trivial⟩⟩⟩⟩⟩⟩) (fun _ => ?_)
  refine a_next hok 7 [] (by kernel_rfl) ?_ trivial
  refine a_st (i := 7) hok rfl rfl (St.ofRd (r_assign rfl)) (by intro _ h; cases h; rfl) (fun _ => ⟨trivial, ⟨trivial, ⟨trivial, ⟨trivial, ⟨trivial, ⟨trivial, trivial⟩⟩⟩⟩⟩⟩) (fun _ => ?_)
  refine a_fin hok (by kernel_rfl) ?_
  refine n_then (ref_seq (ref_seq (ref_region ?_)))
  refine as1 rfl rfl ?_
  refine l_nil (n_then ?_)
  refine ref_loopB (f := (ref08_extremes_l1 l_0)) (Γl := (fun (s8 : Int × Int × Int) (x9 : Unit) => [(0, slv (rI .i64) l_0), (4, iv .i64 s8.1), (5, iv .i64 s8.2.1), (6, iv .i64 s8.2.2)])) (Ωl := (fun (s8 : Int × Int × Int) (x9 : Unit) => [])) (Γb := (fun (q14 : Int × Int) (y15 : Unit) => [(4, iv .i64 q14.1), (5, iv .i64 q14.2)])) (Ωb := (fun (q14 : Int × Int) (y15 : Unit) => [])) (lo1, hi2, 1) () (weak [] ⟨rfl, rfl, rfl, rfl, trivial⟩ trivial) (fun s8 x9 => ?_) (fun q14 y15 => ?_)
  · unfold ref08_extremes_l1
    refine ref_seq (ref_seq (ref_region ?_))
    refine mv1 rfl rfl ?_
    refine mv1 rfl rfl ?_
    refine s_rd (r_len Try.underlying22 rfl) rfl ?_
    refine s_rd (r_lss rfl rfl) rfl ?_
    refine l_nil (n_then ?_)
    refine ref_cond rfl (fun hb10 => ?_) (fun hb10 => ?_)
    · refine ref_skip (n_then (ref_seq (ref_block ?_)))
      refine ref_draw [0, 1, 2, 3, 4, 5, 6, 7, 8, 9, 10, 11] rfl (by kernel_rfl) (fun hok => ?_)
      refine a_rd (i := 0) hok rfl (by kernel_rfl) rfl (r_move rfl) rfl ?_
      refine a_rd (i := 1) hok rfl (by kernel_rfl) rfl (r_move rfl) rfl ?_
      refine a_rd (i := 2) hok rfl (by kernel_rfl) rfl (r_move rfl) rfl ?_
      refine pull fun t11 h_t11 => ?_
      refine a_rd (i := 3) hok rfl (by kernel_rfl) rfl (r_index h_t11 Try.underlying22 el_3 rfl rfl) rfl ?_
      refine a_rd (i := 4) hok rfl (by kernel_rfl) rfl (r_load el_3 rfl) rfl ?_
      refine a_rd (i := 5) hok rfl (by kernel_rfl) rfl (r_min rfl rfl) rfl ?_
      refine a_rd (i := 6) hok rfl (by kernel_rfl) rfl (r_move rfl) rfl ?_
      refine a_rd (i := 7) hok rfl (by kernel_rfl) rfl (r_move rfl) rfl ?_
      refine a_rd (i := 8) hok rfl (by kernel_rfl) rfl (r_move rfl) rfl ?_
      refine pull fun t12 h_t12 => ?_
      refine a_rd (i := 9) hok rfl (by kernel_rfl) rfl (r_index h_t12 Try.underlying22 el_3 rfl rfl) rfl ?_
      refine a_rd (i := 10) hok rfl (by kernel_rfl) rfl (r_load el_3 rfl) rfl ?_
      refine a_rd (i := 11) hok rfl (by kernel_rfl) rfl (r_max rfl rfl) rfl ?_
      refine a_next hok 12 [] (by kernel_rfl) ?_ trivial
      refine a_st (i := 12) hok rfl rfl (St.ofRd (r_assign rfl)) (by intro _ h; cases h; rfl) (fun _ => ⟨trivial, ⟨trivial, ⟨trivial, ⟨trivial, ⟨trivial, ⟨trivial, ⟨trivial, ⟨trivial, ⟨trivial, ⟨trivial, ⟨trivial, ⟨trivial, trivial⟩⟩⟩⟩⟩⟩⟩⟩⟩⟩⟩⟩) (fun _ => ?_)
      refine a_next hok 13 [] (by kernel_rfl) ?_ trivial
      refine a_st (i := 13) hok rfl rfl (St.ofRd (r_assign rfl)) (by intro _ h; cases h; rfl) (fun _ => ⟨trivial, ⟨trivial, ⟨trivial, ⟨trivial, ⟨trivial, ⟨trivial, ⟨trivial, ⟨trivial, ⟨trivial, ⟨trivial, ⟨trivial, ⟨trivial, trivial⟩⟩⟩⟩⟩⟩⟩⟩⟩⟩⟩⟩) (fun _ => ?_)
      refine a_fin hok (by kernel_rfl) ?_
      refine n_block (n_then (ref_region ?_))
      refine mv1 rfl rfl ?_
      refine s_rd (r_add rfl rfl) rfl ?_
      refine as1 rfl rfl ?_
      refine b_let (f := iv .i64) (t := 6) rfl fun i13 => ?_
      refine l_nil ?_
      exact goB () (weak [] ⟨rfl, rfl, rfl, rfl, trivial⟩ trivial)
    refine ref_exit (x_then ?_)
    exact brkB () (weak [] ⟨rfl, rfl, trivial⟩ trivial)
  refine n_then (ref_seq (ref_region ?_))
  refine mv1 rfl rfl ?_
  refine mv1 rfl rfl ?_
  refine as1 rfl rfl ?_
  refine as1 rfl rfl ?_
  refine l_nil (n_then (ref_ret ?_))
  exact fin2 (.inl rfl) () [] rfl trivial rfl (rv_tmp rfl) (rv_tmp rfl)

/-! deliberation/deliberationref08.SetLess -/
noncomputable def ref08_SetLess_m (a__0 : (List Int)) (b_1 : (List Int)) (lift_2 : Int) : Option (Bool) :=
  joinM (fun j3 : Unit =>
      bif (b_1.length : Int) == 0 then
        some true
      else
        Option.bind (ref08_extremes_m a__0) fun t7 =>
        Option.bind (ref08_extremes_m b_1) fun t8 =>
        bif lift_2 == 1 then
          letM (decide (t7.1 < t8.1)) fun t10 =>
          some t10
        else
          letM (decide (t7.2 < t8.2)) fun t11 =>
          some t11) fun k5 =>
  bif lift_2 != 1 then
    bif lift_2 != 2 then
      some false
    else
      bif (a__0.length : Int) == 0 then
        some false
      else
        k5 ()
  else
    bif (a__0.length : Int) == 0 then
      some false
    else
      k5 ()

theorem ref08_SetLess_ok {a__0 : (List Int)} {b_1 : (List Int)} {lift_2 : Int} {r : Bool} (hm : ref08_SetLess_m a__0 b_1 lift_2 = some r) :
    FnOk prog 11 [slv (rI .i64) a__0, slv (rI .i64) b_1, iv .i64 lift_2] [] (fun (x : Unit) => [bv r]) (fun (x : Unit) => []) := by
  refine fn_ok (fn := Try.f11) (N := 43) (res := fun r x => [bv r]) (Ω1 := fun r x => []) Try.func11 rfl rfl hm rfl (fun E hM => ?_)
  unfold ref08_SetLess_m
  refine ref_seq (ref_region ?_)
  refine as1 rfl rfl ?_
  refine l_nil (n_then (ref_seq ?_))
  refine ref_join (fun (j3 : Unit) (x4 : Unit) => [(0, slv (rI .i64) a__0), (1, slv (rI .i64) b_1), (2, iv .i64 lift_2)]) (fun (j3 : Unit) (x4 : Unit) => []) (fun k5 hk5 => ?_) (fun j3 x4 => ?_)
  · refine ref_seq (ref_region ?_)
    refine mv1 rfl rfl ?_
    refine s_rd (r_neq rfl rfl) rfl ?_
    refine mv1 rfl rfl ?_
    refine b_split (t := 13) rfl (fun _ => ?_) (fun _ => ?_)
    · refine s_on rfl rfl rfl ?_
      refine mv1 rfl rfl ?_
      refine s_on rfl rfl rfl ?_
      refine s_rd (r_neq rfl rfl) rfl ?_
      refine s_rd (r_pickT rfl rfl) rfl ?_
      refine mv1 rfl rfl ?_
      refine b_split (t := 17) rfl (fun _ => ?_) (fun _ => ?_)
      · refine s_off rfl rfl rfl rfl rfl ?_
        refine s_off rfl rfl rfl rfl rfl ?_
        refine s_off rfl rfl rfl rfl rfl ?_
        refine s_rd (r_pickT rfl rfl) rfl ?_
        refine l_nil (n_then ?_)
        refine ref_condT rfl rfl ?_
        refine ref_seq (ref_region ?_)
        refine as1 rfl rfl ?_
        refine l_nil (n_then (ref_ret (r_then ?_)))
        exact fin1 (.inl rfl) () [] rfl trivial rfl (rv_tmp rfl)
      refine s_on rfl rfl rfl ?_
      refine mv1 rfl rfl ?_
      refine s_on rfl rfl rfl ?_
      refine s_rd (r_len Try.underlying22 rfl) rfl ?_
      refine s_on rfl rfl rfl ?_
      refine s_rd (r_eql rfl rfl) rfl ?_
      refine s_rd (r_pickF rfl rfl) rfl ?_
      refine l_nil (n_then ?_)
      refine ref_cond rfl (fun hb1 => ?_) (fun hb1 => ?_)
      · refine ref_seq (ref_region ?_)
        refine as1 rfl rfl ?_
        refine l_nil (n_then (ref_ret (r_then ?_)))
        exact fin1 (.inl rfl) () [] rfl trivial rfl (rv_tmp rfl)
      refine ref_skip ?_
      exact b_to (hk5 () ()) (weak [] ⟨rfl, rfl, rfl, trivial⟩ trivial)
    refine s_off rfl rfl rfl rfl rfl ?_
    refine s_off rfl rfl rfl rfl rfl ?_
    refine s_rd (r_pickF rfl rfl) rfl ?_
    refine mv1 rfl rfl ?_
    refine s_on rfl rfl rfl ?_
    refine mv1 rfl rfl ?_
    refine s_on rfl rfl rfl ?_
    refine s_rd (r_len Try.underlying22 rfl) rfl ?_
    refine s_on rfl rfl rfl ?_
    refine s_rd (r_eql rfl rfl) rfl ?_
    refine s_rd (r_pickF rfl rfl) rfl ?_
    refine l_nil (n_then ?_)
    refine ref_cond rfl (fun hb2 => ?_) (fun hb2 => ?_)
    · refine ref_seq (ref_region ?_)
      refine as1 rfl rfl ?_
      refine l_nil (n_then (ref_ret (r_then ?_)))
      exact fin1 (.inl rfl) () [] rfl trivial rfl (rv_tmp rfl)
    refine ref_skip ?_
    exact b_to (hk5 () ()) (weak [] ⟨rfl, rfl, rfl, trivial⟩ trivial)
  refine n_then (ref_seq (ref_seq (ref_region ?_)))
  refine mv1 rfl rfl ?_
  refine s_rd (r_len Try.underlying22 rfl) rfl ?_
  refine s_rd (r_eql rfl rfl) rfl ?_
  refine l_nil (n_then ?_)
  refine ref_cond rfl (fun hb6 => ?_) (fun hb6 => ?_)
  · refine ref_seq (ref_region ?_)
    refine as1 rfl rfl ?_
    refine l_nil (n_then (ref_ret (r_then ?_)))
    exact fin1 (.inl rfl) () [] rfl trivial rfl (rv_tmp rfl)
  refine ref_skip (n_then (ref_seq (ref_region ?_)))
  refine mv1 rfl rfl ?_
  refine pull fun t7 h_t7 => ?_
  refine s_st (s_call (ψ := fun (_ : Unit) => tup [iv .i64 t7.1, iv .i64 t7.2]) (args := [.tmp 26]) Try.call30 rfl (ref08_extremes_ok h_t7) ⟨arg rfl, trivial⟩ (fun _ _ _ _ h => h)) rfl (fun _ => ?_)
  refine mv1 rfl rfl ?_
  refine s_rd (r_extract rfl rfl) rfl ?_
  refine s_rd (r_extract rfl rfl) rfl ?_
  refine as1 rfl rfl ?_
  refine as1 rfl rfl ?_
  refine l_nil (n_then (ref_seq (ref_region ?_)))
  refine mv1 rfl rfl ?_
  refine pull fun t8 h_t8 => ?_
  refine s_st (s_call (ψ := fun (_ : Unit) => tup [iv .i64 t8.1, iv .i64 t8.2]) (args := [.tmp 31]) Try.call30 rfl (ref08_extremes_ok h_t8) ⟨arg rfl, trivial⟩ (fun _ _ _ _ h => h)) rfl (fun _ => ?_)
  refine mv1 rfl rfl ?_
  refine s_rd (r_extract rfl rfl) rfl ?_
  refine s_rd (r_extract rfl rfl) rfl ?_
  refine as1 rfl rfl ?_
  refine as1 rfl rfl ?_
  refine l_nil (n_then (ref_seq (ref_seq (ref_region ?_))))
  refine mv1 rfl rfl ?_
  refine s_rd (r_eql rfl rfl) rfl ?_
  refine l_nil (n_then ?_)
  refine ref_cond rfl (fun hb9 => ?_) (fun hb9 => ?_)
  · refine ref_seq (ref_region ?_)
    refine mv1 rfl rfl ?_
    refine mv1 rfl rfl ?_
    refine s_rd (r_lss rfl rfl) rfl ?_
    refine as1 rfl rfl ?_
    refine b_let (f := bv) (t := 6) rfl fun t10 => ?_
    refine l_nil (n_then (ref_ret (r_then ?_)))
    exact fin1 (.inl rfl) () [] rfl trivial rfl (rv_tmp rfl)
  refine ref_skip (n_then (ref_seq (ref_region ?_)))
  refine mv1 rfl rfl ?_
  refine mv1 rfl rfl ?_
  refine s_rd (r_lss rfl rfl) rfl ?_
  refine as1 rfl rfl ?_
  refine b_let (f := bv) (t := 6) rfl fun t11 => ?_
  refine l_nil (n_then (ref_ret ?_))
  exact fin1 (.inl rfl) () [] rfl trivial rfl (rv_tmp rfl)

/-! deliberation/deliberationref07.Last -/
noncomputable def ref07_Last_l1 (b_0 : T_api_Base) (l_1 : (List T_api_Argument)) (i_2 : Int) (rec_ : T_api_Base → (List T_api_Argument) → Int → Option (List Int)) (s25 : (List Int) × Int) : Option (Sum ((List Int)) ((List Int) × Int)) :=
  Option.bind (idxM l_1 i_2) fun t27 =>
  bif decide (s25.2 < (t27.Subs.length : Int)) then
    Option.bind (idxM l_1 i_2) fun t29 =>
    Option.bind (idxM t29.Subs s25.2) fun t30 =>
    Option.bind (rec_ b_0 l_1 t30) fun t31 =>
    Option.bind (ref07_union_m s25.1 t31) fun out32 =>
    letM (iadd .i64 s25.2 1) fun k33 =>
    some (Sum.inr (out32, k33))
  else
    some (Sum.inl s25.1)

noncomputable def ref07_Last_b (rec_ : T_api_Base → (List T_api_Argument) → Int → Option (List Int)) (b_0 : T_api_Base) (l_1 : (List T_api_Argument)) (i_2 : Int) : Option (List Int) :=
  bif decide (i_2 < 0) then
    some []
  else
    bif decide (i_2 ≥ (l_1.length : Int)) then
      some []
    else
      Option.bind (idxM l_1 i_2) fun t2 =>
      bif decide (t2.Rule < 0) then
        some []
      else
        Option.bind (idxM l_1 i_2) fun t4 =>
        Option.bind (idxM b_0.Rules t4.Rule) fun t5 =>
        bif !t5.Strict then
          Option.bind (idxM l_1 i_2) fun t7 =>
          some [t7.Rule]
        else
          Option.bind (loopC (ref07_Last_l1 b_0 l_1 i_2 rec_) ([], 0)) fun q34 : (List Int) =>
          some q34

noncomputable def ref07_Last_n : Nat → T_api_Base → (List T_api_Argument) → Int → Option (List Int)
  | 0 => fun _ _ _ => none
  | n_ + 1 => ref07_Last_b (ref07_Last_n n_)

noncomputable def ref07_Last_m (b_0 : T_api_Base) (l_1 : (List T_api_Argument)) (i_2 : Int) : Option (List Int) := recC fun n_ => ref07_Last_n n_ b_0 l_1 i_2

theorem ref07_Last_step (rec_ : T_api_Base → (List T_api_Argument) → Int → Option (List Int)) (ih : ∀ {b_0 : T_api_Base} {l_1 : (List T_api_Argument)} {i_2 : Int} {r : List Int}, rec_ b_0 l_1 i_2 = some r →
    FnOk prog 39 [ag [slv rT_api_Premise b_0.Premises, slv rT_api_Rule b_0.Rules, slv rT_api_Promotion b_0.Promotions], slv rT_api_Argument l_1, iv .i64 i_2] [] (fun (x : Unit) => [slv (rI .i64) r]) (fun (x : Unit) => [])) {b_0 : T_api_Base} {l_1 : (List T_api_Argument)} {i_2 : Int} {r : List Int} (hm : ref07_Last_b rec_ b_0 l_1 i_2 = some r) :
    FnOk prog 39 [ag [slv rT_api_Premise b_0.Premises, slv rT_api_Rule b_0.Rules, slv rT_api_Promotion b_0.Promotions], slv rT_api_Argument l_1, iv .i64 i_2] [] (fun (x : Unit) => [slv (rI .i64) r]) (fun (x : Unit) => []) := by
  refine fn_ok (fn := Try.f39) (N := 66) (res := fun r x => [slv (rI .i64) r]) (Ω1 := fun r x => []) Try.func39 rfl rfl hm rfl (fun E hM => ?_)
  unfold ref07_Last_b
  refine ref_seq (ref_region ?_)
  refine s_st (s_box (part_agO (ψs := [slv rT_api_Premise b_0.Premises, slv rT_api_Rule b_0.Rules, slv rT_api_Promotion b_0.Promotions]) rfl ⟨.inl slv_at, .inl slv_at, .inl slv_at, trivial⟩)) rfl (fun b1 => ?_)
  refine as1 rfl rfl ?_
  refine l_nil (n_then (ref_seq (ref_seq (ref_region ?_))))
  refine mv1 rfl rfl ?_
  refine s_rd (r_lss rfl rfl) rfl ?_
  refine mv1 rfl rfl ?_
  refine b_split (t := 11) rfl (fun _ => ?_) (fun _ => ?_)
  · refine s_off rfl rfl rfl rfl rfl ?_
    refine s_off rfl rfl rfl rfl rfl ?_
    refine s_off rfl rfl rfl rfl rfl ?_
    refine s_off rfl rfl rfl rfl rfl ?_
    refine s_rd (r_pickT rfl rfl) rfl ?_
    refine mv1 rfl rfl ?_
    refine s_off rfl rfl rfl rfl rfl ?_
    refine s_off rfl rfl rfl rfl rfl ?_
    refine s_off rfl rfl rfl rfl rfl ?_
    refine s_off rfl rfl rfl rfl rfl ?_
    refine s_off rfl rfl rfl rfl rfl ?_
    refine s_off rfl rfl rfl rfl rfl ?_
    refine s_rd (r_pickT rfl rfl) rfl ?_
    refine l_nil (n_then ?_)
    refine ref_condT rfl rfl ?_
    refine ref_seq (ref_region ?_)
    refine as1 rfl rfl ?_
    refine l_nil (n_then (ref_ret (r_then ?_)))
    refine b_of (sl_nil (rI .i64) (t := 6) rfl) ?_
    exact fin1 (.inl rfl) () [] rfl trivial rfl (rv_tmp rfl)
  refine s_on rfl rfl rfl ?_
  refine mv1 rfl rfl ?_
  refine s_on rfl rfl rfl ?_
  refine mv1 rfl rfl ?_
  refine s_on rfl rfl rfl ?_
  refine s_rd (r_len Try.underlying35 rfl) rfl ?_
  refine s_on rfl rfl rfl ?_
  refine s_rd (r_geq rfl rfl) rfl ?_
  refine s_rd (r_pickF rfl rfl) rfl ?_
  refine mv1 rfl rfl ?_
  refine b_split (t := 17) rfl (fun _ => ?_) (fun _ => ?_)
  · refine s_off rfl rfl rfl rfl rfl ?_
    refine s_off rfl rfl rfl rfl rfl ?_
    refine s_off rfl rfl rfl rfl rfl ?_
    refine s_off rfl rfl rfl rfl rfl ?_
    refine s_off rfl rfl rfl rfl rfl ?_
    refine s_off rfl rfl rfl rfl rfl ?_
    refine s_rd (r_pickT rfl rfl) rfl ?_
    refine l_nil (n_then ?_)
    refine ref_condT rfl rfl ?_
    refine ref_seq (ref_region ?_)
    refine as1 rfl rfl ?_
    refine l_nil (n_then (ref_ret (r_then ?_)))
    refine b_of (sl_nil (rI .i64) (t := 6) rfl) ?_
    exact fin1 (.inl rfl) () [] rfl trivial rfl (rv_tmp rfl)
  refine s_on rfl rfl rfl ?_
  refine mv1 rfl rfl ?_
  refine s_on rfl rfl rfl ?_
  refine mv1 rfl rfl ?_
  refine s_on rfl rfl rfl ?_
  refine pull fun t2 h_t2 => ?_
  refine s_rd (r_index h_t2 Try.underlying35 el_52 rfl rfl) rfl ?_
  refine s_on rfl rfl rfl ?_
  refine s_rd (r_fea (fo := 1) (ρ := rT_api_Argument) (y := t2) (ρ' := (rI .i64)) (z := t2.Rule) Try.underlying52 rfl rfl Try.sizeOf3 rfl rfl rfl) rfl ?_
  refine s_on rfl rfl rfl ?_
  refine s_rd (r_load el_3 rfl) rfl ?_
  refine s_on rfl rfl rfl ?_
  refine s_rd (r_lss rfl rfl) rfl ?_
  refine s_rd (r_pickF rfl rfl) rfl ?_
  refine l_nil (n_then ?_)
  refine ref_cond rfl (fun hb3 => ?_) (fun hb3 => ?_)
  · refine ref_seq (ref_region ?_)
    refine as1 rfl rfl ?_
    refine l_nil (n_then (ref_ret (r_then ?_)))
    refine b_of (sl_nil (rI .i64) (t := 6) rfl) ?_
    exact fin1 (.inl rfl) () [] rfl trivial rfl (rv_tmp rfl)
  refine ref_skip (n_then (ref_seq (ref_seq ?_)))
  refine ref_draw [0, 1, 2, 3, 4, 5, 6, 7, 8, 9, 10] rfl (by kernel_rfl) (fun hok => ?_)
  refine a_rd (i := 0) hok rfl (by kernel_rfl) rfl (r_faddr (fo := 1) Try.underlying34 rfl rfl Try.sizeOf31 rfl) rfl ?_
  refine a_rd (i := 1) hok rfl (by kernel_rfl) rfl (r_cload Try.isAgg31 rfl (j := 0) rfl rfl) rfl ?_
  refine a_rd (i := 2) hok rfl (by kernel_rfl) rfl (r_move rfl) rfl ?_
  refine a_rd (i := 3) hok rfl (by kernel_rfl) rfl (r_move rfl) rfl ?_
  refine pull fun t4 h_t4 => ?_
  refine a_rd (i := 4) hok rfl (by kernel_rfl) rfl (r_index h_t4 Try.underlying35 el_52 rfl rfl) rfl ?_
  refine a_rd (i := 5) hok rfl (by kernel_rfl) rfl (r_fea (fo := 1) (ρ := rT_api_Argument) (y := t4) (ρ' := (rI .i64)) (z := t4.Rule) Try.underlying52 rfl rfl Try.sizeOf3 rfl rfl rfl) rfl ?_
  refine a_rd (i := 6) hok rfl (by kernel_rfl) rfl (r_load el_3 rfl) rfl ?_
  refine pull fun t5 h_t5 => ?_
  refine a_rd (i := 7) hok rfl (by kernel_rfl) rfl (r_index h_t5 Try.underlying31 el_55 rfl rfl) rfl ?_
  refine a_rd (i := 8) hok rfl (by kernel_rfl) rfl (r_fea (fo := 1) (ρ := rT_api_Rule) (y := t5) (ρ' := rB) (z := t5.Strict) Try.underlying55 rfl rfl Try.sizeOf4 rfl rfl rfl) rfl ?_
  refine a_rd (i := 9) hok rfl (by kernel_rfl) rfl (r_load el_4 rfl) rfl ?_
  refine a_rd (i := 10) hok rfl (by kernel_rfl) rfl (r_not rfl) rfl ?_
  refine a_fin hok (by kernel_rfl) ?_
  refine n_then ?_
  refine ref_cond rfl (fun hb6 => ?_) (fun hb6 => ?_)
  · refine ref_seq (ref_region ?_)
    refine mv1 rfl rfl ?_
    refine mv1 rfl rfl ?_
    refine pull fun t7 h_t7 => ?_
    refine s_rd (r_index h_t7 Try.underlying35 el_52 rfl rfl) rfl ?_
    refine s_rd (r_fea (fo := 1) (ρ := rT_api_Argument) (y := t7) (ρ' := (rI .i64)) (z := t7.Rule) Try.underlying52 rfl rfl Try.sizeOf3 rfl rfl rfl) rfl ?_
    refine s_rd (r_load el_3 rfl) rfl ?_
    refine s_st (s_bslice (xs := [.tmp 40]) (ds := [t7.Rule]) Try.underlying22 el_3 rfl (Nat.le_of_ble_eq_true rfl) ⟨(part_at rfl iv_at), trivial⟩) rfl (fun _ => ?_)
    refine as1 rfl rfl ?_
    refine l_nil (n_then (ref_ret (r_then ?_)))
    exact fin1 (.inl rfl) () [] rfl trivial rfl (rv_tmp rfl)
  refine ref_skip (n_then (ref_seq (ref_region ?_)))
  refine as1 rfl rfl ?_
  refine l_nil (n_then (ref_seq (ref_seq (ref_region ?_))))
  refine as1 rfl rfl ?_
  refine l_nil (n_then ?_)
  refine b_of (sl_nil (rI .i64) (t := 7) rfl) ?_
  refine ref_loopB (f := (ref07_Last_l1 b_0 l_1 i_2 rec_)) (Γl := (fun (s25 : (List Int) × Int) (x26 : Unit) => [(1, slv rT_api_Argument l_1), (2, iv .i64 i_2), (3, pv (ptr b1 0)), (7, slv (rI .i64) s25.1), (8, iv .i64 s25.2)])) (Ωl := (fun (s25 : (List Int) × Int) (x26 : Unit) => [oc b1 [slv rT_api_Premise b_0.Premises, slv rT_api_Rule b_0.Rules, slv rT_api_Promotion b_0.Promotions]])) (Γb := (fun (q34 : (List Int)) (y35 : Unit) => [(7, slv (rI .i64) q34)])) (Ωb := (fun (q34 : (List Int)) (y35 : Unit) => [])) ([], 0) () (weak [0] ⟨rfl, rfl, rfl, rfl, rfl, trivial⟩ ⟨rfl, trivial⟩) (fun s25 x26 => ?_) (fun q34 y35 => ?_)
  · unfold ref07_Last_l1
    refine ref_seq (ref_seq (ref_region ?_))
    refine mv1 rfl rfl ?_
    refine mv1 rfl rfl ?_
    refine mv1 rfl rfl ?_
    refine pull fun t27 h_t27 => ?_
    refine s_rd (r_index h_t27 Try.underlying35 el_52 rfl rfl) rfl ?_
    refine s_rd (r_fea (fo := 2) (ρ := rT_api_Argument) (y := t27) (ρ' := (rSl (rI .i64))) (z := t27.Subs) Try.underlying52 rfl rfl Try.sizeOf22 rfl rfl rfl) rfl ?_
    refine s_rd (r_load el_22 rfl) rfl ?_
    refine s_rd (r_len Try.underlying22 rfl) rfl ?_
    refine s_rd (r_lss rfl rfl) rfl ?_
    refine l_nil (n_then ?_)
    refine ref_cond rfl (fun hb28 => ?_) (fun hb28 => ?_)
    · refine ref_skip (n_then (ref_seq (ref_block ?_)))
      refine ref_draw [0, 1, 2, 3, 4, 5, 6, 7, 8, 9, 10] rfl (by kernel_rfl) (fun hok => ?_)
      refine a_rd (i := 0) hok rfl (by kernel_rfl) rfl (r_move rfl) rfl ?_
      refine a_rd (i := 1) hok rfl (by kernel_rfl) rfl (r_cloadS Try.isAgg34 Try.sizeOf34 rfl (j := 0) rfl rfl rfl) rfl ?_
      refine a_rd (i := 2) hok rfl (by kernel_rfl) rfl (r_move rfl) rfl ?_
      refine a_rd (i := 3) hok rfl (by kernel_rfl) rfl (r_move rfl) rfl ?_
      refine a_rd (i := 4) hok rfl (by kernel_rfl) rfl (r_move rfl) rfl ?_
      refine pull fun t29 h_t29 => ?_
      refine a_rd (i := 5) hok rfl (by kernel_rfl) rfl (r_index h_t29 Try.underlying35 el_52 rfl rfl) rfl ?_
      refine a_rd (i := 6) hok rfl (by kernel_rfl) rfl (r_fea (fo := 2) (ρ := rT_api_Argument) (y := t29) (ρ' := (rSl (rI .i64))) (z := t29.Subs) Try.underlying52 rfl rfl Try.sizeOf22 rfl rfl rfl) rfl ?_
      refine a_rd (i := 7) hok rfl (by kernel_rfl) rfl (r_load el_22 rfl) rfl ?_
      refine a_rd (i := 8) hok rfl (by kernel_rfl) rfl (r_move rfl) rfl ?_
      refine pull fun t30 h_t30 => ?_
      refine a_rd (i := 9) hok rfl (by kernel_rfl) rfl (r_index h_t30 Try.underlying22 el_3 rfl rfl) rfl ?_
      refine a_rd (i := 10) hok rfl (by kernel_rfl) rfl (r_load el_3 rfl) rfl ?_
      refine pull fun t31 h_t31 => ?_
      refine a_next hok 11 [] (by kernel_rfl) ?_ trivial
      refine a_st (i := 11) hok rfl rfl (s_call (ψ := fun (_ : Unit) => slv (rI .i64) t31) (args := [.tmp 53, .tmp 54, .tmp 62]) Try.call39 rfl (ih h_t31) ⟨arg rfl, arg rfl, arg rfl, trivial⟩ (fun _ _ _ _ h => h)) (by intro _ h; cases h; rfl) (fun _ => ⟨trivial, ⟨trivial, ⟨trivial, ⟨trivial, ⟨trivial, ⟨trivial, ⟨trivial, ⟨trivial, ⟨trivial, ⟨trivial, ⟨trivial, trivial⟩⟩⟩⟩⟩⟩⟩⟩⟩⟩⟩) (fun _ => ?_)
      refine pull fun out32 h_out32 => ?_
      refine a_next hok 12 [] (by kernel_rfl) ?_ trivial
      refine a_st (i := 12) hok rfl rfl (s_call (ψ := fun (_ : Unit) => slv (rI .i64) out32) (args := [.tmp 52, .tmp 63]) Try.call62 rfl (ref07_union_ok h_out32) ⟨arg rfl, arg rfl, trivial⟩ (fun _ _ _ _ h => h)) (by intro _ h; cases h; rfl) (fun _ => ⟨trivial, ⟨trivial, ⟨trivial, ⟨trivial, ⟨trivial, ⟨trivial, ⟨trivial, ⟨trivial, ⟨trivial, ⟨⟨⟨rfl, rfl⟩, trivial⟩, ⟨trivial, trivial⟩⟩⟩⟩⟩⟩⟩⟩⟩⟩⟩) (fun _ => ?_)
      refine a_next hok 13 [] (by kernel_rfl) ?_ trivial
      refine a_st (i := 13) hok rfl rfl (St.ofRd (r_assign rfl)) (by intro _ h; cases h; rfl) (fun _ => ⟨trivial, ⟨trivial, ⟨trivial, ⟨trivial, ⟨trivial, ⟨trivial, ⟨trivial, ⟨trivial, ⟨trivial, ⟨trivial, ⟨trivial, trivial⟩⟩⟩⟩⟩⟩⟩⟩⟩⟩⟩) (fun _ => ?_)
      refine a_fin hok (by kernel_rfl) ?_
      refine b_of (nrm [oc b1 [slv rT_api_Premise b_0.Premises, slv rT_api_Rule b_0.Rules, slv rT_api_Promotion b_0.Promotions]] rfl) ?_
      refine n_block (n_then (ref_region ?_))
      refine mv1 rfl rfl ?_
      refine s_rd (r_add rfl rfl) rfl ?_
      refine as1 rfl rfl ?_
      refine b_let (f := iv .i64) (t := 8) rfl fun k33 => ?_
      refine l_nil ?_
      exact goB () (weak [0] ⟨rfl, rfl, rfl, rfl, rfl, trivial⟩ ⟨rfl, trivial⟩)
    refine ref_exit (x_then ?_)
    exact brkB () (weak [] ⟨rfl, trivial⟩ trivial)
  refine n_then (ref_seq (ref_region ?_))
  refine mv1 rfl rfl ?_
  refine as1 rfl rfl ?_
  refine l_nil (n_then (ref_ret ?_))
  exact fin1 (.inl rfl) () [] rfl trivial rfl (rv_tmp rfl)

theorem ref07_Last_n_ok : ∀ (n_ : Nat) {b_0 : T_api_Base} {l_1 : (List T_api_Argument)} {i_2 : Int} {r : List Int}, ref07_Last_n n_ b_0 l_1 i_2 = some r →
    FnOk prog 39 [ag [slv rT_api_Premise b_0.Premises, slv rT_api_Rule b_0.Rules, slv rT_api_Promotion b_0.Promotions], slv rT_api_Argument l_1, iv .i64 i_2] [] (fun (x : Unit) => [slv (rI .i64) r]) (fun (x : Unit) => []) := by
  intro n_
  induction n_ with
  | zero => intros; rename_i h; cases h
  | succ n_ ih => intros; rename_i h; exact ref07_Last_step _ @ih h

theorem ref07_Last_ok {b_0 : T_api_Base} {l_1 : (List T_api_Argument)} {i_2 : Int} {r : List Int} (hm : ref07_Last_m b_0 l_1 i_2 = some r) :
    FnOk prog 39 [ag [slv rT_api_Premise b_0.Premises, slv rT_api_Rule b_0.Rules, slv rT_api_Promotion b_0.Promotions], slv rT_api_Argument l_1, iv .i64 i_2] [] (fun (x : Unit) => [slv (rI .i64) r]) (fun (x : Unit) => []) := by
  obtain ⟨n_, h⟩ := recC_some hm
  exact ref07_Last_n_ok n_ h

theorem ref07_Last_l1_le {rec_ rec_' : T_api_Base → (List T_api_Argument) → Int → Option (List Int)} (h : ∀ b_0 l_1 i_2, Le (rec_ b_0 l_1 i_2) (rec_' b_0 l_1 i_2)) {b_0 : T_api_Base} {l_1 : (List T_api_Argument)} {i_2 : Int} {s25 : (List Int) × Int}  : Le (ref07_Last_l1 b_0 l_1 i_2 rec_ s25) (ref07_Last_l1 b_0 l_1 i_2 rec_' s25) := by
  unfold ref07_Last_l1
  repeat' with_reducible (first | exact Le.refl _ | exact h _ _ _ | refine Le.bind ?_ (Le.sumK fun _ => ?_) | refine Le.bind ?_ (fun _ => ?_) | refine Le.cond ?_ ?_ | refine Le.letM (fun _ => ?_) | refine Le.join (fun _ => ?_) (fun _ _ hj => ?_) | exact hj _)

theorem ref07_Last_b_le {rec_ rec_' : T_api_Base → (List T_api_Argument) → Int → Option (List Int)} (h : ∀ b_0 l_1 i_2, Le (rec_ b_0 l_1 i_2) (rec_' b_0 l_1 i_2)) {b_0 : T_api_Base} {l_1 : (List T_api_Argument)} {i_2 : Int} : Le (ref07_Last_b rec_ b_0 l_1 i_2) (ref07_Last_b rec_' b_0 l_1 i_2) := by
  unfold ref07_Last_b
  repeat' with_reducible (first | exact Le.refl _ | exact h _ _ _ | refine Le.loopC (fun _ => ref07_Last_l1_le h) | refine Le.bind ?_ (Le.sumK fun _ => ?_) | refine Le.bind ?_ (fun _ => ?_) | refine Le.cond ?_ ?_ | refine Le.letM (fun _ => ?_) | refine Le.join (fun _ => ?_) (fun _ _ hj => ?_) | exact hj _)

theorem ref07_Last_n_le : ∀ (n_ : Nat) (b_0 : T_api_Base) (l_1 : (List T_api_Argument)) (i_2 : Int), Le (ref07_Last_n n_ b_0 l_1 i_2) (ref07_Last_n (n_ + 1) b_0 l_1 i_2)
  | 0, _, _, _ => fun _ h => by cases h
  | n_ + 1, _, _, _ => ref07_Last_b_le (ref07_Last_n_le n_)

/-! deliberation/deliberationref08.LastRanks -/
noncomputable def ref08_LastRanks_l1 (b_0 : T_api_Base) (t2 : List Int) (s17 : Int × (List Int)) : Option (Sum ((List Int)) (Int × (List Int))) :=
  bif decide (s17.1 < (t2.length : Int)) then
    Option.bind (idxM t2 s17.1) fun r_20 =>
    Option.bind (idxM b_0.Rules r_20) fun t21 =>
    Option.bind (appM 8 s17.2 [t21.Rank]) fun out22 =>
    some (Sum.inr (iadd .i64 s17.1 1, out22))
  else
    some (Sum.inl s17.2)

noncomputable def ref08_LastRanks_m (b_0 : T_api_Base) (l_1 : (List T_api_Argument)) (i_2 : Int) : Option (List Int) :=
  Option.bind (ref07_Last_m b_0 l_1 i_2) fun t2 =>
  Option.bind (loopC (ref08_LastRanks_l1 b_0 t2) (0, [])) fun q24 : (List Int) =>
  some q24

theorem ref08_LastRanks_ok {b_0 : T_api_Base} {l_1 : (List T_api_Argument)} {i_2 : Int} {r : List Int} (hm : ref08_LastRanks_m b_0 l_1 i_2 = some r) :
    FnOk prog 20 [ag [slv rT_api_Premise b_0.Premises, slv rT_api_Rule b_0.Rules, slv rT_api_Promotion b_0.Promotions], slv rT_api_Argument l_1, iv .i64 i_2] [] (fun (x : (Value × List Nat)) => [pv x.1]) (fun (x : (Value × List Nat)) => [oa (rI .i64) x.1 x.2 r]) := by
  refine fn_ok (X := (Value × List Nat)) (fn := Try.f20) (N := 30) (res := fun r x => [pv x.1]) (Ω1 := fun r x => [oa (rI .i64) x.1 x.2 r]) Try.func20 rfl rfl hm rfl (fun E hM => ?_)
  unfold ref08_LastRanks_m
  refine ref_seq (ref_region ?_)
  refine s_st (s_box (part_agO (ψs := [slv rT_api_Premise b_0.Premises, slv rT_api_Rule b_0.Rules, slv rT_api_Promotion b_0.Promotions]) rfl ⟨.inl slv_at, .inl slv_at, .inl slv_at, trivial⟩)) rfl (fun b1 => ?_)
  refine as1 rfl rfl ?_
  refine l_nil (n_then (ref_seq (ref_region ?_)))
  refine as1 rfl rfl ?_
  refine l_nil (n_then (ref_seq (ref_seq (ref_region ?_))))
  refine s_rd (r_cloadS Try.isAgg34 Try.sizeOf34 rfl (j := 0) rfl rfl rfl) rfl ?_
  refine mv1 rfl rfl ?_
  refine mv1 rfl rfl ?_
  refine pull fun t2 h_t2 => ?_
  refine s_st (s_call (ψ := fun (_ : Unit) => slv (rI .i64) t2) (args := [.tmp 10, .tmp 11, .tmp 12]) Try.call39 rfl (ref07_Last_ok h_t2) ⟨arg rfl, arg rfl, arg rfl, trivial⟩ (fun _ _ _ _ h => h)) rfl (fun _ => ?_)
  refine s_rd (r_len Try.underlying22 rfl) rfl ?_
  refine mv1 rfl rfl ?_
  refine l_nil (n_then ?_)
  refine b_of (own_nil (rI .i64)) ?_
  refine ref_loopB (f := (ref08_LastRanks_l1 b_0 t2)) (Γl := (fun (s17 : Int × (List Int)) (x18 : (Value × List Nat)) => [(3, pv (ptr b1 0)), (7, pv x18.1), (13, slv (rI .i64) t2), (14, iv .i64 (t2.length : Int)), (15, iv .i64 s17.1)])) (Ωl := (fun (s17 : Int × (List Int)) (x18 : (Value × List Nat)) => [oc b1 [slv rT_api_Premise b_0.Premises, slv rT_api_Rule b_0.Rules, slv rT_api_Promotion b_0.Promotions], oa (rI .i64) x18.1 x18.2 s17.2])) (Γb := (fun (q24 : (List Int)) (y25 : (Value × List Nat)) => [(7, pv y25.1)])) (Ωb := (fun (q24 : (List Int)) (y25 : (Value × List Nat)) => [oa (rI .i64) y25.1 y25.2 q24])) (0, []) ((.slice none 0 0), []) (weak [0, 1] ⟨rfl, rfl, rfl, rfl, rfl, trivial⟩ ⟨rfl, rfl, trivial⟩) (fun s17 x18 => ?_) (fun q24 y25 => ?_)
  · unfold ref08_LastRanks_l1
    refine ref_seq (ref_region ?_)
    refine s_rd (r_lss rfl rfl) rfl ?_
    refine l_nil (n_then (ref_seq ?_))
    refine ref_cond rfl (fun hb19 => ?_) (fun hb19 => ?_)
    · refine ref_skip (n_then (ref_seq (ref_block (ref_seq (ref_region ?_)))))
      refine pull fun r_20 h_r_20 => ?_
      refine s_rd (r_index h_r_20 Try.underlying22 el_3 rfl rfl) rfl ?_
      refine s_rd (r_load el_3 rfl) rfl ?_
      refine as1 rfl rfl ?_
      refine l_nil (n_then (ref_region ?_))
      refine mv1 rfl rfl ?_
      refine s_rd (r_faddr (fo := 1) Try.underlying34 rfl rfl Try.sizeOf31 rfl) rfl ?_
      refine s_rd (r_cload Try.isAgg31 rfl (j := 0) rfl rfl) rfl ?_
      refine mv1 rfl rfl ?_
      refine pull fun t21 h_t21 => ?_
      refine s_rd (r_index h_t21 Try.underlying31 el_55 rfl rfl) rfl ?_
      refine s_rd (r_fea (fo := 2) (ρ := rT_api_Rule) (y := t21) (ρ' := (rI .i64)) (z := t21.Rank) Try.underlying55 rfl rfl Try.sizeOf3 rfl rfl rfl) rfl ?_
      refine s_rd (r_load el_3 rfl) rfl ?_
      refine s_st (s_bslice (xs := [.tmp 25]) (ds := [t21.Rank]) Try.underlying22 el_3 rfl (Nat.le_of_ble_eq_true rfl) ⟨(part_at rfl iv_at), trivial⟩) rfl (fun _ => ?_)
      refine pull fun out22 h_out22 => ?_
      refine s_st (s_append h_out22 Try.underlying22 el_3 rfl (j := 1) rfl rfl) rfl (fun o23 => ?_)
      refine as1 rfl rfl ?_
      refine l_nil ?_
      refine b_of (nrm [oc b1 [slv rT_api_Premise b_0.Premises, slv rT_api_Rule b_0.Rules, slv rT_api_Promotion b_0.Promotions], oa (rI .i64) o23.1 o23.2 out22] rfl) ?_
      refine n_block (n_then (ref_region ?_))
      refine s_rd (r_add rfl rfl) rfl ?_
      refine mv1 rfl rfl ?_
      refine l_nil ?_
      exact goB o23 (weak [0, 1] ⟨rfl, rfl, rfl, rfl, rfl, trivial⟩ ⟨rfl, rfl, trivial⟩)
    refine ref_exit (x_then ?_)
    exact brkB x18 (weak [1] ⟨rfl, trivial⟩ ⟨rfl, trivial⟩)
  refine n_then (ref_seq (ref_region ?_))
  refine mv1 rfl rfl ?_
  refine as1 rfl rfl ?_
  refine l_nil (n_then (ref_ret ?_))
  exact fin1 (.inl rfl) y25 [0] rfl ⟨rfl, trivial⟩ rfl (rv_tmp rfl)

/-! deliberation/deliberationref08.RuleRanks -/
noncomputable def ref08_RuleRanks_l1 (b_0 : T_api_Base) (t2 : List Int) (s17 : Int × (List Int)) : Option (Sum ((List Int)) (Int × (List Int))) :=
  bif decide (s17.1 < (t2.length : Int)) then
    Option.bind (idxM t2 s17.1) fun r_20 =>
    Option.bind (idxM b_0.Rules r_20) fun t21 =>
    Option.bind (appM 8 s17.2 [t21.Rank]) fun out22 =>
    some (Sum.inr (iadd .i64 s17.1 1, out22))
  else
    some (Sum.inl s17.2)

noncomputable def ref08_RuleRanks_m (b_0 : T_api_Base) (l_1 : (List T_api_Argument)) (i_2 : Int) : Option (List Int) :=
  Option.bind (ref07_Defeasible_m b_0 l_1 i_2) fun t2 =>
  Option.bind (loopC (ref08_RuleRanks_l1 b_0 t2) (0, [])) fun q24 : (List Int) =>
  some q24

theorem ref08_RuleRanks_ok {b_0 : T_api_Base} {l_1 : (List T_api_Argument)} {i_2 : Int} {r : List Int} (hm : ref08_RuleRanks_m b_0 l_1 i_2 = some r) :
    FnOk prog 18 [ag [slv rT_api_Premise b_0.Premises, slv rT_api_Rule b_0.Rules, slv rT_api_Promotion b_0.Promotions], slv rT_api_Argument l_1, iv .i64 i_2] [] (fun (x : (Value × List Nat)) => [pv x.1]) (fun (x : (Value × List Nat)) => [oa (rI .i64) x.1 x.2 r]) := by
  refine fn_ok (X := (Value × List Nat)) (fn := Try.f18) (N := 30) (res := fun r x => [pv x.1]) (Ω1 := fun r x => [oa (rI .i64) x.1 x.2 r]) Try.func18 rfl rfl hm rfl (fun E hM => ?_)
  unfold ref08_RuleRanks_m
  refine ref_seq (ref_region ?_)
  refine s_st (s_box (part_agO (ψs := [slv rT_api_Premise b_0.Premises, slv rT_api_Rule b_0.Rules, slv rT_api_Promotion b_0.Promotions]) rfl ⟨.inl slv_at, .inl slv_at, .inl slv_at, trivial⟩)) rfl (fun b1 => ?_)
  refine as1 rfl rfl ?_
  refine l_nil (n_then (ref_seq (ref_region ?_)))
  refine as1 rfl rfl ?_
  refine l_nil (n_then (ref_seq (ref_seq (ref_region ?_))))
  refine s_rd (r_cloadS Try.isAgg34 Try.sizeOf34 rfl (j := 0) rfl rfl rfl) rfl ?_
  refine mv1 rfl rfl ?_
  refine mv1 rfl rfl ?_
  refine pull fun t2 h_t2 => ?_
  refine s_st (s_call (ψ := fun (_ : Unit) => slv (rI .i64) t2) (args := [.tmp 10, .tmp 11, .tmp 12]) Try.call37 rfl (ref07_Defeasible_ok h_t2) ⟨arg rfl, arg rfl, arg rfl, trivial⟩ (fun _ _ _ _ h => h)) rfl (fun _ => ?_)
  refine s_rd (r_len Try.underlying22 rfl) rfl ?_
  refine mv1 rfl rfl ?_
  refine l_nil (n_then ?_)
  refine b_of (own_nil (rI .i64)) ?_
  refine ref_loopB (f := (ref08_RuleRanks_l1 b_0 t2)) (Γl := (fun (s17 : Int × (List Int)) (x18 : (Value × List Nat)) => [(3, pv (ptr b1 0)), (7, pv x18.1), (13, slv (rI .i64) t2), (14, iv .i64 (t2.length : Int)), (15, iv .i64 s17.1)])) (Ωl := (fun (s17 : Int × (List Int)) (x18 : (Value × List Nat)) => [oc b1 [slv rT_api_Premise b_0.Premises, slv rT_api_Rule b_0.Rules, slv rT_api_Promotion b_0.Promotions], oa (rI .i64) x18.1 x18.2 s17.2])) (Γb := (fun (q24 : (List Int)) (y25 : (Value × List Nat)) => [(7, pv y25.1)])) (Ωb := (fun (q24 : (List Int)) (y25 : (Value × List Nat)) => [oa (rI .i64) y25.1 y25.2 q24])) (0, []) ((.slice none 0 0), []) (weak [0, 1] ⟨rfl, rfl, rfl, rfl, rfl, trivial⟩ ⟨rfl, rfl, trivial⟩) (fun s17 x18 => ?_) (fun q24 y25 => ?_)
  · unfold ref08_RuleRanks_l1
    refine ref_seq (ref_region ?_)
    refine s_rd (r_lss rfl rfl) rfl ?_
    refine l_nil (n_then (ref_seq ?_))
    refine ref_cond rfl (fun hb19 => ?_) (fun hb19 => ?_)
    · refine ref_skip (n_then (ref_seq (ref_block (ref_seq (ref_region ?_)))))
      refine pull fun r_20 h_r_20 => ?_
      refine s_rd (r_index h_r_20 Try.underlying22 el_3 rfl rfl) rfl ?_
      refine s_rd (r_load el_3 rfl) rfl ?_
      refine as1 rfl rfl ?_
      refine l_nil (n_then (ref_region ?_))
      refine mv1 rfl rfl ?_
      refine s_rd (r_faddr (fo := 1) Try.underlying34 rfl rfl Try.sizeOf31 rfl) rfl ?_
      refine s_rd (r_cload Try.isAgg31 rfl (j := 0) rfl rfl) rfl ?_
      refine mv1 rfl rfl ?_
      refine pull fun t21 h_t21 => ?_
      refine s_rd (r_index h_t21 Try.underlying31 el_55 rfl rfl) rfl ?_
      refine s_rd (r_fea (fo := 2) (ρ := rT_api_Rule) (y := t21) (ρ' := (rI .i64)) (z := t21.Rank) Try.underlying55 rfl rfl Try.sizeOf3 rfl rfl rfl) rfl ?_
      refine s_rd (r_load el_3 rfl) rfl ?_
      refine s_st (s_bslice (xs := [.tmp 25]) (ds := [t21.Rank]) Try.underlying22 el_3 rfl (Nat.le_of_ble_eq_true rfl) ⟨(part_at rfl iv_at), trivial⟩) rfl (fun _ => ?_)
      refine pull fun out22 h_out22 => ?_
      refine s_st (s_append h_out22 Try.underlying22 el_3 rfl (j := 1) rfl rfl) rfl (fun o23 => ?_)
      refine as1 rfl rfl ?_
      refine l_nil ?_
      refine b_of (nrm [oc b1 [slv rT_api_Premise b_0.Premises, slv rT_api_Rule b_0.Rules, slv rT_api_Promotion b_0.Promotions], oa (rI .i64) o23.1 o23.2 out22] rfl) ?_
      refine n_block (n_then (ref_region ?_))
      refine s_rd (r_add rfl rfl) rfl ?_
      refine mv1 rfl rfl ?_
      refine l_nil ?_
      exact goB o23 (weak [0, 1] ⟨rfl, rfl, rfl, rfl, rfl, trivial⟩ ⟨rfl, rfl, trivial⟩)
    refine ref_exit (x_then ?_)
    exact brkB x18 (weak [1] ⟨rfl, trivial⟩ ⟨rfl, trivial⟩)
  refine n_then (ref_seq (ref_region ?_))
  refine mv1 rfl rfl ?_
  refine as1 rfl rfl ?_
  refine l_nil (n_then (ref_ret ?_))
  exact fin1 (.inl rfl) y25 [0] rfl ⟨rfl, trivial⟩ rfl (rv_tmp rfl)

/-! deliberation/deliberationref08.Less -/
noncomputable def ref08_Less_m (b_0 : T_api_Base) (l_1 : (List T_api_Argument)) (i_2 : Int) (k_3 : Int) (o_4 : T_api_Ordering) : Option (Bool) :=
  bif decide (i_2 < 0) then
    some false
  else
    bif decide (i_2 ≥ (l_1.length : Int)) then
      some false
    else
      bif decide (k_3 < 0) then
        some false
      else
        bif decide (k_3 ≥ (l_1.length : Int)) then
          some false
        else
          Option.bind (ref08_Assumes_m b_0 l_1 k_3) fun t3 =>
          bif t3 then
            some false
          else
            Option.bind (ref08_PremiseRanks_m b_0 l_1 i_2) fun t5 =>
            Option.bind (ref08_PremiseRanks_m b_0 l_1 k_3) fun t7 =>
            Option.bind (ref08_SetLess_m t5 t7 o_4.Lift) fun premises9 =>
            bif o_4.Link == 1 then
              Option.bind (ref08_LastRanks_m b_0 l_1 i_2) fun x11 =>
              Option.bind (ref08_LastRanks_m b_0 l_1 k_3) fun y13 =>
              Option.bind (ref08_SetLess_m x11 y13 o_4.Lift) fun t15 =>
              bif t15 then
                some true
              else
                bif (x11.length : Int) == 0 then
                  bif (y13.length : Int) == 0 then
                    some premises9
                  else
                    some false
                else
                  some false
            else
              bif o_4.Link == 2 then
                Option.bind (ref08_RuleRanks_m b_0 l_1 i_2) fun x17 =>
                Option.bind (ref08_RuleRanks_m b_0 l_1 k_3) fun y19 =>
                joinM (fun j22 : Unit =>
                    Option.bind (ref08_SetLess_m x17 y19 o_4.Lift) fun rules25 =>
                    Option.bind (ref08_PremiseRanks_m b_0 l_1 i_2) fun t26 =>
                    bif (t26.length : Int) == 0 then
                      Option.bind (ref08_PremiseRanks_m b_0 l_1 k_3) fun t28 =>
                      bif (t28.length : Int) == 0 then
                        some rules25
                      else
                        bif premises9 then
                          some rules25
                        else
                          some false
                    else
                      bif premises9 then
                        some rules25
                      else
                        some false) fun k24 =>
                bif (x17.length : Int) == 0 then
                  bif (y19.length : Int) == 0 then
                    some premises9
                  else
                    k24 ()
                else
                  k24 ()
              else
                some false

theorem ref08_Less_ok {b_0 : T_api_Base} {l_1 : (List T_api_Argument)} {i_2 : Int} {k_3 : Int} {o_4 : T_api_Ordering} {r : Bool} (hm : ref08_Less_m b_0 l_1 i_2 k_3 o_4 = some r) :
    FnOk prog 25 [ag [slv rT_api_Premise b_0.Premises, slv rT_api_Rule b_0.Rules, slv rT_api_Promotion b_0.Promotions], slv rT_api_Argument l_1, iv .i64 i_2, iv .i64 k_3, ag [iv .i64 o_4.Link, iv .i64 o_4.Lift]] [] (fun (x : Unit) => [bv r]) (fun (x : Unit) => []) := by
  refine fn_ok (fn := Try.f25) (N := 125) (res := fun r x => [bv r]) (Ω1 := fun r x => []) Try.func25 rfl rfl hm rfl (fun E hM => ?_)
  unfold ref08_Less_m
  refine ref_seq (ref_region ?_)
  refine s_st (s_box (part_agO (ψs := [slv rT_api_Premise b_0.Premises, slv rT_api_Rule b_0.Rules, slv rT_api_Promotion b_0.Promotions]) rfl ⟨.inl slv_at, .inl slv_at, .inl slv_at, trivial⟩)) rfl (fun b1 => ?_)
  refine s_st (s_box (part_agO (ψs := [iv .i64 o_4.Link, iv .i64 o_4.Lift]) rfl ⟨.inl iv_at, .inl iv_at, trivial⟩)) rfl (fun b2 => ?_)
  refine as1 rfl rfl ?_
  refine l_nil (n_then (ref_seq (ref_seq (ref_region ?_))))
  refine mv1 rfl rfl ?_
  refine s_rd (r_lss rfl rfl) rfl ?_
  refine mv1 rfl rfl ?_
  refine b_split (t := 19) rfl (fun _ => ?_) (fun _ => ?_)
  · refine s_off rfl rfl rfl rfl rfl ?_
    refine s_off rfl rfl rfl rfl rfl ?_
    refine s_off rfl rfl rfl rfl rfl ?_
    refine s_off rfl rfl rfl rfl rfl ?_
    refine s_rd (r_pickT rfl rfl) rfl ?_
    refine mv1 rfl rfl ?_
    refine s_off rfl rfl rfl rfl rfl ?_
    refine s_off rfl rfl rfl rfl rfl ?_
    refine s_rd (r_pickT rfl rfl) rfl ?_
    refine mv1 rfl rfl ?_
    refine s_off rfl rfl rfl rfl rfl ?_
    refine s_off rfl rfl rfl rfl rfl ?_
    refine s_off rfl rfl rfl rfl rfl ?_
    refine s_off rfl rfl rfl rfl rfl ?_
    refine s_rd (r_pickT rfl rfl) rfl ?_
    refine mv1 rfl rfl ?_
    refine s_off rfl rfl rfl rfl rfl ?_
    refine s_off rfl rfl rfl rfl rfl ?_
    refine s_off rfl rfl rfl rfl rfl ?_
    refine s_off rfl rfl rfl rfl rfl ?_
    refine s_rd (r_pickT rfl rfl) rfl ?_
    refine l_nil (n_then ?_)
    refine ref_condT rfl rfl ?_
    refine ref_seq (ref_region ?_)
    refine as1 rfl rfl ?_
    refine l_nil (n_then (ref_ret (r_then ?_)))
    exact fin1 (.inl rfl) () [] rfl trivial rfl (rv_tmp rfl)
  refine s_on rfl rfl rfl ?_
  refine mv1 rfl rfl ?_
  refine s_on rfl rfl rfl ?_
  refine mv1 rfl rfl ?_
  refine s_on rfl rfl rfl ?_
  refine s_rd (r_len Try.underlying35 rfl) rfl ?_
  refine s_on rfl rfl rfl ?_
  refine s_rd (r_geq rfl rfl) rfl ?_
  refine s_rd (r_pickF rfl rfl) rfl ?_
  refine mv1 rfl rfl ?_
  refine b_split (t := 25) rfl (fun _ => ?_) (fun _ => ?_)
  · refine s_off rfl rfl rfl rfl rfl ?_
    refine s_off rfl rfl rfl rfl rfl ?_
    refine s_rd (r_pickT rfl rfl) rfl ?_
    refine mv1 rfl rfl ?_
    refine s_off rfl rfl rfl rfl rfl ?_
    refine s_off rfl rfl rfl rfl rfl ?_
    refine s_off rfl rfl rfl rfl rfl ?_
    refine s_off rfl rfl rfl rfl rfl ?_
    refine s_rd (r_pickT rfl rfl) rfl ?_
    refine mv1 rfl rfl ?_
    refine s_off rfl rfl rfl rfl rfl ?_
    refine s_off rfl rfl rfl rfl rfl ?_
    refine s_off rfl rfl rfl rfl rfl ?_
    refine s_off rfl rfl rfl rfl rfl ?_
    refine s_rd (r_pickT rfl rfl) rfl ?_
    refine l_nil (n_then ?_)
    refine ref_condT rfl rfl ?_
    refine ref_seq (ref_region ?_)
    refine as1 rfl rfl ?_
    refine l_nil (n_then (ref_ret (r_then ?_)))
    exact fin1 (.inl rfl) () [] rfl trivial rfl (rv_tmp rfl)
  refine s_on rfl rfl rfl ?_
  refine mv1 rfl rfl ?_
  refine s_on rfl rfl rfl ?_
  refine s_rd (r_lss rfl rfl) rfl ?_
  refine s_rd (r_pickF rfl rfl) rfl ?_
  refine mv1 rfl rfl ?_
  refine b_split (t := 29) rfl (fun _ => ?_) (fun _ => ?_)
  · refine s_off rfl rfl rfl rfl rfl ?_
    refine s_off rfl rfl rfl rfl rfl ?_
    refine s_off rfl rfl rfl rfl rfl ?_
    refine s_off rfl rfl rfl rfl rfl ?_
    refine s_rd (r_pickT rfl rfl) rfl ?_
    refine mv1 rfl rfl ?_
    refine s_off rfl rfl rfl rfl rfl ?_
    refine s_off rfl rfl rfl rfl rfl ?_
    refine s_off rfl rfl rfl rfl rfl ?_
    refine s_off rfl rfl rfl rfl rfl ?_
    refine s_rd (r_pickT rfl rfl) rfl ?_
    refine l_nil (n_then ?_)
    refine ref_condT rfl rfl ?_
    refine ref_seq (ref_region ?_)
    refine as1 rfl rfl ?_
    refine l_nil (n_then (ref_ret (r_then ?_)))
    exact fin1 (.inl rfl) () [] rfl trivial rfl (rv_tmp rfl)
  refine s_on rfl rfl rfl ?_
  refine mv1 rfl rfl ?_
  refine s_on rfl rfl rfl ?_
  refine mv1 rfl rfl ?_
  refine s_on rfl rfl rfl ?_
  refine s_rd (r_len Try.underlying35 rfl) rfl ?_
  refine s_on rfl rfl rfl ?_
  refine s_rd (r_geq rfl rfl) rfl ?_
  refine s_rd (r_pickF rfl rfl) rfl ?_
  refine mv1 rfl rfl ?_
  refine b_split (t := 35) rfl (fun _ => ?_) (fun _ => ?_)
  · refine s_off rfl rfl rfl rfl rfl ?_
    refine s_off rfl rfl rfl rfl rfl ?_
    refine s_off rfl rfl rfl rfl rfl ?_
    refine s_off rfl rfl rfl rfl rfl ?_
    refine s_rd (r_pickT rfl rfl) rfl ?_
    refine l_nil (n_then ?_)
    refine ref_condT rfl rfl ?_
    refine ref_seq (ref_region ?_)
    refine as1 rfl rfl ?_
    refine l_nil (n_then (ref_ret (r_then ?_)))
    exact fin1 (.inl rfl) () [] rfl trivial rfl (rv_tmp rfl)
  refine s_on rfl rfl rfl ?_
  refine s_rd (r_cloadS Try.isAgg34 Try.sizeOf34 rfl (j := 0) rfl rfl rfl) rfl ?_
  refine s_on rfl rfl rfl ?_
  refine mv1 rfl rfl ?_
  refine s_on rfl rfl rfl ?_
  refine mv1 rfl rfl ?_
  refine s_on rfl rfl rfl ?_
  refine pull fun t3 h_t3 => ?_
  refine s_st (s_call (ψ := fun (_ : Unit) => bv t3) (args := [.tmp 36, .tmp 37, .tmp 38]) Try.call22 rfl (ref08_Assumes_ok h_t3) ⟨arg rfl, arg rfl, arg rfl, trivial⟩ (fun _ _ _ _ h => h)) rfl (fun _ => ?_)
  refine s_rd (r_pickF rfl rfl) rfl ?_
  refine l_nil (n_then ?_)
  refine ref_cond rfl (fun hb4 => ?_) (fun hb4 => ?_)
  · refine ref_seq (ref_region ?_)
    refine as1 rfl rfl ?_
    refine l_nil (n_then (ref_ret (r_then ?_)))
    exact fin1 (.inl rfl) () [] rfl trivial rfl (rv_tmp rfl)
  refine ref_skip (n_then (ref_seq ?_))
  refine ref_draw [0, 1, 2, 4, 5, 6, 8, 9] rfl (by kernel_rfl) (fun hok => ?_)
  refine a_rd (i := 0) hok rfl (by kernel_rfl) rfl (r_cloadS Try.isAgg34 Try.sizeOf34 rfl (j := 0) rfl rfl rfl) rfl ?_
  refine a_rd (i := 1) hok rfl (by kernel_rfl) rfl (r_move rfl) rfl ?_
  refine a_rd (i := 2) hok rfl (by kernel_rfl) rfl (r_move rfl) rfl ?_
  refine a_rd (i := 4) hok rfl (by kernel_rfl) rfl (r_cloadS Try.isAgg34 Try.sizeOf34 rfl (j := 0) rfl rfl rfl) rfl ?_
  refine a_rd (i := 5) hok rfl (by kernel_rfl) rfl (r_move rfl) rfl ?_
  refine a_rd (i := 6) hok rfl (by kernel_rfl) rfl (r_move rfl) rfl ?_
  refine a_rd (i := 8) hok rfl (by kernel_rfl) rfl (r_faddr (fo := 1) Try.underlying43 rfl rfl Try.sizeOf3 rfl) rfl ?_
  refine a_rd (i := 9) hok rfl (by kernel_rfl) rfl (r_cload Try.isAgg3 rfl (j := 1) rfl rfl) rfl ?_
  refine pull fun t5 h_t5 => ?_
  refine a_next hok 3 [] (by kernel_rfl) ?_ trivial
  refine a_st (i := 3) hok rfl rfl (s_call (ψ := fun (x6 : (Value × List Nat)) => pv x6.1) (args := [.tmp 41, .tmp 42, .tmp 43]) Try.call16 rfl (ref08_PremiseRanks_ok h_t5) ⟨arg rfl, arg rfl, arg rfl, trivial⟩ (fun _ _ _ _ h => h)) (by intro _ h; cases h; rfl) (fun _ => ⟨⟨⟨rfl, rfl⟩, trivial⟩, ⟨trivial, ⟨trivial, ⟨trivial, ⟨⟨⟨rfl, rfl⟩, trivial⟩, ⟨trivial, ⟨trivial, ⟨trivial, trivial⟩⟩⟩⟩⟩⟩⟩⟩) (fun x6 => ?_)
  refine pull fun t7 h_t7 => ?_
  refine a_next hok 7 [] (by kernel_rfl) ?_ trivial
  refine a_st (i := 7) hok rfl rfl (s_call (ψ := fun (x8 : (Value × List Nat)) => pv x8.1) (args := [.tmp 45, .tmp 46, .tmp 47]) Try.call16 rfl (ref08_PremiseRanks_ok h_t7) ⟨arg rfl, arg rfl, arg rfl, trivial⟩ (fun _ _ _ _ h => h)) (by intro _ h; cases h; rfl) (fun _ => ⟨⟨⟨rfl, rfl⟩, trivial⟩, ⟨trivial, ⟨trivial, ⟨trivial, ⟨trivial, ⟨trivial, ⟨trivial, ⟨⟨⟨rfl, rfl⟩, trivial⟩, trivial⟩⟩⟩⟩⟩⟩⟩⟩) (fun x8 => ?_)
  refine pull fun premises9 h_premises9 => ?_
  refine a_next hok 10 [] (by kernel_rfl) ?_ trivial
  refine a_st (i := 10) hok rfl rfl (s_callB (ψ := fun (_ : Unit) => bv premises9) (args := [.tmp 44, .tmp 48, .tmp 50]) Try.call11 rfl (ref08_SetLess_ok h_premises9) ⟨argO rfl (j := 2) rfl, argO rfl (j := 3) rfl, argB rfl, trivial⟩ (fun _ _ _ _ _ h => h)) (by intro _ h; cases h; rfl) (fun _ => ⟨trivial, ⟨trivial, ⟨trivial, ⟨trivial, ⟨⟨⟨rfl, rfl⟩, trivial⟩, ⟨trivial, ⟨trivial, ⟨⟨⟨rfl, rfl⟩, trivial⟩, trivial⟩⟩⟩⟩⟩⟩⟩⟩) (fun _ => ?_)
  refine a_next hok 11 [] (by kernel_rfl) ?_ trivial
  refine a_st (i := 11) hok rfl rfl (St.ofRd (r_assign rfl)) (by intro _ h; cases h; rfl) (fun _ => ⟨trivial, ⟨trivial, ⟨trivial, ⟨trivial, ⟨trivial, ⟨trivial, ⟨trivial, ⟨trivial, trivial⟩⟩⟩⟩⟩⟩⟩⟩) (fun _ => ?_)
  refine a_fin hok (by kernel_rfl) ?_
  refine b_of (nrm [oc b1 [slv rT_api_Premise b_0.Premises, slv rT_api_Rule b_0.Rules, slv rT_api_Promotion b_0.Promotions], oc b2 [iv .i64 o_4.Link, iv .i64 o_4.Lift], oa (rI .i64) x6.1 x6.2 t5, oa (rI .i64) x8.1 x8.2 t7] rfl) ?_
  refine n_then (ref_seq (ref_seq (ref_region ?_)))
  refine s_rd (r_faddr (fo := 0) Try.underlying43 rfl rfl Try.sizeOf3 rfl) rfl ?_
  refine s_rd (r_cload Try.isAgg3 rfl (j := 1) rfl rfl) rfl ?_
  refine l_nil (n_then (ref_block (ref_seq (ref_region ?_))))
  refine s_rd (r_eql rfl rfl) rfl ?_
  refine as1 rfl rfl ?_
  refine l_nil (n_then ?_)
  refine ref_cond rfl (fun hb10 => ?_) (fun hb10 => ?_)
  · refine ref_seq ?_
    refine ref_draw [0, 1, 2, 4, 5, 6] rfl (by kernel_rfl) (fun hok => ?_)
    refine a_rd (i := 0) hok rfl (by kernel_rfl) rfl (r_cloadS Try.isAgg34 Try.sizeOf34 rfl (j := 0) rfl rfl rfl) rfl ?_
    refine a_rd (i := 1) hok rfl (by kernel_rfl) rfl (r_move rfl) rfl ?_
    refine a_rd (i := 2) hok rfl (by kernel_rfl) rfl (r_move rfl) rfl ?_
    refine a_rd (i := 4) hok rfl (by kernel_rfl) rfl (r_cloadS Try.isAgg34 Try.sizeOf34 rfl (j := 0) rfl rfl rfl) rfl ?_
    refine a_rd (i := 5) hok rfl (by kernel_rfl) rfl (r_move rfl) rfl ?_
    refine a_rd (i := 6) hok rfl (by kernel_rfl) rfl (r_move rfl) rfl ?_
    refine pull fun x11 h_x11 => ?_
    refine a_next hok 3 [] (by kernel_rfl) ?_ trivial
    refine a_st (i := 3) hok rfl rfl (s_call (ψ := fun (x12 : (Value × List Nat)) => pv x12.1) (args := [.tmp 56, .tmp 57, .tmp 58]) Try.call20 rfl (ref08_LastRanks_ok h_x11) ⟨arg rfl, arg rfl, arg rfl, trivial⟩ (fun _ _ _ _ h => h)) (by intro _ h; cases h; rfl) (fun _ => ⟨trivial, ⟨trivial, ⟨⟨⟨rfl, rfl⟩, trivial⟩, ⟨trivial, ⟨trivial, ⟨trivial, trivial⟩⟩⟩⟩⟩⟩) (fun x12 => ?_)
    refine pull fun y13 h_y13 => ?_
    refine a_next hok 7 [] (by kernel_rfl) ?_ trivial
    refine a_st (i := 7) hok rfl rfl (s_call (ψ := fun (x14 : (Value × List Nat)) => pv x14.1) (args := [.tmp 60, .tmp 61, .tmp 62]) Try.call20 rfl (ref08_LastRanks_ok h_y13) ⟨arg rfl, arg rfl, arg rfl, trivial⟩ (fun _ _ _ _ h => h)) (by intro _ h; cases h; rfl) (fun _ => ⟨trivial, ⟨trivial, ⟨trivial, ⟨trivial, ⟨trivial, ⟨⟨⟨rfl, rfl⟩, trivial⟩, trivial⟩⟩⟩⟩⟩⟩) (fun x14 => ?_)
    refine a_next hok 8 [] (by kernel_rfl) ?_ trivial
    refine a_st (i := 8) hok rfl rfl (St.ofRd (r_assign rfl)) (by intro _ h; cases h; rfl) (fun _ => ⟨trivial, ⟨trivial, ⟨⟨⟨rfl, rfl⟩, trivial⟩, ⟨trivial, ⟨trivial, ⟨trivial, trivial⟩⟩⟩⟩⟩⟩) (fun _ => ?_)
    refine a_next hok 9 [] (by kernel_rfl) ?_ trivial
    refine a_st (i := 9) hok rfl rfl (St.ofRd (r_assign rfl)) (by intro _ h; cases h; rfl) (fun _ => ⟨trivial, ⟨trivial, ⟨trivial, ⟨trivial, ⟨trivial, ⟨trivial, trivial⟩⟩⟩⟩⟩⟩) (fun _ => ?_)
    refine a_fin hok (by kernel_rfl) ?_
    refine b_of (nrm [oc b1 [slv rT_api_Premise b_0.Premises, slv rT_api_Rule b_0.Rules, slv rT_api_Promotion b_0.Promotions], oc b2 [iv .i64 o_4.Link, iv .i64 o_4.Lift], oa (rI .i64) x6.1 x6.2 t5, oa (rI .i64) x8.1 x8.2 t7, oa (rI .i64) x12.1 x12.2 x11, oa (rI .i64) x14.1 x14.2 y13] rfl) ?_
    refine n_then (ref_seq (ref_region ?_))
    refine mv1 rfl rfl ?_
    refine mv1 rfl rfl ?_
    refine s_rd (r_faddr (fo := 1) Try.underlying43 rfl rfl Try.sizeOf3 rfl) rfl ?_
    refine s_rd (r_cload Try.isAgg3 rfl (j := 1) rfl rfl) rfl ?_
    refine pull fun t15 h_t15 => ?_
    refine s_st (s_callB (ψ := fun (_ : Unit) => bv t15) (args := [.tmp 64, .tmp 65, .tmp 67]) Try.call11 rfl (ref08_SetLess_ok h_t15) ⟨argO rfl (j := 4) rfl, argO rfl (j := 5) rfl, argB rfl, trivial⟩ (fun _ _ _ _ _ h => h)) rfl (fun _ => ?_)
    refine mv1 rfl rfl ?_
    refine b_split (t := 69) rfl (fun _ => ?_) (fun _ => ?_)
    · refine s_off rfl rfl rfl rfl rfl ?_
      refine s_off rfl rfl rfl rfl rfl ?_
      refine s_off rfl rfl rfl rfl rfl ?_
      refine s_off rfl rfl rfl rfl rfl ?_
      refine s_offU rfl rfl rfl ?_
      refine s_offU rfl rfl rfl ?_
      refine s_offU rfl rfl rfl ?_
      refine s_off rfl rfl rfl rfl rfl ?_
      refine s_off rfl rfl rfl rfl rfl ?_
      refine s_offU rfl rfl rfl ?_
      refine s_off rfl rfl rfl rfl rfl ?_
      refine s_rd (r_pickT rfl rfl) rfl ?_
      refine as1 rfl rfl ?_
      refine l_nil (n_then (ref_ret (r_block (r_then ?_))))
      exact fin1 (.inl rfl) () [] rfl trivial rfl (rv_tmp rfl)
    refine s_on rfl rfl rfl ?_
    refine mv1 rfl rfl ?_
    refine s_on rfl rfl rfl ?_
    refine s_rd (r_olen Try.underlying22 rfl (j := 4) rfl) rfl ?_
    refine s_on rfl rfl rfl ?_
    refine s_rd (r_eql rfl rfl) rfl ?_
    refine s_on rfl rfl rfl ?_
    refine mv1 rfl rfl ?_
    refine b_split (t := 73) rfl (fun _ => ?_) (fun _ => ?_)
    · refine s_on rfl rfl rfl ?_
      refine mv1 rfl rfl ?_
      refine s_on rfl rfl rfl ?_
      refine s_rd (r_olen Try.underlying22 rfl (j := 5) rfl) rfl ?_
      refine s_on rfl rfl rfl ?_
      refine s_rd (r_eql rfl rfl) rfl ?_
      refine s_on rfl rfl rfl ?_
      refine s_rd (r_pickT rfl rfl) rfl ?_
      refine s_on rfl rfl rfl ?_
      refine mv1 rfl rfl ?_
      refine b_split (t := 78) rfl (fun _ => ?_) (fun _ => ?_)
      · refine s_on rfl rfl rfl ?_
        refine mv1 rfl rfl ?_
        refine s_on rfl rfl rfl ?_
        refine s_rd (r_pickT rfl rfl) rfl ?_
        refine s_rd (r_pickF rfl rfl) rfl ?_
        refine as1 rfl rfl ?_
        refine l_nil (n_then (ref_ret (r_block (r_then ?_))))
        exact fin1 (.inl rfl) () [] rfl trivial rfl (rv_tmp rfl)
      refine s_off rfl rfl rfl rfl rfl ?_
      refine s_on rfl rfl rfl ?_
      refine s_rd (r_pickF rfl rfl) rfl ?_
      refine s_rd (r_pickF rfl rfl) rfl ?_
      refine as1 rfl rfl ?_
      refine l_nil (n_then (ref_ret (r_block (r_then ?_))))
      exact fin1 (.inl rfl) () [] rfl trivial rfl (rv_tmp rfl)
    refine s_off rfl rfl rfl rfl rfl ?_
    refine s_off rfl rfl rfl rfl rfl ?_
    refine s_off rfl rfl rfl rfl rfl ?_
    refine s_on rfl rfl rfl ?_
    refine s_rd (r_pickF rfl rfl) rfl ?_
    refine s_on rfl rfl rfl ?_
    refine mv1 rfl rfl ?_
    refine s_off rfl rfl rfl rfl rfl ?_
    refine s_on rfl rfl rfl ?_
    refine s_rd (r_pickF rfl rfl) rfl ?_
    refine s_rd (r_pickF rfl rfl) rfl ?_
    refine as1 rfl rfl ?_
    refine l_nil (n_then (ref_ret (r_block (r_then ?_))))
    exact fin1 (.inl rfl) () [] rfl trivial rfl (rv_tmp rfl)
  refine ref_seq (ref_region ?_)
  refine s_rd (r_eql rfl rfl) rfl ?_
  refine as1 rfl rfl ?_
  refine l_nil (n_then ?_)
  refine ref_cond rfl (fun hb16 => ?_) (fun hb16 => ?_)
  · refine ref_seq ?_
    refine ref_draw [0, 1, 2, 4, 5, 6] rfl (by kernel_rfl) (fun hok => ?_)
    refine a_rd (i := 0) hok rfl (by kernel_rfl) rfl (r_cloadS Try.isAgg34 Try.sizeOf34 rfl (j := 0) rfl rfl rfl) rfl ?_
    refine a_rd (i := 1) hok rfl (by kernel_rfl) rfl (r_move rfl) rfl ?_
    refine a_rd (i := 2) hok rfl (by kernel_rfl) rfl (r_move rfl) rfl ?_
    refine a_rd (i := 4) hok rfl (by kernel_rfl) rfl (r_cloadS Try.isAgg34 Try.sizeOf34 rfl (j := 0) rfl rfl rfl) rfl ?_
    refine a_rd (i := 5) hok rfl (by kernel_rfl) rfl (r_move rfl) rfl ?_
    refine a_rd (i := 6) hok rfl (by kernel_rfl) rfl (r_move rfl) rfl ?_
    refine pull fun x17 h_x17 => ?_
    refine a_next hok 3 [] (by kernel_rfl) ?_ trivial
    refine a_st (i := 3) hok rfl rfl (s_call (ψ := fun (x18 : (Value × List Nat)) => pv x18.1) (args := [.tmp 84, .tmp 85, .tmp 86]) Try.call18 rfl (ref08_RuleRanks_ok h_x17) ⟨arg rfl, arg rfl, arg rfl, trivial⟩ (fun _ _ _ _ h => h)) (by intro _ h; cases h; rfl) (fun _ => ⟨trivial, ⟨trivial, ⟨⟨⟨rfl, rfl⟩, trivial⟩, ⟨trivial, ⟨trivial, ⟨trivial, trivial⟩⟩⟩⟩⟩⟩) (fun x18 => ?_)
    refine pull fun y19 h_y19 => ?_
    refine a_next hok 7 [] (by kernel_rfl) ?_ trivial
    refine a_st (i := 7) hok rfl rfl (s_call (ψ := fun (x20 : (Value × List Nat)) => pv x20.1) (args := [.tmp 88, .tmp 89, .tmp 90]) Try.call18 rfl (ref08_RuleRanks_ok h_y19) ⟨arg rfl, arg rfl, arg rfl, trivial⟩ (fun _ _ _ _ h => h)) (by intro _ h; cases h; rfl) (fun _ => ⟨trivial, ⟨trivial, ⟨trivial, ⟨trivial, ⟨trivial, ⟨⟨⟨rfl, rfl⟩, trivial⟩, trivial⟩⟩⟩⟩⟩⟩) (fun x20 => ?_)
    refine a_next hok 8 [] (by kernel_rfl) ?_ trivial
    refine a_st (i := 8) hok rfl rfl (St.ofRd (r_assign rfl)) (by intro _ h; cases h; rfl) (fun _ => ⟨trivial, ⟨trivial, ⟨⟨⟨rfl, rfl⟩, trivial⟩, ⟨trivial, ⟨trivial, ⟨trivial, trivial⟩⟩⟩⟩⟩⟩) (fun _ => ?_)
    refine a_next hok 9 [] (by kernel_rfl) ?_ trivial
    refine a_st (i := 9) hok rfl rfl (St.ofRd (r_assign rfl)) (by intro _ h; cases h; rfl) (fun _ => ⟨trivial, ⟨trivial, ⟨trivial, ⟨trivial, ⟨trivial, ⟨trivial, trivial⟩⟩⟩⟩⟩⟩) (fun _ => ?_)
    refine a_fin hok (by kernel_rfl) ?_
    refine b_of (nrm [oc b1 [slv rT_api_Premise b_0.Premises, slv rT_api_Rule b_0.Rules, slv rT_api_Promotion b_0.Promotions], oc b2 [iv .i64 o_4.Link, iv .i64 o_4.Lift], oa (rI .i64) x6.1 x6.2 t5, oa (rI .i64) x8.1 x8.2 t7, oa (rI .i64) x18.1 x18.2 x17, oa (rI .i64) x20.1 x20.2 y19] rfl) ?_
    refine n_then (ref_seq ?_)
    refine ref_join (fun (j22 : Unit) (x23 : Unit) => [(1, slv rT_api_Argument l_1), (2, iv .i64 i_2), (3, iv .i64 k_3), (5, pv (ptr b1 0)), (9, pv (ptr b2 0)), (11, bv premises9), (14, pv x18.1), (15, pv x20.1)]) (fun (j22 : Unit) (x23 : Unit) => [oc b1 [slv rT_api_Premise b_0.Premises, slv rT_api_Rule b_0.Rules, slv rT_api_Promotion b_0.Promotions], oc b2 [iv .i64 o_4.Link, iv .i64 o_4.Lift], oa (rI .i64) x18.1 x18.2 x17, oa (rI .i64) x20.1 x20.2 y19]) (fun k24 hk24 => ?_) (fun j22 x23 => ?_)
    · refine ref_seq (ref_region ?_)
      refine mv1 rfl rfl ?_
      refine s_rd (r_olen Try.underlying22 rfl (j := 4) rfl) rfl ?_
      refine s_rd (r_eql rfl rfl) rfl ?_
      refine mv1 rfl rfl ?_
      refine b_split (t := 95) rfl (fun _ => ?_) (fun _ => ?_)
      · refine s_on rfl rfl rfl ?_
        refine mv1 rfl rfl ?_
        refine s_on rfl rfl rfl ?_
        refine s_rd (r_olen Try.underlying22 rfl (j := 5) rfl) rfl ?_
        refine s_on rfl rfl rfl ?_
        refine s_rd (r_eql rfl rfl) rfl ?_
        refine s_rd (r_pickT rfl rfl) rfl ?_
        refine l_nil (n_then ?_)
        refine ref_cond rfl (fun hb21 => ?_) (fun hb21 => ?_)
        · refine ref_seq (ref_region ?_)
          refine mv1 rfl rfl ?_
          refine as1 rfl rfl ?_
          refine l_nil (n_then (ref_ret (r_then (r_block (r_then ?_)))))
          exact fin1 (.inl rfl) () [] rfl trivial rfl (rv_tmp rfl)
        refine ref_skip ?_
        exact b_to (hk24 () ()) (weak [0, 1, 4, 5] ⟨rfl, rfl, rfl, rfl, rfl, rfl, rfl, rfl, trivial⟩ ⟨rfl, rfl, rfl, rfl, trivial⟩)
      refine s_off rfl rfl rfl rfl rfl ?_
      refine s_off rfl rfl rfl rfl rfl ?_
      refine s_off rfl rfl rfl rfl rfl ?_
      refine s_rd (r_pickF rfl rfl) rfl ?_
      refine l_nil (n_then ?_)
      refine ref_condF rfl rfl ?_
      refine ref_skip ?_
      exact b_to (hk24 () ()) (weak [0, 1, 4, 5] ⟨rfl, rfl, rfl, rfl, rfl, rfl, rfl, rfl, trivial⟩ ⟨rfl, rfl, rfl, rfl, trivial⟩)
    refine n_then (ref_seq (ref_region ?_))
    refine mv1 rfl rfl ?_
    refine mv1 rfl rfl ?_
    refine s_rd (r_faddr (fo := 1) Try.underlying43 rfl rfl Try.sizeOf3 rfl) rfl ?_
    refine s_rd (r_cload Try.isAgg3 rfl (j := 1) rfl rfl) rfl ?_
    refine pull fun rules25 h_rules25 => ?_
    refine s_st (s_callB (ψ := fun (_ : Unit) => bv rules25) (args := [.tmp 101, .tmp 102, .tmp 104]) Try.call11 rfl (ref08_SetLess_ok h_rules25) ⟨argO rfl (j := 2) rfl, argO rfl (j := 3) rfl, argB rfl, trivial⟩ (fun _ _ _ _ _ h => h)) rfl (fun _ => ?_)
    refine as1 rfl rfl ?_
    refine l_nil (n_then (ref_seq (ref_seq (ref_region ?_))))
    refine s_rd (r_cloadS Try.isAgg34 Try.sizeOf34 rfl (j := 0) rfl rfl rfl) rfl ?_
    refine mv1 rfl rfl ?_
    refine mv1 rfl rfl ?_
    refine pull fun t26 h_t26 => ?_
    refine s_st (s_call (ψ := fun (x27 : (Value × List Nat)) => pv x27.1) (args := [.tmp 106, .tmp 107, .tmp 108]) Try.call16 rfl (ref08_PremiseRanks_ok h_t26) ⟨arg rfl, arg rfl, arg rfl, trivial⟩ (fun _ _ _ _ h => h)) rfl (fun x27 => ?_)
    refine s_rd (r_olen Try.underlying22 rfl (j := 4) rfl) rfl ?_
    refine s_rd (r_eql rfl rfl) rfl ?_
    refine mv1 rfl rfl ?_
    refine b_split (t := 112) rfl (fun _ => ?_) (fun _ => ?_)
    · refine s_on rfl rfl rfl ?_
      refine s_rd (r_cloadS Try.isAgg34 Try.sizeOf34 rfl (j := 0) rfl rfl rfl) rfl ?_
      refine s_on rfl rfl rfl ?_
      refine mv1 rfl rfl ?_
      refine s_on rfl rfl rfl ?_
      refine mv1 rfl rfl ?_
      refine s_on rfl rfl rfl ?_
      refine pull fun t28 h_t28 => ?_
      refine s_st (s_call (ψ := fun (x29 : (Value × List Nat)) => pv x29.1) (args := [.tmp 113, .tmp 114, .tmp 115]) Try.call16 rfl (ref08_PremiseRanks_ok h_t28) ⟨arg rfl, arg rfl, arg rfl, trivial⟩ (fun _ _ _ _ h => h)) rfl (fun x29 => ?_)
      refine s_on rfl rfl rfl ?_
      refine s_rd (r_olen Try.underlying22 rfl (j := 5) rfl) rfl ?_
      refine s_on rfl rfl rfl ?_
      refine s_rd (r_eql rfl rfl) rfl ?_
      refine s_rd (r_pickT rfl rfl) rfl ?_
      refine l_nil (n_then ?_)
      refine ref_cond rfl (fun hb30 => ?_) (fun hb30 => ?_)
      · refine ref_seq (ref_region ?_)
        refine mv1 rfl rfl ?_
        refine as1 rfl rfl ?_
        refine l_nil (n_then (ref_ret (r_then (r_block (r_then ?_)))))
        exact fin1 (.inl rfl) () [] rfl trivial rfl (rv_tmp rfl)
      refine ref_skip (n_then (ref_seq (ref_region ?_)))
      refine mv1 rfl rfl ?_
      refine mv1 rfl rfl ?_
      refine b_split (t := 122) rfl (fun _ => ?_) (fun _ => ?_)
      · refine s_on rfl rfl rfl ?_
        refine mv1 rfl rfl ?_
        refine s_rd (r_pickT rfl rfl) rfl ?_
        refine as1 rfl rfl ?_
        refine l_nil (n_then (ref_ret (r_block (r_then ?_))))
        exact fin1 (.inl rfl) () [] rfl trivial rfl (rv_tmp rfl)
      refine s_off rfl rfl rfl rfl rfl ?_
      refine s_rd (r_pickF rfl rfl) rfl ?_
      refine as1 rfl rfl ?_
      refine l_nil (n_then (ref_ret (r_block (r_then ?_))))
      exact fin1 (.inl rfl) () [] rfl trivial rfl (rv_tmp rfl)
    refine s_off rfl rfl rfl rfl rfl ?_
    refine s_off rfl rfl rfl rfl rfl ?_
    refine s_off rfl rfl rfl rfl rfl ?_
    refine s_off rfl rfl rfl rfl rfl ?_
    refine s_off rfl rfl rfl rfl rfl ?_
    refine s_off rfl rfl rfl rfl rfl ?_
    refine s_rd (r_pickF rfl rfl) rfl ?_
    refine l_nil (n_then ?_)
    refine ref_condF rfl rfl ?_
    refine ref_skip (n_then (ref_seq (ref_region ?_)))
    refine mv1 rfl rfl ?_
    refine mv1 rfl rfl ?_
    refine b_split (t := 122) rfl (fun _ => ?_) (fun _ => ?_)
    · refine s_on rfl rfl rfl ?_
      refine mv1 rfl rfl ?_
      refine s_rd (r_pickT rfl rfl) rfl ?_
      refine as1 rfl rfl ?_
      refine l_nil (n_then (ref_ret (r_block (r_then ?_))))
      exact fin1 (.inl rfl) () [] rfl trivial rfl (rv_tmp rfl)
    refine s_off rfl rfl rfl rfl rfl ?_
    refine s_rd (r_pickF rfl rfl) rfl ?_
    refine as1 rfl rfl ?_
    refine l_nil (n_then (ref_ret (r_block (r_then ?_))))
    exact fin1 (.inl rfl) () [] rfl trivial rfl (rv_tmp rfl)
  refine ref_skip (n_block (n_then (ref_seq (ref_region ?_))))
  refine as1 rfl rfl ?_
  refine l_nil (n_then (ref_ret ?_))
  exact fin1 (.inl rfl) () [] rfl trivial rfl (rv_tmp rfl)

/-! slices.Min[[]int,int] -/
noncomputable def slices_Min_int_int_d_l1 (x_0 : (List Int)) (s7 : Int × Int) : Option (Sum (Int) (Int × Int)) :=
  bif decide (s7.2 < (x_0.length : Int)) then
    Option.bind (idxM x_0 s7.2) fun t10 =>
    letM (iadd .i64 s7.2 1) fun i11 =>
    some (Sum.inr (imin s7.1 t10, i11))
  else
    some (Sum.inl s7.1)

noncomputable def slices_Min_int_int_d_m (x_0 : (List Int)) : Option (Int) :=
  bif decide ((x_0.length : Int) < 1) then
    none
  else
    Option.bind (idxM x_0 0) fun m2 =>
    Option.bind (loopC (slices_Min_int_int_d_l1 x_0) (m2, 1)) fun q12 : Int =>
    some q12

theorem slices_Min_int_int_d_ok {x_0 : (List Int)} {r : Int} (hm : slices_Min_int_int_d_m x_0 = some r) :
    FnOk prog 28 [slv (rI .i64) x_0] [] (fun (x : Unit) => [iv .i64 r]) (fun (x : Unit) => []) := by
  refine fn_ok (fn := Try.f28) (N := 25) (res := fun r x => [iv .i64 r]) (Ω1 := fun r x => []) Try.func28 rfl rfl hm rfl (fun E hM => ?_)
  unfold slices_Min_int_int_d_m
  refine ref_seq (ref_region ?_)
  refine as1 rfl rfl ?_
  refine l_nil (n_then (ref_seq (ref_seq (ref_region ?_))))
  refine mv1 rfl rfl ?_
  refine s_rd (r_len Try.underlying22 rfl) rfl ?_
  refine s_rd (r_lss rfl rfl) rfl ?_
  refine l_nil (n_then ?_)
  refine ref_cond rfl (fun hb1 => ?_) (fun hb1 => ?_)
  · refine ref_region ?_
    exact pnone
  refine ref_skip (n_then (ref_seq (ref_region ?_)))
  refine mv1 rfl rfl ?_
  refine pull fun m2 h_m2 => ?_
  refine s_rd (r_index h_m2 Try.underlying22 el_3 rfl rfl) rfl ?_
  refine s_rd (r_load el_3 rfl) rfl ?_
  refine as1 rfl rfl ?_
  refine l_nil (n_then (ref_seq (ref_seq (ref_region ?_))))
  refine as1 rfl rfl ?_
  refine l_nil (n_then ?_)
  refine ref_loopB (f := (slices_Min_int_int_d_l1 x_0)) (Γl := (fun (s7 : Int × Int) (x8 : Unit) => [(0, slv (rI .i64) x_0), (3, iv .i64 s7.1), (4, iv .i64 s7.2)])) (Ωl := (fun (s7 : Int × Int) (x8 : Unit) => [])) (Γb := (fun (q12 : Int) (y13 : Unit) => [(3, iv .i64 q12)])) (Ωb := (fun (q12 : Int) (y13 : Unit) => [])) (m2, 1) () (weak [] ⟨rfl, rfl, rfl, trivial⟩ trivial) (fun s7 x8 => ?_) (fun q12 y13 => ?_)
  · unfold slices_Min_int_int_d_l1
    refine ref_seq (ref_seq (ref_region ?_))
    refine mv1 rfl rfl ?_
    refine mv1 rfl rfl ?_
    refine s_rd (r_len Try.underlying22 rfl) rfl ?_
    refine s_rd (r_lss rfl rfl) rfl ?_
    refine l_nil (n_then ?_)
    refine ref_cond rfl (fun hb9 => ?_) (fun hb9 => ?_)
    · refine ref_skip (n_then (ref_seq (ref_block (ref_region ?_))))
      refine mv1 rfl rfl ?_
      refine mv1 rfl rfl ?_
      refine mv1 rfl rfl ?_
      refine pull fun t10 h_t10 => ?_
      refine s_rd (r_index h_t10 Try.underlying22 el_3 rfl rfl) rfl ?_
      refine s_rd (r_load el_3 rfl) rfl ?_
      refine s_rd (r_min rfl rfl) rfl ?_
      refine as1 rfl rfl ?_
      refine l_nil (n_block (n_then (ref_region ?_)))
      refine mv1 rfl rfl ?_
      refine s_rd (r_add rfl rfl) rfl ?_
      refine as1 rfl rfl ?_
      refine b_let (f := iv .i64) (t := 4) rfl fun i11 => ?_
      refine l_nil ?_
      exact goB () (weak [] ⟨rfl, rfl, rfl, trivial⟩ trivial)
    refine ref_exit (x_then ?_)
    exact brkB () (weak [] ⟨rfl, trivial⟩ trivial)
  refine n_then (ref_seq (ref_region ?_))
  refine mv1 rfl rfl ?_
  refine as1 rfl rfl ?_
  refine l_nil (n_then (ref_ret ?_))
  exact fin1 (.inl rfl) () [] rfl trivial rfl (rv_tmp rfl)

/-! slices.Max[[]int,int] -/
noncomputable def slices_Max_int_int_d_l1 (x_0 : (List Int)) (s7 : Int × Int) : Option (Sum (Int) (Int × Int)) :=
  bif decide (s7.2 < (x_0.length : Int)) then
    Option.bind (idxM x_0 s7.2) fun t10 =>
    letM (iadd .i64 s7.2 1) fun i11 =>
    some (Sum.inr (imax s7.1 t10, i11))
  else
    some (Sum.inl s7.1)

noncomputable def slices_Max_int_int_d_m (x_0 : (List Int)) : Option (Int) :=
  bif decide ((x_0.length : Int) < 1) then
    none
  else
    Option.bind (idxM x_0 0) fun m2 =>
    Option.bind (loopC (slices_Max_int_int_d_l1 x_0) (m2, 1)) fun q12 : Int =>
    some q12

theorem slices_Max_int_int_d_ok {x_0 : (List Int)} {r : Int} (hm : slices_Max_int_int_d_m x_0 = some r) :
    FnOk prog 29 [slv (rI .i64) x_0] [] (fun (x : Unit) => [iv .i64 r]) (fun (x : Unit) => []) := by
  refine fn_ok (fn := Try.f29) (N := 25) (res := fun r x => [iv .i64 r]) (Ω1 := fun r x => []) Try.func29 rfl rfl hm rfl (fun E hM => ?_)
  unfold slices_Max_int_int_d_m
  refine ref_seq (ref_region ?_)
  refine as1 rfl rfl ?_
  refine l_nil (n_then (ref_seq (ref_seq (ref_region ?_))))
  refine mv1 rfl rfl ?_
  refine s_rd (r_len Try.underlying22 rfl) rfl ?_
  refine s_rd (r_lss rfl rfl) rfl ?_
  refine l_nil (n_then ?_)
  refine ref_cond rfl (fun hb1 => ?_) (fun hb1 => ?_)
  · refine ref_region ?_
    exact pnone
  refine ref_skip (n_then (ref_seq (ref_region ?_)))
  refine mv1 rfl rfl ?_
  refine pull fun m2 h_m2 => ?_
  refine s_rd (r_index h_m2 Try.underlying22 el_3 rfl rfl) rfl ?_
  refine s_rd (r_load el_3 rfl) rfl ?_
  refine as1 rfl rfl ?_
  refine l_nil (n_then (ref_seq (ref_seq (ref_region ?_))))
  refine as1 rfl rfl ?_
  refine l_nil (n_then ?_)
  refine ref_loopB (f := (slices_Max_int_int_d_l1 x_0)) (Γl := (fun (s7 : Int × Int) (x8 : Unit) => [(0, slv (rI .i64) x_0), (3, iv .i64 s7.1), (4, iv .i64 s7.2)])) (Ωl := (fun (s7 : Int × Int) (x8 : Unit) => [])) (Γb := (fun (q12 : Int) (y13 : Unit) => [(3, iv .i64 q12)])) (Ωb := (fun (q12 : Int) (y13 : Unit) => [])) (m2, 1) () (weak [] ⟨rfl, rfl, rfl, trivial⟩ trivial) (fun s7 x8 => ?_) (fun q12 y13 => ?_)
  · unfold slices_Max_int_int_d_l1
    refine ref_seq (ref_seq (ref_region ?_))
    refine mv1 rfl rfl ?_
    refine mv1 rfl rfl ?_
    refine s_rd (r_len Try.underlying22 rfl) rfl ?_
    refine s_rd (r_lss rfl rfl) rfl ?_
    refine l_nil (n_then ?_)
    refine ref_cond rfl (fun hb9 => ?_) (fun hb9 => ?_)
    · refine ref_skip (n_then (ref_seq (ref_block (ref_region ?_))))
      refine mv1 rfl rfl ?_
      refine mv1 rfl rfl ?_
      refine mv1 rfl rfl ?_
      refine pull fun t10 h_t10 => ?_
      refine s_rd (r_index h_t10 Try.underlying22 el_3 rfl rfl) rfl ?_
      refine s_rd (r_load el_3 rfl) rfl ?_
      refine s_rd (r_max rfl rfl) rfl ?_
      refine as1 rfl rfl ?_
      refine l_nil (n_block (n_then (ref_region ?_)))
      refine mv1 rfl rfl ?_
      refine s_rd (r_add rfl rfl) rfl ?_
      refine as1 rfl rfl ?_
      refine b_let (f := iv .i64) (t := 4) rfl fun i11 => ?_
      refine l_nil ?_
      exact goB () (weak [] ⟨rfl, rfl, rfl, trivial⟩ trivial)
    refine ref_exit (x_then ?_)
    exact brkB () (weak [] ⟨rfl, trivial⟩ trivial)
  refine n_then (ref_seq (ref_region ?_))
  refine mv1 rfl rfl ?_
  refine as1 rfl rfl ?_
  refine l_nil (n_then (ref_ret ?_))
  exact fin1 (.inl rfl) () [] rfl trivial rfl (rv_tmp rfl)

/-! deliberation/lift.SetLess -/
noncomputable def lift_SetLess_d_m (a__0 : (List Int)) (b_1 : (List Int)) (lift_2 : Int) : Option (Bool) :=
  joinM (fun j3 : Unit =>
      letM ((b_1.length : Int) == 0) fun t6 =>
      bif t6 then
        some true
      else
        bif lift_2 == 1 then
          Option.bind (slices_Min_int_int_d_m a__0) fun t9 =>
          Option.bind (slices_Min_int_int_d_m b_1) fun t10 =>
          letM (decide (t9 < t10)) fun t11 =>
          some t11
        else
          Option.bind (slices_Max_int_int_d_m a__0) fun t12 =>
          Option.bind (slices_Max_int_int_d_m b_1) fun t13 =>
          letM (decide (t12 < t13)) fun t14 =>
          some t14) fun k5 =>
  bif lift_2 != 1 then
    bif lift_2 != 2 then
      some false
    else
      bif (a__0.length : Int) == 0 then
        some false
      else
        k5 ()
  else
    bif (a__0.length : Int) == 0 then
      some false
    else
      k5 ()

theorem lift_SetLess_d_ok {a__0 : (List Int)} {b_1 : (List Int)} {lift_2 : Int} {r : Bool} (hm : lift_SetLess_d_m a__0 b_1 lift_2 = some r) :
    FnOk prog 10 [slv (rI .i64) a__0, slv (rI .i64) b_1, iv .i64 lift_2] [] (fun (x : Unit) => [bv r]) (fun (x : Unit) => []) := by
  refine fn_ok (fn := Try.f10) (N := 35) (res := fun r x => [bv r]) (Ω1 := fun r x => []) Try.func10 rfl rfl hm rfl (fun E hM => ?_)
  unfold lift_SetLess_d_m
  refine ref_seq (ref_region ?_)
  refine as1 rfl rfl ?_
  refine l_nil (n_then (ref_seq ?_))
  refine ref_join (fun (j3 : Unit) (x4 : Unit) => [(0, slv (rI .i64) a__0), (1, slv (rI .i64) b_1), (2, iv .i64 lift_2)]) (fun (j3 : Unit) (x4 : Unit) => []) (fun k5 hk5 => ?_) (fun j3 x4 => ?_)
  · refine ref_seq (ref_region ?_)
    refine mv1 rfl rfl ?_
    refine s_rd (r_neq rfl rfl) rfl ?_
    refine mv1 rfl rfl ?_
    refine b_split (t := 9) rfl (fun _ => ?_) (fun _ => ?_)
    · refine s_on rfl rfl rfl ?_
      refine mv1 rfl rfl ?_
      refine s_on rfl rfl rfl ?_
      refine s_rd (r_neq rfl rfl) rfl ?_
      refine s_rd (r_pickT rfl rfl) rfl ?_
      refine mv1 rfl rfl ?_
      refine b_split (t := 13) rfl (fun _ => ?_) (fun _ => ?_)
      · refine s_off rfl rfl rfl rfl rfl ?_
        refine s_off rfl rfl rfl rfl rfl ?_
        refine s_off rfl rfl rfl rfl rfl ?_
        refine s_rd (r_pickT rfl rfl) rfl ?_
        refine l_nil (n_then ?_)
        refine ref_condT rfl rfl ?_
        refine ref_seq (ref_region ?_)
        refine as1 rfl rfl ?_
        refine l_nil (n_then (ref_ret (r_then ?_)))
        exact fin1 (.inl rfl) () [] rfl trivial rfl (rv_tmp rfl)
      refine s_on rfl rfl rfl ?_
      refine mv1 rfl rfl ?_
      refine s_on rfl rfl rfl ?_
      refine s_rd (r_len Try.underlying22 rfl) rfl ?_
      refine s_on rfl rfl rfl ?_
      refine s_rd (r_eql rfl rfl) rfl ?_
      refine s_rd (r_pickF rfl rfl) rfl ?_
      refine l_nil (n_then ?_)
      refine ref_cond rfl (fun hb1 => ?_) (fun hb1 => ?_)
      · refine ref_seq (ref_region ?_)
        refine as1 rfl rfl ?_
        refine l_nil (n_then (ref_ret (r_then ?_)))
        exact fin1 (.inl rfl) () [] rfl trivial rfl (rv_tmp rfl)
      refine ref_skip ?_
      exact b_to (hk5 () ()) (weak [] ⟨rfl, rfl, rfl, trivial⟩ trivial)
    refine s_off rfl rfl rfl rfl rfl ?_
    refine s_off rfl rfl rfl rfl rfl ?_
    refine s_rd (r_pickF rfl rfl) rfl ?_
    refine mv1 rfl rfl ?_
    refine s_on rfl rfl rfl ?_
    refine mv1 rfl rfl ?_
    refine s_on rfl rfl rfl ?_
    refine s_rd (r_len Try.underlying22 rfl) rfl ?_
    refine s_on rfl rfl rfl ?_
    refine s_rd (r_eql rfl rfl) rfl ?_
    refine s_rd (r_pickF rfl rfl) rfl ?_
    refine l_nil (n_then ?_)
    refine ref_cond rfl (fun hb2 => ?_) (fun hb2 => ?_)
    · refine ref_seq (ref_region ?_)
      refine as1 rfl rfl ?_
      refine l_nil (n_then (ref_ret (r_then ?_)))
      exact fin1 (.inl rfl) () [] rfl trivial rfl (rv_tmp rfl)
    refine ref_skip ?_
    exact b_to (hk5 () ()) (weak [] ⟨rfl, rfl, rfl, trivial⟩ trivial)
  refine n_then (ref_seq (ref_block (ref_seq (ref_region ?_))))
  refine mv1 rfl rfl ?_
  refine s_rd (r_len Try.underlying22 rfl) rfl ?_
  refine s_rd (r_eql rfl rfl) rfl ?_
  refine as1 rfl rfl ?_
  refine b_let (f := bv) (t := 18) rfl fun t6 => ?_
  refine l_nil (n_then ?_)
  refine ref_cond rfl (fun hb7 => ?_) (fun hb7 => ?_)
  · refine ref_seq (ref_region ?_)
    refine as1 rfl rfl ?_
    refine l_nil (n_then (ref_ret (r_block (r_then ?_))))
    exact fin1 (.inl rfl) () [] rfl trivial rfl (rv_tmp rfl)
  refine ref_seq (ref_region ?_)
  refine mv1 rfl rfl ?_
  refine s_rd (r_eql rfl rfl) rfl ?_
  refine as1 rfl rfl ?_
  refine l_nil (n_then ?_)
  refine ref_cond rfl (fun hb8 => ?_) (fun hb8 => ?_)
  · refine ref_seq (ref_region ?_)
    refine mv1 rfl rfl ?_
    refine pull fun t9 h_t9 => ?_
    refine s_st (s_call (ψ := fun (_ : Unit) => iv .i64 t9) (args := [.tmp 25]) Try.call28 rfl (slices_Min_int_int_d_ok h_t9) ⟨arg rfl, trivial⟩ (fun _ _ _ _ h => h)) rfl (fun _ => ?_)
    refine mv1 rfl rfl ?_
    refine pull fun t10 h_t10 => ?_
    refine s_st (s_call (ψ := fun (_ : Unit) => iv .i64 t10) (args := [.tmp 27]) Try.call28 rfl (slices_Min_int_int_d_ok h_t10) ⟨arg rfl, trivial⟩ (fun _ _ _ _ h => h)) rfl (fun _ => ?_)
    refine s_rd (r_lss rfl rfl) rfl ?_
    refine as1 rfl rfl ?_
    refine b_let (f := bv) (t := 6) rfl fun t11 => ?_
    refine l_nil (n_then (ref_ret (r_block (r_then ?_))))
    exact fin1 (.inl rfl) () [] rfl trivial rfl (rv_tmp rfl)
  refine ref_skip (n_block (n_then (ref_seq (ref_region ?_))))
  refine mv1 rfl rfl ?_
  refine pull fun t12 h_t12 => ?_
  refine s_st (s_call (ψ := fun (_ : Unit) => iv .i64 t12) (args := [.tmp 30]) Try.call29 rfl (slices_Max_int_int_d_ok h_t12) ⟨arg rfl, trivial⟩ (fun _ _ _ _ h => h)) rfl (fun _ => ?_)
  refine mv1 rfl rfl ?_
  refine pull fun t13 h_t13 => ?_
  refine s_st (s_call (ψ := fun (_ : Unit) => iv .i64 t13) (args := [.tmp 32]) Try.call29 rfl (slices_Max_int_int_d_ok h_t13) ⟨arg rfl, trivial⟩ (fun _ _ _ _ h => h)) rfl (fun _ => ?_)
  refine s_rd (r_lss rfl rfl) rfl ?_
  refine as1 rfl rfl ?_
  refine b_let (f := bv) (t := 6) rfl fun t14 => ?_
  refine l_nil (n_then (ref_ret ?_))
  exact fin1 (.inl rfl) () [] rfl trivial rfl (rv_tmp rfl)

/-! deliberation/deliberationlaw08.awake -/
noncomputable def law08_awake_m  : Option (Bool) :=
  Option.bind (ref07_Build_m (T_api_Base.mk [(T_api_Premise.mk (T_api_Literal.mk false (ByteArray.mk #[112])) 2 0 ByteArray.empty)] [(T_api_Rule.mk (ByteArray.mk #[100]) false 9 [(T_api_Literal.mk false (ByteArray.mk #[112]))] (T_api_Literal.mk false (ByteArray.mk #[113])))] [])) fun t3 =>
  Option.bind (lift_SetLess_d_m [2, 5] [3] 1) fun t6 =>
  bif t6 then
    Option.bind (lift_SetLess_d_m [2, 5] [3] 2) fun t7 =>
    bif !t7 then
      bif t3.2 == 0 then
        bif (t3.1.length : Int) == 2 then
          Option.bind (lift_Less_m (T_api_Base.mk [(T_api_Premise.mk (T_api_Literal.mk false (ByteArray.mk #[112])) 2 0 ByteArray.empty)] [(T_api_Rule.mk (ByteArray.mk #[100]) false 9 [(T_api_Literal.mk false (ByteArray.mk #[112]))] (T_api_Literal.mk false (ByteArray.mk #[113])))] []) t3.1 1 0 (T_api_Ordering.mk 1 1)) fun t8 =>
          bif t8 then
            Option.bind (lift_Less_m (T_api_Base.mk [(T_api_Premise.mk (T_api_Literal.mk false (ByteArray.mk #[112])) 2 0 ByteArray.empty)] [(T_api_Rule.mk (ByteArray.mk #[100]) false 9 [(T_api_Literal.mk false (ByteArray.mk #[112]))] (T_api_Literal.mk false (ByteArray.mk #[113])))] []) t3.1 0 1 (T_api_Ordering.mk 1 1)) fun t9 =>
            some (!t9)
          else
            some false
        else
          some false
      else
        some false
    else
      some false
  else
    some false

theorem law08_awake_ok  {r : Bool} (hm : law08_awake_m  = some r) :
    FnOk prog 12 [] [] (fun (x : Unit) => [bv r]) (fun (x : Unit) => []) := by
  refine fn_ok (fn := Try.f12) (N := 53) (res := fun r x => [bv r]) (Ω1 := fun r x => []) Try.func12 rfl rfl hm rfl (fun E hM => ?_)
  unfold law08_awake_m
  refine ref_seq (ref_region ?_)
  refine as1 rfl rfl ?_
  refine l_nil (n_then (ref_seq (ref_region ?_)))
  refine s_rd (r_build (ps := [(1, .const (.string (ByteArray.mk #[112])))]) (rs := [(1, [sv (ByteArray.mk #[112])])]) st_50 zs_50 ⟨rfl, (part_at rfl sv_at), trivial⟩ rfl rfl) rfl ?_
  refine s_st (s_alloc zt_50) rfl (fun b1 => ?_)
  refine s_st0 (s_cstore (out := [bv false, sv (ByteArray.mk #[112])]) Try.sizeOf50 rfl (j := 0) rfl (part_agO (ψs := [bv false, sv (ByteArray.mk #[112])]) rfl ⟨.inl bv_at, .inl sv_at, trivial⟩) rfl rfl rfl) (fun _ => ?_)
  refine l_nil (n_then (ref_seq (ref_region ?_)))
  refine s_rd (r_cloadS Try.isAgg50 Try.sizeOf50 rfl (j := 0) rfl rfl rfl) rfl ?_
  refine s_rd (r_build (ps := [(0, .tmp 7), (1, .const (.int .i64 (2))), (2, .const (.int .i64 (0)))]) (rs := [(0, [bv false, sv (ByteArray.mk #[112])]), (1, [iv .i64 2]), (2, [iv .i64 0])]) st_64 zs_64 ⟨rfl, (part_agO (ψs := [bv false, sv (ByteArray.mk #[112])]) rfl ⟨.inl bv_at, .inl sv_at, trivial⟩), ⟨rfl, (part_at rfl iv_at), ⟨rfl, (part_at rfl iv_at), trivial⟩⟩⟩ rfl rfl) rfl ?_
  refine s_st (s_bslice (xs := [.tmp 8]) (ds := [(T_api_Premise.mk (T_api_Literal.mk false (ByteArray.mk #[112])) 2 0 ByteArray.empty)]) Try.underlying30 el_64 rfl (Nat.le_of_ble_eq_true rfl) ⟨(part_agO (ψs := [bv false, sv (ByteArray.mk #[112]), iv .i64 2, iv .i64 0, sv ByteArray.empty]) rfl ⟨.inl bv_at, .inl sv_at, .inl iv_at, .inl iv_at, .inl sv_at, trivial⟩), trivial⟩) rfl (fun _ => ?_)
  refine s_rd (r_cloadS Try.isAgg50 Try.sizeOf50 rfl (j := 0) rfl rfl rfl) rfl ?_
  refine s_st (s_bslice (xs := [.tmp 10]) (ds := [(T_api_Literal.mk false (ByteArray.mk #[112]))]) Try.underlying53 el_50 rfl (Nat.le_of_ble_eq_true rfl) ⟨(part_agO (ψs := [bv false, sv (ByteArray.mk #[112])]) rfl ⟨.inl bv_at, .inl sv_at, trivial⟩), trivial⟩) rfl (fun _ => ?_)
  refine s_rd (r_build (ps := [(1, .const (.string (ByteArray.mk #[113])))]) (rs := [(1, [sv (ByteArray.mk #[113])])]) st_50 zs_50 ⟨rfl, (part_at rfl sv_at), trivial⟩ rfl rfl) rfl ?_
  refine s_rd (r_build (ps := [(0, .const (.string (ByteArray.mk #[100]))), (2, .const (.int .i64 (9))), (3, .tmp 11), (4, .tmp 12)]) (rs := [(0, [sv (ByteArray.mk #[100])]), (2, [iv .i64 9]), (3, [slv rT_api_Literal [(T_api_Literal.mk false (ByteArray.mk #[112]))]]), (4, [bv false, sv (ByteArray.mk #[113])])]) st_55 zs_55 ⟨rfl, (part_at rfl sv_at), ⟨rfl, (part_at rfl iv_at), ⟨rfl, (part_at rfl slv_at), ⟨rfl, (part_agO (ψs := [bv false, sv (ByteArray.mk #[113])]) rfl ⟨.inl bv_at, .inl sv_at, trivial⟩), trivial⟩⟩⟩⟩ rfl rfl) rfl ?_
  refine s_st (s_bslice (xs := [.tmp 13]) (ds := [(T_api_Rule.mk (ByteArray.mk #[100]) false 9 [(T_api_Literal.mk false (ByteArray.mk #[112]))] (T_api_Literal.mk false (ByteArray.mk #[113])))]) Try.underlying31 el_55 rfl (Nat.le_of_ble_eq_true rfl) ⟨(part_agO (ψs := [sv (ByteArray.mk #[100]), bv false, iv .i64 9, slv rT_api_Literal [(T_api_Literal.mk false (ByteArray.mk #[112]))], bv false, sv (ByteArray.mk #[113])]) rfl ⟨.inl sv_at, .inl bv_at, .inl iv_at, .inl slv_at, .inl bv_at, .inl sv_at, trivial⟩), trivial⟩) rfl (fun _ => ?_)
  refine s_rd (r_build (ps := [(0, .tmp 9), (1, .tmp 14)]) (rs := [(0, [slv rT_api_Premise [(T_api_Premise.mk (T_api_Literal.mk false (ByteArray.mk #[112])) 2 0 ByteArray.empty)]]), (1, [slv rT_api_Rule [(T_api_Rule.mk (ByteArray.mk #[100]) false 9 [(T_api_Literal.mk false (ByteArray.mk #[112]))] (T_api_Literal.mk false (ByteArray.mk #[113])))]])]) st_34 zs_34 ⟨rfl, (part_at rfl slv_at), ⟨rfl, (part_at rfl slv_at), trivial⟩⟩ rfl rfl) rfl ?_
  refine s_st (s_alloc zt_34) rfl (fun b2 => ?_)
  refine s_st0 (s_cstore (out := [slv rT_api_Premise [(T_api_Premise.mk (T_api_Literal.mk false (ByteArray.mk #[112])) 2 0 ByteArray.empty)], slv rT_api_Rule [(T_api_Rule.mk (ByteArray.mk #[100]) false 9 [(T_api_Literal.mk false (ByteArray.mk #[112]))] (T_api_Literal.mk false (ByteArray.mk #[113])))], pv (.slice none 0 0)]) Try.sizeOf34 rfl (j := 1) rfl (part_agO (ψs := [slv rT_api_Premise [(T_api_Premise.mk (T_api_Literal.mk false (ByteArray.mk #[112])) 2 0 ByteArray.empty)], slv rT_api_Rule [(T_api_Rule.mk (ByteArray.mk #[100]) false 9 [(T_api_Literal.mk false (ByteArray.mk #[112]))] (T_api_Literal.mk false (ByteArray.mk #[113])))], pv (.slice none 0 0)]) rfl ⟨.inl slv_at, .inl slv_at, .inl (pv_at rfl), trivial⟩) rfl rfl rfl) (fun _ => ?_)
  refine l_nil ?_
  refine b_of (nrm [oc b1 [bv false, sv (ByteArray.mk #[112])], oc b2 [slv rT_api_Premise [(T_api_Premise.mk (T_api_Literal.mk false (ByteArray.mk #[112])) 2 0 ByteArray.empty)], slv rT_api_Rule [(T_api_Rule.mk (ByteArray.mk #[100]) false 9 [(T_api_Literal.mk false (ByteArray.mk #[112]))] (T_api_Literal.mk false (ByteArray.mk #[113])))], pv (.slice none 0 0)]] rfl) ?_
  refine n_then (ref_seq (ref_region ?_))
  refine s_rd (r_cloadS Try.isAgg34 Try.sizeOf34 rfl (j := 1) rfl rfl rfl) rfl ?_
  refine b_of (nilG rT_api_Promotion [(17, ag [slv rT_api_Premise [(T_api_Premise.mk (T_api_Literal.mk false (ByteArray.mk #[112])) 2 0 ByteArray.empty)], slv rT_api_Rule [(T_api_Rule.mk (ByteArray.mk #[100]) false 9 [(T_api_Literal.mk false (ByteArray.mk #[112]))] (T_api_Literal.mk false (ByteArray.mk #[113])))], slv rT_api_Promotion []])] [] ⟨⟨_, rfl, .inr ⟨_, _, rfl, rfl, ⟨.inl rfl, .inl rfl, .inr ⟨rfl, rfl⟩, trivial⟩⟩⟩, trivial⟩ trivial) ?_
  refine pull fun t3 h_t3 => ?_
  refine s_st (s_call (ψ := fun (x4 : (Value × List Nat)) => tup [pv x4.1, iv .i64 t3.2]) (args := [.tmp 17]) Try.call31 rfl (ref07_Build_ok h_t3) ⟨arg rfl, trivial⟩ (fun _ _ _ _ h => h)) rfl (fun x4 => ?_)
  refine mv1 rfl rfl ?_
  refine s_rd (r_extract rfl rfl) rfl ?_
  refine s_rd (r_extract rfl rfl) rfl ?_
  refine as1 rfl rfl ?_
  refine as1 rfl rfl ?_
  refine l_nil (n_then (ref_seq (ref_region ?_)))
  refine s_rd (r_build (ps := [(0, .const (.int .i64 (1))), (1, .const (.int .i64 (1)))]) (rs := [(0, [iv .i64 1]), (1, [iv .i64 1])]) st_43 zs_43 ⟨rfl, (part_at rfl iv_at), ⟨rfl, (part_at rfl iv_at), trivial⟩⟩ rfl rfl) rfl ?_
  refine s_st (s_alloc zt_43) rfl (fun b5 => ?_)
  refine s_st0 (s_cstore (out := [iv .i64 1, iv .i64 1]) Try.sizeOf43 rfl (j := 3) rfl (part_agO (ψs := [iv .i64 1, iv .i64 1]) rfl ⟨.inl iv_at, .inl iv_at, trivial⟩) rfl rfl rfl) (fun _ => ?_)
  refine l_nil (n_then (ref_seq (ref_region ?_)))
  refine s_st (s_bslice (xs := [.const (.int .i64 (2)), .const (.int .i64 (5))]) (ds := [2, 5]) Try.underlying22 el_3 rfl (Nat.le_of_ble_eq_true rfl) ⟨(part_at rfl iv_at), ⟨(part_at rfl iv_at), trivial⟩⟩) rfl (fun _ => ?_)
  refine s_st (s_bslice (xs := [.const (.int .i64 (3))]) (ds := [3]) Try.underlying22 el_3 rfl (Nat.le_of_ble_eq_true rfl) ⟨(part_at rfl iv_at), trivial⟩) rfl (fun _ => ?_)
  refine pull fun t6 h_t6 => ?_
  refine s_st (s_call (ψ := fun (_ : Unit) => bv t6) (args := [.tmp 22, .tmp 23, .const (.int .i64 (1))]) Try.call10 rfl (lift_SetLess_d_ok h_t6) ⟨arg rfl, arg rfl, arg rfl, trivial⟩ (fun _ _ _ _ h => h)) rfl (fun _ => ?_)
  refine mv1 rfl rfl ?_
  refine b_split (t := 25) rfl (fun _ => ?_) (fun _ => ?_)
  · refine s_on rfl rfl rfl ?_
    refine s_st (s_bslice (xs := [.const (.int .i64 (2)), .const (.int .i64 (5))]) (ds := [2, 5]) Try.underlying22 el_3 rfl (Nat.le_of_ble_eq_true rfl) ⟨(part_at rfl iv_at), ⟨(part_at rfl iv_at), trivial⟩⟩) rfl (fun _ => ?_)
    refine s_on rfl rfl rfl ?_
    refine s_st (s_bslice (xs := [.const (.int .i64 (3))]) (ds := [3]) Try.underlying22 el_3 rfl (Nat.le_of_ble_eq_true rfl) ⟨(part_at rfl iv_at), trivial⟩) rfl (fun _ => ?_)
    refine s_on rfl rfl rfl ?_
    refine pull fun t7 h_t7 => ?_
    refine s_st (s_call (ψ := fun (_ : Unit) => bv t7) (args := [.tmp 26, .tmp 27, .const (.int .i64 (2))]) Try.call10 rfl (lift_SetLess_d_ok h_t7) ⟨arg rfl, arg rfl, arg rfl, trivial⟩ (fun _ _ _ _ h => h)) rfl (fun _ => ?_)
    refine s_on rfl rfl rfl ?_
    refine s_rd (r_not rfl) rfl ?_
    refine s_rd (r_pickT rfl rfl) rfl ?_
    refine mv1 rfl rfl ?_
    refine b_split (t := 31) rfl (fun _ => ?_) (fun _ => ?_)
    · refine s_on rfl rfl rfl ?_
      refine mv1 rfl rfl ?_
      refine s_on rfl rfl rfl ?_
      refine s_rd (r_eql rfl rfl) rfl ?_
      refine s_rd (r_pickT rfl rfl) rfl ?_
      refine mv1 rfl rfl ?_
      refine b_split (t := 35) rfl (fun _ => ?_) (fun _ => ?_)
      · refine s_on rfl rfl rfl ?_
        refine mv1 rfl rfl ?_
        refine s_on rfl rfl rfl ?_
        refine s_rd (r_olen Try.underlying35 rfl (j := 2) rfl) rfl ?_
        refine s_on rfl rfl rfl ?_
        refine s_rd (r_eql rfl rfl) rfl ?_
        refine s_rd (r_pickT rfl rfl) rfl ?_
        refine mv1 rfl rfl ?_
        refine b_split (t := 40) rfl (fun _ => ?_) (fun _ => ?_)
        · refine s_on rfl rfl rfl ?_
          refine s_rd (r_cloadS Try.isAgg34 Try.sizeOf34 rfl (j := 1) rfl rfl rfl) rfl ?_
          refine s_on rfl rfl rfl ?_
          refine mv1 rfl rfl ?_
          refine s_on rfl rfl rfl ?_
          refine s_rd (r_cloadS Try.isAgg43 Try.sizeOf43 rfl (j := 3) rfl rfl rfl) rfl ?_
          refine s_on rfl rfl rfl ?_
          refine b_of (nilG rT_api_Promotion [(41, ag [slv rT_api_Premise [(T_api_Premise.mk (T_api_Literal.mk false (ByteArray.mk #[112])) 2 0 ByteArray.empty)], slv rT_api_Rule [(T_api_Rule.mk (ByteArray.mk #[100]) false 9 [(T_api_Literal.mk false (ByteArray.mk #[112]))] (T_api_Literal.mk false (ByteArray.mk #[113])))], slv rT_api_Promotion []])] [] ⟨⟨_, rfl, .inr ⟨_, _, rfl, rfl, ⟨.inl rfl, .inl rfl, .inr ⟨rfl, rfl⟩, trivial⟩⟩⟩, trivial⟩ trivial) ?_
          refine pull fun t8 h_t8 => ?_
          refine s_st (s_callB (ψ := fun (_ : Unit) => bv t8) (args := [.tmp 41, .tmp 42, .const (.int .i64 (1)), .const (.int .i64 (0)), .tmp 43]) Try.call24 rfl (lift_Less_ok h_t8) ⟨argB rfl, argO rfl (j := 2) rfl, argB rfl, argB rfl, argB rfl, trivial⟩ (fun _ _ _ _ _ h => h)) rfl (fun _ => ?_)
          refine s_rd (r_pickT rfl rfl) rfl ?_
          refine mv1 rfl rfl ?_
          refine b_split (t := 46) rfl (fun _ => ?_) (fun _ => ?_)
          · refine s_on rfl rfl rfl ?_
            refine s_rd (r_cloadS Try.isAgg34 Try.sizeOf34 rfl (j := 1) rfl rfl rfl) rfl ?_
            refine s_on rfl rfl rfl ?_
            refine mv1 rfl rfl ?_
            refine s_on rfl rfl rfl ?_
            refine s_rd (r_cloadS Try.isAgg43 Try.sizeOf43 rfl (j := 3) rfl rfl rfl) rfl ?_
            refine s_on rfl rfl rfl ?_
            refine b_of (nilG rT_api_Promotion [(47, ag [slv rT_api_Premise [(T_api_Premise.mk (T_api_Literal.mk false (ByteArray.mk #[112])) 2 0 ByteArray.empty)], slv rT_api_Rule [(T_api_Rule.mk (ByteArray.mk #[100]) false 9 [(T_api_Literal.mk false (ByteArray.mk #[112]))] (T_api_Literal.mk false (ByteArray.mk #[113])))], slv rT_api_Promotion []])] [] ⟨⟨_, rfl, .inr ⟨_, _, rfl, rfl, ⟨.inl rfl, .inl rfl, .inr ⟨rfl, rfl⟩, trivial⟩⟩⟩, trivial⟩ trivial) ?_
            refine pull fun t9 h_t9 => ?_
            refine s_st (s_callB (ψ := fun (_ : Unit) => bv t9) (args := [.tmp 47, .tmp 48, .const (.int .i64 (0)), .const (.int .i64 (1)), .tmp 49]) Try.call24 rfl (lift_Less_ok h_t9) ⟨argB rfl, argO rfl (j := 2) rfl, argB rfl, argB rfl, argB rfl, trivial⟩ (fun _ _ _ _ _ h => h)) rfl (fun _ => ?_)
            refine s_on rfl rfl rfl ?_
            refine s_rd (r_not rfl) rfl ?_
            refine s_rd (r_pickT rfl rfl) rfl ?_
            refine as1 rfl rfl ?_
            refine l_nil ?_
            refine b_of (nrm [oc b1 [bv false, sv (ByteArray.mk #[112])], oc b2 [slv rT_api_Premise [(T_api_Premise.mk (T_api_Literal.mk false (ByteArray.mk #[112])) 2 0 ByteArray.empty)], slv rT_api_Rule [(T_api_Rule.mk (ByteArray.mk #[100]) false 9 [(T_api_Literal.mk false (ByteArray.mk #[112]))] (T_api_Literal.mk false (ByteArray.mk #[113])))], pv (.slice none 0 0)], oa rT_api_Argument x4.1 x4.2 t3.1, oc b5 [iv .i64 1, iv .i64 1]] rfl) ?_
            refine n_then (ref_ret ?_)
            exact fin1 (.inl rfl) () [] rfl trivial rfl (rv_tmp rfl)
          refine s_off rfl rfl rfl rfl rfl ?_
          refine s_off rfl rfl rfl rfl rfl ?_
          refine s_off rfl rfl rfl rfl rfl ?_
          refine s_off rfl rfl rfl rfl rfl ?_
          refine s_off rfl rfl rfl rfl rfl ?_
          refine s_rd (r_pickF rfl rfl) rfl ?_
          refine as1 rfl rfl ?_
          refine l_nil ?_
          refine b_of (nrm [oc b1 [bv false, sv (ByteArray.mk #[112])], oc b2 [slv rT_api_Premise [(T_api_Premise.mk (T_api_Literal.mk false (ByteArray.mk #[112])) 2 0 ByteArray.empty)], slv rT_api_Rule [(T_api_Rule.mk (ByteArray.mk #[100]) false 9 [(T_api_Literal.mk false (ByteArray.mk #[112]))] (T_api_Literal.mk false (ByteArray.mk #[113])))], pv (.slice none 0 0)], oa rT_api_Argument x4.1 x4.2 t3.1, oc b5 [iv .i64 1, iv .i64 1]] rfl) ?_
          refine n_then (ref_ret ?_)
          exact fin1 (.inl rfl) () [] rfl trivial rfl (rv_tmp rfl)
        refine s_off rfl rfl rfl rfl rfl ?_
        refine s_off rfl rfl rfl rfl rfl ?_
        refine s_off rfl rfl rfl rfl rfl ?_
        refine s_off rfl rfl rfl rfl rfl ?_
        refine s_rd (r_pickF rfl rfl) rfl ?_
        refine mv1 rfl rfl ?_
        refine s_off rfl rfl rfl rfl rfl ?_
        refine s_off rfl rfl rfl rfl rfl ?_
        refine s_off rfl rfl rfl rfl rfl ?_
        refine s_off rfl rfl rfl rfl rfl ?_
        refine s_off rfl rfl rfl rfl rfl ?_
        refine s_rd (r_pickF rfl rfl) rfl ?_
        refine as1 rfl rfl ?_
        refine l_nil ?_
        refine b_of (nrm [oc b1 [bv false, sv (ByteArray.mk #[112])], oc b2 [slv rT_api_Premise [(T_api_Premise.mk (T_api_Literal.mk false (ByteArray.mk #[112])) 2 0 ByteArray.empty)], slv rT_api_Rule [(T_api_Rule.mk (ByteArray.mk #[100]) false 9 [(T_api_Literal.mk false (ByteArray.mk #[112]))] (T_api_Literal.mk false (ByteArray.mk #[113])))], pv (.slice none 0 0)], oa rT_api_Argument x4.1 x4.2 t3.1, oc b5 [iv .i64 1, iv .i64 1]] rfl) ?_
        refine n_then (ref_ret ?_)
        exact fin1 (.inl rfl) () [] rfl trivial rfl (rv_tmp rfl)
      refine s_off rfl rfl rfl rfl rfl ?_
      refine s_off rfl rfl rfl rfl rfl ?_
      refine s_off rfl rfl rfl rfl rfl ?_
      refine s_rd (r_pickF rfl rfl) rfl ?_
      refine mv1 rfl rfl ?_
      refine s_off rfl rfl rfl rfl rfl ?_
      refine s_off rfl rfl rfl rfl rfl ?_
      refine s_off rfl rfl rfl rfl rfl ?_
      refine s_off rfl rfl rfl rfl rfl ?_
      refine s_rd (r_pickF rfl rfl) rfl ?_
      refine mv1 rfl rfl ?_
      refine s_off rfl rfl rfl rfl rfl ?_
      refine s_off rfl rfl rfl rfl rfl ?_
      refine s_off rfl rfl rfl rfl rfl ?_
      refine s_off rfl rfl rfl rfl rfl ?_
      refine s_off rfl rfl rfl rfl rfl ?_
      refine s_rd (r_pickF rfl rfl) rfl ?_
      refine as1 rfl rfl ?_
      refine l_nil ?_
      refine b_of (nrm [oc b1 [bv false, sv (ByteArray.mk #[112])], oc b2 [slv rT_api_Premise [(T_api_Premise.mk (T_api_Literal.mk false (ByteArray.mk #[112])) 2 0 ByteArray.empty)], slv rT_api_Rule [(T_api_Rule.mk (ByteArray.mk #[100]) false 9 [(T_api_Literal.mk false (ByteArray.mk #[112]))] (T_api_Literal.mk false (ByteArray.mk #[113])))], pv (.slice none 0 0)], oa rT_api_Argument x4.1 x4.2 t3.1, oc b5 [iv .i64 1, iv .i64 1]] rfl) ?_
      refine n_then (ref_ret ?_)
      exact fin1 (.inl rfl) () [] rfl trivial rfl (rv_tmp rfl)
    refine s_off rfl rfl rfl rfl rfl ?_
    refine s_off rfl rfl rfl rfl rfl ?_
    refine s_rd (r_pickF rfl rfl) rfl ?_
    refine mv1 rfl rfl ?_
    refine s_off rfl rfl rfl rfl rfl ?_
    refine s_off rfl rfl rfl rfl rfl ?_
    refine s_off rfl rfl rfl rfl rfl ?_
    refine s_rd (r_pickF rfl rfl) rfl ?_
    refine mv1 rfl rfl ?_
    refine s_off rfl rfl rfl rfl rfl ?_
    refine s_off rfl rfl rfl rfl rfl ?_
    refine s_off rfl rfl rfl rfl rfl ?_
    refine s_off rfl rfl rfl rfl rfl ?_
    refine s_rd (r_pickF rfl rfl) rfl ?_
    refine mv1 rfl rfl ?_
    refine s_off rfl rfl rfl rfl rfl ?_
    refine s_off rfl rfl rfl rfl rfl ?_
    refine s_off rfl rfl rfl rfl rfl ?_
    refine s_off rfl rfl rfl rfl rfl ?_
    refine s_off rfl rfl rfl rfl rfl ?_
    refine s_rd (r_pickF rfl rfl) rfl ?_
    refine as1 rfl rfl ?_
    refine l_nil ?_
    refine b_of (nrm [oc b1 [bv false, sv (ByteArray.mk #[112])], oc b2 [slv rT_api_Premise [(T_api_Premise.mk (T_api_Literal.mk false (ByteArray.mk #[112])) 2 0 ByteArray.empty)], slv rT_api_Rule [(T_api_Rule.mk (ByteArray.mk #[100]) false 9 [(T_api_Literal.mk false (ByteArray.mk #[112]))] (T_api_Literal.mk false (ByteArray.mk #[113])))], pv (.slice none 0 0)], oa rT_api_Argument x4.1 x4.2 t3.1, oc b5 [iv .i64 1, iv .i64 1]] rfl) ?_
    refine n_then (ref_ret ?_)
    exact fin1 (.inl rfl) () [] rfl trivial rfl (rv_tmp rfl)
  refine s_off rfl rfl rfl rfl rfl ?_
  refine s_off rfl rfl rfl rfl rfl ?_
  refine s_off rfl rfl rfl rfl rfl ?_
  refine s_off rfl rfl rfl rfl rfl ?_
  refine s_rd (r_pickF rfl rfl) rfl ?_
  refine mv1 rfl rfl ?_
  refine s_off rfl rfl rfl rfl rfl ?_
  refine s_off rfl rfl rfl rfl rfl ?_
  refine s_rd (r_pickF rfl rfl) rfl ?_
  refine mv1 rfl rfl ?_
  refine s_off rfl rfl rfl rfl rfl ?_
  refine s_off rfl rfl rfl rfl rfl ?_
  refine s_off rfl rfl rfl rfl rfl ?_
  refine s_rd (r_pickF rfl rfl) rfl ?_
  refine mv1 rfl rfl ?_
  refine s_off rfl rfl rfl rfl rfl ?_
  refine s_off rfl rfl rfl rfl rfl ?_
  refine s_off rfl rfl rfl rfl rfl ?_
  refine s_off rfl rfl rfl rfl rfl ?_
  refine s_rd (r_pickF rfl rfl) rfl ?_
  refine mv1 rfl rfl ?_
  refine s_off rfl rfl rfl rfl rfl ?_
  refine s_off rfl rfl rfl rfl rfl ?_
  refine s_off rfl rfl rfl rfl rfl ?_
  refine s_off rfl rfl rfl rfl rfl ?_
  refine s_off rfl rfl rfl rfl rfl ?_
  refine s_rd (r_pickF rfl rfl) rfl ?_
  refine as1 rfl rfl ?_
  refine l_nil ?_
  refine b_of (nrm [oc b1 [bv false, sv (ByteArray.mk #[112])], oc b2 [slv rT_api_Premise [(T_api_Premise.mk (T_api_Literal.mk false (ByteArray.mk #[112])) 2 0 ByteArray.empty)], slv rT_api_Rule [(T_api_Rule.mk (ByteArray.mk #[100]) false 9 [(T_api_Literal.mk false (ByteArray.mk #[112]))] (T_api_Literal.mk false (ByteArray.mk #[113])))], pv (.slice none 0 0)], oa rT_api_Argument x4.1 x4.2 t3.1, oc b5 [iv .i64 1, iv .i64 1]] rfl) ?_
  refine n_then (ref_ret ?_)
  exact fin1 (.inl rfl) () [] rfl trivial rfl (rv_tmp rfl)

/-! deliberation/deliberationlaw08.LiftCompares -/
noncomputable def law08_LiftCompares_l3 (t4 : T_api_Base × List T_api_Argument × T_deliberationkeep_Src) (t61 : T_api_Ordering) (s80 : Int) (s89 : Int) : Option (Sum ((Sum (Bool) (Unit))) (Int)) :=
  bif decide (s89 < (t4.2.1.length : Int)) then
    Option.bind (lift_Less_m t4.1 t4.2.1 s80 s89 t61) fun t92 =>
    Option.bind (ref08_Less_m t4.1 t4.2.1 s80 s89 t61) fun t93 =>
    bif !(t92 == t93) then
      some (Sum.inl (Sum.inl false))
    else
      some (Sum.inr (iadd .i64 s89 1))
  else
    some (Sum.inl (Sum.inr ()))

noncomputable def law08_LiftCompares_l2 (t4 : T_api_Base × List T_api_Argument × T_deliberationkeep_Src) (t61 : T_api_Ordering) (s80 : Int) : Option (Sum ((Sum (Bool) (Unit))) (Int)) :=
  bif decide (s80 < (t4.2.1.length : Int)) then
    Option.bind (loopC (law08_LiftCompares_l3 t4 t61 s80) 0) (sumK (fun a : Bool => some (Sum.inl (Sum.inl a))) fun q95 : Unit =>
      some (Sum.inr (iadd .i64 s80 1)))
  else
    some (Sum.inl (Sum.inr ()))

noncomputable def law08_LiftCompares_l1 (i_2 : Int) (k_3 : Int) (t4 : T_api_Base × List T_api_Argument × T_deliberationkeep_Src) (t10 : (List T_api_Ordering)) (s58 : Int) : Option (Sum ((Sum (Bool) (Unit))) (Int)) :=
  bif decide (s58 < (t10.length : Int)) then
    Option.bind (idxM t10 s58) fun t61 =>
    Option.bind (loopC (law08_LiftCompares_l2 t4 t61) 0) (sumK (fun a : Bool => some (Sum.inl (Sum.inl a))) fun q97 : Unit =>
      Option.bind (lift_Less_m t4.1 t4.2.1 i_2 k_3 t61) fun t99 =>
      Option.bind (ref08_Less_m t4.1 t4.2.1 i_2 k_3 t61) fun t100 =>
      bif !(t99 == t100) then
        some (Sum.inl (Sum.inl false))
      else
        Option.bind (lift_Less_m t4.1 t4.2.1 (-1) 0 t61) fun t101 =>
        bif t101 then
          some (Sum.inl (Sum.inl false))
        else
          Option.bind (lift_Less_m t4.1 t4.2.1 0 (t4.2.1.length : Int) t61) fun t102 =>
          bif t102 then
            some (Sum.inl (Sum.inl false))
          else
            some (Sum.inr (iadd .i64 s58 1)))
  else
    some (Sum.inl (Sum.inr ()))

noncomputable def law08_LiftCompares_m (l_0 : (List Int)) (o_1 : T_api_Ordering) (i_2 : Int) (k_3 : Int) : Option (Bool) :=
  Option.bind (keep_New_m l_0) fun s2 =>
  Option.bind (law08_built_m s2 4 6 8) fun t4 =>
  Option.bind (keep_Orderings_m ) fun t8 =>
  Option.bind (appM 16 t8 [o_1]) fun t10 =>
  Option.bind (loopC (law08_LiftCompares_l1 i_2 k_3 t4 t10) 0) (sumK (fun a : Bool => some a) fun q104 : Unit =>
    Option.bind (law08_awake_m ) fun t106 =>
    some t106)

theorem law08_LiftCompares_ok {l_0 : (List Int)} {o_1 : T_api_Ordering} {i_2 : Int} {k_3 : Int} {r : Bool} (hm : law08_LiftCompares_m l_0 o_1 i_2 k_3 = some r) :
    FnOk prog 5 [slv (rI .i64) l_0, ag [iv .i64 o_1.Link, iv .i64 o_1.Lift], iv .i64 i_2, iv .i64 k_3] [] (fun (x : Unit) => [bv r]) (fun (x : Unit) => []) := by
  refine fn_ok (fn := Try.f5) (N := 86) (res := fun r x => [bv r]) (Ω1 := fun r x => []) Try.func5 rfl rfl hm rfl (fun E hM => ?_)
  unfold law08_LiftCompares_m
  refine ref_seq (ref_region ?_)
  refine s_st (s_box (part_agO (ψs := [iv .i64 o_1.Link, iv .i64 o_1.Lift]) rfl ⟨.inl iv_at, .inl iv_at, trivial⟩)) rfl (fun b1 => ?_)
  refine as1 rfl rfl ?_
  refine l_nil (n_then (ref_seq (ref_region ?_)))
  refine mv1 rfl rfl ?_
  refine pull fun s2 h_s2 => ?_
  refine s_st (s_call (ψ := fun (x3 : Nat) => pv (ptr x3 0)) (args := [.tmp 16]) Try.call8 rfl (keep_New_ok h_s2) ⟨arg rfl, trivial⟩ (fun _ _ _ _ h => h)) rfl (fun x3 => ?_)
  refine as1 rfl rfl ?_
  refine l_nil (n_then (ref_seq (ref_region ?_)))
  refine mv1 rfl rfl ?_
  refine pull fun t4 h_t4 => ?_
  refine s_st (s_callC [1] [true] (fun (x5 : (Value × List Nat)) => [oc x3 [slv (rI .i64) t4.2.2.L, iv .i64 t4.2.2.At]]) (fun (x5 : (Value × List Nat)) => [oa rT_api_Argument x5.1 x5.2 t4.2.1]) (fun (x5 : (Value × List Nat)) => tup [ag [slv rT_api_Premise t4.1.Premises, slv rT_api_Rule t4.1.Rules, slv rT_api_Promotion t4.1.Promotions], pv x5.1]) (args := [.tmp 19, .const (.int .i64 (4)), .const (.int .i64 (6)), .const (.int .i64 (8))]) (caps := []) Try.call13 rfl (law08_built_ok h_t4) ⟨rfl, rfl, trivial⟩ (fun _ => rfl) (fun _ => trivial) (fun _ => rfl) ⟨arg rfl, arg rfl, arg rfl, arg rfl, trivial⟩ (fun _ _ _ _ h => h)) rfl (fun x5 => ?_)
  refine mv1 rfl rfl ?_
  refine s_rd (r_extract rfl rfl) rfl ?_
  refine s_rd (r_extract rfl rfl) rfl ?_
  refine s_st (s_alloc zt_34) rfl (fun b6 => ?_)
  refine s_st0 (s_cstore (out := [slv rT_api_Premise t4.1.Premises, slv rT_api_Rule t4.1.Rules, slv rT_api_Promotion t4.1.Promotions]) Try.sizeOf34 rfl (j := 3) rfl (part_agO (ψs := [slv rT_api_Premise t4.1.Premises, slv rT_api_Rule t4.1.Rules, slv rT_api_Promotion t4.1.Promotions]) rfl ⟨.inl slv_at, .inl slv_at, .inl slv_at, trivial⟩) rfl rfl rfl) (fun _ => ?_)
  refine as1 rfl rfl ?_
  refine l_nil ?_
  refine b_of (nrm [oc b1 [iv .i64 o_1.Link, iv .i64 o_1.Lift], oc x3 [slv (rI .i64) t4.2.2.L, iv .i64 t4.2.2.At], oa rT_api_Argument x5.1 x5.2 t4.2.1, oc b6 [slv rT_api_Premise t4.1.Premises, slv rT_api_Rule t4.1.Rules, slv rT_api_Promotion t4.1.Promotions]] rfl) ?_
  refine n_then (ref_seq (ref_seq ?_))
  refine pull fun t8 h_t8 => ?_
  refine pull fun t10 h_t10 => ?_
  refine ref_drawI 1 [⟨[], [], [4], [4], [], fun us u => pv u.V.1, fun us u => [oa rT_api_Ordering u.V.1 u.V.2 t8]⟩, ⟨[], [], [], [0], [], fun us u => ag [iv .i64 o_1.Link, iv .i64 o_1.Lift], fun us u => []⟩, ⟨[1], [], [], [], [], fun us u => slv rT_api_Ordering [o_1], fun us u => []⟩, ⟨[0, 1, 2], [], [4], [4], [4], fun us u => pv u.V.1, fun us u => [oa rT_api_Ordering u.V.1 u.V.2 t10]⟩, ⟨[0, 1, 2, 3], [], [], [4], [], fun us u => iv .i64 (t10.length : Int), fun us u => []⟩, ⟨[], [], [], [], [], fun us u => iv .i64 0, fun us u => []⟩] (fun χ7 => [(2, iv .i64 i_2), (3, iv .i64 k_3), (10, pv (ptr b6 0)), (11, pv x5.1), (26, pv (χ7 3).V.1), (27, iv .i64 (t10.length : Int)), (28, iv .i64 0)]) (fun χ7 => [oc b1 [iv .i64 o_1.Link, iv .i64 o_1.Lift], oc x3 [slv (rI .i64) t4.2.2.L, iv .i64 t4.2.2.At], oa rT_api_Argument x5.1 x5.2 t4.2.1, oc b6 [slv rT_api_Premise t4.1.Premises, slv rT_api_Rule t4.1.Rules, slv rT_api_Promotion t4.1.Promotions], oa rT_api_Ordering (χ7 3).V.1 (χ7 3).V.2 t10]) rfl (by kernel_rfl) ⟨fun χ7 Ω ⟨h4, _⟩ => St.to XU.V XU.hV (St.placeL [4] (s_call (ψ := fun (x9 : (Value × List Nat)) => pv x9.1) (args := []) Try.call23 rfl (keep_Orderings_ok h_t8) trivial (fun _ _ _ _ h => h)) (fun _ => rfl) (fun _ => ⟨h4, rfl, trivial⟩)) (fun _ => rfl) (fun _ => rfl), (by intro _ h; cases h; rfl), ⟨fun χ7 Ω ⟨h0, _⟩ => St.toR (r_cloadS Try.isAgg43 Try.sizeOf43 rfl (j := 0) h0 rfl rfl) (fun _ => rfl) (fun _ => rfl), (by intro _ h; cases h; rfl), ⟨fun χ7 Ω _ => St.to XU.U XU.hU (s_bslice (xs := [.tmp 24]) (ds := [o_1]) Try.underlying44 el_43 rfl (Nat.le_of_ble_eq_true rfl) ⟨(part_agO (ψs := [iv .i64 o_1.Link, iv .i64 o_1.Lift]) rfl ⟨.inl iv_at, .inl iv_at, trivial⟩), trivial⟩) (fun _ => rfl) (fun _ => rfl), (by intro _ h; cases h; rfl), ⟨fun χ7 Ω ⟨h4, _⟩ => St.to XU.V XU.hV (s_append h_t10 Try.underlying44 el_43 rfl (j := 4) h4 rfl) (fun _ => rfl) (fun _ => rfl), (by intro _ h; cases h; rfl), ⟨fun χ7 Ω ⟨h4, _⟩ => St.toR (r_olen Try.underlying44 rfl (j := 4) h4) (fun _ => rfl) (fun _ => rfl), (by intro _ h; cases h; rfl), ⟨fun χ7 Ω _ => St.toR (r_move rfl) (fun _ => rfl) (fun _ => rfl), (by intro _ h; cases h; rfl), trivial⟩⟩⟩⟩⟩⟩ (fun _ => ⟨rfl, rfl, rfl, rfl, rfl, rfl, rfl, trivial⟩) (fun _ => rfl) (fun χ7 => ?_)
  refine n_then ?_
  refine ref_loopX (f := (law08_LiftCompares_l1 i_2 k_3 t4 t10)) (Γl := (fun (s58 : Int) (x59 : Unit) => [(2, iv .i64 i_2), (3, iv .i64 k_3), (10, pv (ptr b6 0)), (11, pv x5.1), (26, pv (χ7 3).V.1), (27, iv .i64 (t10.length : Int)), (28, iv .i64 s58)])) (Ωl := (fun (s58 : Int) (x59 : Unit) => [oc b6 [slv rT_api_Premise t4.1.Premises, slv rT_api_Rule t4.1.Rules, slv rT_api_Promotion t4.1.Promotions], oa rT_api_Argument x5.1 x5.2 t4.2.1, oa rT_api_Ordering (χ7 3).V.1 (χ7 3).V.2 t10])) (Γb := (fun (q104 : Unit) (y105 : Unit) => [])) (Ωb := (fun (q104 : Unit) (y105 : Unit) => [])) (kr := (fun a : Bool => some a)) 0 () (weak [3, 2, 4] ⟨rfl, rfl, rfl, rfl, rfl, rfl, rfl, trivial⟩ ⟨rfl, rfl, rfl, trivial⟩) (fun s58 x59 => ?_) (fun q104 y105 => ?_)
  · unfold law08_LiftCompares_l1
    refine ref_seq (ref_region ?_)
    refine s_rd (r_lss rfl rfl) rfl ?_
    refine l_nil (n_then (ref_seq ?_))
    refine ref_cond rfl (fun hb60 => ?_) (fun hb60 => ?_)
    · refine ref_skip (n_then (ref_seq (ref_block (ref_seq (ref_region ?_)))))
      refine pull fun t61 h_t61 => ?_
      refine s_rd (r_oindex h_t61 Try.underlying44 el_43 rfl (j := 2) rfl rfl) rfl ?_
      refine s_rd (r_oload h_t61 el_43 rfl (j := 2) rfl) rfl ?_
      refine s_st (s_alloc zt_43) rfl (fun b62 => ?_)
      refine s_st0 (s_cstore (out := [iv .i64 t61.Link, iv .i64 t61.Lift]) Try.sizeOf43 rfl (j := 3) rfl (part_agO (ψs := [iv .i64 t61.Link, iv .i64 t61.Lift]) rfl ⟨.inl iv_at, .inl iv_at, trivial⟩) rfl rfl rfl) (fun _ => ?_)
      refine l_nil (n_then (ref_seq (ref_seq (ref_region ?_))))
      refine mv1 rfl rfl ?_
      refine s_rd (r_olen Try.underlying35 rfl (j := 1) rfl) rfl ?_
      refine mv1 rfl rfl ?_
      refine l_nil (n_then ?_)
      refine ref_loopX (f := (law08_LiftCompares_l2 t4 t61)) (Γl := (fun (s80 : Int) (x81 : Unit) => [(2, iv .i64 i_2), (3, iv .i64 k_3), (10, pv (ptr b6 0)), (11, pv x5.1), (13, pv (ptr b62 0)), (26, pv (χ7 3).V.1), (27, iv .i64 (t10.length : Int)), (28, iv .i64 s58), (33, iv .i64 (t4.2.1.length : Int)), (34, iv .i64 s80)])) (Ωl := (fun (s80 : Int) (x81 : Unit) => [oc b6 [slv rT_api_Premise t4.1.Premises, slv rT_api_Rule t4.1.Rules, slv rT_api_Promotion t4.1.Promotions], oa rT_api_Argument x5.1 x5.2 t4.2.1, oc b62 [iv .i64 t61.Link, iv .i64 t61.Lift], oa rT_api_Ordering (χ7 3).V.1 (χ7 3).V.2 t10])) (Γb := (fun (q97 : Unit) (y98 : Unit) => [(2, iv .i64 i_2), (3, iv .i64 k_3), (10, pv (ptr b6 0)), (11, pv x5.1), (13, pv (ptr b62 0)), (26, pv (χ7 3).V.1), (27, iv .i64 (t10.length : Int)), (28, iv .i64 s58)])) (Ωb := (fun (q97 : Unit) (y98 : Unit) => [oc b6 [slv rT_api_Premise t4.1.Premises, slv rT_api_Rule t4.1.Rules, slv rT_api_Promotion t4.1.Promotions], oa rT_api_Argument x5.1 x5.2 t4.2.1, oc b62 [iv .i64 t61.Link, iv .i64 t61.Lift], oa rT_api_Ordering (χ7 3).V.1 (χ7 3).V.2 t10])) (kr := (fun a : Bool => some (Sum.inl (Sum.inl a)))) 0 () (weak [0, 1, 3, 2] ⟨rfl, rfl, rfl, rfl, rfl, rfl, rfl, rfl, rfl, rfl, trivial⟩ ⟨rfl, rfl, rfl, rfl, trivial⟩) (fun s80 x81 => ?_) (fun q97 y98 => ?_)
      · unfold law08_LiftCompares_l2
        refine ref_seq (ref_region ?_)
        refine s_rd (r_lss rfl rfl) rfl ?_
        refine l_nil (n_then (ref_seq ?_))
        refine ref_cond rfl (fun hb82 => ?_) (fun hb82 => ?_)
        · refine ref_skip (n_then (ref_seq (ref_block (ref_seq (ref_region ?_)))))
          refine mv1 rfl rfl ?_
          refine as1 rfl rfl ?_
          refine l_nil (n_then (ref_seq (ref_region ?_)))
          refine mv1 rfl rfl ?_
          refine s_rd (r_olen Try.underlying35 rfl (j := 1) rfl) rfl ?_
          refine mv1 rfl rfl ?_
          refine l_nil (n_then ?_)
          refine ref_loopX (f := (law08_LiftCompares_l3 t4 t61 s80)) (Γl := (fun (s89 : Int) (x90 : Unit) => [(2, iv .i64 i_2), (3, iv .i64 k_3), (10, pv (ptr b6 0)), (11, pv x5.1), (13, pv (ptr b62 0)), (14, iv .i64 s80), (26, pv (χ7 3).V.1), (27, iv .i64 (t10.length : Int)), (28, iv .i64 s58), (33, iv .i64 (t4.2.1.length : Int)), (34, iv .i64 s80), (38, iv .i64 (t4.2.1.length : Int)), (39, iv .i64 s89)])) (Ωl := (fun (s89 : Int) (x90 : Unit) => [oc b6 [slv rT_api_Premise t4.1.Premises, slv rT_api_Rule t4.1.Rules, slv rT_api_Promotion t4.1.Promotions], oa rT_api_Argument x5.1 x5.2 t4.2.1, oc b62 [iv .i64 t61.Link, iv .i64 t61.Lift], oa rT_api_Ordering (χ7 3).V.1 (χ7 3).V.2 t10])) (Γb := (fun (q95 : Unit) (y96 : Unit) => [(2, iv .i64 i_2), (3, iv .i64 k_3), (10, pv (ptr b6 0)), (11, pv x5.1), (13, pv (ptr b62 0)), (26, pv (χ7 3).V.1), (27, iv .i64 (t10.length : Int)), (28, iv .i64 s58), (33, iv .i64 (t4.2.1.length : Int)), (34, iv .i64 s80)])) (Ωb := (fun (q95 : Unit) (y96 : Unit) => [oc b6 [slv rT_api_Premise t4.1.Premises, slv rT_api_Rule t4.1.Rules, slv rT_api_Promotion t4.1.Promotions], oa rT_api_Argument x5.1 x5.2 t4.2.1, oc b62 [iv .i64 t61.Link, iv .i64 t61.Lift], oa rT_api_Ordering (χ7 3).V.1 (χ7 3).V.2 t10])) (kr := (fun a : Bool => some (Sum.inl (Sum.inl a)))) 0 () (weak [0, 1, 2, 3] ⟨rfl, rfl, rfl, rfl, rfl, rfl, rfl, rfl, rfl, rfl, rfl, rfl, rfl, trivial⟩ ⟨rfl, rfl, rfl, rfl, trivial⟩) (fun s89 x90 => ?_) (fun q95 y96 => ?_)
          · unfold law08_LiftCompares_l3
            refine ref_seq (ref_region ?_)
            refine s_rd (r_lss rfl rfl) rfl ?_
            refine l_nil (n_then (ref_seq ?_))
            refine ref_cond rfl (fun hb91 => ?_) (fun hb91 => ?_)
            · refine ref_skip (n_then (ref_seq (ref_block (ref_seq (ref_region ?_)))))
              refine mv1 rfl rfl ?_
              refine as1 rfl rfl ?_
              refine l_nil (n_then (ref_seq ?_))
              refine ref_draw [0, 1, 2, 3, 4, 6, 7, 8, 9, 10, 12] rfl (by kernel_rfl) (fun hok => ?_)
              refine a_rd (i := 0) hok rfl (by kernel_rfl) rfl (r_cloadS Try.isAgg34 Try.sizeOf34 rfl (j := 0) rfl rfl rfl) rfl ?_
              refine a_rd (i := 1) hok rfl (by kernel_rfl) rfl (r_move rfl) rfl ?_
              refine a_rd (i := 2) hok rfl (by kernel_rfl) rfl (r_move rfl) rfl ?_
              refine a_rd (i := 3) hok rfl (by kernel_rfl) rfl (r_move rfl) rfl ?_
              refine a_rd (i := 4) hok rfl (by kernel_rfl) rfl (r_cloadS Try.isAgg43 Try.sizeOf43 rfl (j := 2) rfl rfl rfl) rfl ?_
              refine a_rd (i := 6) hok rfl (by kernel_rfl) rfl (r_cloadS Try.isAgg34 Try.sizeOf34 rfl (j := 0) rfl rfl rfl) rfl ?_
              refine a_rd (i := 7) hok rfl (by kernel_rfl) rfl (r_move rfl) rfl ?_
              refine a_rd (i := 8) hok rfl (by kernel_rfl) rfl (r_move rfl) rfl ?_
              refine a_rd (i := 9) hok rfl (by kernel_rfl) rfl (r_move rfl) rfl ?_
              refine a_rd (i := 10) hok rfl (by kernel_rfl) rfl (r_cloadS Try.isAgg43 Try.sizeOf43 rfl (j := 2) rfl rfl rfl) rfl ?_
              refine pull fun t92 h_t92 => ?_
              refine a_next hok 5 [] (by kernel_rfl) ?_ trivial
              refine a_st (i := 5) hok rfl rfl (s_callB (ψ := fun (_ : Unit) => bv t92) (args := [.tmp 42, .tmp 43, .tmp 44, .tmp 45, .tmp 46]) Try.call24 rfl (lift_Less_ok h_t92) ⟨argB rfl, argO rfl (j := 1) rfl, argB rfl, argB rfl, argB rfl, trivial⟩ (fun _ _ _ _ _ h => h)) (by intro _ h; cases h; rfl) (fun _ => ⟨⟨⟨rfl, rfl⟩, trivial⟩, ⟨trivial, ⟨trivial, ⟨trivial, ⟨⟨⟨rfl, rfl⟩, trivial⟩, ⟨trivial, ⟨trivial, ⟨trivial, ⟨trivial, ⟨trivial, trivial⟩⟩⟩⟩⟩⟩⟩⟩⟩⟩) (fun _ => ?_)
              refine pull fun t93 h_t93 => ?_
              refine a_next hok 11 [] (by kernel_rfl) ?_ trivial
              refine a_st (i := 11) hok rfl rfl (s_callB (ψ := fun (_ : Unit) => bv t93) (args := [.tmp 48, .tmp 49, .tmp 50, .tmp 51, .tmp 52]) Try.call25 rfl (ref08_Less_ok h_t93) ⟨argB rfl, argO rfl (j := 1) rfl, argB rfl, argB rfl, argB rfl, trivial⟩ (fun _ _ _ _ _ h => h)) (by intro _ h; cases h; rfl) (fun _ => ⟨trivial, ⟨trivial, ⟨trivial, ⟨trivial, ⟨trivial, ⟨⟨⟨rfl, rfl⟩, trivial⟩, ⟨trivial, ⟨trivial, ⟨trivial, ⟨⟨⟨rfl, rfl⟩, trivial⟩, trivial⟩⟩⟩⟩⟩⟩⟩⟩⟩⟩) (fun _ => ?_)
              refine a_rd (i := 12) hok rfl (by kernel_rfl) rfl (r_bneq Try.underlying4 rfl rfl) rfl ?_
              refine a_fin hok (by kernel_rfl) ?_
              refine b_of (nrm [oc b6 [slv rT_api_Premise t4.1.Premises, slv rT_api_Rule t4.1.Rules, slv rT_api_Promotion t4.1.Promotions], oa rT_api_Argument x5.1 x5.2 t4.2.1, oc b62 [iv .i64 t61.Link, iv .i64 t61.Lift], oa rT_api_Ordering (χ7 3).V.1 (χ7 3).V.2 t10] rfl) ?_
              refine n_then ?_
              refine ref_cond rfl (fun hb94 => ?_) (fun hb94 => ?_)
              · refine ref_seq (ref_region ?_)
                refine as1 rfl rfl ?_
                refine l_nil (n_then (ref_ret (r_block (r_then ?_))))
                refine retX ?_
                refine r_block (r_block (r_then ?_))
                refine retX ?_
                refine r_block (r_then (r_block (r_then ?_)))
                refine retX ?_
                refine r_block (r_then ?_)
                exact fin1 (.inl rfl) () [] rfl trivial rfl (rv_tmp rfl)
              refine ref_skip (n_block (n_then (ref_region ?_)))
              refine s_rd (r_add rfl rfl) rfl ?_
              refine mv1 rfl rfl ?_
              refine l_nil ?_
              exact goX () (weak [0, 1, 2, 3] ⟨rfl, rfl, rfl, rfl, rfl, rfl, rfl, rfl, rfl, rfl, rfl, rfl, rfl, trivial⟩ ⟨rfl, rfl, rfl, rfl, trivial⟩)
            refine ref_exit (x_then ?_)
            exact brkX () (weak [0, 1, 2, 3] ⟨rfl, rfl, rfl, rfl, rfl, rfl, rfl, rfl, rfl, rfl, trivial⟩ ⟨rfl, rfl, rfl, rfl, trivial⟩)
          refine n_block (n_then (ref_region ?_))
          refine s_rd (r_add rfl rfl) rfl ?_
          refine mv1 rfl rfl ?_
          refine l_nil ?_
          exact goX () (weak [0, 1, 2, 3] ⟨rfl, rfl, rfl, rfl, rfl, rfl, rfl, rfl, rfl, rfl, trivial⟩ ⟨rfl, rfl, rfl, rfl, trivial⟩)
        refine ref_exit (x_then ?_)
        exact brkX () (weak [0, 1, 2, 3] ⟨rfl, rfl, rfl, rfl, rfl, rfl, rfl, rfl, trivial⟩ ⟨rfl, rfl, rfl, rfl, trivial⟩)
      refine n_then (ref_seq ?_)
      refine ref_draw [0, 1, 2, 3, 4, 6, 7, 8, 9, 10, 12, 13, 14, 15, 16, 18, 19, 20, 21, 22, 23, 24, 26] rfl (by kernel_rfl) (fun hok => ?_)
      refine a_rd (i := 0) hok rfl (by kernel_rfl) rfl (r_cloadS Try.isAgg34 Try.sizeOf34 rfl (j := 0) rfl rfl rfl) rfl ?_
      refine a_rd (i := 1) hok rfl (by kernel_rfl) rfl (r_move rfl) rfl ?_
      refine a_rd (i := 2) hok rfl (by kernel_rfl) rfl (r_move rfl) rfl ?_
      refine a_rd (i := 3) hok rfl (by kernel_rfl) rfl (r_move rfl) rfl ?_
      refine a_rd (i := 4) hok rfl (by kernel_rfl) rfl (r_cloadS Try.isAgg43 Try.sizeOf43 rfl (j := 2) rfl rfl rfl) rfl ?_
      refine a_rd (i := 6) hok rfl (by kernel_rfl) rfl (r_cloadS Try.isAgg34 Try.sizeOf34 rfl (j := 0) rfl rfl rfl) rfl ?_
      refine a_rd (i := 7) hok rfl (by kernel_rfl) rfl (r_move rfl) rfl ?_
      refine a_rd (i := 8) hok rfl (by kernel_rfl) rfl (r_move rfl) rfl ?_
      refine a_rd (i := 9) hok rfl (by kernel_rfl) rfl (r_move rfl) rfl ?_
      refine a_rd (i := 10) hok rfl (by kernel_rfl) rfl (r_cloadS Try.isAgg43 Try.sizeOf43 rfl (j := 2) rfl rfl rfl) rfl ?_
      refine pull fun t99 h_t99 => ?_
      refine a_next hok 5 [] (by kernel_rfl) ?_ trivial
      refine a_st (i := 5) hok rfl rfl (s_callB (ψ := fun (_ : Unit) => bv t99) (args := [.tmp 57, .tmp 58, .tmp 59, .tmp 60, .tmp 61]) Try.call24 rfl (lift_Less_ok h_t99) ⟨argB rfl, argO rfl (j := 1) rfl, argB rfl, argB rfl, argB rfl, trivial⟩ (fun _ _ _ _ _ h => h)) (by intro _ h; cases h; rfl) (fun _ => ⟨⟨⟨rfl, rfl⟩, trivial⟩, ⟨trivial, ⟨trivial, ⟨trivial, ⟨⟨⟨rfl, rfl⟩, trivial⟩, ⟨trivial, ⟨trivial, ⟨trivial, ⟨trivial, ⟨trivial, trivial⟩⟩⟩⟩⟩⟩⟩⟩⟩⟩) (fun _ => ?_)
      refine pull fun t100 h_t100 => ?_
      refine a_next hok 11 [] (by kernel_rfl) ?_ trivial
      refine a_st (i := 11) hok rfl rfl (s_callB (ψ := fun (_ : Unit) => bv t100) (args := [.tmp 63, .tmp 64, .tmp 65, .tmp 66, .tmp 67]) Try.call25 rfl (ref08_Less_ok h_t100) ⟨argB rfl, argO rfl (j := 1) rfl, argB rfl, argB rfl, argB rfl, trivial⟩ (fun _ _ _ _ _ h => h)) (by intro _ h; cases h; rfl) (fun _ => ⟨trivial, ⟨trivial, ⟨trivial, ⟨trivial, ⟨trivial, ⟨⟨⟨rfl, rfl⟩, trivial⟩, ⟨trivial, ⟨trivial, ⟨trivial, ⟨⟨⟨rfl, rfl⟩, trivial⟩, trivial⟩⟩⟩⟩⟩⟩⟩⟩⟩⟩) (fun _ => ?_)
      refine a_rd (i := 12) hok rfl (by kernel_rfl) rfl (r_bneq Try.underlying4 rfl rfl) rfl ?_
      refine a_rd (i := 13) hok rfl (by kernel_rfl) rfl (r_move rfl) rfl ?_
      refine b_split (t := 70) rfl (fun _ => ?_) (fun _ => ?_)
      · refine a_off (i := 14) hok rfl rfl rfl rfl rfl (by kernel_rfl) rfl rfl ?_
        refine a_off (i := 15) hok rfl rfl rfl rfl rfl (by kernel_rfl) rfl rfl ?_
        refine a_off (i := 16) hok rfl rfl rfl rfl rfl (by kernel_rfl) rfl rfl ?_
        refine a_next hok 17 [] (by kernel_rfl) ?_ trivial
        refine a_stOff (i := 17) hok rfl rfl rfl rfl rfl rfl (by intro _ h; cases h; rfl) ⟨trivial, ⟨trivial, ⟨trivial, ⟨trivial, ⟨trivial, ⟨⟨⟨rfl, rfl⟩, trivial⟩, ⟨trivial, ⟨trivial, ⟨trivial, ⟨⟨⟨rfl, rfl⟩, trivial⟩, ⟨⟨⟨rfl, rfl⟩, trivial⟩, ⟨trivial, ⟨trivial, ⟨trivial, ⟨⟨⟨rfl, rfl⟩, trivial⟩, trivial⟩⟩⟩⟩⟩⟩⟩⟩⟩⟩⟩⟩⟩⟩⟩ ?_
        refine a_rd (i := 18) hok rfl (by kernel_rfl) rfl (r_pickT rfl rfl) rfl ?_
        refine a_rd (i := 19) hok rfl (by kernel_rfl) rfl (r_move rfl) rfl ?_
        refine a_off (i := 20) hok rfl rfl rfl rfl rfl (by kernel_rfl) rfl rfl ?_
        refine a_off (i := 21) hok rfl rfl rfl rfl rfl (by kernel_rfl) rfl rfl ?_
        refine a_off (i := 22) hok rfl rfl rfl rfl rfl (by kernel_rfl) rfl rfl ?_
        refine a_off (i := 23) hok rfl rfl rfl rfl rfl (by kernel_rfl) rfl rfl ?_
        refine a_off (i := 24) hok rfl rfl rfl rfl rfl (by kernel_rfl) rfl rfl ?_
        refine a_next hok 25 [] (by kernel_rfl) ?_ trivial
        refine a_stOff (i := 25) hok rfl rfl rfl rfl rfl rfl (by intro _ h; cases h; rfl) ⟨trivial, ⟨trivial, ⟨trivial, ⟨trivial, ⟨trivial, ⟨trivial, ⟨trivial, ⟨trivial, ⟨trivial, ⟨trivial, ⟨trivial, ⟨trivial, ⟨⟨⟨rfl, rfl⟩, trivial⟩, ⟨trivial, ⟨trivial, ⟨trivial, ⟨⟨⟨rfl, rfl⟩, trivial⟩, ⟨⟨⟨rfl, rfl⟩, trivial⟩, ⟨trivial, ⟨trivial, ⟨trivial, ⟨⟨⟨rfl, rfl⟩, trivial⟩, trivial⟩⟩⟩⟩⟩⟩⟩⟩⟩⟩⟩⟩⟩⟩⟩⟩⟩⟩⟩⟩⟩⟩ ?_
        refine a_rd (i := 26) hok rfl (by kernel_rfl) rfl (r_pickT rfl rfl) rfl ?_
        refine a_fin hok (by kernel_rfl) ?_
        refine n_then ?_
        refine ref_condT rfl rfl ?_
        refine ref_seq (ref_region ?_)
        refine as1 rfl rfl ?_
        refine l_nil (n_then (ref_ret (r_block (r_then ?_))))
        refine retX ?_
        refine r_block (r_then ?_)
        exact fin1 (.inl rfl) () [] rfl trivial rfl (rv_tmp rfl)
      refine a_rdOn (i := 14) hok rfl rfl rfl rfl (by kernel_rfl) rfl (r_cloadS Try.isAgg34 Try.sizeOf34 rfl (j := 0) rfl rfl rfl) rfl ?_
      refine a_rdOn (i := 15) hok rfl rfl rfl rfl (by kernel_rfl) rfl (r_move rfl) rfl ?_
      refine a_rdOn (i := 16) hok rfl rfl rfl rfl (by kernel_rfl) rfl (r_cloadS Try.isAgg43 Try.sizeOf43 rfl (j := 2) rfl rfl rfl) rfl ?_
      refine pull fun t101 h_t101 => ?_
      refine a_next hok 17 [] (by kernel_rfl) ?_ trivial
      refine a_stOn (i := 17) hok rfl rfl rfl rfl rfl (s_callB (ψ := fun (_ : Unit) => bv t101) (args := [.tmp 71, .tmp 72, .const (.int .i64 (-1)), .const (.int .i64 (0)), .tmp 73]) Try.call24 rfl (lift_Less_ok h_t101) ⟨argB rfl, argO rfl (j := 1) rfl, argB rfl, argB rfl, argB rfl, trivial⟩ (fun _ _ _ _ _ h => h)) (by intro _ h; cases h; rfl) (fun _ => ⟨trivial, ⟨trivial, ⟨trivial, ⟨trivial, ⟨trivial, ⟨⟨⟨rfl, rfl⟩, trivial⟩, ⟨trivial, ⟨trivial, ⟨trivial, ⟨⟨⟨rfl, rfl⟩, trivial⟩, ⟨⟨⟨rfl, rfl⟩, trivial⟩, ⟨trivial, ⟨trivial, ⟨trivial, ⟨⟨⟨rfl, rfl⟩, trivial⟩, trivial⟩⟩⟩⟩⟩⟩⟩⟩⟩⟩⟩⟩⟩⟩⟩) (fun _ => ?_)
      refine a_rd (i := 18) hok rfl (by kernel_rfl) rfl (r_pickF rfl rfl) rfl ?_
      refine a_rd (i := 19) hok rfl (by kernel_rfl) rfl (r_move rfl) rfl ?_
      refine b_split (t := 76) rfl (fun _ => ?_) (fun _ => ?_)
      · refine a_off (i := 20) hok rfl rfl rfl rfl rfl (by kernel_rfl) rfl rfl ?_
        refine a_off (i := 21) hok rfl rfl rfl rfl rfl (by kernel_rfl) rfl rfl ?_
        refine a_off (i := 22) hok rfl rfl rfl rfl rfl (by kernel_rfl) rfl rfl ?_
        refine a_off (i := 23) hok rfl rfl rfl rfl rfl (by kernel_rfl) rfl rfl ?_
        refine a_off (i := 24) hok rfl rfl rfl rfl rfl (by kernel_rfl) rfl rfl ?_
        refine a_next hok 25 [] (by kernel_rfl) ?_ trivial
        refine a_stOff (i := 25) hok rfl rfl rfl rfl rfl rfl (by intro _ h; cases h; rfl) ⟨trivial, ⟨trivial, ⟨trivial, ⟨trivial, ⟨trivial, ⟨trivial, ⟨trivial, ⟨⟨⟨rfl, rfl⟩, trivial⟩, ⟨trivial, ⟨⟨⟨rfl, rfl⟩, trivial⟩, ⟨trivial, ⟨trivial, ⟨⟨⟨rfl, rfl⟩, trivial⟩, ⟨trivial, ⟨trivial, ⟨trivial, ⟨⟨⟨rfl, rfl⟩, trivial⟩, ⟨⟨⟨rfl, rfl⟩, trivial⟩, ⟨trivial, ⟨trivial, ⟨trivial, ⟨⟨⟨rfl, rfl⟩, trivial⟩, trivial⟩⟩⟩⟩⟩⟩⟩⟩⟩⟩⟩⟩⟩⟩⟩⟩⟩⟩⟩⟩⟩⟩ ?_
        refine a_rd (i := 26) hok rfl (by kernel_rfl) rfl (r_pickT rfl rfl) rfl ?_
        refine a_fin hok (by kernel_rfl) ?_
        refine n_then ?_
        refine ref_condT rfl rfl ?_
        refine ref_seq (ref_region ?_)
        refine as1 rfl rfl ?_
        refine l_nil (n_then (ref_ret (r_block (r_then ?_))))
        refine retX ?_
        refine r_block (r_then ?_)
        exact fin1 (.inl rfl) () [] rfl trivial rfl (rv_tmp rfl)
      refine a_rdOn (i := 20) hok rfl rfl rfl rfl (by kernel_rfl) rfl (r_cloadS Try.isAgg34 Try.sizeOf34 rfl (j := 0) rfl rfl rfl) rfl ?_
      refine a_rdOn (i := 21) hok rfl rfl rfl rfl (by kernel_rfl) rfl (r_move rfl) rfl ?_
      refine a_rdOn (i := 22) hok rfl rfl rfl rfl (by kernel_rfl) rfl (r_move rfl) rfl ?_
      refine a_rdOn (i := 23) hok rfl rfl rfl rfl (by kernel_rfl) rfl (r_olen Try.underlying35 rfl (j := 1) rfl) rfl ?_
      refine a_rdOn (i := 24) hok rfl rfl rfl rfl (by kernel_rfl) rfl (r_cloadS Try.isAgg43 Try.sizeOf43 rfl (j := 2) rfl rfl rfl) rfl ?_
      refine pull fun t102 h_t102 => ?_
      refine a_next hok 25 [] (by kernel_rfl) ?_ trivial
      refine a_stOn (i := 25) hok rfl rfl rfl rfl rfl (s_callB (ψ := fun (_ : Unit) => bv t102) (args := [.tmp 77, .tmp 78, .const (.int .i64 (0)), .tmp 80, .tmp 81]) Try.call24 rfl (lift_Less_ok h_t102) ⟨argB rfl, argO rfl (j := 1) rfl, argB rfl, argB rfl, argB rfl, trivial⟩ (fun _ _ _ _ _ h => h)) (by intro _ h; cases h; rfl) (fun _ => ⟨trivial, ⟨trivial, ⟨trivial, ⟨trivial, ⟨trivial, ⟨trivial, ⟨trivial, ⟨⟨⟨rfl, rfl⟩, trivial⟩, ⟨trivial, ⟨⟨⟨rfl, rfl⟩, trivial⟩, ⟨trivial, ⟨trivial, ⟨⟨⟨rfl, rfl⟩, trivial⟩, ⟨trivial, ⟨trivial, ⟨trivial, ⟨⟨⟨rfl, rfl⟩, trivial⟩, ⟨⟨⟨rfl, rfl⟩, trivial⟩, ⟨trivial, ⟨trivial, ⟨trivial, ⟨⟨⟨rfl, rfl⟩, trivial⟩, trivial⟩⟩⟩⟩⟩⟩⟩⟩⟩⟩⟩⟩⟩⟩⟩⟩⟩⟩⟩⟩⟩⟩) (fun _ => ?_)
      refine a_rd (i := 26) hok rfl (by kernel_rfl) rfl (r_pickF rfl rfl) rfl ?_
      refine a_fin hok (by kernel_rfl) ?_
      refine b_of (nrm [oc b6 [slv rT_api_Premise t4.1.Premises, slv rT_api_Rule t4.1.Rules, slv rT_api_Promotion t4.1.Promotions], oa rT_api_Argument x5.1 x5.2 t4.2.1, oc b62 [iv .i64 t61.Link, iv .i64 t61.Lift], oa rT_api_Ordering (χ7 3).V.1 (χ7 3).V.2 t10] rfl) ?_
      refine n_then ?_
      refine ref_cond rfl (fun hb103 => ?_) (fun hb103 => ?_)
      · refine ref_seq (ref_region ?_)
        refine as1 rfl rfl ?_
        refine l_nil (n_then (ref_ret (r_block (r_then ?_))))
        refine retX ?_
        refine r_block (r_then ?_)
        exact fin1 (.inl rfl) () [] rfl trivial rfl (rv_tmp rfl)
      refine ref_skip (n_block (n_then (ref_region ?_)))
      refine s_rd (r_add rfl rfl) rfl ?_
      refine mv1 rfl rfl ?_
      refine l_nil ?_
      exact goX () (weak [0, 1, 3] ⟨rfl, rfl, rfl, rfl, rfl, rfl, rfl, trivial⟩ ⟨rfl, rfl, rfl, trivial⟩)
    refine ref_exit (x_then ?_)
    exact brkX () (weak [] trivial trivial)
  refine n_then (ref_seq (ref_region ?_))
  refine pull fun t106 h_t106 => ?_
  refine s_st (s_call (ψ := fun (_ : Unit) => bv t106) (args := []) Try.call12 rfl (law08_awake_ok h_t106) trivial (fun _ _ _ _ h => h)) rfl (fun _ => ?_)
  refine as1 rfl rfl ?_
  refine l_nil (n_then (ref_ret ?_))
  exact fin1 (.inl rfl) () [] rfl trivial rfl (rv_tmp rfl)

end Go.Dc
