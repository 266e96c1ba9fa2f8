/- Part LAW08R.A2 of a proof: lemmas. -/
import Derived.Test.YtofcoilhjmkejaaLAW08RA1
import Derived.Test.YtofcoilhjmkejaaProg
set_option linter.unusedVariables false
set_option maxRecDepth 100000
set_option maxHeartbeats 4000000
namespace Go.Dc
open Go.Proofs
open Go.Proofs.Try (prog)

/-! deliberation/lift.Less$1 -/
noncomputable def lift_Less_1_m (p_1 : T_api_Base) (p_2 : (List T_api_Argument)) (p_3 : Int) (p_4 : Int) (p_5 : T_api_Ordering) : Option (Bool) :=
  Option.bind (lift_LastRanks_m p_1 p_2 p_3) fun t1 =>
  Option.bind (lift_LastRanks_m p_1 p_2 p_4) fun t3 =>
  Option.bind (lift_SetLess_m t1 t3 p_5.Lift) fun t5 =>
  some t5

theorem lift_Less_1_ok {p_1 : T_api_Base} {p_2 : (List T_api_Argument)} {p_3 : Int} {p_4 : Int} {p_5 : T_api_Ordering} {b_1 : Nat} {b_2 : Nat} {b_3 : Nat} {b_4 : Nat} {b_5 : Nat} {r : Bool} (hm : lift_Less_1_m p_1 p_2 p_3 p_4 p_5 = some r) :
    FnOk prog 42 [pv (.func (.func 19) #[] #[]), pv (ptr b_1 0), pv (ptr b_2 0), pv (ptr b_3 0), pv (ptr b_4 0), pv (ptr b_5 0)] [oc b_1 [slv rT_api_Premise p_1.Premises, slv rT_api_Rule p_1.Rules, slv rT_api_Promotion p_1.Promotions], oc b_2 [slv rT_api_Argument p_2], oc b_3 [iv .i64 p_3], oc b_4 [iv .i64 p_4], oc b_5 [iv .i64 p_5.Link, iv .i64 p_5.Lift]] (fun (x : Unit) => [bv r]) (fun (x : Unit) => [oc b_1 [slv rT_api_Premise p_1.Premises, slv rT_api_Rule p_1.Rules, slv rT_api_Promotion p_1.Promotions], oc b_2 [slv rT_api_Argument p_2], oc b_3 [iv .i64 p_3], oc b_4 [iv .i64 p_4], oc b_5 [iv .i64 p_5.Link, iv .i64 p_5.Lift]]) := by
  refine fn_ok (fn := Try.f42) (N := 21) (res := fun r x => [bv r]) (Ω1 := fun r x => [oc b_1 [slv rT_api_Premise p_1.Premises, slv rT_api_Rule p_1.Rules, slv rT_api_Promotion p_1.Promotions], oc b_2 [slv rT_api_Argument p_2], oc b_3 [iv .i64 p_3], oc b_4 [iv .i64 p_4], oc b_5 [iv .i64 p_5.Link, iv .i64 p_5.Lift]]) Try.func42 rfl rfl hm rfl (fun E hM => ?_)
  unfold lift_Less_1_m
  refine ref_seq (ref_region ?_)
  refine as1 rfl rfl ?_
  refine l_nil (n_then (ref_seq ?_))
  refine ref_draw [0, 1, 2, 3, 5, 6, 7, 8, 10, 11] rfl (by kernel_rfl) (fun hok => ?_)
  refine a_rd (i := 0) hok rfl (by kernel_rfl) rfl (r_move rfl) rfl ?_
  refine a_rd (i := 1) hok rfl (by kernel_rfl) rfl (r_cloadS Try.isAgg34 Try.sizeOf34 rfl (j := 0) rfl rfl rfl) rfl ?_
  refine a_rd (i := 2) hok rfl (by kernel_rfl) rfl (r_cload Try.isAgg35 rfl (j := 1) rfl rfl) rfl ?_
  refine a_rd (i := 3) hok rfl (by kernel_rfl) rfl (r_cload Try.isAgg3 rfl (j := 2) rfl rfl) rfl ?_
  refine a_rd (i := 5) hok rfl (by kernel_rfl) rfl (r_move rfl) rfl ?_
  refine a_rd (i := 6) hok rfl (by kernel_rfl) rfl (r_cloadS Try.isAgg34 Try.sizeOf34 rfl (j := 0) rfl rfl rfl) rfl ?_
  refine a_rd (i := 7) hok rfl (by kernel_rfl) rfl (r_cload Try.isAgg35 rfl (j := 1) rfl rfl) rfl ?_
  refine a_rd (i := 8) hok rfl (by kernel_rfl) rfl (r_cload Try.isAgg3 rfl (j := 3) rfl rfl) rfl ?_
  refine a_rd (i := 10) hok rfl (by kernel_rfl) rfl (r_faddr (fo := 1) Try.underlying43 rfl rfl Try.sizeOf3 rfl) rfl ?_
  refine a_rd (i := 11) hok rfl (by kernel_rfl) rfl (r_cload Try.isAgg3 rfl (j := 4) rfl rfl) rfl ?_
  refine pull fun t1 h_t1 => ?_
  refine a_next hok 4 [] (by kernel_rfl) ?_ trivial
  refine a_st (i := 4) hok rfl rfl (s_call (ψ := fun (x2 : (Value × List Nat)) => pv x2.1) (args := [.tmp 9, .tmp 10, .tmp 11]) Try.call19 rfl (lift_LastRanks_ok h_t1) ⟨arg rfl, arg rfl, arg rfl, trivial⟩ (fun _ _ _ _ h => h)) (by intro _ h; cases h; rfl) (fun _ => ⟨⟨⟨rfl, rfl⟩, trivial⟩, ⟨trivial, ⟨⟨⟨rfl, rfl⟩, trivial⟩, ⟨⟨⟨rfl, rfl⟩, trivial⟩, ⟨⟨⟨rfl, rfl⟩, trivial⟩, ⟨trivial, ⟨trivial, ⟨trivial, ⟨trivial, ⟨trivial, trivial⟩⟩⟩⟩⟩⟩⟩⟩⟩⟩) (fun x2 => ?_)
  refine pull fun t3 h_t3 => ?_
  refine a_next hok 9 [] (by kernel_rfl) ?_ trivial
  refine a_st (i := 9) hok rfl rfl (s_call (ψ := fun (x4 : (Value × List Nat)) => pv x4.1) (args := [.tmp 14, .tmp 15, .tmp 16]) Try.call19 rfl (lift_LastRanks_ok h_t3) ⟨arg rfl, arg rfl, arg rfl, trivial⟩ (fun _ _ _ _ h => h)) (by intro _ h; cases h; rfl) (fun _ => ⟨⟨⟨rfl, rfl⟩, trivial⟩, ⟨trivial, ⟨trivial, ⟨trivial, ⟨trivial, ⟨trivial, ⟨⟨⟨rfl, rfl⟩, trivial⟩, ⟨⟨⟨rfl, rfl⟩, trivial⟩, ⟨⟨⟨rfl, rfl⟩, trivial⟩, ⟨trivial, trivial⟩⟩⟩⟩⟩⟩⟩⟩⟩⟩) (fun x4 => ?_)
  refine pull fun t5 h_t5 => ?_
  refine a_next hok 12 [] (by kernel_rfl) ?_ trivial
  refine a_st (i := 12) hok rfl rfl (s_callB (ψ := fun (_ : Unit) => bv t5) (args := [.tmp 12, .tmp 17, .tmp 19]) Try.call10 rfl (lift_SetLess_ok h_t5) ⟨argO rfl (j := 5) rfl, argO rfl (j := 6) rfl, argB rfl, trivial⟩ (fun _ _ _ _ _ h => h)) (by intro _ h; cases h; rfl) (fun _ => ⟨trivial, ⟨trivial, ⟨⟨⟨rfl, rfl⟩, trivial⟩, ⟨⟨⟨rfl, rfl⟩, trivial⟩, ⟨⟨⟨rfl, rfl⟩, trivial⟩, ⟨trivial, ⟨⟨⟨rfl, rfl⟩, trivial⟩, ⟨⟨⟨rfl, rfl⟩, trivial⟩, ⟨⟨⟨rfl, rfl⟩, trivial⟩, ⟨trivial, trivial⟩⟩⟩⟩⟩⟩⟩⟩⟩⟩) (fun _ => ?_)
  refine a_next hok 13 [] (by kernel_rfl) ?_ trivial
  refine a_st (i := 13) hok rfl rfl (St.ofRd (r_assign rfl)) (by intro _ h; cases h; rfl) (fun _ => ⟨trivial, ⟨trivial, ⟨trivial, ⟨trivial, ⟨trivial, ⟨trivial, ⟨trivial, ⟨trivial, ⟨trivial, ⟨trivial, trivial⟩⟩⟩⟩⟩⟩⟩⟩⟩⟩) (fun _ => ?_)
  refine a_fin hok (by kernel_rfl) ?_
  refine b_of (nrm [oc b_1 [slv rT_api_Premise p_1.Premises, slv rT_api_Rule p_1.Rules, slv rT_api_Promotion p_1.Promotions], oc b_2 [slv rT_api_Argument p_2], oc b_3 [iv .i64 p_3], oc b_4 [iv .i64 p_4], oc b_5 [iv .i64 p_5.Link, iv .i64 p_5.Lift], oa (rI .i64) x2.1 x2.2 t1, oa (rI .i64) x4.1 x4.2 t3] rfl) ?_
  refine n_then (ref_ret ?_)
  exact fin1 (.inl rfl) () [0, 1, 2, 3, 4] rfl ⟨rfl, rfl, rfl, rfl, rfl, trivial⟩ rfl (rv_tmp rfl)

/-! deliberation/lift.Less$2 -/
noncomputable def lift_Less_2_m (p_1 : T_api_Base) (p_2 : (List T_api_Argument)) (p_3 : Int) (p_4 : Int) : Option (Bool) :=
  Option.bind (lift_LastRanks_m p_1 p_2 p_3) fun t1 =>
  bif (t1.length : Int) == 0 then
    Option.bind (lift_LastRanks_m p_1 p_2 p_4) fun t3 =>
    letM ((t3.length : Int) == 0) fun t5 =>
    some t5
  else
    some false

theorem lift_Less_2_ok {p_1 : T_api_Base} {p_2 : (List T_api_Argument)} {p_3 : Int} {p_4 : Int} {b_1 : Nat} {b_2 : Nat} {b_3 : Nat} {b_4 : Nat} {r : Bool} (hm : lift_Less_2_m p_1 p_2 p_3 p_4 = some r) :
    FnOk prog 43 [pv (.func (.func 19) #[] #[]), pv (ptr b_1 0), pv (ptr b_2 0), pv (ptr b_3 0), pv (ptr b_4 0)] [oc b_1 [slv rT_api_Premise p_1.Premises, slv rT_api_Rule p_1.Rules, slv rT_api_Promotion p_1.Promotions], oc b_2 [slv rT_api_Argument p_2], oc b_3 [iv .i64 p_3], oc b_4 [iv .i64 p_4]] (fun (x : Unit) => [bv r]) (fun (x : Unit) => [oc b_1 [slv rT_api_Premise p_1.Premises, slv rT_api_Rule p_1.Rules, slv rT_api_Promotion p_1.Promotions], oc b_2 [slv rT_api_Argument p_2], oc b_3 [iv .i64 p_3], oc b_4 [iv .i64 p_4]]) := by
  refine fn_ok (fn := Try.f43) (N := 23) (res := fun r x => [bv r]) (Ω1 := fun r x => [oc b_1 [slv rT_api_Premise p_1.Premises, slv rT_api_Rule p_1.Rules, slv rT_api_Promotion p_1.Promotions], oc b_2 [slv rT_api_Argument p_2], oc b_3 [iv .i64 p_3], oc b_4 [iv .i64 p_4]]) Try.func43 rfl rfl hm rfl (fun E hM => ?_)
  unfold lift_Less_2_m
  refine ref_seq (ref_region ?_)
  refine as1 rfl rfl ?_
  refine l_nil (n_then (ref_seq (ref_region ?_)))
  refine mv1 rfl rfl ?_
  refine s_rd (r_cloadS Try.isAgg34 Try.sizeOf34 rfl (j := 0) rfl rfl rfl) rfl ?_
  refine s_rd (r_cload Try.isAgg35 rfl (j := 1) rfl rfl) rfl ?_
  refine s_rd (r_cload Try.isAgg3 rfl (j := 2) rfl rfl) rfl ?_
  refine pull fun t1 h_t1 => ?_
  refine s_st (s_call (ψ := fun (x2 : (Value × List Nat)) => pv x2.1) (args := [.tmp 8, .tmp 9, .tmp 10]) Try.call19 rfl (lift_LastRanks_ok h_t1) ⟨arg rfl, arg rfl, arg rfl, trivial⟩ (fun _ _ _ _ h => h)) rfl (fun x2 => ?_)
  refine s_rd (r_olen Try.underlying22 rfl (j := 4) rfl) rfl ?_
  refine s_rd (r_eql rfl rfl) rfl ?_
  refine mv1 rfl rfl ?_
  refine b_split (t := 14) rfl (fun _ => ?_) (fun _ => ?_)
  · refine s_on rfl rfl rfl ?_
    refine mv1 rfl rfl ?_
    refine s_on rfl rfl rfl ?_
    refine s_rd (r_cloadS Try.isAgg34 Try.sizeOf34 rfl (j := 0) rfl rfl rfl) rfl ?_
    refine s_on rfl rfl rfl ?_
    refine s_rd (r_cload Try.isAgg35 rfl (j := 1) rfl rfl) rfl ?_
    refine s_on rfl rfl rfl ?_
    refine s_rd (r_cload Try.isAgg3 rfl (j := 3) rfl rfl) rfl ?_
    refine s_on rfl rfl rfl ?_
    refine pull fun t3 h_t3 => ?_
    refine s_st (s_call (ψ := fun (x4 : (Value × List Nat)) => pv x4.1) (args := [.tmp 16, .tmp 17, .tmp 18]) Try.call19 rfl (lift_LastRanks_ok h_t3) ⟨arg rfl, arg rfl, arg rfl, trivial⟩ (fun _ _ _ _ h => h)) rfl (fun x4 => ?_)
    refine s_on rfl rfl rfl ?_
    refine s_rd (r_olen Try.underlying22 rfl (j := 5) rfl) rfl ?_
    refine s_on rfl rfl rfl ?_
    refine s_rd (r_eql rfl rfl) rfl ?_
    refine s_rd (r_pickT rfl rfl) rfl ?_
    refine as1 rfl rfl ?_
    refine b_let (f := bv) (t := 6) rfl fun t5 => ?_
    refine l_nil (n_then (ref_ret ?_))
    exact fin1 (.inl rfl) () [0, 1, 2, 3] rfl ⟨rfl, rfl, rfl, rfl, trivial⟩ rfl (rv_tmp rfl)
  refine s_off rfl rfl rfl rfl rfl ?_
  refine s_off rfl rfl rfl rfl rfl ?_
  refine s_off rfl rfl rfl rfl rfl ?_
  refine s_off rfl rfl rfl rfl rfl ?_
  refine s_off rfl rfl rfl rfl rfl ?_
  refine s_off rfl rfl rfl rfl rfl ?_
  refine s_off rfl rfl rfl rfl rfl ?_
  refine s_rd (r_pickF rfl rfl) rfl ?_
  refine as1 rfl rfl ?_
  refine l_nil (n_then (ref_ret ?_))
  exact fin1 (.inl rfl) () [0, 1, 2, 3] rfl ⟨rfl, rfl, rfl, rfl, trivial⟩ rfl (rv_tmp rfl)

/-! deliberation/lift.Less$1 -/
noncomputable def lift_Less_1_1_m (p_1 : T_api_Base) (p_2 : (List T_api_Argument)) (p_3 : Int) (p_4 : Int) (p_5 : T_api_Ordering) : Option (Bool) :=
  Option.bind (lift_PremiseRanks_m p_1 p_2 p_3) fun t1 =>
  Option.bind (lift_PremiseRanks_m p_1 p_2 p_4) fun t3 =>
  Option.bind (lift_SetLess_m t1 t3 p_5.Lift) fun t5 =>
  some t5

theorem lift_Less_1_1_ok {p_1 : T_api_Base} {p_2 : (List T_api_Argument)} {p_3 : Int} {p_4 : Int} {p_5 : T_api_Ordering} {b_1 : Nat} {b_2 : Nat} {b_3 : Nat} {b_4 : Nat} {b_5 : Nat} {r : Bool} (hm : lift_Less_1_1_m p_1 p_2 p_3 p_4 p_5 = some r) :
    FnOk prog 42 [pv (.func (.func 15) #[] #[]), pv (ptr b_1 0), pv (ptr b_2 0), pv (ptr b_3 0), pv (ptr b_4 0), pv (ptr b_5 0)] [oc b_1 [slv rT_api_Premise p_1.Premises, slv rT_api_Rule p_1.Rules, slv rT_api_Promotion p_1.Promotions], oc b_2 [slv rT_api_Argument p_2], oc b_3 [iv .i64 p_3], oc b_4 [iv .i64 p_4], oc b_5 [iv .i64 p_5.Link, iv .i64 p_5.Lift]] (fun (x : Unit) => [bv r]) (fun (x : Unit) => [oc b_1 [slv rT_api_Premise p_1.Premises, slv rT_api_Rule p_1.Rules, slv rT_api_Promotion p_1.Promotions], oc b_2 [slv rT_api_Argument p_2], oc b_3 [iv .i64 p_3], oc b_4 [iv .i64 p_4], oc b_5 [iv .i64 p_5.Link, iv .i64 p_5.Lift]]) := by
  refine fn_ok (fn := Try.f42) (N := 21) (res := fun r x => [bv r]) (Ω1 := fun r x => [oc b_1 [slv rT_api_Premise p_1.Premises, slv rT_api_Rule p_1.Rules, slv rT_api_Promotion p_1.Promotions], oc b_2 [slv rT_api_Argument p_2], oc b_3 [iv .i64 p_3], oc b_4 [iv .i64 p_4], oc b_5 [iv .i64 p_5.Link, iv .i64 p_5.Lift]]) Try.func42 rfl rfl hm rfl (fun E hM => ?_)
  unfold lift_Less_1_1_m
  refine ref_seq (ref_region ?_)
  refine as1 rfl rfl ?_
  refine l_nil (n_then (ref_seq ?_))
  refine ref_draw [0, 1, 2, 3, 5, 6, 7, 8, 10, 11] rfl (by kernel_rfl) (fun hok => ?_)
  refine a_rd (i := 0) hok rfl (by kernel_rfl) rfl (r_move rfl) rfl ?_
  refine a_rd (i := 1) hok rfl (by kernel_rfl) rfl (r_cloadS Try.isAgg34 Try.sizeOf34 rfl (j := 0) rfl rfl rfl) rfl ?_
  refine a_rd (i := 2) hok rfl (by kernel_rfl) rfl (r_cload Try.isAgg35 rfl (j := 1) rfl rfl) rfl ?_
  refine a_rd (i := 3) hok rfl (by kernel_rfl) rfl (r_cload Try.isAgg3 rfl (j := 2) rfl rfl) rfl ?_
  refine a_rd (i := 5) hok rfl (by kernel_rfl) rfl (r_move rfl) rfl ?_
  refine a_rd (i := 6) hok rfl (by kernel_rfl) rfl (r_cloadS Try.isAgg34 Try.sizeOf34 rfl (j := 0) rfl rfl rfl) rfl ?_
  refine a_rd (i := 7) hok rfl (by kernel_rfl) rfl (r_cload Try.isAgg35 rfl (j := 1) rfl rfl) rfl ?_
  refine a_rd (i := 8) hok rfl (by kernel_rfl) rfl (r_cload Try.isAgg3 rfl (j := 3) rfl rfl) rfl ?_
  refine a_rd (i := 10) hok rfl (by kernel_rfl) rfl (r_faddr (fo := 1) Try.underlying43 rfl rfl Try.sizeOf3 rfl) rfl ?_
  refine a_rd (i := 11) hok rfl (by kernel_rfl) rfl (r_cload Try.isAgg3 rfl (j := 4) rfl rfl) rfl ?_
  refine pull fun t1 h_t1 => ?_
  refine a_next hok 4 [] (by kernel_rfl) ?_ trivial
  refine a_st (i := 4) hok rfl rfl (s_call (ψ := fun (x2 : (Value × List Nat)) => pv x2.1) (args := [.tmp 9, .tmp 10, .tmp 11]) Try.call15 rfl (lift_PremiseRanks_ok h_t1) ⟨arg rfl, arg rfl, arg rfl, trivial⟩ (fun _ _ _ _ h => h)) (by intro _ h; cases h; rfl) (fun _ => ⟨⟨⟨rfl, rfl⟩, trivial⟩, ⟨trivial, ⟨⟨⟨rfl, rfl⟩, trivial⟩, ⟨⟨⟨rfl, rfl⟩, trivial⟩, ⟨⟨⟨rfl, rfl⟩, trivial⟩, ⟨trivial, ⟨trivial, ⟨trivial, ⟨trivial, ⟨trivial, trivial⟩⟩⟩⟩⟩⟩⟩⟩⟩⟩) (fun x2 => ?_)
  refine pull fun t3 h_t3 => ?_
  refine a_next hok 9 [] (by kernel_rfl) ?_ trivial
  refine a_st (i := 9) hok rfl rfl (s_call (ψ := fun (x4 : (Value × List Nat)) => pv x4.1) (args := [.tmp 14, .tmp 15, .tmp 16]) Try.call15 rfl (lift_PremiseRanks_ok h_t3) ⟨arg rfl, arg rfl, arg rfl, trivial⟩ (fun _ _ _ _ h => h)) (by intro _ h; cases h; rfl) (fun _ => ⟨⟨⟨rfl, rfl⟩, trivial⟩, ⟨trivial, ⟨trivial, ⟨trivial, ⟨trivial, ⟨trivial, ⟨⟨⟨rfl, rfl⟩, trivial⟩, ⟨⟨⟨rfl, rfl⟩, trivial⟩, ⟨⟨⟨rfl, rfl⟩, trivial⟩, ⟨trivial, trivial⟩⟩⟩⟩⟩⟩⟩⟩⟩⟩) (fun x4 => ?_)
  refine pull fun t5 h_t5 => ?_
  refine a_next hok 12 [] (by kernel_rfl) ?_ trivial
  refine a_st (i := 12) hok rfl rfl (s_callB (ψ := fun (_ : Unit) => bv t5) (args := [.tmp 12, .tmp 17, .tmp 19]) Try.call10 rfl (lift_SetLess_ok h_t5) ⟨argO rfl (j := 5) rfl, argO rfl (j := 6) rfl, argB rfl, trivial⟩ (fun _ _ _ _ _ h => h)) (by intro _ h; cases h; rfl) (fun _ => ⟨trivial, ⟨trivial, ⟨⟨⟨rfl, rfl⟩, trivial⟩, ⟨⟨⟨rfl, rfl⟩, trivial⟩, ⟨⟨⟨rfl, rfl⟩, trivial⟩, ⟨trivial, ⟨⟨⟨rfl, rfl⟩, trivial⟩, ⟨⟨⟨rfl, rfl⟩, trivial⟩, ⟨⟨⟨rfl, rfl⟩, trivial⟩, ⟨trivial, trivial⟩⟩⟩⟩⟩⟩⟩⟩⟩⟩) (fun _ => ?_)
  refine a_next hok 13 [] (by kernel_rfl) ?_ trivial
  refine a_st (i := 13) hok rfl rfl (St.ofRd (r_assign rfl)) (by intro _ h; cases h; rfl) (fun _ => ⟨trivial, ⟨trivial, ⟨trivial, ⟨trivial, ⟨trivial, ⟨trivial, ⟨trivial, ⟨trivial, ⟨trivial, ⟨trivial, trivial⟩⟩⟩⟩⟩⟩⟩⟩⟩⟩) (fun _ => ?_)
  refine a_fin hok (by kernel_rfl) ?_
  refine b_of (nrm [oc b_1 [slv rT_api_Premise p_1.Premises, slv rT_api_Rule p_1.Rules, slv rT_api_Promotion p_1.Promotions], oc b_2 [slv rT_api_Argument p_2], oc b_3 [iv .i64 p_3], oc b_4 [iv .i64 p_4], oc b_5 [iv .i64 p_5.Link, iv .i64 p_5.Lift], oa (rI .i64) x2.1 x2.2 t1, oa (rI .i64) x4.1 x4.2 t3] rfl) ?_
  refine n_then (ref_ret ?_)
  exact fin1 (.inl rfl) () [0, 1, 2, 3, 4] rfl ⟨rfl, rfl, rfl, rfl, rfl, trivial⟩ rfl (rv_tmp rfl)

/-! deliberation/lift.Less$3 -/
noncomputable def lift_Less_3_m (e_1 : T_api_Base) (e_2 : (List T_api_Argument)) (e_3 : Int) (e_4 : Int) (e_5 : T_api_Ordering) : Option (Bool) :=
  Option.bind (lift_Less_1_m e_1 e_2 e_3 e_4 e_5) fun t1 =>
  bif t1 then
    some true
  else
    Option.bind (lift_Less_2_m e_1 e_2 e_3 e_4) fun t2 =>
    bif t2 then
      Option.bind (lift_Less_1_1_m e_1 e_2 e_3 e_4 e_5) fun t3 =>
      some t3
    else
      some false

theorem lift_Less_3_ok {e_1 : T_api_Base} {e_2 : (List T_api_Argument)} {e_3 : Int} {e_4 : Int} {e_5 : T_api_Ordering} {b_0 : Nat} {be_1 : Nat} {be_2 : Nat} {be_3 : Nat} {be_4 : Nat} {be_5 : Nat} {b_1 : Nat} {r : Bool} (hm : lift_Less_3_m e_1 e_2 e_3 e_4 e_5 = some r) :
    FnOk prog 44 [pv (ptr b_0 0), pv (ptr b_1 0)] [oc b_0 [pv (.func (.func 42) #[] #[(ptr be_1 0), (ptr be_2 0), (ptr be_3 0), (ptr be_4 0), (ptr be_5 0)])], oc be_1 [slv rT_api_Premise e_1.Premises, slv rT_api_Rule e_1.Rules, slv rT_api_Promotion e_1.Promotions], oc be_2 [slv rT_api_Argument e_2], oc be_3 [iv .i64 e_3], oc be_4 [iv .i64 e_4], oc be_5 [iv .i64 e_5.Link, iv .i64 e_5.Lift], oc b_1 [pv (.func (.func 43) #[] #[(ptr be_1 0), (ptr be_2 0), (ptr be_3 0), (ptr be_4 0)])]] (fun (x : Unit) => [bv r]) (fun (x : Unit) => [oc b_0 [pv (.func (.func 42) #[] #[(ptr be_1 0), (ptr be_2 0), (ptr be_3 0), (ptr be_4 0), (ptr be_5 0)])], oc be_1 [slv rT_api_Premise e_1.Premises, slv rT_api_Rule e_1.Rules, slv rT_api_Promotion e_1.Promotions], oc be_2 [slv rT_api_Argument e_2], oc be_3 [iv .i64 e_3], oc be_4 [iv .i64 e_4], oc be_5 [iv .i64 e_5.Link, iv .i64 e_5.Lift], oc b_1 [pv (.func (.func 43) #[] #[(ptr be_1 0), (ptr be_2 0), (ptr be_3 0), (ptr be_4 0)])]]) := by
  refine fn_ok (fn := Try.f44) (N := 13) (res := fun r x => [bv r]) (Ω1 := fun r x => [oc b_0 [pv (.func (.func 42) #[] #[(ptr be_1 0), (ptr be_2 0), (ptr be_3 0), (ptr be_4 0), (ptr be_5 0)])], oc be_1 [slv rT_api_Premise e_1.Premises, slv rT_api_Rule e_1.Rules, slv rT_api_Promotion e_1.Promotions], oc be_2 [slv rT_api_Argument e_2], oc be_3 [iv .i64 e_3], oc be_4 [iv .i64 e_4], oc be_5 [iv .i64 e_5.Link, iv .i64 e_5.Lift], oc b_1 [pv (.func (.func 43) #[] #[(ptr be_1 0), (ptr be_2 0), (ptr be_3 0), (ptr be_4 0)])]]) Try.func44 rfl rfl hm rfl (fun E hM => ?_)
  unfold lift_Less_3_m
  refine ref_seq (ref_region ?_)
  refine as1 rfl rfl ?_
  refine l_nil (n_then (ref_seq (ref_region ?_)))
  refine s_rd (r_cload Try.isAgg73 rfl (j := 0) rfl rfl) rfl ?_
  refine pull fun t1 h_t1 => ?_
  refine s_st (s_callC [1, 2, 3, 4, 5] [true, true, true, true, true] (fun (_ : Unit) => [oc be_1 [slv rT_api_Premise e_1.Premises, slv rT_api_Rule e_1.Rules, slv rT_api_Promotion e_1.Promotions], oc be_2 [slv rT_api_Argument e_2], oc be_3 [iv .i64 e_3], oc be_4 [iv .i64 e_4], oc be_5 [iv .i64 e_5.Link, iv .i64 e_5.Lift]]) (fun (_ : Unit) => []) (fun (_ : Unit) => bv t1) (args := [.func 19]) (caps := [(ptr be_1 0), (ptr be_2 0), (ptr be_3 0), (ptr be_4 0), (ptr be_5 0)]) Try.call42 rfl (lift_Less_1_ok h_t1) ⟨rfl, rfl, ⟨rfl, rfl, ⟨rfl, rfl, ⟨rfl, rfl, ⟨rfl, rfl, trivial⟩⟩⟩⟩⟩ (fun _ => rfl) (fun _ => trivial) (fun _ => rfl) ⟨arg rfl, arg rfl, arg rfl, arg rfl, arg rfl, arg rfl, trivial⟩ (fun _ _ _ _ h => h)) rfl (fun _ => ?_)
  refine mv1 rfl rfl ?_
  refine b_split (t := 5) rfl (fun _ => ?_) (fun _ => ?_)
  · refine s_off rfl rfl rfl rfl rfl ?_
    refine s_off rfl rfl rfl rfl rfl ?_
    refine s_off rfl rfl rfl rfl rfl ?_
    refine s_offU rfl rfl rfl ?_
    refine s_offU rfl rfl rfl ?_
    refine s_off rfl rfl rfl rfl rfl ?_
    refine s_rd (r_pickT rfl rfl) rfl ?_
    refine as1 rfl rfl ?_
    refine l_nil ?_
    refine b_of (nrm [oc b_0 [pv (.func (.func 42) #[] #[(ptr be_1 0), (ptr be_2 0), (ptr be_3 0), (ptr be_4 0), (ptr be_5 0)])], oc be_1 [slv rT_api_Premise e_1.Premises, slv rT_api_Rule e_1.Rules, slv rT_api_Promotion e_1.Promotions], oc be_2 [slv rT_api_Argument e_2], oc be_3 [iv .i64 e_3], oc be_4 [iv .i64 e_4], oc be_5 [iv .i64 e_5.Link, iv .i64 e_5.Lift], oc b_1 [pv (.func (.func 43) #[] #[(ptr be_1 0), (ptr be_2 0), (ptr be_3 0), (ptr be_4 0)])]] rfl) ?_
    refine n_then (ref_ret ?_)
    exact fin1 (.inl rfl) () [0, 1, 2, 3, 4, 5, 6] rfl ⟨rfl, rfl, rfl, rfl, rfl, rfl, rfl, trivial⟩ rfl (rv_tmp rfl)
  refine s_on rfl rfl rfl ?_
  refine s_rd (r_cload Try.isAgg73 rfl (j := 6) rfl rfl) rfl ?_
  refine s_on rfl rfl rfl ?_
  refine pull fun t2 h_t2 => ?_
  refine s_st (s_callC [1, 2, 3, 4] [true, true, true, true] (fun (_ : Unit) => [oc be_1 [slv rT_api_Premise e_1.Premises, slv rT_api_Rule e_1.Rules, slv rT_api_Promotion e_1.Promotions], oc be_2 [slv rT_api_Argument e_2], oc be_3 [iv .i64 e_3], oc be_4 [iv .i64 e_4]]) (fun (_ : Unit) => []) (fun (_ : Unit) => bv t2) (args := [.func 19]) (caps := [(ptr be_1 0), (ptr be_2 0), (ptr be_3 0), (ptr be_4 0)]) Try.call43 rfl (lift_Less_2_ok h_t2) ⟨rfl, rfl, ⟨rfl, rfl, ⟨rfl, rfl, ⟨rfl, rfl, trivial⟩⟩⟩⟩ (fun _ => rfl) (fun _ => trivial) (fun _ => rfl) ⟨arg rfl, arg rfl, arg rfl, arg rfl, arg rfl, trivial⟩ (fun _ _ _ _ h => h)) rfl (fun _ => ?_)
  refine s_on rfl rfl rfl ?_
  refine mv1 rfl rfl ?_
  refine b_split (t := 8) rfl (fun _ => ?_) (fun _ => ?_)
  · refine s_on rfl rfl rfl ?_
    refine s_rd (r_cload Try.isAgg73 rfl (j := 0) rfl rfl) rfl ?_
    refine s_on rfl rfl rfl ?_
    refine pull fun t3 h_t3 => ?_
    refine s_st (s_callC [1, 2, 3, 4, 5] [true, true, true, true, true] (fun (_ : Unit) => [oc be_1 [slv rT_api_Premise e_1.Premises, slv rT_api_Rule e_1.Rules, slv rT_api_Promotion e_1.Promotions], oc be_2 [slv rT_api_Argument e_2], oc be_3 [iv .i64 e_3], oc be_4 [iv .i64 e_4], oc be_5 [iv .i64 e_5.Link, iv .i64 e_5.Lift]]) (fun (_ : Unit) => []) (fun (_ : Unit) => bv t3) (args := [.func 15]) (caps := [(ptr be_1 0), (ptr be_2 0), (ptr be_3 0), (ptr be_4 0), (ptr be_5 0)]) Try.call42 rfl (lift_Less_1_1_ok h_t3) ⟨rfl, rfl, ⟨rfl, rfl, ⟨rfl, rfl, ⟨rfl, rfl, ⟨rfl, rfl, trivial⟩⟩⟩⟩⟩ (fun _ => rfl) (fun _ => trivial) (fun _ => rfl) ⟨arg rfl, arg rfl, arg rfl, arg rfl, arg rfl, arg rfl, trivial⟩ (fun _ _ _ _ h => h)) rfl (fun _ => ?_)
    refine s_on rfl rfl rfl ?_
    refine s_rd (r_pickT rfl rfl) rfl ?_
    refine s_rd (r_pickF rfl rfl) rfl ?_
    refine as1 rfl rfl ?_
    refine l_nil ?_
    refine b_of (nrm [oc b_0 [pv (.func (.func 42) #[] #[(ptr be_1 0), (ptr be_2 0), (ptr be_3 0), (ptr be_4 0), (ptr be_5 0)])], oc be_1 [slv rT_api_Premise e_1.Premises, slv rT_api_Rule e_1.Rules, slv rT_api_Promotion e_1.Promotions], oc be_2 [slv rT_api_Argument e_2], oc be_3 [iv .i64 e_3], oc be_4 [iv .i64 e_4], oc be_5 [iv .i64 e_5.Link, iv .i64 e_5.Lift], oc b_1 [pv (.func (.func 43) #[] #[(ptr be_1 0), (ptr be_2 0), (ptr be_3 0), (ptr be_4 0)])]] rfl) ?_
    refine n_then (ref_ret ?_)
    exact fin1 (.inl rfl) () [0, 1, 2, 3, 4, 5, 6] rfl ⟨rfl, rfl, rfl, rfl, rfl, rfl, rfl, trivial⟩ rfl (rv_tmp rfl)
  refine s_off rfl rfl rfl rfl rfl ?_
  refine s_off rfl rfl rfl rfl rfl ?_
  refine s_on rfl rfl rfl ?_
  refine s_rd (r_pickF rfl rfl) rfl ?_
  refine s_rd (r_pickF rfl rfl) rfl ?_
  refine as1 rfl rfl ?_
  refine l_nil ?_
  refine b_of (nrm [oc b_0 [pv (.func (.func 42) #[] #[(ptr be_1 0), (ptr be_2 0), (ptr be_3 0), (ptr be_4 0), (ptr be_5 0)])], oc be_1 [slv rT_api_Premise e_1.Premises, slv rT_api_Rule e_1.Rules, slv rT_api_Promotion e_1.Promotions], oc be_2 [slv rT_api_Argument e_2], oc be_3 [iv .i64 e_3], oc be_4 [iv .i64 e_4], oc be_5 [iv .i64 e_5.Link, iv .i64 e_5.Lift], oc b_1 [pv (.func (.func 43) #[] #[(ptr be_1 0), (ptr be_2 0), (ptr be_3 0), (ptr be_4 0)])]] rfl) ?_
  refine n_then (ref_ret ?_)
  exact fin1 (.inl rfl) () [0, 1, 2, 3, 4, 5, 6] rfl ⟨rfl, rfl, rfl, rfl, rfl, rfl, rfl, trivial⟩ rfl (rv_tmp rfl)

/-! deliberation/lift.Less$2 -/
noncomputable def lift_Less_2_1_m (p_1 : T_api_Base) (p_2 : (List T_api_Argument)) (p_3 : Int) (p_4 : Int) : Option (Bool) :=
  Option.bind (lift_RuleRanks_m p_1 p_2 p_3) fun t1 =>
  bif (t1.length : Int) == 0 then
    Option.bind (lift_RuleRanks_m p_1 p_2 p_4) fun t3 =>
    letM ((t3.length : Int) == 0) fun t5 =>
    some t5
  else
    some false

theorem lift_Less_2_1_ok {p_1 : T_api_Base} {p_2 : (List T_api_Argument)} {p_3 : Int} {p_4 : Int} {b_1 : Nat} {b_2 : Nat} {b_3 : Nat} {b_4 : Nat} {r : Bool} (hm : lift_Less_2_1_m p_1 p_2 p_3 p_4 = some r) :
    FnOk prog 43 [pv (.func (.func 17) #[] #[]), pv (ptr b_1 0), pv (ptr b_2 0), pv (ptr b_3 0), pv (ptr b_4 0)] [oc b_1 [slv rT_api_Premise p_1.Premises, slv rT_api_Rule p_1.Rules, slv rT_api_Promotion p_1.Promotions], oc b_2 [slv rT_api_Argument p_2], oc b_3 [iv .i64 p_3], oc b_4 [iv .i64 p_4]] (fun (x : Unit) => [bv r]) (fun (x : Unit) => [oc b_1 [slv rT_api_Premise p_1.Premises, slv rT_api_Rule p_1.Rules, slv rT_api_Promotion p_1.Promotions], oc b_2 [slv rT_api_Argument p_2], oc b_3 [iv .i64 p_3], oc b_4 [iv .i64 p_4]]) := by
  refine fn_ok (fn := Try.f43) (N := 23) (res := fun r x => [bv r]) (Ω1 := fun r x => [oc b_1 [slv rT_api_Premise p_1.Premises, slv rT_api_Rule p_1.Rules, slv rT_api_Promotion p_1.Promotions], oc b_2 [slv rT_api_Argument p_2], oc b_3 [iv .i64 p_3], oc b_4 [iv .i64 p_4]]) Try.func43 rfl rfl hm rfl (fun E hM => ?_)
  unfold lift_Less_2_1_m
  refine ref_seq (ref_region ?_)
  refine as1 rfl rfl ?_
  refine l_nil (n_then (ref_seq (ref_region ?_)))
  refine mv1 rfl rfl ?_
  refine s_rd (r_cloadS Try.isAgg34 Try.sizeOf34 rfl (j := 0) rfl rfl rfl) rfl ?_
  refine s_rd (r_cload Try.isAgg35 rfl (j := 1) rfl rfl) rfl ?_
  refine s_rd (r_cload Try.isAgg3 rfl (j := 2) rfl rfl) rfl ?_
  refine pull fun t1 h_t1 => ?_
  refine s_st (s_call (ψ := fun (x2 : (Value × List Nat)) => pv x2.1) (args := [.tmp 8, .tmp 9, .tmp 10]) Try.call17 rfl (lift_RuleRanks_ok h_t1) ⟨arg rfl, arg rfl, arg rfl, trivial⟩ (fun _ _ _ _ h => h)) rfl (fun x2 => ?_)
  refine s_rd (r_olen Try.underlying22 rfl (j := 4) rfl) rfl ?_
  refine s_rd (r_eql rfl rfl) rfl ?_
  refine mv1 rfl rfl ?_
  refine b_split (t := 14) rfl (fun _ => ?_) (fun _ => ?_)
  · refine s_on rfl rfl rfl ?_
    refine mv1 rfl rfl ?_
    refine s_on rfl rfl rfl ?_
    refine s_rd (r_cloadS Try.isAgg34 Try.sizeOf34 rfl (j := 0) rfl rfl rfl) rfl ?_
    refine s_on rfl rfl rfl ?_
    refine s_rd (r_cload Try.isAgg35 rfl (j := 1) rfl rfl) rfl ?_
    refine s_on rfl rfl rfl ?_
    refine s_rd (r_cload Try.isAgg3 rfl (j := 3) rfl rfl) rfl ?_
    refine s_on rfl rfl rfl ?_
    refine pull fun t3 h_t3 => ?_
    refine s_st (s_call (ψ := fun (x4 : (Value × List Nat)) => pv x4.1) (args := [.tmp 16, .tmp 17, .tmp 18]) Try.call17 rfl (lift_RuleRanks_ok h_t3) ⟨arg rfl, arg rfl, arg rfl, trivial⟩ (fun _ _ _ _ h => h)) rfl (fun x4 => ?_)
    refine s_on rfl rfl rfl ?_
    refine s_rd (r_olen Try.underlying22 rfl (j := 5) rfl) rfl ?_
    refine s_on rfl rfl rfl ?_
    refine s_rd (r_eql rfl rfl) rfl ?_
    refine s_rd (r_pickT rfl rfl) rfl ?_
    refine as1 rfl rfl ?_
    refine b_let (f := bv) (t := 6) rfl fun t5 => ?_
    refine l_nil (n_then (ref_ret ?_))
    exact fin1 (.inl rfl) () [0, 1, 2, 3] rfl ⟨rfl, rfl, rfl, rfl, trivial⟩ rfl (rv_tmp rfl)
  refine s_off rfl rfl rfl rfl rfl ?_
  refine s_off rfl rfl rfl rfl rfl ?_
  refine s_off rfl rfl rfl rfl rfl ?_
  refine s_off rfl rfl rfl rfl rfl ?_
  refine s_off rfl rfl rfl rfl rfl ?_
  refine s_off rfl rfl rfl rfl rfl ?_
  refine s_off rfl rfl rfl rfl rfl ?_
  refine s_rd (r_pickF rfl rfl) rfl ?_
  refine as1 rfl rfl ?_
  refine l_nil (n_then (ref_ret ?_))
  exact fin1 (.inl rfl) () [0, 1, 2, 3] rfl ⟨rfl, rfl, rfl, rfl, trivial⟩ rfl (rv_tmp rfl)

/-! deliberation/lift.Less$2 -/
noncomputable def lift_Less_2_2_m (p_1 : T_api_Base) (p_2 : (List T_api_Argument)) (p_3 : Int) (p_4 : Int) : Option (Bool) :=
  Option.bind (lift_PremiseRanks_m p_1 p_2 p_3) fun t1 =>
  bif (t1.length : Int) == 0 then
    Option.bind (lift_PremiseRanks_m p_1 p_2 p_4) fun t3 =>
    letM ((t3.length : Int) == 0) fun t5 =>
    some t5
  else
    some false

theorem lift_Less_2_2_ok {p_1 : T_api_Base} {p_2 : (List T_api_Argument)} {p_3 : Int} {p_4 : Int} {b_1 : Nat} {b_2 : Nat} {b_3 : Nat} {b_4 : Nat} {r : Bool} (hm : lift_Less_2_2_m p_1 p_2 p_3 p_4 = some r) :
    FnOk prog 43 [pv (.func (.func 15) #[] #[]), pv (ptr b_1 0), pv (ptr b_2 0), pv (ptr b_3 0), pv (ptr b_4 0)] [oc b_1 [slv rT_api_Premise p_1.Premises, slv rT_api_Rule p_1.Rules, slv rT_api_Promotion p_1.Promotions], oc b_2 [slv rT_api_Argument p_2], oc b_3 [iv .i64 p_3], oc b_4 [iv .i64 p_4]] (fun (x : Unit) => [bv r]) (fun (x : Unit) => [oc b_1 [slv rT_api_Premise p_1.Premises, slv rT_api_Rule p_1.Rules, slv rT_api_Promotion p_1.Promotions], oc b_2 [slv rT_api_Argument p_2], oc b_3 [iv .i64 p_3], oc b_4 [iv .i64 p_4]]) := by
  refine fn_ok (fn := Try.f43) (N := 23) (res := fun r x => [bv r]) (Ω1 := fun r x => [oc b_1 [slv rT_api_Premise p_1.Premises, slv rT_api_Rule p_1.Rules, slv rT_api_Promotion p_1.Promotions], oc b_2 [slv rT_api_Argument p_2], oc b_3 [iv .i64 p_3], oc b_4 [iv .i64 p_4]]) Try.func43 rfl rfl hm rfl (fun E hM => ?_)
  unfold lift_Less_2_2_m
  refine ref_seq (ref_region ?_)
  refine as1 rfl rfl ?_
  refine l_nil (n_then (ref_seq (ref_region ?_)))
  refine mv1 rfl rfl ?_
  refine s_rd (r_cloadS Try.isAgg34 Try.sizeOf34 rfl (j := 0) rfl rfl rfl) rfl ?_
  refine s_rd (r_cload Try.isAgg35 rfl (j := 1) rfl rfl) rfl ?_
  refine s_rd (r_cload Try.isAgg3 rfl (j := 2) rfl rfl) rfl ?_
  refine pull fun t1 h_t1 => ?_
  refine s_st (s_call (ψ := fun (x2 : (Value × List Nat)) => pv x2.1) (args := [.tmp 8, .tmp 9, .tmp 10]) Try.call15 rfl (lift_PremiseRanks_ok h_t1) ⟨arg rfl, arg rfl, arg rfl, trivial⟩ (fun _ _ _ _ h => h)) rfl (fun x2 => ?_)
  refine s_rd (r_olen Try.underlying22 rfl (j := 4) rfl) rfl ?_
  refine s_rd (r_eql rfl rfl) rfl ?_
  refine mv1 rfl rfl ?_
  refine b_split (t := 14) rfl (fun _ => ?_) (fun _ => ?_)
  · refine s_on rfl rfl rfl ?_
    refine mv1 rfl rfl ?_
    refine s_on rfl rfl rfl ?_
    refine s_rd (r_cloadS Try.isAgg34 Try.sizeOf34 rfl (j := 0) rfl rfl rfl) rfl ?_
    refine s_on rfl rfl rfl ?_
    refine s_rd (r_cload Try.isAgg35 rfl (j := 1) rfl rfl) rfl ?_
    refine s_on rfl rfl rfl ?_
    refine s_rd (r_cload Try.isAgg3 rfl (j := 3) rfl rfl) rfl ?_
    refine s_on rfl rfl rfl ?_
    refine pull fun t3 h_t3 => ?_
    refine s_st (s_call (ψ := fun (x4 : (Value × List Nat)) => pv x4.1) (args := [.tmp 16, .tmp 17, .tmp 18]) Try.call15 rfl (lift_PremiseRanks_ok h_t3) ⟨arg rfl, arg rfl, arg rfl, trivial⟩ (fun _ _ _ _ h => h)) rfl (fun x4 => ?_)
    refine s_on rfl rfl rfl ?_
    refine s_rd (r_olen Try.underlying22 rfl (j := 5) rfl) rfl ?_
    refine s_on rfl rfl rfl ?_
    refine s_rd (r_eql rfl rfl) rfl ?_
    refine s_rd (r_pickT rfl rfl) rfl ?_
    refine as1 rfl rfl ?_
    refine b_let (f := bv) (t := 6) rfl fun t5 => ?_
    refine l_nil (n_then (ref_ret ?_))
    exact fin1 (.inl rfl) () [0, 1, 2, 3] rfl ⟨rfl, rfl, rfl, rfl, trivial⟩ rfl (rv_tmp rfl)
  refine s_off rfl rfl rfl rfl rfl ?_
  refine s_off rfl rfl rfl rfl rfl ?_
  refine s_off rfl rfl rfl rfl rfl ?_
  refine s_off rfl rfl rfl rfl rfl ?_
  refine s_off rfl rfl rfl rfl rfl ?_
  refine s_off rfl rfl rfl rfl rfl ?_
  refine s_off rfl rfl rfl rfl rfl ?_
  refine s_rd (r_pickF rfl rfl) rfl ?_
  refine as1 rfl rfl ?_
  refine l_nil (n_then (ref_ret ?_))
  exact fin1 (.inl rfl) () [0, 1, 2, 3] rfl ⟨rfl, rfl, rfl, rfl, trivial⟩ rfl (rv_tmp rfl)

/-! deliberation/lift.Less$1 -/
noncomputable def lift_Less_1_2_m (p_1 : T_api_Base) (p_2 : (List T_api_Argument)) (p_3 : Int) (p_4 : Int) (p_5 : T_api_Ordering) : Option (Bool) :=
  Option.bind (lift_RuleRanks_m p_1 p_2 p_3) fun t1 =>
  Option.bind (lift_RuleRanks_m p_1 p_2 p_4) fun t3 =>
  Option.bind (lift_SetLess_m t1 t3 p_5.Lift) fun t5 =>
  some t5

theorem lift_Less_1_2_ok {p_1 : T_api_Base} {p_2 : (List T_api_Argument)} {p_3 : Int} {p_4 : Int} {p_5 : T_api_Ordering} {b_1 : Nat} {b_2 : Nat} {b_3 : Nat} {b_4 : Nat} {b_5 : Nat} {r : Bool} (hm : lift_Less_1_2_m p_1 p_2 p_3 p_4 p_5 = some r) :
    FnOk prog 42 [pv (.func (.func 17) #[] #[]), pv (ptr b_1 0), pv (ptr b_2 0), pv (ptr b_3 0), pv (ptr b_4 0), pv (ptr b_5 0)] [oc b_1 [slv rT_api_Premise p_1.Premises, slv rT_api_Rule p_1.Rules, slv rT_api_Promotion p_1.Promotions], oc b_2 [slv rT_api_Argument p_2], oc b_3 [iv .i64 p_3], oc b_4 [iv .i64 p_4], oc b_5 [iv .i64 p_5.Link, iv .i64 p_5.Lift]] (fun (x : Unit) => [bv r]) (fun (x : Unit) => [oc b_1 [slv rT_api_Premise p_1.Premises, slv rT_api_Rule p_1.Rules, slv rT_api_Promotion p_1.Promotions], oc b_2 [slv rT_api_Argument p_2], oc b_3 [iv .i64 p_3], oc b_4 [iv .i64 p_4], oc b_5 [iv .i64 p_5.Link, iv .i64 p_5.Lift]]) := by
  refine fn_ok (fn := Try.f42) (N := 21) (res := fun r x => [bv r]) (Ω1 := fun r x => [oc b_1 [slv rT_api_Premise p_1.Premises, slv rT_api_Rule p_1.Rules, slv rT_api_Promotion p_1.Promotions], oc b_2 [slv rT_api_Argument p_2], oc b_3 [iv .i64 p_3], oc b_4 [iv .i64 p_4], oc b_5 [iv .i64 p_5.Link, iv .i64 p_5.Lift]]) Try.func42 rfl rfl hm rfl (fun E hM => ?_)
  unfold lift_Less_1_2_m
  refine ref_seq (ref_region ?_)
  refine as1 rfl rfl ?_
  refine l_nil (n_then (ref_seq ?_))
  refine ref_draw [0, 1, 2, 3, 5, 6, 7, 8, 10, 11] rfl (by kernel_rfl) (fun hok => ?_)
  refine a_rd (i := 0) hok rfl (by kernel_rfl) rfl (r_move rfl) rfl ?_
  refine a_rd (i := 1) hok rfl (by kernel_rfl) rfl (r_cloadS Try.isAgg34 Try.sizeOf34 rfl (j := 0) rfl rfl rfl) rfl ?_
  refine a_rd (i := 2) hok rfl (by kernel_rfl) rfl (r_cload Try.isAgg35 rfl (j := 1) rfl rfl) rfl ?_
  refine a_rd (i := 3) hok rfl (by kernel_rfl) rfl (r_cload Try.isAgg3 rfl (j := 2) rfl rfl) rfl ?_
  refine a_rd (i := 5) hok rfl (by kernel_rfl) rfl (r_move rfl) rfl ?_
  refine a_rd (i := 6) hok rfl (by kernel_rfl) rfl (r_cloadS Try.isAgg34 Try.sizeOf34 rfl (j := 0) rfl rfl rfl) rfl ?_
  refine a_rd (i := 7) hok rfl (by kernel_rfl) rfl (r_cload Try.isAgg35 rfl (j := 1) rfl rfl) rfl ?_
  refine a_rd (i := 8) hok rfl (by kernel_rfl) rfl (r_cload Try.isAgg3 rfl (j := 3) rfl rfl) rfl ?_
  refine a_rd (i := 10) hok rfl (by kernel_rfl) rfl (r_faddr (fo := 1) Try.underlying43 rfl rfl Try.sizeOf3 rfl) rfl ?_
  refine a_rd (i := 11) hok rfl (by kernel_rfl) rfl (r_cload Try.isAgg3 rfl (j := 4) rfl rfl) rfl ?_
  refine pull fun t1 h_t1 => ?_
  refine a_next hok 4 [] (by kernel_rfl) ?_ trivial
  refine a_st (i := 4) hok rfl rfl (s_call (ψ := fun (x2 : (Value × List Nat)) => pv x2.1) (args := [.tmp 9, .tmp 10, .tmp 11]) Try.call17 rfl (lift_RuleRanks_ok h_t1) ⟨arg rfl, arg rfl, arg rfl, trivial⟩ (fun _ _ _ _ h => h)) (by intro _ h; cases h; rfl) (fun _ => ⟨⟨⟨rfl, rfl⟩, trivial⟩, ⟨trivial, ⟨⟨⟨rfl, rfl⟩, trivial⟩, ⟨⟨⟨rfl, rfl⟩, trivial⟩, ⟨⟨⟨rfl, rfl⟩, trivial⟩, ⟨trivial, ⟨trivial, ⟨trivial, ⟨trivial, ⟨trivial, trivial⟩⟩⟩⟩⟩⟩⟩⟩⟩⟩) (fun x2 => ?_)
  refine pull fun t3 h_t3 => ?_
  refine a_next hok 9 [] (by kernel_rfl) ?_ trivial
  refine a_st (i := 9) hok rfl rfl (s_call (ψ := fun (x4 : (Value × List Nat)) => pv x4.1) (args := [.tmp 14, .tmp 15, .tmp 16]) Try.call17 rfl (lift_RuleRanks_ok h_t3) ⟨arg rfl, arg rfl, arg rfl, trivial⟩ (fun _ _ _ _ h => h)) (by intro _ h; cases h; rfl) (fun _ => ⟨⟨⟨rfl, rfl⟩, trivial⟩, ⟨trivial, ⟨trivial, ⟨trivial, ⟨trivial, ⟨trivial, ⟨⟨⟨rfl, rfl⟩, trivial⟩, ⟨⟨⟨rfl, rfl⟩, trivial⟩, ⟨⟨⟨rfl, rfl⟩, trivial⟩, ⟨trivial, trivial⟩⟩⟩⟩⟩⟩⟩⟩⟩⟩) (fun x4 => ?_)
  refine pull fun t5 h_t5 => ?_
  refine a_next hok 12 [] (by kernel_rfl) ?_ trivial
  refine a_st (i := 12) hok rfl rfl (s_callB (ψ := fun (_ : Unit) => bv t5) (args := [.tmp 12, .tmp 17, .tmp 19]) Try.call10 rfl (lift_SetLess_ok h_t5) ⟨argO rfl (j := 5) rfl, argO rfl (j := 6) rfl, argB rfl, trivial⟩ (fun _ _ _ _ _ h => h)) (by intro _ h; cases h; rfl) (fun _ => ⟨trivial, ⟨trivial, ⟨⟨⟨rfl, rfl⟩, trivial⟩, ⟨⟨⟨rfl, rfl⟩, trivial⟩, ⟨⟨⟨rfl, rfl⟩, trivial⟩, ⟨trivial, ⟨⟨⟨rfl, rfl⟩, trivial⟩, ⟨⟨⟨rfl, rfl⟩, trivial⟩, ⟨⟨⟨rfl, rfl⟩, trivial⟩, ⟨trivial, trivial⟩⟩⟩⟩⟩⟩⟩⟩⟩⟩) (fun _ => ?_)
  refine a_next hok 13 [] (by kernel_rfl) ?_ trivial
  refine a_st (i := 13) hok rfl rfl (St.ofRd (r_assign rfl)) (by intro _ h; cases h; rfl) (fun _ => ⟨trivial, ⟨trivial, ⟨trivial, ⟨trivial, ⟨trivial, ⟨trivial, ⟨trivial, ⟨trivial, ⟨trivial, ⟨trivial, trivial⟩⟩⟩⟩⟩⟩⟩⟩⟩⟩) (fun _ => ?_)
  refine a_fin hok (by kernel_rfl) ?_
  refine b_of (nrm [oc b_1 [slv rT_api_Premise p_1.Premises, slv rT_api_Rule p_1.Rules, slv rT_api_Promotion p_1.Promotions], oc b_2 [slv rT_api_Argument p_2], oc b_3 [iv .i64 p_3], oc b_4 [iv .i64 p_4], oc b_5 [iv .i64 p_5.Link, iv .i64 p_5.Lift], oa (rI .i64) x2.1 x2.2 t1, oa (rI .i64) x4.1 x4.2 t3] rfl) ?_
  refine n_then (ref_ret ?_)
  exact fin1 (.inl rfl) () [0, 1, 2, 3, 4] rfl ⟨rfl, rfl, rfl, rfl, rfl, trivial⟩ rfl (rv_tmp rfl)

/-! deliberation/lift.Less$4 -/
noncomputable def lift_Less_4_m (e_1 : T_api_Base) (e_2 : (List T_api_Argument)) (e_3 : Int) (e_4 : Int) (e_6 : T_api_Ordering) : Option (Bool) :=
  Option.bind (lift_Less_2_1_m e_1 e_2 e_3 e_4) fun t1 =>
  bif t1 then
    Option.bind (lift_Less_1_1_m e_1 e_2 e_3 e_4 e_6) fun t3 =>
    some t3
  else
    Option.bind (lift_Less_2_2_m e_1 e_2 e_3 e_4) fun t4 =>
    bif t4 then
      Option.bind (lift_Less_1_2_m e_1 e_2 e_3 e_4 e_6) fun t6 =>
      some t6
    else
      Option.bind (lift_Less_1_1_m e_1 e_2 e_3 e_4 e_6) fun t7 =>
      bif t7 then
        Option.bind (lift_Less_1_2_m e_1 e_2 e_3 e_4 e_6) fun t8 =>
        some t8
      else
        some false

theorem lift_Less_4_ok {e_1 : T_api_Base} {e_2 : (List T_api_Argument)} {e_3 : Int} {e_4 : Int} {e_6 : T_api_Ordering} {b_0 : Nat} {be_1 : Nat} {be_2 : Nat} {be_3 : Nat} {be_4 : Nat} {b_1 : Nat} {be_6 : Nat} {r : Bool} (hm : lift_Less_4_m e_1 e_2 e_3 e_4 e_6 = some r) :
    FnOk prog 45 [pv (ptr b_0 0), pv (ptr b_1 0)] [oc b_0 [pv (.func (.func 43) #[] #[(ptr be_1 0), (ptr be_2 0), (ptr be_3 0), (ptr be_4 0)])], oc be_1 [slv rT_api_Premise e_1.Premises, slv rT_api_Rule e_1.Rules, slv rT_api_Promotion e_1.Promotions], oc be_2 [slv rT_api_Argument e_2], oc be_3 [iv .i64 e_3], oc be_4 [iv .i64 e_4], oc b_1 [pv (.func (.func 42) #[] #[(ptr be_1 0), (ptr be_2 0), (ptr be_3 0), (ptr be_4 0), (ptr be_6 0)])], oc be_6 [iv .i64 e_6.Link, iv .i64 e_6.Lift]] (fun (x : Unit) => [bv r]) (fun (x : Unit) => [oc b_0 [pv (.func (.func 43) #[] #[(ptr be_1 0), (ptr be_2 0), (ptr be_3 0), (ptr be_4 0)])], oc be_1 [slv rT_api_Premise e_1.Premises, slv rT_api_Rule e_1.Rules, slv rT_api_Promotion e_1.Promotions], oc be_2 [slv rT_api_Argument e_2], oc be_3 [iv .i64 e_3], oc be_4 [iv .i64 e_4], oc b_1 [pv (.func (.func 42) #[] #[(ptr be_1 0), (ptr be_2 0), (ptr be_3 0), (ptr be_4 0), (ptr be_6 0)])], oc be_6 [iv .i64 e_6.Link, iv .i64 e_6.Lift]]) := by
  refine fn_ok (fn := Try.f45) (N := 19) (res := fun r x => [bv r]) (Ω1 := fun r x => [oc b_0 [pv (.func (.func 43) #[] #[(ptr be_1 0), (ptr be_2 0), (ptr be_3 0), (ptr be_4 0)])], oc be_1 [slv rT_api_Premise e_1.Premises, slv rT_api_Rule e_1.Rules, slv rT_api_Promotion e_1.Promotions], oc be_2 [slv rT_api_Argument e_2], oc be_3 [iv .i64 e_3], oc be_4 [iv .i64 e_4], oc b_1 [pv (.func (.func 42) #[] #[(ptr be_1 0), (ptr be_2 0), (ptr be_3 0), (ptr be_4 0), (ptr be_6 0)])], oc be_6 [iv .i64 e_6.Link, iv .i64 e_6.Lift]]) Try.func45 rfl rfl hm rfl (fun E hM => ?_)
  unfold lift_Less_4_m
  refine ref_seq (ref_region ?_)
  refine as1 rfl rfl ?_
  refine l_nil (n_then (ref_seq (ref_block (ref_seq (ref_region ?_)))))
  refine s_rd (r_cload Try.isAgg73 rfl (j := 0) rfl rfl) rfl ?_
  refine pull fun t1 h_t1 => ?_
  refine s_st (s_callC [1, 2, 3, 4] [true, true, true, true] (fun (_ : Unit) => [oc be_1 [slv rT_api_Premise e_1.Premises, slv rT_api_Rule e_1.Rules, slv rT_api_Promotion e_1.Promotions], oc be_2 [slv rT_api_Argument e_2], oc be_3 [iv .i64 e_3], oc be_4 [iv .i64 e_4]]) (fun (_ : Unit) => []) (fun (_ : Unit) => bv t1) (args := [.func 17]) (caps := [(ptr be_1 0), (ptr be_2 0), (ptr be_3 0), (ptr be_4 0)]) Try.call43 rfl (lift_Less_2_1_ok h_t1) ⟨rfl, rfl, ⟨rfl, rfl, ⟨rfl, rfl, ⟨rfl, rfl, trivial⟩⟩⟩⟩ (fun _ => rfl) (fun _ => trivial) (fun _ => rfl) ⟨arg rfl, arg rfl, arg rfl, arg rfl, arg rfl, trivial⟩ (fun _ _ _ _ h => h)) rfl (fun _ => ?_)
  refine as1 rfl rfl ?_
  refine l_nil ?_
  refine b_of (nrm [oc b_0 [pv (.func (.func 43) #[] #[(ptr be_1 0), (ptr be_2 0), (ptr be_3 0), (ptr be_4 0)])], oc be_1 [slv rT_api_Premise e_1.Premises, slv rT_api_Rule e_1.Rules, slv rT_api_Promotion e_1.Promotions], oc be_2 [slv rT_api_Argument e_2], oc be_3 [iv .i64 e_3], oc be_4 [iv .i64 e_4], oc b_1 [pv (.func (.func 42) #[] #[(ptr be_1 0), (ptr be_2 0), (ptr be_3 0), (ptr be_4 0), (ptr be_6 0)])], oc be_6 [iv .i64 e_6.Link, iv .i64 e_6.Lift]] rfl) ?_
  refine n_then ?_
  refine ref_cond rfl (fun hb2 => ?_) (fun hb2 => ?_)
  · refine ref_seq (ref_region ?_)
    refine s_rd (r_cload Try.isAgg73 rfl (j := 5) rfl rfl) rfl ?_
    refine pull fun t3 h_t3 => ?_
    refine s_st (s_callC [1, 2, 3, 4, 6] [true, true, true, true, true] (fun (_ : Unit) => [oc be_1 [slv rT_api_Premise e_1.Premises, slv rT_api_Rule e_1.Rules, slv rT_api_Promotion e_1.Promotions], oc be_2 [slv rT_api_Argument e_2], oc be_3 [iv .i64 e_3], oc be_4 [iv .i64 e_4], oc be_6 [iv .i64 e_6.Link, iv .i64 e_6.Lift]]) (fun (_ : Unit) => []) (fun (_ : Unit) => bv t3) (args := [.func 15]) (caps := [(ptr be_1 0), (ptr be_2 0), (ptr be_3 0), (ptr be_4 0), (ptr be_6 0)]) Try.call42 rfl (lift_Less_1_1_ok h_t3) ⟨rfl, rfl, ⟨rfl, rfl, ⟨rfl, rfl, ⟨rfl, rfl, ⟨rfl, rfl, trivial⟩⟩⟩⟩⟩ (fun _ => rfl) (fun _ => trivial) (fun _ => rfl) ⟨arg rfl, arg rfl, arg rfl, arg rfl, arg rfl, arg rfl, trivial⟩ (fun _ _ _ _ h => h)) rfl (fun _ => ?_)
    refine as1 rfl rfl ?_
    refine l_nil ?_
    refine b_of (nrm [oc b_0 [pv (.func (.func 43) #[] #[(ptr be_1 0), (ptr be_2 0), (ptr be_3 0), (ptr be_4 0)])], oc be_1 [slv rT_api_Premise e_1.Premises, slv rT_api_Rule e_1.Rules, slv rT_api_Promotion e_1.Promotions], oc be_2 [slv rT_api_Argument e_2], oc be_3 [iv .i64 e_3], oc be_4 [iv .i64 e_4], oc b_1 [pv (.func (.func 42) #[] #[(ptr be_1 0), (ptr be_2 0), (ptr be_3 0), (ptr be_4 0), (ptr be_6 0)])], oc be_6 [iv .i64 e_6.Link, iv .i64 e_6.Lift]] rfl) ?_
    refine n_then (ref_ret (r_block (r_then ?_)))
    exact fin1 (.inl rfl) () [0, 1, 2, 3, 4, 5, 6] rfl ⟨rfl, rfl, rfl, rfl, rfl, rfl, rfl, trivial⟩ rfl (rv_tmp rfl)
  refine ref_seq (ref_region ?_)
  refine s_rd (r_cload Try.isAgg73 rfl (j := 0) rfl rfl) rfl ?_
  refine pull fun t4 h_t4 => ?_
  refine s_st (s_callC [1, 2, 3, 4] [true, true, true, true] (fun (_ : Unit) => [oc be_1 [slv rT_api_Premise e_1.Premises, slv rT_api_Rule e_1.Rules, slv rT_api_Promotion e_1.Promotions], oc be_2 [slv rT_api_Argument e_2], oc be_3 [iv .i64 e_3], oc be_4 [iv .i64 e_4]]) (fun (_ : Unit) => []) (fun (_ : Unit) => bv t4) (args := [.func 15]) (caps := [(ptr be_1 0), (ptr be_2 0), (ptr be_3 0), (ptr be_4 0)]) Try.call43 rfl (lift_Less_2_2_ok h_t4) ⟨rfl, rfl, ⟨rfl, rfl, ⟨rfl, rfl, ⟨rfl, rfl, trivial⟩⟩⟩⟩ (fun _ => rfl) (fun _ => trivial) (fun _ => rfl) ⟨arg rfl, arg rfl, arg rfl, arg rfl, arg rfl, trivial⟩ (fun _ _ _ _ h => h)) rfl (fun _ => ?_)
  refine as1 rfl rfl ?_
  refine l_nil ?_
  refine b_of (nrm [oc b_0 [pv (.func (.func 43) #[] #[(ptr be_1 0), (ptr be_2 0), (ptr be_3 0), (ptr be_4 0)])], oc be_1 [slv rT_api_Premise e_1.Premises, slv rT_api_Rule e_1.Rules, slv rT_api_Promotion e_1.Promotions], oc be_2 [slv rT_api_Argument e_2], oc be_3 [iv .i64 e_3], oc be_4 [iv .i64 e_4], oc b_1 [pv (.func (.func 42) #[] #[(ptr be_1 0), (ptr be_2 0), (ptr be_3 0), (ptr be_4 0), (ptr be_6 0)])], oc be_6 [iv .i64 e_6.Link, iv .i64 e_6.Lift]] rfl) ?_
  refine n_then ?_
  refine ref_cond rfl (fun hb5 => ?_) (fun hb5 => ?_)
  · refine ref_seq (ref_region ?_)
    refine s_rd (r_cload Try.isAgg73 rfl (j := 5) rfl rfl) rfl ?_
    refine pull fun t6 h_t6 => ?_
    refine s_st (s_callC [1, 2, 3, 4, 6] [true, true, true, true, true] (fun (_ : Unit) => [oc be_1 [slv rT_api_Premise e_1.Premises, slv rT_api_Rule e_1.Rules, slv rT_api_Promotion e_1.Promotions], oc be_2 [slv rT_api_Argument e_2], oc be_3 [iv .i64 e_3], oc be_4 [iv .i64 e_4], oc be_6 [iv .i64 e_6.Link, iv .i64 e_6.Lift]]) (fun (_ : Unit) => []) (fun (_ : Unit) => bv t6) (args := [.func 17]) (caps := [(ptr be_1 0), (ptr be_2 0), (ptr be_3 0), (ptr be_4 0), (ptr be_6 0)]) Try.call42 rfl (lift_Less_1_2_ok h_t6) ⟨rfl, rfl, ⟨rfl, rfl, ⟨rfl, rfl, ⟨rfl, rfl, ⟨rfl, rfl, trivial⟩⟩⟩⟩⟩ (fun _ => rfl) (fun _ => trivial) (fun _ => rfl) ⟨arg rfl, arg rfl, arg rfl, arg rfl, arg rfl, arg rfl, trivial⟩ (fun _ _ _ _ h => h)) rfl (fun _ => ?_)
    refine as1 rfl rfl ?_
    refine l_nil ?_
    refine b_of (nrm [oc b_0 [pv (.func (.func 43) #[] #[(ptr be_1 0), (ptr be_2 0), (ptr be_3 0), (ptr be_4 0)])], oc be_1 [slv rT_api_Premise e_1.Premises, slv rT_api_Rule e_1.Rules, slv rT_api_Promotion e_1.Promotions], oc be_2 [slv rT_api_Argument e_2], oc be_3 [iv .i64 e_3], oc be_4 [iv .i64 e_4], oc b_1 [pv (.func (.func 42) #[] #[(ptr be_1 0), (ptr be_2 0), (ptr be_3 0), (ptr be_4 0), (ptr be_6 0)])], oc be_6 [iv .i64 e_6.Link, iv .i64 e_6.Lift]] rfl) ?_
    refine n_then (ref_ret (r_block (r_then ?_)))
    exact fin1 (.inl rfl) () [0, 1, 2, 3, 4, 5, 6] rfl ⟨rfl, rfl, rfl, rfl, rfl, rfl, rfl, trivial⟩ rfl (rv_tmp rfl)
  refine ref_skip (n_block (n_then (ref_seq (ref_region ?_))))
  refine s_rd (r_cload Try.isAgg73 rfl (j := 5) rfl rfl) rfl ?_
  refine pull fun t7 h_t7 => ?_
  refine s_st (s_callC [1, 2, 3, 4, 6] [true, true, true, true, true] (fun (_ : Unit) => [oc be_1 [slv rT_api_Premise e_1.Premises, slv rT_api_Rule e_1.Rules, slv rT_api_Promotion e_1.Promotions], oc be_2 [slv rT_api_Argument e_2], oc be_3 [iv .i64 e_3], oc be_4 [iv .i64 e_4], oc be_6 [iv .i64 e_6.Link, iv .i64 e_6.Lift]]) (fun (_ : Unit) => []) (fun (_ : Unit) => bv t7) (args := [.func 15]) (caps := [(ptr be_1 0), (ptr be_2 0), (ptr be_3 0), (ptr be_4 0), (ptr be_6 0)]) Try.call42 rfl (lift_Less_1_1_ok h_t7) ⟨rfl, rfl, ⟨rfl, rfl, ⟨rfl, rfl, ⟨rfl, rfl, ⟨rfl, rfl, trivial⟩⟩⟩⟩⟩ (fun _ => rfl) (fun _ => trivial) (fun _ => rfl) ⟨arg rfl, arg rfl, arg rfl, arg rfl, arg rfl, arg rfl, trivial⟩ (fun _ _ _ _ h => h)) rfl (fun _ => ?_)
  refine mv1 rfl rfl ?_
  refine b_split (t := 15) rfl (fun _ => ?_) (fun _ => ?_)
  · refine s_on rfl rfl rfl ?_
    refine s_rd (r_cload Try.isAgg73 rfl (j := 5) rfl rfl) rfl ?_
    refine s_on rfl rfl rfl ?_
    refine pull fun t8 h_t8 => ?_
    refine s_st (s_callC [1, 2, 3, 4, 6] [true, true, true, true, true] (fun (_ : Unit) => [oc be_1 [slv rT_api_Premise e_1.Premises, slv rT_api_Rule e_1.Rules, slv rT_api_Promotion e_1.Promotions], oc be_2 [slv rT_api_Argument e_2], oc be_3 [iv .i64 e_3], oc be_4 [iv .i64 e_4], oc be_6 [iv .i64 e_6.Link, iv .i64 e_6.Lift]]) (fun (_ : Unit) => []) (fun (_ : Unit) => bv t8) (args := [.func 17]) (caps := [(ptr be_1 0), (ptr be_2 0), (ptr be_3 0), (ptr be_4 0), (ptr be_6 0)]) Try.call42 rfl (lift_Less_1_2_ok h_t8) ⟨rfl, rfl, ⟨rfl, rfl, ⟨rfl, rfl, ⟨rfl, rfl, ⟨rfl, rfl, trivial⟩⟩⟩⟩⟩ (fun _ => rfl) (fun _ => trivial) (fun _ => rfl) ⟨arg rfl, arg rfl, arg rfl, arg rfl, arg rfl, arg rfl, trivial⟩ (fun _ _ _ _ h => h)) rfl (fun _ => ?_)
    refine s_rd (r_pickT rfl rfl) rfl ?_
    refine as1 rfl rfl ?_
    refine l_nil ?_
    refine b_of (nrm [oc b_0 [pv (.func (.func 43) #[] #[(ptr be_1 0), (ptr be_2 0), (ptr be_3 0), (ptr be_4 0)])], oc be_1 [slv rT_api_Premise e_1.Premises, slv rT_api_Rule e_1.Rules, slv rT_api_Promotion e_1.Promotions], oc be_2 [slv rT_api_Argument e_2], oc be_3 [iv .i64 e_3], oc be_4 [iv .i64 e_4], oc b_1 [pv (.func (.func 42) #[] #[(ptr be_1 0), (ptr be_2 0), (ptr be_3 0), (ptr be_4 0), (ptr be_6 0)])], oc be_6 [iv .i64 e_6.Link, iv .i64 e_6.Lift]] rfl) ?_
    refine n_then (ref_ret ?_)
    exact fin1 (.inl rfl) () [0, 1, 2, 3, 4, 5, 6] rfl ⟨rfl, rfl, rfl, rfl, rfl, rfl, rfl, trivial⟩ rfl (rv_tmp rfl)
  refine s_off rfl rfl rfl rfl rfl ?_
  refine s_off rfl rfl rfl rfl rfl ?_
  refine s_rd (r_pickF rfl rfl) rfl ?_
  refine as1 rfl rfl ?_
  refine l_nil ?_
  refine b_of (nrm [oc b_0 [pv (.func (.func 43) #[] #[(ptr be_1 0), (ptr be_2 0), (ptr be_3 0), (ptr be_4 0)])], oc be_1 [slv rT_api_Premise e_1.Premises, slv rT_api_Rule e_1.Rules, slv rT_api_Promotion e_1.Promotions], oc be_2 [slv rT_api_Argument e_2], oc be_3 [iv .i64 e_3], oc be_4 [iv .i64 e_4], oc b_1 [pv (.func (.func 42) #[] #[(ptr be_1 0), (ptr be_2 0), (ptr be_3 0), (ptr be_4 0), (ptr be_6 0)])], oc be_6 [iv .i64 e_6.Link, iv .i64 e_6.Lift]] rfl) ?_
  refine n_then (ref_ret ?_)
  exact fin1 (.inl rfl) () [0, 1, 2, 3, 4, 5, 6] rfl ⟨rfl, rfl, rfl, rfl, rfl, rfl, rfl, trivial⟩ rfl (rv_tmp rfl)

/-! deliberation/lift.Less -/
noncomputable def lift_Less_m (b_0 : T_api_Base) (l_1 : (List T_api_Argument)) (i_2 : Int) (k_3 : Int) (o_4 : T_api_Ordering) : Option (Bool) :=
  bif decide ((imin i_2 k_3) < 0) then
    some false
  else
    bif decide ((imax i_2 k_3) ≥ (l_1.length : Int)) then
      some false
    else
      Option.bind (lift_Assumes_m b_0 l_1 k_3) fun t6 =>
      bif t6 then
        some false
      else
        bif o_4.Link == 1 then
          Option.bind (lift_Less_3_m b_0 l_1 i_2 k_3 o_4) fun t12 =>
          some t12
        else
          bif o_4.Link == 2 then
            Option.bind (lift_Less_4_m b_0 l_1 i_2 k_3 o_4) fun t13 =>
            some t13
          else
            some false

theorem lift_Less_ok {b_0 : T_api_Base} {l_1 : (List T_api_Argument)} {i_2 : Int} {k_3 : Int} {o_4 : T_api_Ordering} {r : Bool} (hm : lift_Less_m b_0 l_1 i_2 k_3 o_4 = some r) :
    FnOk prog 24 [ag [slv rT_api_Premise b_0.Premises, slv rT_api_Rule b_0.Rules, slv rT_api_Promotion b_0.Promotions], slv rT_api_Argument l_1, iv .i64 i_2, iv .i64 k_3, ag [iv .i64 o_4.Link, iv .i64 o_4.Lift]] [] (fun (x : Unit) => [bv r]) (fun (x : Unit) => []) := by
  refine fn_ok (fn := Try.f24) (N := 44) (res := fun r x => [bv r]) (Ω1 := fun r x => []) Try.func24 rfl rfl hm rfl (fun E hM => ?_)
  unfold lift_Less_m
  refine ref_seq (ref_region ?_)
  refine s_st (s_box (part_agO (ψs := [slv rT_api_Premise b_0.Premises, slv rT_api_Rule b_0.Rules, slv rT_api_Promotion b_0.Promotions]) rfl ⟨.inl slv_at, .inl slv_at, .inl slv_at, trivial⟩)) rfl (fun b1 => ?_)
  refine s_st (s_box (part_at rfl slv_at)) rfl (fun b2 => ?_)
  refine s_st (s_box (part_at rfl iv_at)) rfl (fun b3 => ?_)
  refine s_st (s_box (part_at rfl iv_at)) rfl (fun b4 => ?_)
  refine s_st (s_box (part_agO (ψs := [iv .i64 o_4.Link, iv .i64 o_4.Lift]) rfl ⟨.inl iv_at, .inl iv_at, trivial⟩)) rfl (fun b5 => ?_)
  refine as1 rfl rfl ?_
  refine l_nil ?_
  refine b_of (nrm [oc b1 [slv rT_api_Premise b_0.Premises, slv rT_api_Rule b_0.Rules, slv rT_api_Promotion b_0.Promotions], oc b2 [slv rT_api_Argument l_1], oc b3 [iv .i64 i_2], oc b4 [iv .i64 k_3], oc b5 [iv .i64 o_4.Link, iv .i64 o_4.Lift]] rfl) ?_
  refine n_then (ref_seq (ref_seq (ref_region ?_)))
  refine s_rd (r_cload Try.isAgg3 rfl (j := 2) rfl rfl) rfl ?_
  refine s_rd (r_cload Try.isAgg3 rfl (j := 3) rfl rfl) rfl ?_
  refine s_rd (r_min rfl rfl) rfl ?_
  refine s_rd (r_lss rfl rfl) rfl ?_
  refine mv1 rfl rfl ?_
  refine b_split (t := 18) rfl (fun _ => ?_) (fun _ => ?_)
  · refine s_off rfl rfl rfl rfl rfl ?_
    refine s_off rfl rfl rfl rfl rfl ?_
    refine s_off rfl rfl rfl rfl rfl ?_
    refine s_off rfl rfl rfl rfl rfl ?_
    refine s_off rfl rfl rfl rfl rfl ?_
    refine s_off rfl rfl rfl rfl rfl ?_
    refine s_rd (r_pickT rfl rfl) rfl ?_
    refine mv1 rfl rfl ?_
    refine s_off rfl rfl rfl rfl rfl ?_
    refine s_off rfl rfl rfl rfl rfl ?_
    refine s_off rfl rfl rfl rfl rfl ?_
    refine s_off rfl rfl rfl rfl rfl ?_
    refine s_rd (r_pickT rfl rfl) rfl ?_
    refine l_nil (n_then ?_)
    refine ref_condT rfl rfl ?_
    refine ref_seq (ref_region ?_)
    refine as1 rfl rfl ?_
    refine l_nil (n_then (ref_ret (r_then ?_)))
    exact fin1 (.inl rfl) () [] rfl trivial rfl (rv_tmp rfl)
  refine s_on rfl rfl rfl ?_
  refine s_rd (r_cload Try.isAgg3 rfl (j := 2) rfl rfl) rfl ?_
  refine s_on rfl rfl rfl ?_
  refine s_rd (r_cload Try.isAgg3 rfl (j := 3) rfl rfl) rfl ?_
  refine s_on rfl rfl rfl ?_
  refine s_rd (r_max rfl rfl) rfl ?_
  refine s_on rfl rfl rfl ?_
  refine s_rd (r_cload Try.isAgg35 rfl (j := 1) rfl rfl) rfl ?_
  refine s_on rfl rfl rfl ?_
  refine s_rd (r_len Try.underlying35 rfl) rfl ?_
  refine s_on rfl rfl rfl ?_
  refine s_rd (r_geq rfl rfl) rfl ?_
  refine s_rd (r_pickF rfl rfl) rfl ?_
  refine mv1 rfl rfl ?_
  refine b_split (t := 26) rfl (fun _ => ?_) (fun _ => ?_)
  · refine s_off rfl rfl rfl rfl rfl ?_
    refine s_off rfl rfl rfl rfl rfl ?_
    refine s_off rfl rfl rfl rfl rfl ?_
    refine s_off rfl rfl rfl rfl rfl ?_
    refine s_rd (r_pickT rfl rfl) rfl ?_
    refine l_nil (n_then ?_)
    refine ref_condT rfl rfl ?_
    refine ref_seq (ref_region ?_)
    refine as1 rfl rfl ?_
    refine l_nil (n_then (ref_ret (r_then ?_)))
    exact fin1 (.inl rfl) () [] rfl trivial rfl (rv_tmp rfl)
  refine s_on rfl rfl rfl ?_
  refine s_rd (r_cloadS Try.isAgg34 Try.sizeOf34 rfl (j := 0) rfl rfl rfl) rfl ?_
  refine s_on rfl rfl rfl ?_
  refine s_rd (r_cload Try.isAgg35 rfl (j := 1) rfl rfl) rfl ?_
  refine s_on rfl rfl rfl ?_
  refine s_rd (r_cload Try.isAgg3 rfl (j := 3) rfl rfl) rfl ?_
  refine s_on rfl rfl rfl ?_
  refine pull fun t6 h_t6 => ?_
  refine s_st (s_call (ψ := fun (_ : Unit) => bv t6) (args := [.tmp 27, .tmp 28, .tmp 29]) Try.call21 rfl (lift_Assumes_ok h_t6) ⟨arg rfl, arg rfl, arg rfl, trivial⟩ (fun _ _ _ _ h => h)) rfl (fun _ => ?_)
  refine s_rd (r_pickF rfl rfl) rfl ?_
  refine l_nil (n_then ?_)
  refine ref_cond rfl (fun hb7 => ?_) (fun hb7 => ?_)
  · refine ref_seq (ref_region ?_)
    refine as1 rfl rfl ?_
    refine l_nil (n_then (ref_ret (r_then ?_)))
    exact fin1 (.inl rfl) () [] rfl trivial rfl (rv_tmp rfl)
  refine ref_skip (n_then (ref_seq (ref_region ?_)))
  refine s_rd (r_mkfn (xs := [.tmp 5, .tmp 6, .tmp 7, .tmp 8, .tmp 9]) (vs := [(ptr b1 0), (ptr b2 0), (ptr b3 0), (ptr b4 0), (ptr b5 0)]) ⟨rfl, rfl, rfl, rfl, rfl, trivial⟩) rfl ?_
  refine s_st (s_alloc zt_73) rfl (fun b8 => ?_)
  refine s_st0 (s_cstore (out := [pv (.func (.func 42) #[] #[(ptr b1 0), (ptr b2 0), (ptr b3 0), (ptr b4 0), (ptr b5 0)])]) Try.sizeOf73 rfl (j := 5) rfl (part_at (φ := pv (.func (.func 42) #[] #[(ptr b1 0), (ptr b2 0), (ptr b3 0), (ptr b4 0), (ptr b5 0)])) rfl (pv_at rfl)) rfl rfl rfl) (fun _ => ?_)
  refine l_nil (n_then (ref_seq (ref_region ?_)))
  refine s_rd (r_mkfn (xs := [.tmp 5, .tmp 6, .tmp 7, .tmp 8]) (vs := [(ptr b1 0), (ptr b2 0), (ptr b3 0), (ptr b4 0)]) ⟨rfl, rfl, rfl, rfl, trivial⟩) rfl ?_
  refine s_st (s_alloc zt_73) rfl (fun b9 => ?_)
  refine s_st0 (s_cstore (out := [pv (.func (.func 43) #[] #[(ptr b1 0), (ptr b2 0), (ptr b3 0), (ptr b4 0)])]) Try.sizeOf73 rfl (j := 6) rfl (part_at (φ := pv (.func (.func 43) #[] #[(ptr b1 0), (ptr b2 0), (ptr b3 0), (ptr b4 0)])) rfl (pv_at rfl)) rfl rfl rfl) (fun _ => ?_)
  refine l_nil ?_
  refine b_of (nrm [oc b1 [slv rT_api_Premise b_0.Premises, slv rT_api_Rule b_0.Rules, slv rT_api_Promotion b_0.Promotions], oc b2 [slv rT_api_Argument l_1], oc b3 [iv .i64 i_2], oc b4 [iv .i64 k_3], oc b5 [iv .i64 o_4.Link, iv .i64 o_4.Lift], oc b8 [pv (.func (.func 42) #[] #[(ptr b1 0), (ptr b2 0), (ptr b3 0), (ptr b4 0), (ptr b5 0)])], oc b9 [pv (.func (.func 43) #[] #[(ptr b1 0), (ptr b2 0), (ptr b3 0), (ptr b4 0)])]] rfl) ?_
  refine n_then (ref_seq (ref_region ?_))
  refine as1 rfl rfl ?_
  refine l_nil (n_then (ref_seq (ref_seq (ref_region ?_))))
  refine s_rd (r_faddr (fo := 0) Try.underlying43 rfl rfl Try.sizeOf3 rfl) rfl ?_
  refine s_rd (r_cload Try.isAgg3 rfl (j := 4) rfl rfl) rfl ?_
  refine l_nil (n_then (ref_block (ref_seq (ref_region ?_))))
  refine s_rd (r_eql rfl rfl) rfl ?_
  refine as1 rfl rfl ?_
  refine l_nil (n_then ?_)
  refine ref_cond rfl (fun hb10 => ?_) (fun hb10 => ?_)
  · refine ref_region ?_
    refine s_rd (r_mkfn (xs := [.tmp 11, .tmp 12]) (vs := [(ptr b8 0), (ptr b9 0)]) ⟨rfl, rfl, trivial⟩) rfl ?_
    refine as1 rfl rfl ?_
    refine l_nil (n_block (n_then (ref_seq (ref_region ?_))))
    refine mv1 rfl rfl ?_
    refine pull fun t12 h_t12 => ?_
    refine s_st (s_callC [5, 0, 1, 2, 3, 4, 6] [true, true, true, true, true, true, true] (fun (_ : Unit) => [oc b8 [pv (.func (.func 42) #[] #[(ptr b1 0), (ptr b2 0), (ptr b3 0), (ptr b4 0), (ptr b5 0)])], oc b1 [slv rT_api_Premise b_0.Premises, slv rT_api_Rule b_0.Rules, slv rT_api_Promotion b_0.Promotions], oc b2 [slv rT_api_Argument l_1], oc b3 [iv .i64 i_2], oc b4 [iv .i64 k_3], oc b5 [iv .i64 o_4.Link, iv .i64 o_4.Lift], oc b9 [pv (.func (.func 43) #[] #[(ptr b1 0), (ptr b2 0), (ptr b3 0), (ptr b4 0)])]]) (fun (_ : Unit) => []) (fun (_ : Unit) => bv t12) (args := []) (caps := [(ptr b8 0), (ptr b9 0)]) Try.call44 rfl (lift_Less_3_ok h_t12) ⟨rfl, rfl, ⟨rfl, rfl, ⟨rfl, rfl, ⟨rfl, rfl, ⟨rfl, rfl, ⟨rfl, rfl, ⟨rfl, rfl, trivial⟩⟩⟩⟩⟩⟩⟩ (fun _ => rfl) (fun _ => trivial) (fun _ => rfl) ⟨arg rfl, arg rfl, trivial⟩ (fun _ _ _ _ h => h)) rfl (fun _ => ?_)
    refine as1 rfl rfl ?_
    refine l_nil ?_
    refine b_of (nrm [oc b1 [slv rT_api_Premise b_0.Premises, slv rT_api_Rule b_0.Rules, slv rT_api_Promotion b_0.Promotions], oc b2 [slv rT_api_Argument l_1], oc b3 [iv .i64 i_2], oc b4 [iv .i64 k_3], oc b5 [iv .i64 o_4.Link, iv .i64 o_4.Lift], oc b8 [pv (.func (.func 42) #[] #[(ptr b1 0), (ptr b2 0), (ptr b3 0), (ptr b4 0), (ptr b5 0)])], oc b9 [pv (.func (.func 43) #[] #[(ptr b1 0), (ptr b2 0), (ptr b3 0), (ptr b4 0)])]] rfl) ?_
    refine n_then (ref_ret ?_)
    exact fin1 (.inl rfl) () [] rfl trivial rfl (rv_tmp rfl)
  refine ref_seq (ref_region ?_)
  refine s_rd (r_eql rfl rfl) rfl ?_
  refine as1 rfl rfl ?_
  refine l_nil (n_then ?_)
  refine ref_cond rfl (fun hb11 => ?_) (fun hb11 => ?_)
  · refine ref_region ?_
    refine s_rd (r_mkfn (xs := [.tmp 12, .tmp 11]) (vs := [(ptr b9 0), (ptr b8 0)]) ⟨rfl, rfl, trivial⟩) rfl ?_
    refine as1 rfl rfl ?_
    refine l_nil (n_block (n_then (ref_seq (ref_region ?_))))
    refine mv1 rfl rfl ?_
    refine pull fun t13 h_t13 => ?_
    refine s_st (s_callC [6, 0, 1, 2, 3, 5, 4] [true, true, true, true, true, true, true] (fun (_ : Unit) => [oc b9 [pv (.func (.func 43) #[] #[(ptr b1 0), (ptr b2 0), (ptr b3 0), (ptr b4 0)])], oc b1 [slv rT_api_Premise b_0.Premises, slv rT_api_Rule b_0.Rules, slv rT_api_Promotion b_0.Promotions], oc b2 [slv rT_api_Argument l_1], oc b3 [iv .i64 i_2], oc b4 [iv .i64 k_3], oc b8 [pv (.func (.func 42) #[] #[(ptr b1 0), (ptr b2 0), (ptr b3 0), (ptr b4 0), (ptr b5 0)])], oc b5 [iv .i64 o_4.Link, iv .i64 o_4.Lift]]) (fun (_ : Unit) => []) (fun (_ : Unit) => bv t13) (args := []) (caps := [(ptr b9 0), (ptr b8 0)]) Try.call45 rfl (lift_Less_4_ok h_t13) ⟨rfl, rfl, ⟨rfl, rfl, ⟨rfl, rfl, ⟨rfl, rfl, ⟨rfl, rfl, ⟨rfl, rfl, ⟨rfl, rfl, trivial⟩⟩⟩⟩⟩⟩⟩ (fun _ => rfl) (fun _ => trivial) (fun _ => rfl) ⟨arg rfl, arg rfl, trivial⟩ (fun _ _ _ _ h => h)) rfl (fun _ => ?_)
    refine as1 rfl rfl ?_
    refine l_nil ?_
    refine b_of (nrm [oc b1 [slv rT_api_Premise b_0.Premises, slv rT_api_Rule b_0.Rules, slv rT_api_Promotion b_0.Promotions], oc b2 [slv rT_api_Argument l_1], oc b3 [iv .i64 i_2], oc b4 [iv .i64 k_3], oc b5 [iv .i64 o_4.Link, iv .i64 o_4.Lift], oc b8 [pv (.func (.func 42) #[] #[(ptr b1 0), (ptr b2 0), (ptr b3 0), (ptr b4 0), (ptr b5 0)])], oc b9 [pv (.func (.func 43) #[] #[(ptr b1 0), (ptr b2 0), (ptr b3 0), (ptr b4 0)])]] rfl) ?_
    refine n_then (ref_ret ?_)
    exact fin1 (.inl rfl) () [] rfl trivial rfl (rv_tmp rfl)
  refine ref_seq (ref_region ?_)
  refine as1 rfl rfl ?_
  refine l_nil (n_then (ref_ret (r_block (r_then ?_))))
  exact fin1 (.inl rfl) () [] rfl trivial rfl (rv_tmp rfl)

/-! deliberation/deliberationlaw08.awake -/
noncomputable def law08_awake_m  : Option (Bool) :=
  Option.bind (ref07_Build_m (T_api_Base.mk [(T_api_Premise.mk (T_api_Literal.mk false (ByteArray.mk #[112])) 2 0 ByteArray.empty)] [(T_api_Rule.mk (ByteArray.mk #[100]) false 9 [(T_api_Literal.mk false (ByteArray.mk #[112]))] (T_api_Literal.mk false (ByteArray.mk #[113])))] [])) fun t3 =>
  Option.bind (lift_SetLess_m [2, 5] [3] 1) fun t6 =>
  bif t6 then
    Option.bind (lift_SetLess_m [2, 5] [3] 2) fun t7 =>
    bif !t7 then
      bif t3.2 == 0 then
        bif (t3.1.length : Int) == 2 then
          Option.bind (lift_Less_m (T_api_Base.mk [(T_api_Premise.mk (T_api_Literal.mk false (ByteArray.mk #[112])) 2 0 ByteArray.empty)] [(T_api_Rule.mk (ByteArray.mk #[100]) false 9 [(T_api_Literal.mk false (ByteArray.mk #[112]))] (T_api_Literal.mk false (ByteArray.mk #[113])))] []) t3.1 1 0 (T_api_Ordering.mk 1 1)) fun t8 =>
          bif t8 then
            Option.bind (lift_Less_m (T_api_Base.mk [(T_api_Premise.mk (T_api_Literal.mk false (ByteArray.mk #[112])) 2 0 ByteArray.empty)] [(T_api_Rule.mk (ByteArray.mk #[100]) false 9 [(T_api_Literal.mk false (ByteArray.mk #[112]))] (T_api_Literal.mk false (ByteArray.mk #[113])))] []) t3.1 0 1 (T_api_Ordering.mk 1 1)) fun t9 =>
            some (!t9)
          else
            some false
        else
          some false
      else
        some false
    else
      some false
  else
    some false

theorem law08_awake_ok  {r : Bool} (hm : law08_awake_m  = some r) :
    FnOk prog 12 [] [] (fun (x : Unit) => [bv r]) (fun (x : Unit) => []) := by
  refine fn_ok (fn := Try.f12) (N := 53) (res := fun r x => [bv r]) (Ω1 := fun r x => []) Try.func12 rfl rfl hm rfl (fun E hM => ?_)
  unfold law08_awake_m
  refine ref_seq (ref_region ?_)
  refine as1 rfl rfl ?_
  refine l_nil (n_then (ref_seq (ref_region ?_)))
  refine s_rd (r_build (ps := [(1, .const (.string (ByteArray.mk #[112])))]) (rs := [(1, [sv (ByteArray.mk #[112])])]) st_50 zs_50 ⟨rfl, (part_at rfl sv_at), trivial⟩ rfl rfl) rfl ?_
  refine s_st (s_alloc zt_50) rfl (fun b1 => ?_)
  refine s_st0 (s_cstore (out := [bv false, sv (ByteArray.mk #[112])]) Try.sizeOf50 rfl (j := 0) rfl (part_agO (ψs := [bv false, sv (ByteArray.mk #[112])]) rfl ⟨.inl bv_at, .inl sv_at, trivial⟩) rfl rfl rfl) (fun _ => ?_)
  refine l_nil (n_then (ref_seq (ref_region ?_)))
  refine s_rd (r_cloadS Try.isAgg50 Try.sizeOf50 rfl (j := 0) rfl rfl rfl) rfl ?_
  refine s_rd (r_build (ps := [(0, .tmp 7), (1, .const (.int .i64 (2))), (2, .const (.int .i64 (0)))]) (rs := [(0, [bv false, sv (ByteArray.mk #[112])]), (1, [iv .i64 2]), (2, [iv .i64 0])]) st_64 zs_64 ⟨rfl, (part_agO (ψs := [bv false, sv (ByteArray.mk #[112])]) rfl ⟨.inl bv_at, .inl sv_at, trivial⟩), ⟨rfl, (part_at rfl iv_at), ⟨rfl, (part_at rfl iv_at), trivial⟩⟩⟩ rfl rfl) rfl ?_
  refine s_st (s_bslice (xs := [.tmp 8]) (ds := [(T_api_Premise.mk (T_api_Literal.mk false (ByteArray.mk #[112])) 2 0 ByteArray.empty)]) Try.underlying30 el_64 rfl (Nat.le_of_ble_eq_true rfl) ⟨(part_agO (ψs := [bv false, sv (ByteArray.mk #[112]), iv .i64 2, iv .i64 0, sv ByteArray.empty]) rfl ⟨.inl bv_at, .inl sv_at, .inl iv_at, .inl iv_at, .inl sv_at, trivial⟩), trivial⟩) rfl (fun _ => ?_)
  refine s_rd (r_cloadS Try.isAgg50 Try.sizeOf50 rfl (j := 0) rfl rfl rfl) rfl ?_
  refine s_st (s_bslice (xs := [.tmp 10]) (ds := [(T_api_Literal.mk false (ByteArray.mk #[112]))]) Try.underlying53 el_50 rfl (Nat.le_of_ble_eq_true rfl) ⟨(part_agO (ψs := [bv false, sv (ByteArray.mk #[112])]) rfl ⟨.inl bv_at, .inl sv_at, trivial⟩), trivial⟩) rfl (fun _ => ?_)
  refine s_rd (r_build (ps := [(1, .const (.string (ByteArray.mk #[113])))]) (rs := [(1, [sv (ByteArray.mk #[113])])]) st_50 zs_50 ⟨rfl, (part_at rfl sv_at), trivial⟩ rfl rfl) rfl ?_
  refine s_rd (r_build (ps := [(0, .const (.string (ByteArray.mk #[100]))), (2, .const (.int .i64 (9))), (3, .tmp 11), (4, .tmp 12)]) (rs := [(0, [sv (ByteArray.mk #[100])]), (2, [iv .i64 9]), (3, [slv rT_api_Literal [(T_api_Literal.mk false (ByteArray.mk #[112]))]]), (4, [bv false, sv (ByteArray.mk #[113])])]) st_55 zs_55 ⟨rfl, (part_at rfl sv_at), ⟨rfl, (part_at rfl iv_at), ⟨rfl, (part_at rfl slv_at), ⟨rfl, (part_agO (ψs := [bv false, sv (ByteArray.mk #[113])]) rfl ⟨.inl bv_at, .inl sv_at, trivial⟩), trivial⟩⟩⟩⟩ rfl rfl) rfl ?_
  refine s_st (s_bslice (xs := [.tmp 13]) (ds := [(T_api_Rule.mk (ByteArray.mk #[100]) false 9 [(T_api_Literal.mk false (ByteArray.mk #[112]))] (T_api_Literal.mk false (ByteArray.mk #[113])))]) Try.underlying31 el_55 rfl (Nat.le_of_ble_eq_true rfl) ⟨(part_agO (ψs := [sv (ByteArray.mk #[100]), bv false, iv .i64 9, slv rT_api_Literal [(T_api_Literal.mk false (ByteArray.mk #[112]))], bv false, sv (ByteArray.mk #[113])]) rfl ⟨.inl sv_at, .inl bv_at, .inl iv_at, .inl slv_at, .inl bv_at, .inl sv_at, trivial⟩), trivial⟩) rfl (fun _ => ?_)
  refine s_rd (r_build (ps := [(0, .tmp 9), (1, .tmp 14)]) (rs := [(0, [slv rT_api_Premise [(T_api_Premise.mk (T_api_Literal.mk false (ByteArray.mk #[112])) 2 0 ByteArray.empty)]]), (1, [slv rT_api_Rule [(T_api_Rule.mk (ByteArray.mk #[100]) false 9 [(T_api_Literal.mk false (ByteArray.mk #[112]))] (T_api_Literal.mk false (ByteArray.mk #[113])))]])]) st_34 zs_34 ⟨rfl, (part_at rfl slv_at), ⟨rfl, (part_at rfl slv_at), trivial⟩⟩ rfl rfl) rfl ?_
  refine s_st (s_alloc zt_34) rfl (fun b2 => ?_)
  refine s_st0 (s_cstore (out := [slv rT_api_Premise [(T_api_Premise.mk (T_api_Literal.mk false (ByteArray.mk #[112])) 2 0 ByteArray.empty)], slv rT_api_Rule [(T_api_Rule.mk (ByteArray.mk #[100]) false 9 [(T_api_Literal.mk false (ByteArray.mk #[112]))] (T_api_Literal.mk false (ByteArray.mk #[113])))], pv (.slice none 0 0)]) Try.sizeOf34 rfl (j := 1) rfl (part_agO (ψs := [slv rT_api_Premise [(T_api_Premise.mk (T_api_Literal.mk false (ByteArray.mk #[112])) 2 0 ByteArray.empty)], slv rT_api_Rule [(T_api_Rule.mk (ByteArray.mk #[100]) false 9 [(T_api_Literal.mk false (ByteArray.mk #[112]))] (T_api_Literal.mk false (ByteArray.mk #[113])))], pv (.slice none 0 0)]) rfl ⟨.inl slv_at, .inl slv_at, .inl (pv_at rfl), trivial⟩) rfl rfl rfl) (fun _ => ?_)
  refine l_nil ?_
  refine b_of (nrm [oc b1 [bv false, sv (ByteArray.mk #[112])], oc b2 [slv rT_api_Premise [(T_api_Premise.mk (T_api_Literal.mk false (ByteArray.mk #[112])) 2 0 ByteArray.empty)], slv rT_api_Rule [(T_api_Rule.mk (ByteArray.mk #[100]) false 9 [(T_api_Literal.mk false (ByteArray.mk #[112]))] (T_api_Literal.mk false (ByteArray.mk #[113])))], pv (.slice none 0 0)]] rfl) ?_
  refine n_then (ref_seq (ref_region ?_))
  refine s_rd (r_cloadS Try.isAgg34 Try.sizeOf34 rfl (j := 1) rfl rfl rfl) rfl ?_
  refine b_of (nilG rT_api_Promotion [(17, ag [slv rT_api_Premise [(T_api_Premise.mk (T_api_Literal.mk false (ByteArray.mk #[112])) 2 0 ByteArray.empty)], slv rT_api_Rule [(T_api_Rule.mk (ByteArray.mk #[100]) false 9 [(T_api_Literal.mk false (ByteArray.mk #[112]))] (T_api_Literal.mk false (ByteArray.mk #[113])))], slv rT_api_Promotion []])] [] ⟨⟨_, rfl, .inr ⟨_, _, rfl, rfl, ⟨.inl rfl, .inl rfl, .inr ⟨rfl, rfl⟩, trivial⟩⟩⟩, trivial⟩ trivial) ?_
  refine pull fun t3 h_t3 => ?_
  refine s_st (s_call (ψ := fun (x4 : (Value × List Nat)) => tup [pv x4.1, iv .i64 t3.2]) (args := [.tmp 17]) Try.call31 rfl (ref07_Build_ok h_t3) ⟨arg rfl, trivial⟩ (fun _ _ _ _ h => h)) rfl (fun x4 => ?_)
  refine mv1 rfl rfl ?_
  refine s_rd (r_extract rfl rfl) rfl ?_
  refine s_rd (r_extract rfl rfl) rfl ?_
  refine as1 rfl rfl ?_
  refine as1 rfl rfl ?_
  refine l_nil (n_then (ref_seq (ref_region ?_)))
  refine s_rd (r_build (ps := [(0, .const (.int .i64 (1))), (1, .const (.int .i64 (1)))]) (rs := [(0, [iv .i64 1]), (1, [iv .i64 1])]) st_43 zs_43 ⟨rfl, (part_at rfl iv_at), ⟨rfl, (part_at rfl iv_at), trivial⟩⟩ rfl rfl) rfl ?_
  refine s_st (s_alloc zt_43) rfl (fun b5 => ?_)
  refine s_st0 (s_cstore (out := [iv .i64 1, iv .i64 1]) Try.sizeOf43 rfl (j := 3) rfl (part_agO (ψs := [iv .i64 1, iv .i64 1]) rfl ⟨.inl iv_at, .inl iv_at, trivial⟩) rfl rfl rfl) (fun _ => ?_)
  refine l_nil (n_then (ref_seq (ref_region ?_)))
  refine s_st (s_bslice (xs := [.const (.int .i64 (2)), .const (.int .i64 (5))]) (ds := [2, 5]) Try.underlying22 el_3 rfl (Nat.le_of_ble_eq_true rfl) ⟨(part_at rfl iv_at), ⟨(part_at rfl iv_at), trivial⟩⟩) rfl (fun _ => ?_)
  refine s_st (s_bslice (xs := [.const (.int .i64 (3))]) (ds := [3]) Try.underlying22 el_3 rfl (Nat.le_of_ble_eq_true rfl) ⟨(part_at rfl iv_at), trivial⟩) rfl (fun _ => ?_)
  refine pull fun t6 h_t6 => ?_
  refine s_st (s_call (ψ := fun (_ : Unit) => bv t6) (args := [.tmp 22, .tmp 23, .const (.int .i64 (1))]) Try.call10 rfl (lift_SetLess_ok h_t6) ⟨arg rfl, arg rfl, arg rfl, trivial⟩ (fun _ _ _ _ h => h)) rfl (fun _ => ?_)
  refine mv1 rfl rfl ?_
  refine b_split (t := 25) rfl (fun _ => ?_) (fun _ => ?_)
  · refine s_on rfl rfl rfl ?_
    refine s_st (s_bslice (xs := [.const (.int .i64 (2)), .const (.int .i64 (5))]) (ds := [2, 5]) Try.underlying22 el_3 rfl (Nat.le_of_ble_eq_true rfl) ⟨(part_at rfl iv_at), ⟨(part_at rfl iv_at), trivial⟩⟩) rfl (fun _ => ?_)
    refine s_on rfl rfl rfl ?_
    refine s_st (s_bslice (xs := [.const (.int .i64 (3))]) (ds := [3]) Try.underlying22 el_3 rfl (Nat.le_of_ble_eq_true rfl) ⟨(part_at rfl iv_at), trivial⟩) rfl (fun _ => ?_)
    refine s_on rfl rfl rfl ?_
    refine pull fun t7 h_t7 => ?_
    refine s_st (s_call (ψ := fun (_ : Unit) => bv t7) (args := [.tmp 26, .tmp 27, .const (.int .i64 (2))]) Try.call10 rfl (lift_SetLess_ok h_t7) ⟨arg rfl, arg rfl, arg rfl, trivial⟩ (fun _ _ _ _ h => h)) rfl (fun _ => ?_)
    refine s_on rfl rfl rfl ?_
    refine s_rd (r_not rfl) rfl ?_
    refine s_rd (r_pickT rfl rfl) rfl ?_
    refine mv1 rfl rfl ?_
    refine b_split (t := 31) rfl (fun _ => ?_) (fun _ => ?_)
    · refine s_on rfl rfl rfl ?_
      refine mv1 rfl rfl ?_
      refine s_on rfl rfl rfl ?_
      refine s_rd (r_eql rfl rfl) rfl ?_
      refine s_rd (r_pickT rfl rfl) rfl ?_
      refine mv1 rfl rfl ?_
      refine b_split (t := 35) rfl (fun _ => ?_) (fun _ => ?_)
      · refine s_on rfl rfl rfl ?_
        refine mv1 rfl rfl ?_
        refine s_on rfl rfl rfl ?_
        refine s_rd (r_olen Try.underlying35 rfl (j := 2) rfl) rfl ?_
        refine s_on rfl rfl rfl ?_
        refine s_rd (r_eql rfl rfl) rfl ?_
        refine s_rd (r_pickT rfl rfl) rfl ?_
        refine mv1 rfl rfl ?_
        refine b_split (t := 40) rfl (fun _ => ?_) (fun _ => ?_)
        · refine s_on rfl rfl rfl ?_
          refine s_rd (r_cloadS Try.isAgg34 Try.sizeOf34 rfl (j := 1) rfl rfl rfl) rfl ?_
          refine s_on rfl rfl rfl ?_
          refine mv1 rfl rfl ?_
          refine s_on rfl rfl rfl ?_
          refine s_rd (r_cloadS Try.isAgg43 Try.sizeOf43 rfl (j := 3) rfl rfl rfl) rfl ?_
          refine s_on rfl rfl rfl ?_
          refine b_of (nilG rT_api_Promotion [(41, ag [slv rT_api_Premise [(T_api_Premise.mk (T_api_Literal.mk false (ByteArray.mk #[112])) 2 0 ByteArray.empty)], slv rT_api_Rule [(T_api_Rule.mk (ByteArray.mk #[100]) false 9 [(T_api_Literal.mk false (ByteArray.mk #[112]))] (T_api_Literal.mk false (ByteArray.mk #[113])))], slv rT_api_Promotion []])] [] ⟨⟨_, rfl, .inr ⟨_, _, rfl, rfl, ⟨.inl rfl, .inl rfl, .inr ⟨rfl, rfl⟩, trivial⟩⟩⟩, trivial⟩ trivial) ?_
          refine pull fun t8 h_t8 => ?_
          refine s_st (s_callB (ψ := fun (_ : Unit) => bv t8) (args := [.tmp 41, .tmp 42, .const (.int .i64 (1)), .const (.int .i64 (0)), .tmp 43]) Try.call24 rfl (lift_Less_ok h_t8) ⟨argB rfl, argO rfl (j := 2) rfl, argB rfl, argB rfl, argB rfl, trivial⟩ (fun _ _ _ _ _ h => h)) rfl (fun _ => ?_)
          refine s_rd (r_pickT rfl rfl) rfl ?_
          refine mv1 rfl rfl ?_
          refine b_split (t := 46) rfl (fun _ => ?_) (fun _ => ?_)
          · refine s_on rfl rfl rfl ?_
            refine s_rd (r_cloadS Try.isAgg34 Try.sizeOf34 rfl (j := 1) rfl rfl rfl) rfl ?_
            refine s_on rfl rfl rfl ?_
            refine mv1 rfl rfl ?_
            refine s_on rfl rfl rfl ?_
            refine s_rd (r_cloadS Try.isAgg43 Try.sizeOf43 rfl (j := 3) rfl rfl rfl) rfl ?_
            refine s_on rfl rfl rfl ?_
            refine b_of (nilG rT_api_Promotion [(47, ag [slv rT_api_Premise [(T_api_Premise.mk (T_api_Literal.mk false (ByteArray.mk #[112])) 2 0 ByteArray.empty)], slv rT_api_Rule [(T_api_Rule.mk (ByteArray.mk #[100]) false 9 [(T_api_Literal.mk false (ByteArray.mk #[112]))] (T_api_Literal.mk false (ByteArray.mk #[113])))], slv rT_api_Promotion []])] [] ⟨⟨_, rfl, .inr ⟨_, _, rfl, rfl, ⟨.inl rfl, .inl rfl, .inr ⟨rfl, rfl⟩, trivial⟩⟩⟩, trivial⟩ trivial) ?_
            refine pull fun t9 h_t9 => ?_
            refine s_st (s_callB (ψ := fun (_ : Unit) => bv t9) (args := [.tmp 47, .tmp 48, .const (.int .i64 (0)), .const (.int .i64 (1)), .tmp 49]) Try.call24 rfl (lift_Less_ok h_t9) ⟨argB rfl, argO rfl (j := 2) rfl, argB rfl, argB rfl, argB rfl, trivial⟩ (fun _ _ _ _ _ h => h)) rfl (fun _ => ?_)
            refine s_on rfl rfl rfl ?_
            refine s_rd (r_not rfl) rfl ?_
            refine s_rd (r_pickT rfl rfl) rfl ?_
            refine as1 rfl rfl ?_
            refine l_nil ?_
            refine b_of (nrm [oc b1 [bv false, sv (ByteArray.mk #[112])], oc b2 [slv rT_api_Premise [(T_api_Premise.mk (T_api_Literal.mk false (ByteArray.mk #[112])) 2 0 ByteArray.empty)], slv rT_api_Rule [(T_api_Rule.mk (ByteArray.mk #[100]) false 9 [(T_api_Literal.mk false (ByteArray.mk #[112]))] (T_api_Literal.mk false (ByteArray.mk #[113])))], pv (.slice none 0 0)], oa rT_api_Argument x4.1 x4.2 t3.1, oc b5 [iv .i64 1, iv .i64 1]] rfl) ?_
            refine n_then (ref_ret ?_)
            exact fin1 (.inl rfl) () [] rfl trivial rfl (rv_tmp rfl)
          refine s_off rfl rfl rfl rfl rfl ?_
          refine s_off rfl rfl rfl rfl rfl ?_
          refine s_off rfl rfl rfl rfl rfl ?_
          refine s_off rfl rfl rfl rfl rfl ?_
          refine s_off rfl rfl rfl rfl rfl ?_
          refine s_rd (r_pickF rfl rfl) rfl ?_
          refine as1 rfl rfl ?_
          refine l_nil ?_
          refine b_of (nrm [oc b1 [bv false, sv (ByteArray.mk #[112])], oc b2 [slv rT_api_Premise [(T_api_Premise.mk (T_api_Literal.mk false (ByteArray.mk #[112])) 2 0 ByteArray.empty)], slv rT_api_Rule [(T_api_Rule.mk (ByteArray.mk #[100]) false 9 [(T_api_Literal.mk false (ByteArray.mk #[112]))] (T_api_Literal.mk false (ByteArray.mk #[113])))], pv (.slice none 0 0)], oa rT_api_Argument x4.1 x4.2 t3.1, oc b5 [iv .i64 1, iv .i64 1]] rfl) ?_
          refine n_then (ref_ret ?_)
          exact fin1 (.inl rfl) () [] rfl trivial rfl (rv_tmp rfl)
        refine s_off rfl rfl rfl rfl rfl ?_
        refine s_off rfl rfl rfl rfl rfl ?_
        refine s_off rfl rfl rfl rfl rfl ?_
        refine s_off rfl rfl rfl rfl rfl ?_
        refine s_rd (r_pickF rfl rfl) rfl ?_
        refine mv1 rfl rfl ?_
        refine s_off rfl rfl rfl rfl rfl ?_
        refine s_off rfl rfl rfl rfl rfl ?_
        refine s_off rfl rfl rfl rfl rfl ?_
        refine s_off rfl rfl rfl rfl rfl ?_
        refine s_off rfl rfl rfl rfl rfl ?_
        refine s_rd (r_pickF rfl rfl) rfl ?_
        refine as1 rfl rfl ?_
        refine l_nil ?_
        refine b_of (nrm [oc b1 [bv false, sv (ByteArray.mk #[112])], oc b2 [slv rT_api_Premise [(T_api_Premise.mk (T_api_Literal.mk false (ByteArray.mk #[112])) 2 0 ByteArray.empty)], slv rT_api_Rule [(T_api_Rule.mk (ByteArray.mk #[100]) false 9 [(T_api_Literal.mk false (ByteArray.mk #[112]))] (T_api_Literal.mk false (ByteArray.mk #[113])))], pv (.slice none 0 0)], oa rT_api_Argument x4.1 x4.2 t3.1, oc b5 [iv .i64 1, iv .i64 1]] rfl) ?_
        refine n_then (ref_ret ?_)
        exact fin1 (.inl rfl) () [] rfl trivial rfl (rv_tmp rfl)
      refine s_off rfl rfl rfl rfl rfl ?_
      refine s_off rfl rfl rfl rfl rfl ?_
      refine s_off rfl rfl rfl rfl rfl ?_
      refine s_rd (r_pickF rfl rfl) rfl ?_
      refine mv1 rfl rfl ?_
      refine s_off rfl rfl rfl rfl rfl ?_
      refine s_off rfl rfl rfl rfl rfl ?_
      refine s_off rfl rfl rfl rfl rfl ?_
      refine s_off rfl rfl rfl rfl rfl ?_
      refine s_rd (r_pickF rfl rfl) rfl ?_
      refine mv1 rfl rfl ?_
      refine s_off rfl rfl rfl rfl rfl ?_
      refine s_off rfl rfl rfl rfl rfl ?_
      refine s_off rfl rfl rfl rfl rfl ?_
      refine s_off rfl rfl rfl rfl rfl ?_
      refine s_off rfl rfl rfl rfl rfl ?_
      refine s_rd (r_pickF rfl rfl) rfl ?_
      refine as1 rfl rfl ?_
      refine l_nil ?_
      refine b_of (nrm [oc b1 [bv false, sv (ByteArray.mk #[112])], oc b2 [slv rT_api_Premise [(T_api_Premise.mk (T_api_Literal.mk false (ByteArray.mk #[112])) 2 0 ByteArray.empty)], slv rT_api_Rule [(T_api_Rule.mk (ByteArray.mk #[100]) false 9 [(T_api_Literal.mk false (ByteArray.mk #[112]))] (T_api_Literal.mk false (ByteArray.mk #[113])))], pv (.slice none 0 0)], oa rT_api_Argument x4.1 x4.2 t3.1, oc b5 [iv .i64 1, iv .i64 1]] rfl) ?_
      refine n_then (ref_ret ?_)
      exact fin1 (.inl rfl) () [] rfl trivial rfl (rv_tmp rfl)
    refine s_off rfl rfl rfl rfl rfl ?_
    refine s_off rfl rfl rfl rfl rfl ?_
    refine s_rd (r_pickF rfl rfl) rfl ?_
    refine mv1 rfl rfl ?_
    refine s_off rfl rfl rfl rfl rfl ?_
    refine s_off rfl rfl rfl rfl rfl ?_
    refine s_off rfl rfl rfl rfl rfl ?_
    refine s_rd (r_pickF rfl rfl) rfl ?_
    refine mv1 rfl rfl ?_
    refine s_off rfl rfl rfl rfl rfl ?_
    refine s_off rfl rfl rfl rfl rfl ?_
    refine s_off rfl rfl rfl rfl rfl ?_
    refine s_off rfl rfl rfl rfl rfl ?_
    refine s_rd (r_pickF rfl rfl) rfl ?_
    refine mv1 rfl rfl ?_
    refine s_off rfl rfl rfl rfl rfl ?_
    refine s_off rfl rfl rfl rfl rfl ?_
    refine s_off rfl rfl rfl rfl rfl ?_
    refine s_off rfl rfl rfl rfl rfl ?_
    refine s_off rfl rfl rfl rfl rfl ?_
    refine s_rd (r_pickF rfl rfl) rfl ?_
    refine as1 rfl rfl ?_
    refine l_nil ?_
    refine b_of (nrm [oc b1 [bv false, sv (ByteArray.mk #[112])], oc b2 [slv rT_api_Premise [(T_api_Premise.mk (T_api_Literal.mk false (ByteArray.mk #[112])) 2 0 ByteArray.empty)], slv rT_api_Rule [(T_api_Rule.mk (ByteArray.mk #[100]) false 9 [(T_api_Literal.mk false (ByteArray.mk #[112]))] (T_api_Literal.mk false (ByteArray.mk #[113])))], pv (.slice none 0 0)], oa rT_api_Argument x4.1 x4.2 t3.1, oc b5 [iv .i64 1, iv .i64 1]] rfl) ?_
    refine n_then (ref_ret ?_)
    exact fin1 (.inl rfl) () [] rfl trivial rfl (rv_tmp rfl)
  refine s_off rfl rfl rfl rfl rfl ?_
  refine s_off rfl rfl rfl rfl rfl ?_
  refine s_off rfl rfl rfl rfl rfl ?_
  refine s_off rfl rfl rfl rfl rfl ?_
  refine s_rd (r_pickF rfl rfl) rfl ?_
  refine mv1 rfl rfl ?_
  refine s_off rfl rfl rfl rfl rfl ?_
  refine s_off rfl rfl rfl rfl rfl ?_
  refine s_rd (r_pickF rfl rfl) rfl ?_
  refine mv1 rfl rfl ?_
  refine s_off rfl rfl rfl rfl rfl ?_
  refine s_off rfl rfl rfl rfl rfl ?_
  refine s_off rfl rfl rfl rfl rfl ?_
  refine s_rd (r_pickF rfl rfl) rfl ?_
  refine mv1 rfl rfl ?_
  refine s_off rfl rfl rfl rfl rfl ?_
  refine s_off rfl rfl rfl rfl rfl ?_
  refine s_off rfl rfl rfl rfl rfl ?_
  refine s_off rfl rfl rfl rfl rfl ?_
  refine s_rd (r_pickF rfl rfl) rfl ?_
  refine mv1 rfl rfl ?_
  refine s_off rfl rfl rfl rfl rfl ?_
  refine s_off rfl rfl rfl rfl rfl ?_
  refine s_off rfl rfl rfl rfl rfl ?_
  refine s_off rfl rfl rfl rfl rfl ?_
  refine s_off rfl rfl rfl rfl rfl ?_
  refine s_rd (r_pickF rfl rfl) rfl ?_
  refine as1 rfl rfl ?_
  refine l_nil ?_
  refine b_of (nrm [oc b1 [bv false, sv (ByteArray.mk #[112])], oc b2 [slv rT_api_Premise [(T_api_Premise.mk (T_api_Literal.mk false (ByteArray.mk #[112])) 2 0 ByteArray.empty)], slv rT_api_Rule [(T_api_Rule.mk (ByteArray.mk #[100]) false 9 [(T_api_Literal.mk false (ByteArray.mk #[112]))] (T_api_Literal.mk false (ByteArray.mk #[113])))], pv (.slice none 0 0)], oa rT_api_Argument x4.1 x4.2 t3.1, oc b5 [iv .i64 1, iv .i64 1]] rfl) ?_
  refine n_then (ref_ret ?_)
  exact fin1 (.inl rfl) () [] rfl trivial rfl (rv_tmp rfl)

/-! deliberation/deliberationlaw08.LiftRanks -/
noncomputable def law08_LiftRanks_l1 (at__1 : Int) (t3 : T_api_Base × List T_api_Argument × T_deliberationkeep_Src) (s32 : Int) : Option (Sum ((Sum (Bool) (Unit))) (Int)) :=
  bif decide (s32 ≤ (iadd .i64 (t3.2.1.length : Int) 1)) then
    joinM (fun j36 : Int =>
        Option.bind (lift_PremiseRanks_m t3.1 t3.2.1 j36) fun t39 =>
        Option.bind (ref08_PremiseRanks_m t3.1 t3.2.1 j36) fun t41 =>
        Option.bind (keep_Ints_m t39 t41) fun t43 =>
        bif !t43 then
          some (Sum.inl (Sum.inl false))
        else
          Option.bind (lift_RuleRanks_m t3.1 t3.2.1 j36) fun t44 =>
          Option.bind (ref08_RuleRanks_m t3.1 t3.2.1 j36) fun t46 =>
          Option.bind (keep_Ints_m t44 t46) fun t48 =>
          bif !t48 then
            some (Sum.inl (Sum.inl false))
          else
            Option.bind (lift_LastRanks_m t3.1 t3.2.1 j36) fun t49 =>
            Option.bind (ref08_LastRanks_m t3.1 t3.2.1 j36) fun t51 =>
            Option.bind (keep_Ints_m t49 t51) fun t53 =>
            bif !t53 then
              some (Sum.inl (Sum.inl false))
            else
              Option.bind (lift_Assumes_m t3.1 t3.2.1 j36) fun t54 =>
              Option.bind (ref08_Assumes_m t3.1 t3.2.1 j36) fun t55 =>
              bif !(t54 == t55) then
                some (Sum.inl (Sum.inl false))
              else
                letM (iadd .i64 s32 1) fun i57 =>
                some (Sum.inr i57)) fun k38 =>
    bif decide (s32 > (t3.2.1.length : Int)) then
      k38 at__1
    else
      k38 s32
  else
    some (Sum.inl (Sum.inr ()))

noncomputable def law08_LiftRanks_m (l_0 : (List Int)) (at__1 : Int) : Option (Bool) :=
  Option.bind (keep_New_m l_0) fun s1 =>
  Option.bind (law08_built_m s1 4 6 8) fun t3 =>
  Option.bind (loopC (law08_LiftRanks_l1 at__1 t3) (-1)) (sumK (fun a : Bool => some a) fun q58 : Unit =>
    Option.bind (law08_awake_m ) fun t60 =>
    some t60)

theorem law08_LiftRanks_ok {l_0 : (List Int)} {at__1 : Int} {r : Bool} (hm : law08_LiftRanks_m l_0 at__1 = some r) :
    FnOk prog 4 [slv (rI .i64) l_0, iv .i64 at__1] [] (fun (x : Unit) => [bv r]) (fun (x : Unit) => []) := by
  refine fn_ok (fn := Try.f4) (N := 76) (res := fun r x => [bv r]) (Ω1 := fun r x => []) Try.func4 rfl rfl hm rfl (fun E hM => ?_)
  unfold law08_LiftRanks_m
  refine ref_seq (ref_region ?_)
  refine as1 rfl rfl ?_
  refine l_nil (n_then (ref_seq (ref_region ?_)))
  refine mv1 rfl rfl ?_
  refine pull fun s1 h_s1 => ?_
  refine s_st (s_call (ψ := fun (x2 : Nat) => pv (ptr x2 0)) (args := [.tmp 10]) Try.call8 rfl (keep_New_ok h_s1) ⟨arg rfl, trivial⟩ (fun _ _ _ _ h => h)) rfl (fun x2 => ?_)
  refine as1 rfl rfl ?_
  refine l_nil (n_then (ref_seq (ref_region ?_)))
  refine mv1 rfl rfl ?_
  refine pull fun t3 h_t3 => ?_
  refine s_st (s_callC [0] [true] (fun (x4 : (Value × List Nat)) => [oc x2 [slv (rI .i64) t3.2.2.L, iv .i64 t3.2.2.At]]) (fun (x4 : (Value × List Nat)) => [oa rT_api_Argument x4.1 x4.2 t3.2.1]) (fun (x4 : (Value × List Nat)) => tup [ag [slv rT_api_Premise t3.1.Premises, slv rT_api_Rule t3.1.Rules, slv rT_api_Promotion t3.1.Promotions], pv x4.1]) (args := [.tmp 13, .const (.int .i64 (4)), .const (.int .i64 (6)), .const (.int .i64 (8))]) (caps := []) Try.call13 rfl (law08_built_ok h_t3) ⟨rfl, rfl, trivial⟩ (fun _ => rfl) (fun _ => trivial) (fun _ => rfl) ⟨arg rfl, arg rfl, arg rfl, arg rfl, trivial⟩ (fun _ _ _ _ h => h)) rfl (fun x4 => ?_)
  refine mv1 rfl rfl ?_
  refine s_rd (r_extract rfl rfl) rfl ?_
  refine s_rd (r_extract rfl rfl) rfl ?_
  refine s_st (s_alloc zt_34) rfl (fun b5 => ?_)
  refine s_st0 (s_cstore (out := [slv rT_api_Premise t3.1.Premises, slv rT_api_Rule t3.1.Rules, slv rT_api_Promotion t3.1.Promotions]) Try.sizeOf34 rfl (j := 2) rfl (part_agO (ψs := [slv rT_api_Premise t3.1.Premises, slv rT_api_Rule t3.1.Rules, slv rT_api_Promotion t3.1.Promotions]) rfl ⟨.inl slv_at, .inl slv_at, .inl slv_at, trivial⟩) rfl rfl rfl) (fun _ => ?_)
  refine as1 rfl rfl ?_
  refine l_nil ?_
  refine b_of (nrm [oc x2 [slv (rI .i64) t3.2.2.L, iv .i64 t3.2.2.At], oa rT_api_Argument x4.1 x4.2 t3.2.1, oc b5 [slv rT_api_Premise t3.1.Premises, slv rT_api_Rule t3.1.Rules, slv rT_api_Promotion t3.1.Promotions]] rfl) ?_
  refine n_then (ref_seq (ref_seq (ref_region ?_)))
  refine as1 rfl rfl ?_
  refine l_nil (n_then ?_)
  refine b_of (frzL [16, 7] (j := 1) rfl ⟨rfl, rfl, trivial⟩) ?_
  refine ref_loopX (f := (law08_LiftRanks_l1 at__1 t3)) (Γl := (fun (s32 : Int) (x33 : Unit) => [(1, iv .i64 at__1), (6, pv (ptr b5 0)), (7, slv rT_api_Argument t3.2.1), (8, iv .i64 s32)])) (Ωl := (fun (s32 : Int) (x33 : Unit) => [oc b5 [slv rT_api_Premise t3.1.Premises, slv rT_api_Rule t3.1.Rules, slv rT_api_Promotion t3.1.Promotions]])) (Γb := (fun (q58 : Unit) (y59 : Unit) => [])) (Ωb := (fun (q58 : Unit) (y59 : Unit) => [])) (kr := (fun a : Bool => some a)) (-1) () (weak [2] ⟨rfl, rfl, rfl, rfl, trivial⟩ ⟨rfl, trivial⟩) (fun s32 x33 => ?_) (fun q58 y59 => ?_)
  · unfold law08_LiftRanks_l1
    refine ref_seq (ref_seq (ref_region ?_))
    refine mv1 rfl rfl ?_
    refine mv1 rfl rfl ?_
    refine s_rd (r_len Try.underlying35 rfl) rfl ?_
    refine s_rd (r_add rfl rfl) rfl ?_
    refine s_rd (r_leq rfl rfl) rfl ?_
    refine l_nil (n_then ?_)
    refine ref_cond rfl (fun hb34 => ?_) (fun hb34 => ?_)
    · refine ref_skip (n_then (ref_seq (ref_block (ref_seq (ref_region ?_)))))
      refine mv1 rfl rfl ?_
      refine as1 rfl rfl ?_
      refine l_nil (n_then (ref_seq ?_))
      refine ref_join (fun (j36 : Int) (x37 : Unit) => [(1, iv .i64 at__1), (6, pv (ptr b5 0)), (7, slv rT_api_Argument t3.2.1), (8, iv .i64 s32), (9, iv .i64 j36)]) (fun (j36 : Int) (x37 : Unit) => [oc b5 [slv rT_api_Premise t3.1.Premises, slv rT_api_Rule t3.1.Rules, slv rT_api_Promotion t3.1.Promotions]]) (fun k38 hk38 => ?_) (fun j36 x37 => ?_)
      · refine ref_seq (ref_region ?_)
        refine mv1 rfl rfl ?_
        refine mv1 rfl rfl ?_
        refine s_rd (r_len Try.underlying35 rfl) rfl ?_
        refine s_rd (r_gtr rfl rfl) rfl ?_
        refine l_nil (n_then ?_)
        refine ref_cond rfl (fun hb35 => ?_) (fun hb35 => ?_)
        · refine ref_region ?_
          refine mv1 rfl rfl ?_
          refine as1 rfl rfl ?_
          refine l_nil ?_
          exact b_to (hk38 at__1 ()) (weak [0] ⟨rfl, rfl, rfl, rfl, rfl, trivial⟩ ⟨rfl, trivial⟩)
        refine ref_skip ?_
        exact b_to (hk38 s32 ()) (weak [0] ⟨rfl, rfl, rfl, rfl, rfl, trivial⟩ ⟨rfl, trivial⟩)
      refine n_then (ref_seq ?_)
      refine ref_draw [0, 1, 2, 4, 5, 6, 9, 10, 11, 12, 13, 15, 16, 17, 20, 21, 22, 23, 24, 25, 27, 28, 29, 32, 33, 34, 35, 36, 37, 39, 40, 41, 43, 44] rfl (by kernel_rfl) (fun hok => ?_)
      refine a_rd (i := 0) hok rfl (by kernel_rfl) rfl (r_cloadS Try.isAgg34 Try.sizeOf34 rfl (j := 0) rfl rfl rfl) rfl ?_
      refine a_rd (i := 1) hok rfl (by kernel_rfl) rfl (r_move rfl) rfl ?_
      refine a_rd (i := 2) hok rfl (by kernel_rfl) rfl (r_move rfl) rfl ?_
      refine a_rd (i := 4) hok rfl (by kernel_rfl) rfl (r_cloadS Try.isAgg34 Try.sizeOf34 rfl (j := 0) rfl rfl rfl) rfl ?_
      refine a_rd (i := 5) hok rfl (by kernel_rfl) rfl (r_move rfl) rfl ?_
      refine a_rd (i := 6) hok rfl (by kernel_rfl) rfl (r_move rfl) rfl ?_
      refine pull fun t39 h_t39 => ?_
      refine a_next hok 3 [] (by kernel_rfl) ?_ trivial
      refine a_st (i := 3) hok rfl rfl (s_call (ψ := fun (x40 : (Value × List Nat)) => pv x40.1) (args := [.tmp 30, .tmp 31, .tmp 32]) Try.call15 rfl (lift_PremiseRanks_ok h_t39) ⟨arg rfl, arg rfl, arg rfl, trivial⟩ (fun _ _ _ _ h => h)) (by intro _ h; cases h; rfl) (fun _ => ⟨trivial, ⟨trivial, ⟨⟨⟨rfl, rfl⟩, trivial⟩, ⟨trivial, ⟨trivial, ⟨trivial, trivial⟩⟩⟩⟩⟩⟩) (fun x40 => ?_)
      refine pull fun t41 h_t41 => ?_
      refine a_next hok 7 [] (by kernel_rfl) ?_ trivial
      refine a_st (i := 7) hok rfl rfl (s_call (ψ := fun (x42 : (Value × List Nat)) => pv x42.1) (args := [.tmp 34, .tmp 35, .tmp 36]) Try.call16 rfl (ref08_PremiseRanks_ok h_t41) ⟨arg rfl, arg rfl, arg rfl, trivial⟩ (fun _ _ _ _ h => h)) (by intro _ h; cases h; rfl) (fun _ => ⟨trivial, ⟨trivial, ⟨trivial, ⟨trivial, ⟨trivial, ⟨⟨⟨rfl, rfl⟩, trivial⟩, trivial⟩⟩⟩⟩⟩⟩) (fun x42 => ?_)
      refine pull fun t43 h_t43 => ?_
      refine a_next hok 8 [] (by kernel_rfl) ?_ trivial
      refine a_st (i := 8) hok rfl rfl (s_callB (ψ := fun (_ : Unit) => bv t43) (args := [.tmp 33, .tmp 37]) Try.call14 rfl (keep_Ints_ok h_t43) ⟨argO rfl (j := 1) rfl, argO rfl (j := 2) rfl, trivial⟩ (fun _ _ _ _ _ h => h)) (by intro _ h; cases h; rfl) (fun _ => ⟨trivial, ⟨trivial, ⟨⟨⟨rfl, rfl⟩, trivial⟩, ⟨trivial, ⟨trivial, ⟨⟨⟨rfl, rfl⟩, trivial⟩, trivial⟩⟩⟩⟩⟩⟩) (fun _ => ?_)
      refine a_rd (i := 9) hok rfl (by kernel_rfl) rfl (r_not rfl) rfl ?_
      refine a_rd (i := 10) hok rfl (by kernel_rfl) rfl (r_move rfl) rfl ?_
      refine b_split (t := 40) rfl (fun _ => ?_) (fun _ => ?_)
      · refine a_off (i := 11) hok rfl rfl rfl rfl rfl (by kernel_rfl) rfl rfl ?_
        refine a_off (i := 12) hok rfl rfl rfl rfl rfl (by kernel_rfl) rfl rfl ?_
        refine a_off (i := 13) hok rfl rfl rfl rfl rfl (by kernel_rfl) rfl rfl ?_
        refine a_off (i := 15) hok rfl rfl rfl rfl rfl (by kernel_rfl) rfl rfl ?_
        refine a_off (i := 16) hok rfl rfl rfl rfl rfl (by kernel_rfl) rfl rfl ?_
        refine a_off (i := 17) hok rfl rfl rfl rfl rfl (by kernel_rfl) rfl rfl ?_
        refine a_next hok 14 [] (by kernel_rfl) ?_ trivial
        refine a_stOff (i := 14) hok rfl rfl rfl rfl rfl rfl (by intro _ h; cases h; rfl) ⟨trivial, ⟨trivial, ⟨trivial, ⟨trivial, ⟨trivial, ⟨trivial, ⟨trivial, ⟨trivial, ⟨trivial, ⟨trivial, ⟨⟨⟨rfl, rfl⟩, trivial⟩, ⟨trivial, ⟨trivial, ⟨⟨⟨rfl, rfl⟩, trivial⟩, trivial⟩⟩⟩⟩⟩⟩⟩⟩⟩⟩⟩⟩⟩⟩ ?_
        refine a_next hok 18 [] (by kernel_rfl) ?_ trivial
        refine a_stOff (i := 18) hok rfl rfl rfl rfl rfl rfl (by intro _ h; cases h; rfl) ⟨trivial, ⟨trivial, ⟨trivial, ⟨trivial, ⟨trivial, ⟨trivial, ⟨trivial, ⟨trivial, ⟨trivial, ⟨trivial, ⟨⟨⟨rfl, rfl⟩, trivial⟩, ⟨trivial, ⟨trivial, ⟨⟨⟨rfl, rfl⟩, trivial⟩, trivial⟩⟩⟩⟩⟩⟩⟩⟩⟩⟩⟩⟩⟩⟩ ?_
        refine a_next hok 19 [] (by kernel_rfl) ?_ trivial
        refine a_stOff (i := 19) hok rfl rfl rfl rfl rfl rfl (by intro _ h; cases h; rfl) ⟨trivial, ⟨trivial, ⟨trivial, ⟨trivial, ⟨trivial, ⟨trivial, ⟨trivial, ⟨trivial, ⟨trivial, ⟨trivial, ⟨⟨⟨rfl, rfl⟩, trivial⟩, ⟨trivial, ⟨trivial, ⟨⟨⟨rfl, rfl⟩, trivial⟩, trivial⟩⟩⟩⟩⟩⟩⟩⟩⟩⟩⟩⟩⟩⟩ ?_
        refine a_off (i := 20) hok rfl rfl rfl rfl rfl (by kernel_rfl) rfl rfl ?_
        refine a_rd (i := 21) hok rfl (by kernel_rfl) rfl (r_pickT rfl rfl) rfl ?_
        refine a_rd (i := 22) hok rfl (by kernel_rfl) rfl (r_move rfl) rfl ?_
        refine a_off (i := 23) hok rfl rfl rfl rfl rfl (by kernel_rfl) rfl rfl ?_
        refine a_off (i := 24) hok rfl rfl rfl rfl rfl (by kernel_rfl) rfl rfl ?_
        refine a_off (i := 25) hok rfl rfl rfl rfl rfl (by kernel_rfl) rfl rfl ?_
        refine a_off (i := 27) hok rfl rfl rfl rfl rfl (by kernel_rfl) rfl rfl ?_
        refine a_off (i := 28) hok rfl rfl rfl rfl rfl (by kernel_rfl) rfl rfl ?_
        refine a_off (i := 29) hok rfl rfl rfl rfl rfl (by kernel_rfl) rfl rfl ?_
        refine a_next hok 26 [] (by kernel_rfl) ?_ trivial
        refine a_stOff (i := 26) hok rfl rfl rfl rfl rfl rfl (by intro _ h; cases h; rfl) ⟨trivial, ⟨trivial, ⟨trivial, ⟨trivial, ⟨trivial, ⟨trivial, ⟨trivial, ⟨trivial, ⟨trivial, ⟨trivial, ⟨trivial, ⟨trivial, ⟨trivial, ⟨trivial, ⟨trivial, ⟨trivial, ⟨trivial, ⟨trivial, ⟨trivial, ⟨⟨⟨rfl, rfl⟩, trivial⟩, ⟨trivial, ⟨trivial, ⟨⟨⟨rfl, rfl⟩, trivial⟩, trivial⟩⟩⟩⟩⟩⟩⟩⟩⟩⟩⟩⟩⟩⟩⟩⟩⟩⟩⟩⟩⟩⟩⟩ ?_
        refine a_next hok 30 [] (by kernel_rfl) ?_ trivial
        refine a_stOff (i := 30) hok rfl rfl rfl rfl rfl rfl (by intro _ h; cases h; rfl) ⟨trivial, ⟨trivial, ⟨trivial, ⟨trivial, ⟨trivial, ⟨trivial, ⟨trivial, ⟨trivial, ⟨trivial, ⟨trivial, ⟨trivial, ⟨trivial, ⟨trivial, ⟨trivial, ⟨trivial, ⟨trivial, ⟨trivial, ⟨trivial, ⟨trivial, ⟨⟨⟨rfl, rfl⟩, trivial⟩, ⟨trivial, ⟨trivial, ⟨⟨⟨rfl, rfl⟩, trivial⟩, trivial⟩⟩⟩⟩⟩⟩⟩⟩⟩⟩⟩⟩⟩⟩⟩⟩⟩⟩⟩⟩⟩⟩⟩ ?_
        refine a_next hok 31 [] (by kernel_rfl) ?_ trivial
        refine a_stOff (i := 31) hok rfl rfl rfl rfl rfl rfl (by intro _ h; cases h; rfl) ⟨trivial, ⟨trivial, ⟨trivial, ⟨trivial, ⟨trivial, ⟨trivial, ⟨trivial, ⟨trivial, ⟨trivial, ⟨trivial, ⟨trivial, ⟨trivial, ⟨trivial, ⟨trivial, ⟨trivial, ⟨trivial, ⟨trivial, ⟨trivial, ⟨trivial, ⟨⟨⟨rfl, rfl⟩, trivial⟩, ⟨trivial, ⟨trivial, ⟨⟨⟨rfl, rfl⟩, trivial⟩, trivial⟩⟩⟩⟩⟩⟩⟩⟩⟩⟩⟩⟩⟩⟩⟩⟩⟩⟩⟩⟩⟩⟩⟩ ?_
        refine a_off (i := 32) hok rfl rfl rfl rfl rfl (by kernel_rfl) rfl rfl ?_
        refine a_rd (i := 33) hok rfl (by kernel_rfl) rfl (r_pickT rfl rfl) rfl ?_
        refine a_rd (i := 34) hok rfl (by kernel_rfl) rfl (r_move rfl) rfl ?_
        refine a_off (i := 35) hok rfl rfl rfl rfl rfl (by kernel_rfl) rfl rfl ?_
        refine a_off (i := 36) hok rfl rfl rfl rfl rfl (by kernel_rfl) rfl rfl ?_
        refine a_off (i := 37) hok rfl rfl rfl rfl rfl (by kernel_rfl) rfl rfl ?_
        refine a_off (i := 39) hok rfl rfl rfl rfl rfl (by kernel_rfl) rfl rfl ?_
        refine a_off (i := 40) hok rfl rfl rfl rfl rfl (by kernel_rfl) rfl rfl ?_
        refine a_off (i := 41) hok rfl rfl rfl rfl rfl (by kernel_rfl) rfl rfl ?_
        refine a_next hok 38 [] (by kernel_rfl) ?_ trivial
        refine a_stOff (i := 38) hok rfl rfl rfl rfl rfl rfl (by intro _ h; cases h; rfl) ⟨trivial, ⟨trivial, ⟨trivial, ⟨trivial, ⟨trivial, ⟨trivial, ⟨trivial, ⟨trivial, ⟨trivial, ⟨trivial, ⟨trivial, ⟨trivial, ⟨trivial, ⟨trivial, ⟨trivial, ⟨trivial, ⟨trivial, ⟨trivial, ⟨trivial, ⟨trivial, ⟨trivial, ⟨trivial, ⟨trivial, ⟨trivial, ⟨trivial, ⟨trivial, ⟨trivial, ⟨trivial, ⟨⟨⟨rfl, rfl⟩, trivial⟩, ⟨trivial, ⟨trivial, ⟨⟨⟨rfl, rfl⟩, trivial⟩, trivial⟩⟩⟩⟩⟩⟩⟩⟩⟩⟩⟩⟩⟩⟩⟩⟩⟩⟩⟩⟩⟩⟩⟩⟩⟩⟩⟩⟩⟩⟩⟩⟩ ?_
        refine a_next hok 42 [] (by kernel_rfl) ?_ trivial
        refine a_stOff (i := 42) hok rfl rfl rfl rfl rfl rfl (by intro _ h; cases h; rfl) ⟨trivial, ⟨trivial, ⟨trivial, ⟨trivial, ⟨trivial, ⟨trivial, ⟨trivial, ⟨trivial, ⟨trivial, ⟨trivial, ⟨trivial, ⟨trivial, ⟨trivial, ⟨trivial, ⟨trivial, ⟨trivial, ⟨trivial, ⟨trivial, ⟨trivial, ⟨trivial, ⟨trivial, ⟨trivial, ⟨trivial, ⟨trivial, ⟨trivial, ⟨trivial, ⟨trivial, ⟨trivial, ⟨⟨⟨rfl, rfl⟩, trivial⟩, ⟨trivial, ⟨trivial, ⟨⟨⟨rfl, rfl⟩, trivial⟩, trivial⟩⟩⟩⟩⟩⟩⟩⟩⟩⟩⟩⟩⟩⟩⟩⟩⟩⟩⟩⟩⟩⟩⟩⟩⟩⟩⟩⟩⟩⟩⟩⟩ ?_
        refine a_off (i := 43) hok rfl rfl rfl rfl rfl (by kernel_rfl) rfl rfl ?_
        refine a_rd (i := 44) hok rfl (by kernel_rfl) rfl (r_pickT rfl rfl) rfl ?_
        refine a_fin hok (by kernel_rfl) ?_
        refine n_then ?_
        refine ref_condT rfl rfl ?_
        refine ref_seq (ref_region ?_)
        refine as1 rfl rfl ?_
        refine l_nil (n_then (ref_ret (r_block (r_then ?_))))
        refine retX ?_
        refine r_block (r_then ?_)
        exact fin1 (.inl rfl) () [] rfl trivial rfl (rv_tmp rfl)
      refine a_rdOn (i := 11) hok rfl rfl rfl rfl (by kernel_rfl) rfl (r_cloadS Try.isAgg34 Try.sizeOf34 rfl (j := 0) rfl rfl rfl) rfl ?_
      refine a_rdOn (i := 12) hok rfl rfl rfl rfl (by kernel_rfl) rfl (r_move rfl) rfl ?_
      refine a_rdOn (i := 13) hok rfl rfl rfl rfl (by kernel_rfl) rfl (r_move rfl) rfl ?_
      refine a_rdOn (i := 15) hok rfl rfl rfl rfl (by kernel_rfl) rfl (r_cloadS Try.isAgg34 Try.sizeOf34 rfl (j := 0) rfl rfl rfl) rfl ?_
      refine a_rdOn (i := 16) hok rfl rfl rfl rfl (by kernel_rfl) rfl (r_move rfl) rfl ?_
      refine a_rdOn (i := 17) hok rfl rfl rfl rfl (by kernel_rfl) rfl (r_move rfl) rfl ?_
      refine pull fun t44 h_t44 => ?_
      refine a_next hok 14 [] (by kernel_rfl) ?_ trivial
      refine a_stOn (i := 14) hok rfl rfl rfl rfl rfl (s_call (ψ := fun (x45 : (Value × List Nat)) => pv x45.1) (args := [.tmp 41, .tmp 42, .tmp 43]) Try.call17 rfl (lift_RuleRanks_ok h_t44) ⟨arg rfl, arg rfl, arg rfl, trivial⟩ (fun _ _ _ _ h => h)) (by intro _ h; cases h; rfl) (fun _ => ⟨trivial, ⟨trivial, ⟨⟨⟨rfl, rfl⟩, trivial⟩, ⟨trivial, ⟨trivial, ⟨trivial, ⟨trivial, ⟨trivial, ⟨trivial, ⟨trivial, ⟨⟨⟨rfl, rfl⟩, trivial⟩, ⟨trivial, ⟨trivial, ⟨⟨⟨rfl, rfl⟩, trivial⟩, trivial⟩⟩⟩⟩⟩⟩⟩⟩⟩⟩⟩⟩⟩⟩) (fun x45 => ?_)
      refine pull fun t46 h_t46 => ?_
      refine a_next hok 18 [] (by kernel_rfl) ?_ trivial
      refine a_stOn (i := 18) hok rfl rfl rfl rfl rfl (s_call (ψ := fun (x47 : (Value × List Nat)) => pv x47.1) (args := [.tmp 45, .tmp 46, .tmp 47]) Try.call18 rfl (ref08_RuleRanks_ok h_t46) ⟨arg rfl, arg rfl, arg rfl, trivial⟩ (fun _ _ _ _ h => h)) (by intro _ h; cases h; rfl) (fun _ => ⟨trivial, ⟨trivial, ⟨trivial, ⟨trivial, ⟨trivial, ⟨⟨⟨rfl, rfl⟩, trivial⟩, ⟨trivial, ⟨trivial, ⟨trivial, ⟨trivial, ⟨⟨⟨rfl, rfl⟩, trivial⟩, ⟨trivial, ⟨trivial, ⟨⟨⟨rfl, rfl⟩, trivial⟩, trivial⟩⟩⟩⟩⟩⟩⟩⟩⟩⟩⟩⟩⟩⟩) (fun x47 => ?_)
      refine pull fun t48 h_t48 => ?_
      refine a_next hok 19 [] (by kernel_rfl) ?_ trivial
      refine a_stOn (i := 19) hok rfl rfl rfl rfl rfl (s_callB (ψ := fun (_ : Unit) => bv t48) (args := [.tmp 44, .tmp 48]) Try.call14 rfl (keep_Ints_ok h_t48) ⟨argO rfl (j := 3) rfl, argO rfl (j := 4) rfl, trivial⟩ (fun _ _ _ _ _ h => h)) (by intro _ h; cases h; rfl) (fun _ => ⟨trivial, ⟨trivial, ⟨⟨⟨rfl, rfl⟩, trivial⟩, ⟨trivial, ⟨trivial, ⟨⟨⟨rfl, rfl⟩, trivial⟩, ⟨trivial, ⟨trivial, ⟨trivial, ⟨trivial, ⟨⟨⟨rfl, rfl⟩, trivial⟩, ⟨trivial, ⟨trivial, ⟨⟨⟨rfl, rfl⟩, trivial⟩, trivial⟩⟩⟩⟩⟩⟩⟩⟩⟩⟩⟩⟩⟩⟩) (fun _ => ?_)
      refine a_rdOn (i := 20) hok rfl rfl rfl rfl (by kernel_rfl) rfl (r_not rfl) rfl ?_
      refine a_rd (i := 21) hok rfl (by kernel_rfl) rfl (r_pickF rfl rfl) rfl ?_
      refine a_rd (i := 22) hok rfl (by kernel_rfl) rfl (r_move rfl) rfl ?_
      refine b_split (t := 52) rfl (fun _ => ?_) (fun _ => ?_)
      · refine a_off (i := 23) hok rfl rfl rfl rfl rfl (by kernel_rfl) rfl rfl ?_
        refine a_off (i := 24) hok rfl rfl rfl rfl rfl (by kernel_rfl) rfl rfl ?_
        refine a_off (i := 25) hok rfl rfl rfl rfl rfl (by kernel_rfl) rfl rfl ?_
        refine a_off (i := 27) hok rfl rfl rfl rfl rfl (by kernel_rfl) rfl rfl ?_
        refine a_off (i := 28) hok rfl rfl rfl rfl rfl (by kernel_rfl) rfl rfl ?_
        refine a_off (i := 29) hok rfl rfl rfl rfl rfl (by kernel_rfl) rfl rfl ?_
        refine a_next hok 26 [] (by kernel_rfl) ?_ trivial
        refine a_stOff (i := 26) hok rfl rfl rfl rfl rfl rfl (by intro _ h; cases h; rfl) ⟨trivial, ⟨trivial, ⟨trivial, ⟨trivial, ⟨trivial, ⟨trivial, ⟨trivial, ⟨trivial, ⟨trivial, ⟨trivial, ⟨trivial, ⟨⟨⟨rfl, rfl⟩, trivial⟩, ⟨trivial, ⟨trivial, ⟨⟨⟨rfl, rfl⟩, trivial⟩, ⟨trivial, ⟨trivial, ⟨trivial, ⟨trivial, ⟨⟨⟨rfl, rfl⟩, trivial⟩, ⟨trivial, ⟨trivial, ⟨⟨⟨rfl, rfl⟩, trivial⟩, trivial⟩⟩⟩⟩⟩⟩⟩⟩⟩⟩⟩⟩⟩⟩⟩⟩⟩⟩⟩⟩⟩⟩⟩ ?_
        refine a_next hok 30 [] (by kernel_rfl) ?_ trivial
        refine a_stOff (i := 30) hok rfl rfl rfl rfl rfl rfl (by intro _ h; cases h; rfl) ⟨trivial, ⟨trivial, ⟨trivial, ⟨trivial, ⟨trivial, ⟨trivial, ⟨trivial, ⟨trivial, ⟨trivial, ⟨trivial, ⟨trivial, ⟨⟨⟨rfl, rfl⟩, trivial⟩, ⟨trivial, ⟨trivial, ⟨⟨⟨rfl, rfl⟩, trivial⟩, ⟨trivial, ⟨trivial, ⟨trivial, ⟨trivial, ⟨⟨⟨rfl, rfl⟩, trivial⟩, ⟨trivial, ⟨trivial, ⟨⟨⟨rfl, rfl⟩, trivial⟩, trivial⟩⟩⟩⟩⟩⟩⟩⟩⟩⟩⟩⟩⟩⟩⟩⟩⟩⟩⟩⟩⟩⟩⟩ ?_
        refine a_next hok 31 [] (by kernel_rfl) ?_ trivial
        refine a_stOff (i := 31) hok rfl rfl rfl rfl rfl rfl (by intro _ h; cases h; rfl) ⟨trivial, ⟨trivial, ⟨trivial, ⟨trivial, ⟨trivial, ⟨trivial, ⟨trivial, ⟨trivial, ⟨trivial, ⟨trivial, ⟨trivial, ⟨⟨⟨rfl, rfl⟩, trivial⟩, ⟨trivial, ⟨trivial, ⟨⟨⟨rfl, rfl⟩, trivial⟩, ⟨trivial, ⟨trivial, ⟨trivial, ⟨trivial, ⟨⟨⟨rfl, rfl⟩, trivial⟩, ⟨trivial, ⟨trivial, ⟨⟨⟨rfl, rfl⟩, trivial⟩, trivial⟩⟩⟩⟩⟩⟩⟩⟩⟩⟩⟩⟩⟩⟩⟩⟩⟩⟩⟩⟩⟩⟩⟩ ?_
        refine a_off (i := 32) hok rfl rfl rfl rfl rfl (by kernel_rfl) rfl rfl ?_
        refine a_rd (i := 33) hok rfl (by kernel_rfl) rfl (r_pickT rfl rfl) rfl ?_
        refine a_rd (i := 34) hok rfl (by kernel_rfl) rfl (r_move rfl) rfl ?_
        refine a_off (i := 35) hok rfl rfl rfl rfl rfl (by kernel_rfl) rfl rfl ?_
        refine a_off (i := 36) hok rfl rfl rfl rfl rfl (by kernel_rfl) rfl rfl ?_
        refine a_off (i := 37) hok rfl rfl rfl rfl rfl (by kernel_rfl) rfl rfl ?_
        refine a_off (i := 39) hok rfl rfl rfl rfl rfl (by kernel_rfl) rfl rfl ?_
        refine a_off (i := 40) hok rfl rfl rfl rfl rfl (by kernel_rfl) rfl rfl ?_
        refine a_off (i := 41) hok rfl rfl rfl rfl rfl (by kernel_rfl) rfl rfl ?_
        refine a_next hok 38 [] (by kernel_rfl) ?_ trivial
        refine a_stOff (i := 38) hok rfl rfl rfl rfl rfl rfl (by intro _ h; cases h; rfl) ⟨trivial, ⟨trivial, ⟨trivial, ⟨trivial, ⟨trivial, ⟨trivial, ⟨trivial, ⟨trivial, ⟨trivial, ⟨trivial, ⟨trivial, ⟨trivial, ⟨trivial, ⟨trivial, ⟨trivial, ⟨trivial, ⟨trivial, ⟨trivial, ⟨trivial, ⟨trivial, ⟨⟨⟨rfl, rfl⟩, trivial⟩, ⟨trivial, ⟨trivial, ⟨⟨⟨rfl, rfl⟩, trivial⟩, ⟨trivial, ⟨trivial, ⟨trivial, ⟨trivial, ⟨⟨⟨rfl, rfl⟩, trivial⟩, ⟨trivial, ⟨trivial, ⟨⟨⟨rfl, rfl⟩, trivial⟩, trivial⟩⟩⟩⟩⟩⟩⟩⟩⟩⟩⟩⟩⟩⟩⟩⟩⟩⟩⟩⟩⟩⟩⟩⟩⟩⟩⟩⟩⟩⟩⟩⟩ ?_
        refine a_next hok 42 [] (by kernel_rfl) ?_ trivial
        refine a_stOff (i := 42) hok rfl rfl rfl rfl rfl rfl (by intro _ h; cases h; rfl) ⟨trivial, ⟨trivial, ⟨trivial, ⟨trivial, ⟨trivial, ⟨trivial, ⟨trivial, ⟨trivial, ⟨trivial, ⟨trivial, ⟨trivial, ⟨trivial, ⟨trivial, ⟨trivial, ⟨trivial, ⟨trivial, ⟨trivial, ⟨trivial, ⟨trivial, ⟨trivial, ⟨⟨⟨rfl, rfl⟩, trivial⟩, ⟨trivial, ⟨trivial, ⟨⟨⟨rfl, rfl⟩, trivial⟩, ⟨trivial, ⟨trivial, ⟨trivial, ⟨trivial, ⟨⟨⟨rfl, rfl⟩, trivial⟩, ⟨trivial, ⟨trivial, ⟨⟨⟨rfl, rfl⟩, trivial⟩, trivial⟩⟩⟩⟩⟩⟩⟩⟩⟩⟩⟩⟩⟩⟩⟩⟩⟩⟩⟩⟩⟩⟩⟩⟩⟩⟩⟩⟩⟩⟩⟩⟩ ?_
        refine a_off (i := 43) hok rfl rfl rfl rfl rfl (by kernel_rfl) rfl rfl ?_
        refine a_rd (i := 44) hok rfl (by kernel_rfl) rfl (r_pickT rfl rfl) rfl ?_
        refine a_fin hok (by kernel_rfl) ?_
        refine b_of (nrm [oc b5 [slv rT_api_Premise t3.1.Premises, slv rT_api_Rule t3.1.Rules, slv rT_api_Promotion t3.1.Promotions], oa (rI .i64) x40.1 x40.2 t39, oa (rI .i64) x42.1 x42.2 t41, oa (rI .i64) x45.1 x45.2 t44, oa (rI .i64) x47.1 x47.2 t46] rfl) ?_
        refine n_then ?_
        refine ref_condT rfl rfl ?_
        refine ref_seq (ref_region ?_)
        refine as1 rfl rfl ?_
        refine l_nil (n_then (ref_ret (r_block (r_then ?_))))
        refine retX ?_
        refine r_block (r_then ?_)
        exact fin1 (.inl rfl) () [] rfl trivial rfl (rv_tmp rfl)
      refine a_rdOn (i := 23) hok rfl rfl rfl rfl (by kernel_rfl) rfl (r_cloadS Try.isAgg34 Try.sizeOf34 rfl (j := 0) rfl rfl rfl) rfl ?_
      refine a_rdOn (i := 24) hok rfl rfl rfl rfl (by kernel_rfl) rfl (r_move rfl) rfl ?_
      refine a_rdOn (i := 25) hok rfl rfl rfl rfl (by kernel_rfl) rfl (r_move rfl) rfl ?_
      refine a_rdOn (i := 27) hok rfl rfl rfl rfl (by kernel_rfl) rfl (r_cloadS Try.isAgg34 Try.sizeOf34 rfl (j := 0) rfl rfl rfl) rfl ?_
      refine a_rdOn (i := 28) hok rfl rfl rfl rfl (by kernel_rfl) rfl (r_move rfl) rfl ?_
      refine a_rdOn (i := 29) hok rfl rfl rfl rfl (by kernel_rfl) rfl (r_move rfl) rfl ?_
      refine pull fun t49 h_t49 => ?_
      refine a_next hok 26 [] (by kernel_rfl) ?_ trivial
      refine a_stOn (i := 26) hok rfl rfl rfl rfl rfl (s_call (ψ := fun (x50 : (Value × List Nat)) => pv x50.1) (args := [.tmp 53, .tmp 54, .tmp 55]) Try.call19 rfl (lift_LastRanks_ok h_t49) ⟨arg rfl, arg rfl, arg rfl, trivial⟩ (fun _ _ _ _ h => h)) (by intro _ h; cases h; rfl) (fun _ => ⟨trivial, ⟨trivial, ⟨⟨⟨rfl, rfl⟩, trivial⟩, ⟨trivial, ⟨trivial, ⟨trivial, ⟨trivial, ⟨trivial, ⟨trivial, ⟨trivial, ⟨trivial, ⟨⟨⟨rfl, rfl⟩, trivial⟩, ⟨trivial, ⟨trivial, ⟨⟨⟨rfl, rfl⟩, trivial⟩, ⟨trivial, ⟨trivial, ⟨trivial, ⟨trivial, ⟨⟨⟨rfl, rfl⟩, trivial⟩, ⟨trivial, ⟨trivial, ⟨⟨⟨rfl, rfl⟩, trivial⟩, trivial⟩⟩⟩⟩⟩⟩⟩⟩⟩⟩⟩⟩⟩⟩⟩⟩⟩⟩⟩⟩⟩⟩⟩) (fun x50 => ?_)
      refine pull fun t51 h_t51 => ?_
      refine a_next hok 30 [] (by kernel_rfl) ?_ trivial
      refine a_stOn (i := 30) hok rfl rfl rfl rfl rfl (s_call (ψ := fun (x52 : (Value × List Nat)) => pv x52.1) (args := [.tmp 57, .tmp 58, .tmp 59]) Try.call20 rfl (ref08_LastRanks_ok h_t51) ⟨arg rfl, arg rfl, arg rfl, trivial⟩ (fun _ _ _ _ h => h)) (by intro _ h; cases h; rfl) (fun _ => ⟨trivial, ⟨trivial, ⟨trivial, ⟨trivial, ⟨trivial, ⟨⟨⟨rfl, rfl⟩, trivial⟩, ⟨trivial, ⟨trivial, ⟨trivial, ⟨trivial, ⟨trivial, ⟨⟨⟨rfl, rfl⟩, trivial⟩, ⟨trivial, ⟨trivial, ⟨⟨⟨rfl, rfl⟩, trivial⟩, ⟨trivial, ⟨trivial, ⟨trivial, ⟨trivial, ⟨⟨⟨rfl, rfl⟩, trivial⟩, ⟨trivial, ⟨trivial, ⟨⟨⟨rfl, rfl⟩, trivial⟩, trivial⟩⟩⟩⟩⟩⟩⟩⟩⟩⟩⟩⟩⟩⟩⟩⟩⟩⟩⟩⟩⟩⟩⟩) (fun x52 => ?_)
      refine pull fun t53 h_t53 => ?_
      refine a_next hok 31 [] (by kernel_rfl) ?_ trivial
      refine a_stOn (i := 31) hok rfl rfl rfl rfl rfl (s_callB (ψ := fun (_ : Unit) => bv t53) (args := [.tmp 56, .tmp 60]) Try.call14 rfl (keep_Ints_ok h_t53) ⟨argO rfl (j := 5) rfl, argO rfl (j := 6) rfl, trivial⟩ (fun _ _ _ _ _ h => h)) (by intro _ h; cases h; rfl) (fun _ => ⟨trivial, ⟨trivial, ⟨⟨⟨rfl, rfl⟩, trivial⟩, ⟨trivial, ⟨trivial, ⟨⟨⟨rfl, rfl⟩, trivial⟩, ⟨trivial, ⟨trivial, ⟨trivial, ⟨trivial, ⟨trivial, ⟨⟨⟨rfl, rfl⟩, trivial⟩, ⟨trivial, ⟨trivial, ⟨⟨⟨rfl, rfl⟩, trivial⟩, ⟨trivial, ⟨trivial, ⟨trivial, ⟨trivial, ⟨⟨⟨rfl, rfl⟩, trivial⟩, ⟨trivial, ⟨trivial, ⟨⟨⟨rfl, rfl⟩, trivial⟩, trivial⟩⟩⟩⟩⟩⟩⟩⟩⟩⟩⟩⟩⟩⟩⟩⟩⟩⟩⟩⟩⟩⟩⟩) (fun _ => ?_)
      refine a_rdOn (i := 32) hok rfl rfl rfl rfl (by kernel_rfl) rfl (r_not rfl) rfl ?_
      refine a_rd (i := 33) hok rfl (by kernel_rfl) rfl (r_pickF rfl rfl) rfl ?_
      refine a_rd (i := 34) hok rfl (by kernel_rfl) rfl (r_move rfl) rfl ?_
      refine b_split (t := 64) rfl (fun _ => ?_) (fun _ => ?_)
      · refine a_off (i := 35) hok rfl rfl rfl rfl rfl (by kernel_rfl) rfl rfl ?_
        refine a_off (i := 36) hok rfl rfl rfl rfl rfl (by kernel_rfl) rfl rfl ?_
        refine a_off (i := 37) hok rfl rfl rfl rfl rfl (by kernel_rfl) rfl rfl ?_
        refine a_off (i := 39) hok rfl rfl rfl rfl rfl (by kernel_rfl) rfl rfl ?_
        refine a_off (i := 40) hok rfl rfl rfl rfl rfl (by kernel_rfl) rfl rfl ?_
        refine a_off (i := 41) hok rfl rfl rfl rfl rfl (by kernel_rfl) rfl rfl ?_
        refine a_next hok 38 [] (by kernel_rfl) ?_ trivial
        refine a_stOff (i := 38) hok rfl rfl rfl rfl rfl rfl (by intro _ h; cases h; rfl) ⟨trivial, ⟨trivial, ⟨trivial, ⟨trivial, ⟨trivial, ⟨trivial, ⟨trivial, ⟨trivial, ⟨trivial, ⟨trivial, ⟨trivial, ⟨⟨⟨rfl, rfl⟩, trivial⟩, ⟨trivial, ⟨trivial, ⟨⟨⟨rfl, rfl⟩, trivial⟩, ⟨trivial, ⟨trivial, ⟨trivial, ⟨trivial, ⟨trivial, ⟨⟨⟨rfl, rfl⟩, trivial⟩, ⟨trivial, ⟨trivial, ⟨⟨⟨rfl, rfl⟩, trivial⟩, ⟨trivial, ⟨trivial, ⟨trivial, ⟨trivial, ⟨⟨⟨rfl, rfl⟩, trivial⟩, ⟨trivial, ⟨trivial, ⟨⟨⟨rfl, rfl⟩, trivial⟩, trivial⟩⟩⟩⟩⟩⟩⟩⟩⟩⟩⟩⟩⟩⟩⟩⟩⟩⟩⟩⟩⟩⟩⟩⟩⟩⟩⟩⟩⟩⟩⟩⟩ ?_
        refine a_next hok 42 [] (by kernel_rfl) ?_ trivial
        refine a_stOff (i := 42) hok rfl rfl rfl rfl rfl rfl (by intro _ h; cases h; rfl) ⟨trivial, ⟨trivial, ⟨trivial, ⟨trivial, ⟨trivial, ⟨trivial, ⟨trivial, ⟨trivial, ⟨trivial, ⟨trivial, ⟨trivial, ⟨⟨⟨rfl, rfl⟩, trivial⟩, ⟨trivial, ⟨trivial, ⟨⟨⟨rfl, rfl⟩, trivial⟩, ⟨trivial, ⟨trivial, ⟨trivial, ⟨trivial, ⟨trivial, ⟨⟨⟨rfl, rfl⟩, trivial⟩, ⟨trivial, ⟨trivial, ⟨⟨⟨rfl, rfl⟩, trivial⟩, ⟨trivial, ⟨trivial, ⟨trivial, ⟨trivial, ⟨⟨⟨rfl, rfl⟩, trivial⟩, ⟨trivial, ⟨trivial, ⟨⟨⟨rfl, rfl⟩, trivial⟩, trivial⟩⟩⟩⟩⟩⟩⟩⟩⟩⟩⟩⟩⟩⟩⟩⟩⟩⟩⟩⟩⟩⟩⟩⟩⟩⟩⟩⟩⟩⟩⟩⟩ ?_
        refine a_off (i := 43) hok rfl rfl rfl rfl rfl (by kernel_rfl) rfl rfl ?_
        refine a_rd (i := 44) hok rfl (by kernel_rfl) rfl (r_pickT rfl rfl) rfl ?_
        refine a_fin hok (by kernel_rfl) ?_
        refine b_of (nrm [oc b5 [slv rT_api_Premise t3.1.Premises, slv rT_api_Rule t3.1.Rules, slv rT_api_Promotion t3.1.Promotions], oa (rI .i64) x40.1 x40.2 t39, oa (rI .i64) x42.1 x42.2 t41, oa (rI .i64) x45.1 x45.2 t44, oa (rI .i64) x47.1 x47.2 t46, oa (rI .i64) x50.1 x50.2 t49, oa (rI .i64) x52.1 x52.2 t51] rfl) ?_
        refine n_then ?_
        refine ref_condT rfl rfl ?_
        refine ref_seq (ref_region ?_)
        refine as1 rfl rfl ?_
        refine l_nil (n_then (ref_ret (r_block (r_then ?_))))
        refine retX ?_
        refine r_block (r_then ?_)
        exact fin1 (.inl rfl) () [] rfl trivial rfl (rv_tmp rfl)
      refine a_rdOn (i := 35) hok rfl rfl rfl rfl (by kernel_rfl) rfl (r_cloadS Try.isAgg34 Try.sizeOf34 rfl (j := 0) rfl rfl rfl) rfl ?_
      refine a_rdOn (i := 36) hok rfl rfl rfl rfl (by kernel_rfl) rfl (r_move rfl) rfl ?_
      refine a_rdOn (i := 37) hok rfl rfl rfl rfl (by kernel_rfl) rfl (r_move rfl) rfl ?_
      refine a_rdOn (i := 39) hok rfl rfl rfl rfl (by kernel_rfl) rfl (r_cloadS Try.isAgg34 Try.sizeOf34 rfl (j := 0) rfl rfl rfl) rfl ?_
      refine a_rdOn (i := 40) hok rfl rfl rfl rfl (by kernel_rfl) rfl (r_move rfl) rfl ?_
      refine a_rdOn (i := 41) hok rfl rfl rfl rfl (by kernel_rfl) rfl (r_move rfl) rfl ?_
      refine pull fun t54 h_t54 => ?_
      refine a_next hok 38 [] (by kernel_rfl) ?_ trivial
      refine a_stOn (i := 38) hok rfl rfl rfl rfl rfl (s_call (ψ := fun (_ : Unit) => bv t54) (args := [.tmp 65, .tmp 66, .tmp 67]) Try.call21 rfl (lift_Assumes_ok h_t54) ⟨arg rfl, arg rfl, arg rfl, trivial⟩ (fun _ _ _ _ h => h)) (by intro _ h; cases h; rfl) (fun _ => ⟨trivial, ⟨trivial, ⟨⟨⟨rfl, rfl⟩, trivial⟩, ⟨trivial, ⟨trivial, ⟨trivial, ⟨trivial, ⟨trivial, ⟨trivial, ⟨trivial, ⟨trivial, ⟨⟨⟨rfl, rfl⟩, trivial⟩, ⟨trivial, ⟨trivial, ⟨⟨⟨rfl, rfl⟩, trivial⟩, ⟨trivial, ⟨trivial, ⟨trivial, ⟨trivial, ⟨trivial, ⟨⟨⟨rfl, rfl⟩, trivial⟩, ⟨trivial, ⟨trivial, ⟨⟨⟨rfl, rfl⟩, trivial⟩, ⟨trivial, ⟨trivial, ⟨trivial, ⟨trivial, ⟨⟨⟨rfl, rfl⟩, trivial⟩, ⟨trivial, ⟨trivial, ⟨⟨⟨rfl, rfl⟩, trivial⟩, trivial⟩⟩⟩⟩⟩⟩⟩⟩⟩⟩⟩⟩⟩⟩⟩⟩⟩⟩⟩⟩⟩⟩⟩⟩⟩⟩⟩⟩⟩⟩⟩⟩) (fun _ => ?_)
      refine pull fun t55 h_t55 => ?_
      refine a_next hok 42 [] (by kernel_rfl) ?_ trivial
      refine a_stOn (i := 42) hok rfl rfl rfl rfl rfl (s_call (ψ := fun (_ : Unit) => bv t55) (args := [.tmp 69, .tmp 70, .tmp 71]) Try.call22 rfl (ref08_Assumes_ok h_t55) ⟨arg rfl, arg rfl, arg rfl, trivial⟩ (fun _ _ _ _ h => h)) (by intro _ h; cases h; rfl) (fun _ => ⟨trivial, ⟨trivial, ⟨trivial, ⟨trivial, ⟨trivial, ⟨⟨⟨rfl, rfl⟩, trivial⟩, ⟨trivial, ⟨trivial, ⟨trivial, ⟨trivial, ⟨trivial, ⟨⟨⟨rfl, rfl⟩, trivial⟩, ⟨trivial, ⟨trivial, ⟨⟨⟨rfl, rfl⟩, trivial⟩, ⟨trivial, ⟨trivial, ⟨trivial, ⟨trivial, ⟨trivial, ⟨⟨⟨rfl, rfl⟩, trivial⟩, ⟨trivial, ⟨trivial, ⟨⟨⟨rfl, rfl⟩, trivial⟩, ⟨trivial, ⟨trivial, ⟨trivial, ⟨trivial, ⟨⟨⟨rfl, rfl⟩, trivial⟩, ⟨trivial, ⟨trivial, ⟨⟨⟨rfl, rfl⟩, trivial⟩, trivial⟩⟩⟩⟩⟩⟩⟩⟩⟩⟩⟩⟩⟩⟩⟩⟩⟩⟩⟩⟩⟩⟩⟩⟩⟩⟩⟩⟩⟩⟩⟩⟩) (fun _ => ?_)
      refine a_rdOn (i := 43) hok rfl rfl rfl rfl (by kernel_rfl) rfl (r_bneq Try.underlying4 rfl rfl) rfl ?_
      refine a_rd (i := 44) hok rfl (by kernel_rfl) rfl (r_pickF rfl rfl) rfl ?_
      refine a_fin hok (by kernel_rfl) ?_
      refine b_of (nrm [oc b5 [slv rT_api_Premise t3.1.Premises, slv rT_api_Rule t3.1.Rules, slv rT_api_Promotion t3.1.Promotions], oa (rI .i64) x40.1 x40.2 t39, oa (rI .i64) x42.1 x42.2 t41, oa (rI .i64) x45.1 x45.2 t44, oa (rI .i64) x47.1 x47.2 t46, oa (rI .i64) x50.1 x50.2 t49, oa (rI .i64) x52.1 x52.2 t51] rfl) ?_
      refine n_then ?_
      refine ref_cond rfl (fun hb56 => ?_) (fun hb56 => ?_)
      · refine ref_seq (ref_region ?_)
        refine as1 rfl rfl ?_
        refine l_nil (n_then (ref_ret (r_block (r_then ?_))))
        refine retX ?_
        refine r_block (r_then ?_)
        exact fin1 (.inl rfl) () [] rfl trivial rfl (rv_tmp rfl)
      refine ref_skip (n_block (n_then (ref_region ?_)))
      refine mv1 rfl rfl ?_
      refine s_rd (r_add rfl rfl) rfl ?_
      refine as1 rfl rfl ?_
      refine b_let (f := iv .i64) (t := 8) rfl fun i57 => ?_
      refine l_nil ?_
      exact goX () (weak [0] ⟨rfl, rfl, rfl, rfl, trivial⟩ ⟨rfl, trivial⟩)
    refine ref_exit (x_then ?_)
    exact brkX () (weak [] trivial trivial)
  refine n_then (ref_seq (ref_region ?_))
  refine pull fun t60 h_t60 => ?_
  refine s_st (s_call (ψ := fun (_ : Unit) => bv t60) (args := []) Try.call12 rfl (law08_awake_ok h_t60) trivial (fun _ _ _ _ h => h)) rfl (fun _ => ?_)
  refine as1 rfl rfl ?_
  refine l_nil (n_then (ref_ret ?_))
  exact fin1 (.inl rfl) () [] rfl trivial rfl (rv_tmp rfl)

end Go.Dc
