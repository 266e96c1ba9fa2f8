/- Part LAW23A.A1 of a proof: lemmas. -/
import Derived.Test.YtkcaadcoagimdaaDoorLAW23AA0
import Derived.Test.YtkcaadcoagimdaaDoorProg
set_option linter.unusedVariables false
set_option maxRecDepth 100000
set_option maxHeartbeats 4000000
namespace Go.Dc
open Go.Proofs
open Go.Proofs.Tryd (prog)

/-! deliberation/chance.joint -/
noncomputable def chance_joint_m (g_0 : T_api_Graph) (o_1 : T_api_Odds) (set__2 : Int) (question_3 : Int) : Option (Int × Int) :=
  Option.bind (chance_worlds_m g_0 o_1 set__2 question_3 0) fun total6 =>
  some (total6.2, total6.1)

theorem chance_joint_ok {g_0 : T_api_Graph} {o_1 : T_api_Odds} {set__2 : Int} {question_3 : Int} {r : Int × Int} (hm : chance_joint_m g_0 o_1 set__2 question_3 = some r) :
    FnOk prog 32 [ag [iv .i64 g_0.N, slv rT_api_Pair g_0.L], ag [slv rT_api_Fraction o_1.Nodes, slv rT_api_Fraction o_1.Attacks], iv .u64 set__2, iv .i64 question_3] [tbO (rI .u8) 0 tab_0] (fun (x : Unit) => [iv .i64 r.1, iv .i64 r.2]) (fun (x : Unit) => [tbO (rI .u8) 0 tab_0]) := by
  refine fn_ok (fn := Tryd.f32) (N := 18) (res := fun r x => [iv .i64 r.1, iv .i64 r.2]) (Ω1 := fun r x => [tbO (rI .u8) 0 tab_0]) Tryd.func32 rfl rfl hm rfl (fun E hM => ?_)
  unfold chance_joint_m
  refine ref_seq (ref_region ?_)
  refine s_st (s_box (part_agO (ψs := [iv .i64 g_0.N, slv rT_api_Pair g_0.L]) rfl ⟨.inl iv_at, .inl slv_at, trivial⟩)) rfl (fun b1 => ?_)
  refine s_st (s_box (part_agO (ψs := [slv rT_api_Fraction o_1.Nodes, slv rT_api_Fraction o_1.Attacks]) rfl ⟨.inl slv_at, .inl slv_at, trivial⟩)) rfl (fun b2 => ?_)
  refine s_st (s_box (part_at rfl iv_at)) rfl (fun b3 => ?_)
  refine s_st (s_box (part_at rfl iv_at)) rfl (fun b4 => ?_)
  refine as1 rfl rfl ?_
  refine as1 rfl rfl ?_
  refine l_nil ?_
  refine b_of (nrm [tbO (rI .u8) 0 tab_0, oc b1 [iv .i64 g_0.N, slv rT_api_Pair g_0.L], oc b2 [slv rT_api_Fraction o_1.Nodes, slv rT_api_Fraction o_1.Attacks], oc b3 [iv .u64 set__2], oc b4 [iv .i64 question_3]] rfl) ?_
  refine n_then (ref_seq (ref_region ?_))
  refine s_st (s_alloc zt_3) rfl (fun b5 => ?_)
  refine s_st0 (s_cstore (out := [iv .i64 0]) Tryd.sizeOf3 rfl (j := 5) rfl (part_at rfl iv_at) rfl rfl rfl) (fun _ => ?_)
  refine l_nil (n_then (ref_seq (ref_region ?_)))
  refine s_rd (r_cloadS Tryd.isAgg27 Tryd.sizeOf27 rfl (j := 1) rfl rfl rfl) rfl ?_
  refine s_rd (r_cloadS Tryd.isAgg31 Tryd.sizeOf31 rfl (j := 2) rfl rfl rfl) rfl ?_
  refine s_rd (r_mkfn (xs := [.tmp 6, .tmp 7, .tmp 10]) (vs := [(ptr b3 0), (ptr b4 0), (ptr b5 0)]) ⟨rfl, rfl, rfl, trivial⟩) rfl ?_
  refine pull fun total6 h_total6 => ?_
  refine s_st (s_callC [3, 4, 5, 0] [true, true, true, true] (fun (_ : Unit) => [oc b3 [iv .u64 set__2], oc b4 [iv .i64 question_3], oc b5 [iv .i64 total6.2], tbO (rI .u8) 0 tab_0]) (fun (_ : Unit) => []) (fun (_ : Unit) => iv .i64 total6.1) (args := [.tmp 12, .tmp 13, .tmp 14]) (caps := []) Tryd.call37 rfl (chance_worlds_ok h_total6) ⟨rfl, rfl, ⟨rfl, rfl, ⟨rfl, rfl, ⟨rfl, rfl, trivial⟩⟩⟩⟩ (fun _ => rfl) (fun _ => trivial) (fun _ => rfl) ⟨arg rfl, arg rfl, arg rfl, trivial⟩ (fun _ _ _ _ h => h)) rfl (fun _ => ?_)
  refine as1 rfl rfl ?_
  refine l_nil ?_
  refine b_of (nrm [tbO (rI .u8) 0 tab_0, oc b1 [iv .i64 g_0.N, slv rT_api_Pair g_0.L], oc b2 [slv rT_api_Fraction o_1.Nodes, slv rT_api_Fraction o_1.Attacks], oc b3 [iv .u64 set__2], oc b4 [iv .i64 question_3], oc b5 [iv .i64 total6.2]] rfl) ?_
  refine n_then (ref_seq (ref_region ?_))
  refine s_rd (r_cload Tryd.isAgg3 rfl (j := 5) rfl rfl) rfl ?_
  refine mv1 rfl rfl ?_
  refine as1 rfl rfl ?_
  refine as1 rfl rfl ?_
  refine l_nil (n_then (ref_ret ?_))
  exact fin2 (.inl rfl) () [0] rfl ⟨rfl, trivial⟩ rfl (rv_tmp rfl) (rv_tmp rfl)

/-! deliberation/chance.reduced -/
noncomputable def chance_reduced_l1  (s6 : Int × Int) : Option (Sum (Int) (Int × Int)) :=
  bif s6.2 != 0 then
    Option.bind (iremM .i64 s6.1 s6.2) fun b9 =>
    some (Sum.inr (s6.2, b9))
  else
    some (Sum.inl s6.1)

noncomputable def chance_reduced_m (num_0 : Int) (den_1 : Int) : Option (T_api_Fraction) :=
  Option.bind (loopC (chance_reduced_l1) (num_0, den_1)) fun q10 : Int =>
  Option.bind (iquoM .i64 num_0 q10) fun t12 =>
  Option.bind (iquoM .i64 den_1 q10) fun t13 =>
  some (T_api_Fraction.mk t12 t13)

theorem chance_reduced_ok {num_0 : Int} {den_1 : Int} {r : T_api_Fraction} (hm : chance_reduced_m num_0 den_1 = some r) :
    FnOk prog 31 [iv .i64 num_0, iv .i64 den_1] [] (fun (x : Unit) => [ag [iv .i64 r.Num, iv .i64 r.Den]]) (fun (x : Unit) => []) := by
  refine fn_ok (fn := Tryd.f31) (N := 22) (res := fun r x => [ag [iv .i64 r.Num, iv .i64 r.Den]]) (Ω1 := fun r x => []) Tryd.func31 rfl rfl hm rfl (fun E hM => ?_)
  unfold chance_reduced_m
  refine ref_seq (ref_region ?_)
  refine s_st (s_alloc zt_36) rfl (fun b1 => ?_)
  refine l_nil (n_then (ref_seq (ref_region ?_)))
  refine mv1 rfl rfl ?_
  refine mv1 rfl rfl ?_
  refine as1 rfl rfl ?_
  refine as1 rfl rfl ?_
  refine l_nil (n_then (ref_seq ?_))
  refine ref_loopB (f := (chance_reduced_l1)) (Γl := (fun (s6 : Int × Int) (x7 : Unit) => [(0, iv .i64 num_0), (1, iv .i64 den_1), (4, pv (ptr b1 0)), (5, iv .i64 s6.1), (6, iv .i64 s6.2)])) (Ωl := (fun (s6 : Int × Int) (x7 : Unit) => [oc b1 [iv .i64 0, iv .i64 0]])) (Γb := (fun (q10 : Int) (y11 : Unit) => [(0, iv .i64 num_0), (1, iv .i64 den_1), (4, pv (ptr b1 0)), (5, iv .i64 q10)])) (Ωb := (fun (q10 : Int) (y11 : Unit) => [oc b1 [iv .i64 0, iv .i64 0]])) (num_0, den_1) () (weak [0] ⟨rfl, rfl, rfl, rfl, rfl, trivial⟩ ⟨rfl, trivial⟩) (fun s6 x7 => ?_) (fun q10 y11 => ?_)
  · unfold chance_reduced_l1
    refine ref_seq (ref_seq (ref_region ?_))
    refine mv1 rfl rfl ?_
    refine s_rd (r_neq rfl rfl) rfl ?_
    refine l_nil (n_then ?_)
    refine ref_cond rfl (fun hb8 => ?_) (fun hb8 => ?_)
    · refine ref_skip (n_then (ref_block ?_))
      refine ref_draw [0, 1, 2, 3] rfl (by kernel_rfl) (fun hok => ?_)
      refine a_rd (i := 0) hok rfl (by kernel_rfl) rfl (r_move rfl) rfl ?_
      refine a_rd (i := 1) hok rfl (by kernel_rfl) rfl (r_move rfl) rfl ?_
      refine a_rd (i := 2) hok rfl (by kernel_rfl) rfl (r_move rfl) rfl ?_
      refine pull fun b9 h_b9 => ?_
      refine a_rd (i := 3) hok rfl (by kernel_rfl) rfl (r_remM h_b9 rfl rfl) rfl ?_
      refine a_next hok 4 [] (by kernel_rfl) ?_ trivial
      refine a_st (i := 4) hok rfl rfl (St.ofRd (r_assign rfl)) (by intro _ h; cases h; rfl) (fun _ => ⟨trivial, ⟨trivial, ⟨trivial, ⟨trivial, trivial⟩⟩⟩⟩) (fun _ => ?_)
      refine a_next hok 5 [] (by kernel_rfl) ?_ trivial
      refine a_st (i := 5) hok rfl rfl (St.ofRd (r_assign rfl)) (by intro _ h; cases h; rfl) (fun _ => ⟨trivial, ⟨trivial, ⟨trivial, ⟨trivial, trivial⟩⟩⟩⟩) (fun _ => ?_)
      refine a_fin hok (by kernel_rfl) ?_
      refine n_block ?_
      exact goB () (weak [0] ⟨rfl, rfl, rfl, rfl, rfl, trivial⟩ ⟨rfl, trivial⟩)
    refine ref_exit (x_then ?_)
    exact brkB () (weak [0] ⟨rfl, rfl, rfl, rfl, trivial⟩ ⟨rfl, trivial⟩)
  refine n_then (ref_seq ?_)
  refine ref_draw [0, 1, 2, 3, 4, 5, 6] rfl (by kernel_rfl) (fun hok => ?_)
  refine a_rd (i := 0) hok rfl (by kernel_rfl) rfl (r_move rfl) rfl ?_
  refine a_rd (i := 1) hok rfl (by kernel_rfl) rfl (r_move rfl) rfl ?_
  refine pull fun t12 h_t12 => ?_
  refine a_rd (i := 2) hok rfl (by kernel_rfl) rfl (r_quoM h_t12 rfl rfl) rfl ?_
  refine a_rd (i := 3) hok rfl (by kernel_rfl) rfl (r_move rfl) rfl ?_
  refine a_rd (i := 4) hok rfl (by kernel_rfl) rfl (r_move rfl) rfl ?_
  refine pull fun t13 h_t13 => ?_
  refine a_rd (i := 5) hok rfl (by kernel_rfl) rfl (r_quoM h_t13 rfl rfl) rfl ?_
  refine a_rd (i := 6) hok rfl (by kernel_rfl) rfl (r_build (ps := [(0, .tmp 17), (1, .tmp 20)]) (rs := [(0, [iv .i64 t12]), (1, [iv .i64 t13])]) st_36 zs_36 ⟨rfl, (part_at rfl iv_at), ⟨rfl, (part_at rfl iv_at), trivial⟩⟩ rfl rfl) rfl ?_
  refine a_next hok 7 [] (by kernel_rfl) ?_ trivial
  refine a_st (i := 7) hok rfl rfl (s_cstore (out := [iv .i64 t12, iv .i64 t13]) Tryd.sizeOf36 rfl (j := 0) rfl (part_agO (ψs := [iv .i64 t12, iv .i64 t13]) rfl ⟨.inl iv_at, .inl iv_at, trivial⟩) rfl rfl rfl) (by intro _ h; cases h) (fun _ => ⟨trivial, ⟨trivial, ⟨trivial, ⟨trivial, ⟨trivial, ⟨trivial, ⟨trivial, trivial⟩⟩⟩⟩⟩⟩⟩) (fun _ => ?_)
  refine a_fin hok (by kernel_rfl) ?_
  refine n_then (ref_ret ?_)
  exact fin1 (.inl rfl) () [] rfl trivial rfl (rv_cell rfl (j := 0) rfl Tryd.isAgg36 Tryd.sizeOf36 rfl rfl)

/-! deliberation/chance.Joint -/
noncomputable def chance_Joint_m (g_0 : T_api_Graph) (o_1 : T_api_Odds) (set__2 : (List Int)) (question_3 : Int) : Option (T_api_Fraction × Int) :=
  Option.bind (chance_arguments_m g_0 o_1 set__2 question_3) fun e4 =>
  bif e4 != 0 then
    some ((T_api_Fraction.mk 0 0), e4)
  else
    Option.bind (network_Of_m set__2) fun t6 =>
    Option.bind (chance_joint_m g_0 o_1 t6 question_3) fun t7 =>
    Option.bind (chance_reduced_m t7.1 t7.2) fun t8 =>
    some (t8, 0)

theorem chance_Joint_ok {g_0 : T_api_Graph} {o_1 : T_api_Odds} {set__2 : (List Int)} {question_3 : Int} {r : T_api_Fraction × Int} (hm : chance_Joint_m g_0 o_1 set__2 question_3 = some r) :
    FnOk prog 12 [ag [iv .i64 g_0.N, slv rT_api_Pair g_0.L], ag [slv rT_api_Fraction o_1.Nodes, slv rT_api_Fraction o_1.Attacks], slv (rI .i64) set__2, iv .i64 question_3] [tbO (rI .u8) 0 tab_0] (fun (x : Unit) => [ag [iv .i64 r.1.Num, iv .i64 r.1.Den], iv .i64 r.2]) (fun (x : Unit) => [tbO (rI .u8) 0 tab_0]) := by
  refine fn_ok (fn := Tryd.f12) (N := 29) (res := fun r x => [ag [iv .i64 r.1.Num, iv .i64 r.1.Den], iv .i64 r.2]) (Ω1 := fun r x => [tbO (rI .u8) 0 tab_0]) Tryd.func12 rfl rfl hm rfl (fun E hM => ?_)
  unfold chance_Joint_m
  refine ref_seq (ref_region ?_)
  refine s_st (s_box (part_agO (ψs := [iv .i64 g_0.N, slv rT_api_Pair g_0.L]) rfl ⟨.inl iv_at, .inl slv_at, trivial⟩)) rfl (fun b1 => ?_)
  refine s_st (s_box (part_agO (ψs := [slv rT_api_Fraction o_1.Nodes, slv rT_api_Fraction o_1.Attacks]) rfl ⟨.inl slv_at, .inl slv_at, trivial⟩)) rfl (fun b2 => ?_)
  refine s_st (s_alloc zt_36) rfl (fun b3 => ?_)
  refine as1 rfl rfl ?_
  refine l_nil (n_then (ref_seq (ref_seq (ref_region ?_))))
  refine s_rd (r_cloadS Tryd.isAgg27 Tryd.sizeOf27 rfl (j := 1) rfl rfl rfl) rfl ?_
  refine s_rd (r_cloadS Tryd.isAgg31 Tryd.sizeOf31 rfl (j := 2) rfl rfl rfl) rfl ?_
  refine mv1 rfl rfl ?_
  refine mv1 rfl rfl ?_
  refine pull fun e4 h_e4 => ?_
  refine s_st (s_call (ψ := fun (_ : Unit) => iv .i64 e4) (args := [.tmp 11, .tmp 12, .tmp 13, .tmp 14]) Tryd.call30 rfl (chance_arguments_ok h_e4) ⟨arg rfl, arg rfl, arg rfl, arg rfl, trivial⟩ (fun _ _ _ _ h => h)) rfl (fun _ => ?_)
  refine as1 rfl rfl ?_
  refine l_nil ?_
  refine b_of (nrm [tbO (rI .u8) 0 tab_0, oc b1 [iv .i64 g_0.N, slv rT_api_Pair g_0.L], oc b2 [slv rT_api_Fraction o_1.Nodes, slv rT_api_Fraction o_1.Attacks], oc b3 [iv .i64 0, iv .i64 0]] rfl) ?_
  refine n_then (ref_seq (ref_region ?_))
  refine mv1 rfl rfl ?_
  refine s_rd (r_neq rfl rfl) rfl ?_
  refine l_nil (n_then ?_)
  refine ref_cond rfl (fun hb5 => ?_) (fun hb5 => ?_)
  · refine ref_seq (ref_region ?_)
    refine s_rd (r_build (ps := []) (rs := []) st_36 zs_36 trivial rfl rfl) rfl ?_
    refine mv1 rfl rfl ?_
    refine s_st0 (s_cstore (out := [iv .i64 0, iv .i64 0]) Tryd.sizeOf36 rfl (j := 3) rfl (part_agO (ψs := [iv .i64 0, iv .i64 0]) rfl ⟨.inl iv_at, .inl iv_at, trivial⟩) rfl rfl rfl) (fun _ => ?_)
    refine as1 rfl rfl ?_
    refine l_nil (n_then (ref_ret (r_then ?_)))
    exact fin2 (.inl rfl) () [0] rfl ⟨rfl, trivial⟩ rfl (rv_cell rfl (j := 3) rfl Tryd.isAgg36 Tryd.sizeOf36 rfl rfl) (rv_tmp rfl)
  refine ref_skip (n_then (ref_seq ?_))
  refine ref_draw [0, 1, 2, 4, 6, 7] rfl (by kernel_rfl) (fun hok => ?_)
  refine a_rd (i := 0) hok rfl (by kernel_rfl) rfl (r_cloadS Tryd.isAgg27 Tryd.sizeOf27 rfl (j := 1) rfl rfl rfl) rfl ?_
  refine a_rd (i := 1) hok rfl (by kernel_rfl) rfl (r_cloadS Tryd.isAgg31 Tryd.sizeOf31 rfl (j := 2) rfl rfl rfl) rfl ?_
  refine a_rd (i := 2) hok rfl (by kernel_rfl) rfl (r_move rfl) rfl ?_
  refine a_rd (i := 4) hok rfl (by kernel_rfl) rfl (r_move rfl) rfl ?_
  refine pull fun t6 h_t6 => ?_
  refine a_next hok 3 [] (by kernel_rfl) ?_ trivial
  refine a_st (i := 3) hok rfl rfl (s_call (ψ := fun (_ : Unit) => iv .u64 t6) (args := [.tmp 22]) Tryd.call33 rfl (network_Of_ok h_t6) ⟨arg rfl, trivial⟩ (fun _ _ _ _ h => h)) (by intro _ h; cases h; rfl) (fun _ => ⟨trivial, ⟨trivial, ⟨⟨⟨rfl, rfl⟩, trivial⟩, ⟨⟨⟨rfl, rfl⟩, trivial⟩, trivial⟩⟩⟩⟩) (fun _ => ?_)
  refine pull fun t7 h_t7 => ?_
  refine a_next hok 5 [] (by kernel_rfl) ?_ trivial
  refine a_st (i := 5) hok rfl rfl (s_callC [0] [true] (fun (_ : Unit) => [tbO (rI .u8) 0 tab_0]) (fun (_ : Unit) => []) (fun (_ : Unit) => tup [iv .i64 t7.1, iv .i64 t7.2]) (args := [.tmp 20, .tmp 21, .tmp 23, .tmp 24]) (caps := []) Tryd.call32 rfl (chance_joint_ok h_t7) ⟨rfl, rfl, trivial⟩ (fun _ => rfl) (fun _ => trivial) (fun _ => rfl) ⟨arg rfl, arg rfl, arg rfl, arg rfl, trivial⟩ (fun _ _ _ _ h => h)) (by intro _ h; cases h; rfl) (fun _ => ⟨trivial, ⟨trivial, ⟨trivial, ⟨trivial, trivial⟩⟩⟩⟩) (fun _ => ?_)
  refine a_rd (i := 6) hok rfl (by kernel_rfl) rfl (r_extract rfl rfl) rfl ?_
  refine a_rd (i := 7) hok rfl (by kernel_rfl) rfl (r_extract rfl rfl) rfl ?_
  refine pull fun t8 h_t8 => ?_
  refine a_next hok 8 [] (by kernel_rfl) ?_ trivial
  refine a_st (i := 8) hok rfl rfl (s_call (ψ := fun (_ : Unit) => ag [iv .i64 t8.Num, iv .i64 t8.Den]) (args := [.tmp 26, .tmp 27]) Tryd.call31 rfl (chance_reduced_ok h_t8) ⟨arg rfl, arg rfl, trivial⟩ (fun _ _ _ _ h => h)) (by intro _ h; cases h; rfl) (fun _ => ⟨trivial, ⟨trivial, ⟨trivial, ⟨trivial, ⟨⟨⟨rfl, rfl⟩, trivial⟩, ⟨⟨⟨rfl, rfl⟩, trivial⟩, trivial⟩⟩⟩⟩⟩⟩) (fun _ => ?_)
  refine a_next hok 9 [] (by kernel_rfl) ?_ trivial
  refine a_st (i := 9) hok rfl rfl (s_cstore (out := [iv .i64 t8.Num, iv .i64 t8.Den]) Tryd.sizeOf36 rfl (j := 3) rfl (part_agO (ψs := [iv .i64 t8.Num, iv .i64 t8.Den]) rfl ⟨.inl iv_at, .inl iv_at, trivial⟩) rfl rfl rfl) (by intro _ h; cases h) (fun _ => ⟨trivial, ⟨trivial, ⟨trivial, ⟨trivial, ⟨trivial, ⟨trivial, trivial⟩⟩⟩⟩⟩⟩) (fun _ => ?_)
  refine a_next hok 10 [] (by kernel_rfl) ?_ trivial
  refine a_st (i := 10) hok rfl rfl (St.ofRd (r_assign rfl)) (by intro _ h; cases h; rfl) (fun _ => ⟨trivial, ⟨trivial, ⟨trivial, ⟨trivial, ⟨trivial, ⟨trivial, trivial⟩⟩⟩⟩⟩⟩) (fun _ => ?_)
  refine a_fin hok (by kernel_rfl) ?_
  refine b_of (nrm [tbO (rI .u8) 0 tab_0, oc b1 [iv .i64 g_0.N, slv rT_api_Pair g_0.L], oc b2 [slv rT_api_Fraction o_1.Nodes, slv rT_api_Fraction o_1.Attacks], oc b3 [iv .i64 t8.Num, iv .i64 t8.Den]] rfl) ?_
  refine n_then (ref_ret ?_)
  exact fin2 (.inl rfl) () [0] rfl ⟨rfl, trivial⟩ rfl (rv_cell rfl (j := 3) rfl Tryd.isAgg36 Tryd.sizeOf36 rfl rfl) (rv_tmp rfl)

/-! deliberation/chance.Given -/
noncomputable def chance_Given_l1 (g_0 : T_api_Graph) (o_1 : T_api_Odds) (a__2 : (List Int)) (b_3 : (List Int)) (question_4 : Int) (s10 : Int) : Option (Sum ((Sum (T_api_Fraction × Int) (Unit))) (Int)) :=
  bif decide (s10 < ([a__2, b_3].length : Int)) then
    Option.bind (idxM [a__2, b_3] s10) fun l13 =>
    Option.bind (chance_arguments_m g_0 o_1 l13 question_4) fun e14 =>
    bif e14 != 0 then
      some (Sum.inl (Sum.inl ((T_api_Fraction.mk 0 0), e14)))
    else
      some (Sum.inr (iadd .i64 s10 1))
  else
    some (Sum.inl (Sum.inr ()))

noncomputable def chance_Given_m (g_0 : T_api_Graph) (o_1 : T_api_Odds) (a__2 : (List Int)) (b_3 : (List Int)) (question_4 : Int) : Option (T_api_Fraction × Int) :=
  Option.bind (loopC (chance_Given_l1 g_0 o_1 a__2 b_3 question_4) 0) (sumK (fun a : T_api_Fraction × Int => some a) fun q16 : Unit =>
    Option.bind (network_Of_m b_3) fun t18 =>
    Option.bind (chance_joint_m g_0 o_1 t18 question_4) fun t19 =>
    bif t19.1 == 0 then
      some ((T_api_Fraction.mk 0 0), 9)
    else
      Option.bind (network_Of_m a__2) fun t21 =>
      Option.bind (network_Of_m b_3) fun t22 =>
      Option.bind (chance_joint_m g_0 o_1 (ior .u64 t21 t22) question_4) fun t23 =>
      Option.bind (chance_reduced_m t23.1 t19.1) fun t24 =>
      some (t24, 0))

theorem chance_Given_ok {g_0 : T_api_Graph} {o_1 : T_api_Odds} {a__2 : (List Int)} {b_3 : (List Int)} {question_4 : Int} {r : T_api_Fraction × Int} (hm : chance_Given_m g_0 o_1 a__2 b_3 question_4 = some r) :
    FnOk prog 13 [ag [iv .i64 g_0.N, slv rT_api_Pair g_0.L], ag [slv rT_api_Fraction o_1.Nodes, slv rT_api_Fraction o_1.Attacks], slv (rI .i64) a__2, slv (rI .i64) b_3, iv .i64 question_4] [tbO (rI .u8) 0 tab_0] (fun (x : Unit) => [ag [iv .i64 r.1.Num, iv .i64 r.1.Den], iv .i64 r.2]) (fun (x : Unit) => [tbO (rI .u8) 0 tab_0]) := by
  refine fn_ok (fn := Tryd.f13) (N := 64) (res := fun r x => [ag [iv .i64 r.1.Num, iv .i64 r.1.Den], iv .i64 r.2]) (Ω1 := fun r x => [tbO (rI .u8) 0 tab_0]) Tryd.func13 rfl rfl hm rfl (fun E hM => ?_)
  unfold chance_Given_m
  refine ref_seq (ref_region ?_)
  refine s_st (s_box (part_agO (ψs := [iv .i64 g_0.N, slv rT_api_Pair g_0.L]) rfl ⟨.inl iv_at, .inl slv_at, trivial⟩)) rfl (fun b1 => ?_)
  refine s_st (s_box (part_agO (ψs := [slv rT_api_Fraction o_1.Nodes, slv rT_api_Fraction o_1.Attacks]) rfl ⟨.inl slv_at, .inl slv_at, trivial⟩)) rfl (fun b2 => ?_)
  refine s_st (s_alloc zt_36) rfl (fun b3 => ?_)
  refine as1 rfl rfl ?_
  refine l_nil (n_then (ref_seq (ref_seq (ref_region ?_))))
  refine mv1 rfl rfl ?_
  refine mv1 rfl rfl ?_
  refine s_st (s_bslice (xs := [.tmp 19, .tmp 20]) (ds := [a__2, b_3]) Tryd.underlying69 el_22 rfl (Nat.le_of_ble_eq_true rfl) ⟨(part_at rfl slv_at), ⟨(part_at rfl slv_at), trivial⟩⟩) rfl (fun _ => ?_)
  refine s_rd (r_len Tryd.underlying69 rfl) rfl ?_
  refine mv1 rfl rfl ?_
  refine l_nil ?_
  refine b_of (nrm [tbO (rI .u8) 0 tab_0, oc b1 [iv .i64 g_0.N, slv rT_api_Pair g_0.L], oc b2 [slv rT_api_Fraction o_1.Nodes, slv rT_api_Fraction o_1.Attacks], oc b3 [iv .i64 0, iv .i64 0]] rfl) ?_
  refine n_then ?_
  refine ref_loopX (f := (chance_Given_l1 g_0 o_1 a__2 b_3 question_4)) (Γl := (fun (s10 : Int) (x11 : Unit) => [(2, slv (rI .i64) a__2), (3, slv (rI .i64) b_3), (4, iv .i64 question_4), (5, pv (ptr b1 0)), (6, pv (ptr b2 0)), (10, pv (ptr b3 0)), (21, slv (rSl (rI .i64)) [a__2, b_3]), (22, iv .i64 ([a__2, b_3].length : Int)), (23, iv .i64 s10)])) (Ωl := (fun (s10 : Int) (x11 : Unit) => [tbO (rI .u8) 0 tab_0, oc b1 [iv .i64 g_0.N, slv rT_api_Pair g_0.L], oc b2 [slv rT_api_Fraction o_1.Nodes, slv rT_api_Fraction o_1.Attacks], oc b3 [iv .i64 0, iv .i64 0]])) (Γb := (fun (q16 : Unit) (y17 : Unit) => [(2, slv (rI .i64) a__2), (3, slv (rI .i64) b_3), (4, iv .i64 question_4), (5, pv (ptr b1 0)), (6, pv (ptr b2 0)), (10, pv (ptr b3 0))])) (Ωb := (fun (q16 : Unit) (y17 : Unit) => [oc b1 [iv .i64 g_0.N, slv rT_api_Pair g_0.L], oc b2 [slv rT_api_Fraction o_1.Nodes, slv rT_api_Fraction o_1.Attacks], oc b3 [iv .i64 0, iv .i64 0], tbO (rI .u8) 0 tab_0])) (kr := (fun a : T_api_Fraction × Int => some a)) 0 () (weak [0, 1, 2, 3] ⟨rfl, rfl, rfl, rfl, rfl, rfl, rfl, rfl, rfl, trivial⟩ ⟨rfl, rfl, rfl, rfl, trivial⟩) (fun s10 x11 => ?_) (fun q16 y17 => ?_)
  · unfold chance_Given_l1
    refine ref_seq (ref_region ?_)
    refine s_rd (r_lss rfl rfl) rfl ?_
    refine l_nil (n_then (ref_seq ?_))
    refine ref_cond rfl (fun hb12 => ?_) (fun hb12 => ?_)
    · refine ref_skip (n_then (ref_seq (ref_block (ref_seq (ref_region ?_)))))
      refine pull fun l13 h_l13 => ?_
      refine s_rd (r_index h_l13 Tryd.underlying69 el_22 rfl rfl) rfl ?_
      refine s_rd (r_load el_22 rfl) rfl ?_
      refine as1 rfl rfl ?_
      refine l_nil (n_then (ref_seq (ref_region ?_)))
      refine s_rd (r_cloadS Tryd.isAgg27 Tryd.sizeOf27 rfl (j := 1) rfl rfl rfl) rfl ?_
      refine s_rd (r_cloadS Tryd.isAgg31 Tryd.sizeOf31 rfl (j := 2) rfl rfl rfl) rfl ?_
      refine mv1 rfl rfl ?_
      refine mv1 rfl rfl ?_
      refine pull fun e14 h_e14 => ?_
      refine s_st (s_call (ψ := fun (_ : Unit) => iv .i64 e14) (args := [.tmp 27, .tmp 28, .tmp 29, .tmp 30]) Tryd.call30 rfl (chance_arguments_ok h_e14) ⟨arg rfl, arg rfl, arg rfl, arg rfl, trivial⟩ (fun _ _ _ _ h => h)) rfl (fun _ => ?_)
      refine as1 rfl rfl ?_
      refine l_nil (n_then (ref_seq (ref_region ?_)))
      refine mv1 rfl rfl ?_
      refine s_rd (r_neq rfl rfl) rfl ?_
      refine l_nil (n_then ?_)
      refine ref_cond rfl (fun hb15 => ?_) (fun hb15 => ?_)
      · refine ref_seq (ref_region ?_)
        refine s_rd (r_build (ps := []) (rs := []) st_36 zs_36 trivial rfl rfl) rfl ?_
        refine mv1 rfl rfl ?_
        refine s_st0 (s_cstore (out := [iv .i64 0, iv .i64 0]) Tryd.sizeOf36 rfl (j := 3) rfl (part_agO (ψs := [iv .i64 0, iv .i64 0]) rfl ⟨.inl iv_at, .inl iv_at, trivial⟩) rfl rfl rfl) (fun _ => ?_)
        refine as1 rfl rfl ?_
        refine l_nil (n_then (ref_ret (r_block (r_then ?_))))
        refine retX ?_
        refine r_block (r_then ?_)
        exact fin2 (.inl rfl) () [0] rfl ⟨rfl, trivial⟩ rfl (rv_cell rfl (j := 3) rfl Tryd.isAgg36 Tryd.sizeOf36 rfl rfl) (rv_tmp rfl)
      refine ref_skip (n_block (n_then (ref_region ?_)))
      refine s_rd (r_add rfl rfl) rfl ?_
      refine mv1 rfl rfl ?_
      refine l_nil ?_
      exact goX () (weak [0, 1, 2, 3] ⟨rfl, rfl, rfl, rfl, rfl, rfl, rfl, rfl, rfl, trivial⟩ ⟨rfl, rfl, rfl, rfl, trivial⟩)
    refine ref_exit (x_then ?_)
    exact brkX () (weak [1, 2, 3, 0] ⟨rfl, rfl, rfl, rfl, rfl, rfl, trivial⟩ ⟨rfl, rfl, rfl, rfl, trivial⟩)
  refine n_then (ref_seq ?_)
  refine ref_draw [0, 1, 2, 4, 6, 7, 8] rfl (by kernel_rfl) (fun hok => ?_)
  refine a_rd (i := 0) hok rfl (by kernel_rfl) rfl (r_cloadS Tryd.isAgg27 Tryd.sizeOf27 rfl (j := 0) rfl rfl rfl) rfl ?_
  refine a_rd (i := 1) hok rfl (by kernel_rfl) rfl (r_cloadS Tryd.isAgg31 Tryd.sizeOf31 rfl (j := 1) rfl rfl rfl) rfl ?_
  refine a_rd (i := 2) hok rfl (by kernel_rfl) rfl (r_move rfl) rfl ?_
  refine a_rd (i := 4) hok rfl (by kernel_rfl) rfl (r_move rfl) rfl ?_
  refine pull fun t18 h_t18 => ?_
  refine a_next hok 3 [] (by kernel_rfl) ?_ trivial
  refine a_st (i := 3) hok rfl rfl (s_call (ψ := fun (_ : Unit) => iv .u64 t18) (args := [.tmp 40]) Tryd.call33 rfl (network_Of_ok h_t18) ⟨arg rfl, trivial⟩ (fun _ _ _ _ h => h)) (by intro _ h; cases h; rfl) (fun _ => ⟨trivial, ⟨trivial, ⟨⟨⟨rfl, rfl⟩, trivial⟩, ⟨⟨⟨rfl, rfl⟩, trivial⟩, trivial⟩⟩⟩⟩) (fun _ => ?_)
  refine pull fun t19 h_t19 => ?_
  refine a_next hok 5 [] (by kernel_rfl) ?_ trivial
  refine a_st (i := 5) hok rfl rfl (s_callC [3] [true] (fun (_ : Unit) => [tbO (rI .u8) 0 tab_0]) (fun (_ : Unit) => []) (fun (_ : Unit) => tup [iv .i64 t19.1, iv .i64 t19.2]) (args := [.tmp 38, .tmp 39, .tmp 41, .tmp 42]) (caps := []) Tryd.call32 rfl (chance_joint_ok h_t19) ⟨rfl, rfl, trivial⟩ (fun _ => rfl) (fun _ => trivial) (fun _ => rfl) ⟨arg rfl, arg rfl, arg rfl, arg rfl, trivial⟩ (fun _ _ _ _ h => h)) (by intro _ h; cases h; rfl) (fun _ => ⟨trivial, ⟨trivial, ⟨trivial, ⟨trivial, trivial⟩⟩⟩⟩) (fun _ => ?_)
  refine a_rd (i := 6) hok rfl (by kernel_rfl) rfl (r_move rfl) rfl ?_
  refine a_rd (i := 7) hok rfl (by kernel_rfl) rfl (r_extract rfl rfl) rfl ?_
  refine a_rd (i := 8) hok rfl (by kernel_rfl) rfl (r_extract rfl rfl) rfl ?_
  refine a_next hok 9 [] (by kernel_rfl) ?_ trivial
  refine a_st (i := 9) hok rfl rfl (St.ofRd (r_assign rfl)) (by intro _ h; cases h; rfl) (fun _ => ⟨trivial, ⟨trivial, ⟨trivial, ⟨trivial, ⟨trivial, ⟨trivial, ⟨trivial, trivial⟩⟩⟩⟩⟩⟩⟩) (fun _ => ?_)
  refine a_next hok 10 [] (by kernel_rfl) ?_ trivial
  refine a_st (i := 10) hok rfl rfl (St.ofRd (r_assign rfl)) (by intro _ h; cases h; rfl) (fun _ => ⟨trivial, ⟨trivial, ⟨trivial, ⟨trivial, ⟨trivial, ⟨trivial, ⟨trivial, trivial⟩⟩⟩⟩⟩⟩⟩) (fun _ => ?_)
  refine a_fin hok (by kernel_rfl) ?_
  refine b_of (nrm [oc b1 [iv .i64 g_0.N, slv rT_api_Pair g_0.L], oc b2 [slv rT_api_Fraction o_1.Nodes, slv rT_api_Fraction o_1.Attacks], oc b3 [iv .i64 0, iv .i64 0], tbO (rI .u8) 0 tab_0] rfl) ?_
  refine n_then (ref_seq (ref_seq (ref_region ?_)))
  refine mv1 rfl rfl ?_
  refine s_rd (r_eql rfl rfl) rfl ?_
  refine l_nil (n_then ?_)
  refine ref_cond rfl (fun hb20 => ?_) (fun hb20 => ?_)
  · refine ref_seq (ref_region ?_)
    refine s_rd (r_build (ps := []) (rs := []) st_36 zs_36 trivial rfl rfl) rfl ?_
    refine s_st0 (s_cstore (out := [iv .i64 0, iv .i64 0]) Tryd.sizeOf36 rfl (j := 2) rfl (part_agO (ψs := [iv .i64 0, iv .i64 0]) rfl ⟨.inl iv_at, .inl iv_at, trivial⟩) rfl rfl rfl) (fun _ => ?_)
    refine as1 rfl rfl ?_
    refine l_nil (n_then (ref_ret (r_then ?_)))
    exact fin2 (.inl rfl) () [3] rfl ⟨rfl, trivial⟩ rfl (rv_cell rfl (j := 2) rfl Tryd.isAgg36 Tryd.sizeOf36 rfl rfl) (rv_tmp rfl)
  refine ref_skip (n_then (ref_seq ?_))
  refine ref_draw [0, 1, 2, 4, 6, 7, 9, 10, 11] rfl (by kernel_rfl) (fun hok => ?_)
  refine a_rd (i := 0) hok rfl (by kernel_rfl) rfl (r_cloadS Tryd.isAgg27 Tryd.sizeOf27 rfl (j := 0) rfl rfl rfl) rfl ?_
  refine a_rd (i := 1) hok rfl (by kernel_rfl) rfl (r_cloadS Tryd.isAgg31 Tryd.sizeOf31 rfl (j := 1) rfl rfl rfl) rfl ?_
  refine a_rd (i := 2) hok rfl (by kernel_rfl) rfl (r_move rfl) rfl ?_
  refine a_rd (i := 4) hok rfl (by kernel_rfl) rfl (r_move rfl) rfl ?_
  refine a_rd (i := 7) hok rfl (by kernel_rfl) rfl (r_move rfl) rfl ?_
  refine pull fun t21 h_t21 => ?_
  refine a_next hok 3 [] (by kernel_rfl) ?_ trivial
  refine a_st (i := 3) hok rfl rfl (s_call (ψ := fun (_ : Unit) => iv .u64 t21) (args := [.tmp 52]) Tryd.call33 rfl (network_Of_ok h_t21) ⟨arg rfl, trivial⟩ (fun _ _ _ _ h => h)) (by intro _ h; cases h; rfl) (fun _ => ⟨trivial, ⟨trivial, ⟨trivial, ⟨⟨⟨rfl, rfl⟩, trivial⟩, ⟨⟨⟨rfl, rfl⟩, trivial⟩, trivial⟩⟩⟩⟩⟩) (fun _ => ?_)
  refine pull fun t22 h_t22 => ?_
  refine a_next hok 5 [] (by kernel_rfl) ?_ trivial
  refine a_st (i := 5) hok rfl rfl (s_call (ψ := fun (_ : Unit) => iv .u64 t22) (args := [.tmp 54]) Tryd.call33 rfl (network_Of_ok h_t22) ⟨arg rfl, trivial⟩ (fun _ _ _ _ h => h)) (by intro _ h; cases h; rfl) (fun _ => ⟨trivial, ⟨trivial, ⟨trivial, ⟨⟨⟨rfl, rfl⟩, trivial⟩, ⟨⟨⟨rfl, rfl⟩, trivial⟩, trivial⟩⟩⟩⟩⟩) (fun _ => ?_)
  refine a_rd (i := 6) hok rfl (by kernel_rfl) rfl (r_or rfl rfl) rfl ?_
  refine pull fun t23 h_t23 => ?_
  refine a_next hok 8 [] (by kernel_rfl) ?_ trivial
  refine a_st (i := 8) hok rfl rfl (s_callC [3] [true] (fun (_ : Unit) => [tbO (rI .u8) 0 tab_0]) (fun (_ : Unit) => []) (fun (_ : Unit) => tup [iv .i64 t23.1, iv .i64 t23.2]) (args := [.tmp 50, .tmp 51, .tmp 56, .tmp 57]) (caps := []) Tryd.call32 rfl (chance_joint_ok h_t23) ⟨rfl, rfl, trivial⟩ (fun _ => rfl) (fun _ => trivial) (fun _ => rfl) ⟨arg rfl, arg rfl, arg rfl, arg rfl, trivial⟩ (fun _ _ _ _ h => h)) (by intro _ h; cases h; rfl) (fun _ => ⟨trivial, ⟨trivial, ⟨trivial, ⟨trivial, ⟨trivial, ⟨trivial, trivial⟩⟩⟩⟩⟩⟩) (fun _ => ?_)
  refine a_rd (i := 9) hok rfl (by kernel_rfl) rfl (r_move rfl) rfl ?_
  refine a_rd (i := 10) hok rfl (by kernel_rfl) rfl (r_extract rfl rfl) rfl ?_
  refine a_rd (i := 11) hok rfl (by kernel_rfl) rfl (r_extract rfl rfl) rfl ?_
  refine a_next hok 12 [] (by kernel_rfl) ?_ trivial
  refine a_st (i := 12) hok rfl rfl (St.ofRd (r_assign rfl)) (by intro _ h; cases h; rfl) (fun _ => ⟨trivial, ⟨trivial, ⟨trivial, ⟨trivial, ⟨trivial, ⟨trivial, ⟨trivial, ⟨trivial, ⟨trivial, trivial⟩⟩⟩⟩⟩⟩⟩⟩⟩) (fun _ => ?_)
  refine a_next hok 13 [] (by kernel_rfl) ?_ trivial
  refine a_st (i := 13) hok rfl rfl (St.ofRd (r_assign rfl)) (by intro _ h; cases h; rfl) (fun _ => ⟨trivial, ⟨trivial, ⟨trivial, ⟨trivial, ⟨trivial, ⟨trivial, ⟨trivial, ⟨trivial, ⟨trivial, trivial⟩⟩⟩⟩⟩⟩⟩⟩⟩) (fun _ => ?_)
  refine a_fin hok (by kernel_rfl) ?_
  refine b_of (nrm [oc b1 [iv .i64 g_0.N, slv rT_api_Pair g_0.L], oc b2 [slv rT_api_Fraction o_1.Nodes, slv rT_api_Fraction o_1.Attacks], oc b3 [iv .i64 0, iv .i64 0], tbO (rI .u8) 0 tab_0] rfl) ?_
  refine n_then (ref_seq (ref_region ?_))
  refine mv1 rfl rfl ?_
  refine mv1 rfl rfl ?_
  refine pull fun t24 h_t24 => ?_
  refine s_st (s_call (ψ := fun (_ : Unit) => ag [iv .i64 t24.Num, iv .i64 t24.Den]) (args := [.tmp 61, .tmp 62]) Tryd.call31 rfl (chance_reduced_ok h_t24) ⟨arg rfl, arg rfl, trivial⟩ (fun _ _ _ _ h => h)) rfl (fun _ => ?_)
  refine s_st0 (s_cstore (out := [iv .i64 t24.Num, iv .i64 t24.Den]) Tryd.sizeOf36 rfl (j := 2) rfl (part_agO (ψs := [iv .i64 t24.Num, iv .i64 t24.Den]) rfl ⟨.inl iv_at, .inl iv_at, trivial⟩) rfl rfl rfl) (fun _ => ?_)
  refine as1 rfl rfl ?_
  refine l_nil (n_then (ref_ret ?_))
  exact fin2 (.inl rfl) () [3] rfl ⟨rfl, trivial⟩ rfl (rv_cell rfl (j := 2) rfl Tryd.isAgg36 Tryd.sizeOf36 rfl rfl) (rv_tmp rfl)

/-! deliberation/deliberationlaw23.awake -/
noncomputable def law23_awake_m  : Option (Bool) :=
  Option.bind (chance_Joint_m (T_api_Graph.mk 2 [(T_api_Pair.mk 0 1)]) (T_api_Odds.mk [(T_api_Fraction.mk 1 2), (T_api_Fraction.mk 1 1)] [(T_api_Fraction.mk 1 1)]) [1] 4) fun t4 =>
  Option.bind (chance_Given_m (T_api_Graph.mk 2 [(T_api_Pair.mk 0 1)]) (T_api_Odds.mk [(T_api_Fraction.mk 1 2), (T_api_Fraction.mk 1 1)] [(T_api_Fraction.mk 1 1)]) [1] [0] 1) fun t6 =>
  bif t4.2 == 0 then
    bif t6.2 == 0 then
      bif decide (t4.1 = (T_api_Fraction.mk 1 2)) then
        letM (decide (t6.1 = (T_api_Fraction.mk 0 1))) fun t8 =>
        some t8
      else
        some false
    else
      some false
  else
    some false

theorem law23_awake_ok  {r : Bool} (hm : law23_awake_m  = some r) :
    FnOk prog 14 [] [tbO (rI .u8) 0 tab_0] (fun (x : Unit) => [bv r]) (fun (x : Unit) => [tbO (rI .u8) 0 tab_0]) := by
  refine fn_ok (fn := Tryd.f14) (N := 49) (res := fun r x => [bv r]) (Ω1 := fun r x => [tbO (rI .u8) 0 tab_0]) Tryd.func14 rfl rfl hm rfl (fun E hM => ?_)
  unfold law23_awake_m
  refine ref_seq (ref_region ?_)
  refine as1 rfl rfl ?_
  refine l_nil (n_then (ref_seq (ref_region ?_)))
  refine s_rd (r_build (ps := [(0, .const (.int .i64 (1))), (1, .const (.int .i64 (1)))]) (rs := [(0, [iv .i64 1]), (1, [iv .i64 1])]) st_36 zs_36 ⟨rfl, (part_at rfl iv_at), ⟨rfl, (part_at rfl iv_at), trivial⟩⟩ rfl rfl) rfl ?_
  refine s_st (s_alloc zt_36) rfl (fun b1 => ?_)
  refine s_st0 (s_cstore (out := [iv .i64 1, iv .i64 1]) Tryd.sizeOf36 rfl (j := 1) rfl (part_agO (ψs := [iv .i64 1, iv .i64 1]) rfl ⟨.inl iv_at, .inl iv_at, trivial⟩) rfl rfl rfl) (fun _ => ?_)
  refine l_nil (n_then (ref_seq (ref_region ?_)))
  refine s_rd (r_build (ps := [(0, .const (.int .i64 (0))), (1, .const (.int .i64 (1)))]) (rs := [(0, [iv .i64 0]), (1, [iv .i64 1])]) st_63 zs_63 ⟨rfl, (part_at rfl iv_at), ⟨rfl, (part_at rfl iv_at), trivial⟩⟩ rfl rfl) rfl ?_
  refine s_st (s_bslice (xs := [.tmp 9]) (ds := [(T_api_Pair.mk 0 1)]) Tryd.underlying25 el_63 rfl (Nat.le_of_ble_eq_true rfl) ⟨(part_agO (ψs := [iv .i64 0, iv .i64 1]) rfl ⟨.inl iv_at, .inl iv_at, trivial⟩), trivial⟩) rfl (fun _ => ?_)
  refine s_rd (r_build (ps := [(0, .const (.int .i64 (2))), (1, .tmp 10)]) (rs := [(0, [iv .i64 2]), (1, [slv rT_api_Pair [(T_api_Pair.mk 0 1)]])]) st_27 zs_27 ⟨rfl, (part_at rfl iv_at), ⟨rfl, (part_at rfl slv_at), trivial⟩⟩ rfl rfl) rfl ?_
  refine s_st (s_alloc zt_27) rfl (fun b2 => ?_)
  refine s_st0 (s_cstore (out := [iv .i64 2, slv rT_api_Pair [(T_api_Pair.mk 0 1)]]) Tryd.sizeOf27 rfl (j := 2) rfl (part_agO (ψs := [iv .i64 2, slv rT_api_Pair [(T_api_Pair.mk 0 1)]]) rfl ⟨.inl iv_at, .inl slv_at, trivial⟩) rfl rfl rfl) (fun _ => ?_)
  refine l_nil ?_
  refine b_of (nrm [tbO (rI .u8) 0 tab_0, oc b1 [iv .i64 1, iv .i64 1], oc b2 [iv .i64 2, slv rT_api_Pair [(T_api_Pair.mk 0 1)]]] rfl) ?_
  refine n_then (ref_seq (ref_region ?_))
  refine s_rd (r_build (ps := [(0, .const (.int .i64 (1))), (1, .const (.int .i64 (2)))]) (rs := [(0, [iv .i64 1]), (1, [iv .i64 2])]) st_36 zs_36 ⟨rfl, (part_at rfl iv_at), ⟨rfl, (part_at rfl iv_at), trivial⟩⟩ rfl rfl) rfl ?_
  refine s_rd (r_cloadS Tryd.isAgg36 Tryd.sizeOf36 rfl (j := 1) rfl rfl rfl) rfl ?_
  refine s_st (s_bslice (xs := [.tmp 12, .tmp 13]) (ds := [(T_api_Fraction.mk 1 2), (T_api_Fraction.mk 1 1)]) Tryd.underlying29 el_36 rfl (Nat.le_of_ble_eq_true rfl) ⟨(part_agO (ψs := [iv .i64 1, iv .i64 2]) rfl ⟨.inl iv_at, .inl iv_at, trivial⟩), ⟨(part_agO (ψs := [iv .i64 1, iv .i64 1]) rfl ⟨.inl iv_at, .inl iv_at, trivial⟩), trivial⟩⟩) rfl (fun _ => ?_)
  refine s_rd (r_cloadS Tryd.isAgg36 Tryd.sizeOf36 rfl (j := 1) rfl rfl rfl) rfl ?_
  refine s_st (s_bslice (xs := [.tmp 15]) (ds := [(T_api_Fraction.mk 1 1)]) Tryd.underlying29 el_36 rfl (Nat.le_of_ble_eq_true rfl) ⟨(part_agO (ψs := [iv .i64 1, iv .i64 1]) rfl ⟨.inl iv_at, .inl iv_at, trivial⟩), trivial⟩) rfl (fun _ => ?_)
  refine s_rd (r_build (ps := [(0, .tmp 14), (1, .tmp 16)]) (rs := [(0, [slv rT_api_Fraction [(T_api_Fraction.mk 1 2), (T_api_Fraction.mk 1 1)]]), (1, [slv rT_api_Fraction [(T_api_Fraction.mk 1 1)]])]) st_31 zs_31 ⟨rfl, (part_at rfl slv_at), ⟨rfl, (part_at rfl slv_at), trivial⟩⟩ rfl rfl) rfl ?_
  refine s_st (s_alloc zt_31) rfl (fun b3 => ?_)
  refine s_st0 (s_cstore (out := [slv rT_api_Fraction [(T_api_Fraction.mk 1 2), (T_api_Fraction.mk 1 1)], slv rT_api_Fraction [(T_api_Fraction.mk 1 1)]]) Tryd.sizeOf31 rfl (j := 3) rfl (part_agO (ψs := [slv rT_api_Fraction [(T_api_Fraction.mk 1 2), (T_api_Fraction.mk 1 1)], slv rT_api_Fraction [(T_api_Fraction.mk 1 1)]]) rfl ⟨.inl slv_at, .inl slv_at, trivial⟩) rfl rfl rfl) (fun _ => ?_)
  refine l_nil ?_
  refine b_of (nrm [tbO (rI .u8) 0 tab_0, oc b1 [iv .i64 1, iv .i64 1], oc b2 [iv .i64 2, slv rT_api_Pair [(T_api_Pair.mk 0 1)]], oc b3 [slv rT_api_Fraction [(T_api_Fraction.mk 1 2), (T_api_Fraction.mk 1 1)], slv rT_api_Fraction [(T_api_Fraction.mk 1 1)]]] rfl) ?_
  refine n_then (ref_seq (ref_region ?_))
  refine s_rd (r_cloadS Tryd.isAgg27 Tryd.sizeOf27 rfl (j := 2) rfl rfl rfl) rfl ?_
  refine s_rd (r_cloadS Tryd.isAgg31 Tryd.sizeOf31 rfl (j := 3) rfl rfl rfl) rfl ?_
  refine s_st (s_bslice (xs := [.const (.int .i64 (1))]) (ds := [1]) Tryd.underlying22 el_3 rfl (Nat.le_of_ble_eq_true rfl) ⟨(part_at rfl iv_at), trivial⟩) rfl (fun _ => ?_)
  refine pull fun t4 h_t4 => ?_
  refine s_st (s_callC [0] [true] (fun (_ : Unit) => [tbO (rI .u8) 0 tab_0]) (fun (_ : Unit) => []) (fun (_ : Unit) => tup [ag [iv .i64 t4.1.Num, iv .i64 t4.1.Den], iv .i64 t4.2]) (args := [.tmp 19, .tmp 20, .tmp 21, .const (.int .i64 (4))]) (caps := []) Tryd.call12 rfl (chance_Joint_ok h_t4) ⟨rfl, rfl, trivial⟩ (fun _ => rfl) (fun _ => trivial) (fun _ => rfl) ⟨arg rfl, arg rfl, arg rfl, arg rfl, trivial⟩ (fun _ _ _ _ h => h)) rfl (fun _ => ?_)
  refine mv1 rfl rfl ?_
  refine s_rd (r_extract rfl rfl) rfl ?_
  refine s_rd (r_extract rfl rfl) rfl ?_
  refine s_st (s_alloc zt_36) rfl (fun b5 => ?_)
  refine s_st0 (s_cstore (out := [iv .i64 t4.1.Num, iv .i64 t4.1.Den]) Tryd.sizeOf36 rfl (j := 4) rfl (part_agO (ψs := [iv .i64 t4.1.Num, iv .i64 t4.1.Den]) rfl ⟨.inl iv_at, .inl iv_at, trivial⟩) rfl rfl rfl) (fun _ => ?_)
  refine as1 rfl rfl ?_
  refine l_nil ?_
  refine b_of (nrm [tbO (rI .u8) 0 tab_0, oc b1 [iv .i64 1, iv .i64 1], oc b2 [iv .i64 2, slv rT_api_Pair [(T_api_Pair.mk 0 1)]], oc b3 [slv rT_api_Fraction [(T_api_Fraction.mk 1 2), (T_api_Fraction.mk 1 1)], slv rT_api_Fraction [(T_api_Fraction.mk 1 1)]], oc b5 [iv .i64 t4.1.Num, iv .i64 t4.1.Den]] rfl) ?_
  refine n_then (ref_seq (ref_region ?_))
  refine s_rd (r_cloadS Tryd.isAgg27 Tryd.sizeOf27 rfl (j := 2) rfl rfl rfl) rfl ?_
  refine s_rd (r_cloadS Tryd.isAgg31 Tryd.sizeOf31 rfl (j := 3) rfl rfl rfl) rfl ?_
  refine s_st (s_bslice (xs := [.const (.int .i64 (1))]) (ds := [1]) Tryd.underlying22 el_3 rfl (Nat.le_of_ble_eq_true rfl) ⟨(part_at rfl iv_at), trivial⟩) rfl (fun _ => ?_)
  refine s_st (s_bslice (xs := [.const (.int .i64 (0))]) (ds := [0]) Tryd.underlying22 el_3 rfl (Nat.le_of_ble_eq_true rfl) ⟨(part_at rfl iv_at), trivial⟩) rfl (fun _ => ?_)
  refine pull fun t6 h_t6 => ?_
  refine s_st (s_callC [0] [true] (fun (_ : Unit) => [tbO (rI .u8) 0 tab_0]) (fun (_ : Unit) => []) (fun (_ : Unit) => tup [ag [iv .i64 t6.1.Num, iv .i64 t6.1.Den], iv .i64 t6.2]) (args := [.tmp 26, .tmp 27, .tmp 28, .tmp 29, .const (.int .i64 (1))]) (caps := []) Tryd.call13 rfl (chance_Given_ok h_t6) ⟨rfl, rfl, trivial⟩ (fun _ => rfl) (fun _ => trivial) (fun _ => rfl) ⟨arg rfl, arg rfl, arg rfl, arg rfl, arg rfl, trivial⟩ (fun _ _ _ _ h => h)) rfl (fun _ => ?_)
  refine mv1 rfl rfl ?_
  refine s_rd (r_extract rfl rfl) rfl ?_
  refine s_rd (r_extract rfl rfl) rfl ?_
  refine s_st (s_alloc zt_36) rfl (fun b7 => ?_)
  refine s_st0 (s_cstore (out := [iv .i64 t6.1.Num, iv .i64 t6.1.Den]) Tryd.sizeOf36 rfl (j := 5) rfl (part_agO (ψs := [iv .i64 t6.1.Num, iv .i64 t6.1.Den]) rfl ⟨.inl iv_at, .inl iv_at, trivial⟩) rfl rfl rfl) (fun _ => ?_)
  refine as1 rfl rfl ?_
  refine l_nil ?_
  refine b_of (nrm [tbO (rI .u8) 0 tab_0, oc b1 [iv .i64 1, iv .i64 1], oc b2 [iv .i64 2, slv rT_api_Pair [(T_api_Pair.mk 0 1)]], oc b3 [slv rT_api_Fraction [(T_api_Fraction.mk 1 2), (T_api_Fraction.mk 1 1)], slv rT_api_Fraction [(T_api_Fraction.mk 1 1)]], oc b5 [iv .i64 t4.1.Num, iv .i64 t4.1.Den], oc b7 [iv .i64 t6.1.Num, iv .i64 t6.1.Den]] rfl) ?_
  refine n_then (ref_seq (ref_region ?_))
  refine mv1 rfl rfl ?_
  refine s_rd (r_eql rfl rfl) rfl ?_
  refine mv1 rfl rfl ?_
  refine b_split (t := 35) rfl (fun _ => ?_) (fun _ => ?_)
  · refine s_on rfl rfl rfl ?_
    refine mv1 rfl rfl ?_
    refine s_on rfl rfl rfl ?_
    refine s_rd (r_eql rfl rfl) rfl ?_
    refine s_rd (r_pickT rfl rfl) rfl ?_
    refine mv1 rfl rfl ?_
    refine b_split (t := 39) rfl (fun _ => ?_) (fun _ => ?_)
    · refine s_on rfl rfl rfl ?_
      refine s_rd (r_cloadS Tryd.isAgg36 Tryd.sizeOf36 rfl (j := 4) rfl rfl rfl) rfl ?_
      refine s_on rfl rfl rfl ?_
      refine s_rd (r_build (ps := [(0, .const (.int .i64 (1))), (1, .const (.int .i64 (2)))]) (rs := [(0, [iv .i64 1]), (1, [iv .i64 2])]) st_36 zs_36 ⟨rfl, (part_at rfl iv_at), ⟨rfl, (part_at rfl iv_at), trivial⟩⟩ rfl rfl) rfl ?_
      refine s_on rfl rfl rfl ?_
      refine s_rd (r_steql (u := t4.1) (v := (T_api_Fraction.mk 1 2)) eq_36 rfl rfl rfl rfl) rfl ?_
      refine s_rd (r_pickT rfl rfl) rfl ?_
      refine mv1 rfl rfl ?_
      refine b_split (t := 44) rfl (fun _ => ?_) (fun _ => ?_)
      · refine s_on rfl rfl rfl ?_
        refine s_rd (r_cloadS Tryd.isAgg36 Tryd.sizeOf36 rfl (j := 5) rfl rfl rfl) rfl ?_
        refine s_on rfl rfl rfl ?_
        refine s_rd (r_build (ps := [(0, .const (.int .i64 (0))), (1, .const (.int .i64 (1)))]) (rs := [(0, [iv .i64 0]), (1, [iv .i64 1])]) st_36 zs_36 ⟨rfl, (part_at rfl iv_at), ⟨rfl, (part_at rfl iv_at), trivial⟩⟩ rfl rfl) rfl ?_
        refine s_on rfl rfl rfl ?_
        refine s_rd (r_steql (u := t6.1) (v := (T_api_Fraction.mk 0 1)) eq_36 rfl rfl rfl rfl) rfl ?_
        refine s_rd (r_pickT rfl rfl) rfl ?_
        refine as1 rfl rfl ?_
        refine b_let (f := bv) (t := 0) rfl fun t8 => ?_
        refine l_nil (n_then (ref_ret ?_))
        exact fin1 (.inl rfl) () [0] rfl ⟨rfl, trivial⟩ rfl (rv_tmp rfl)
      refine s_off rfl rfl rfl rfl rfl ?_
      refine s_off rfl rfl rfl rfl rfl ?_
      refine s_off rfl rfl rfl rfl rfl ?_
      refine s_rd (r_pickF rfl rfl) rfl ?_
      refine as1 rfl rfl ?_
      refine l_nil (n_then (ref_ret ?_))
      exact fin1 (.inl rfl) () [0] rfl ⟨rfl, trivial⟩ rfl (rv_tmp rfl)
    refine s_off rfl rfl rfl rfl rfl ?_
    refine s_off rfl rfl rfl rfl rfl ?_
    refine s_off rfl rfl rfl rfl rfl ?_
    refine s_rd (r_pickF rfl rfl) rfl ?_
    refine mv1 rfl rfl ?_
    refine s_off rfl rfl rfl rfl rfl ?_
    refine s_off rfl rfl rfl rfl rfl ?_
    refine s_off rfl rfl rfl rfl rfl ?_
    refine s_rd (r_pickF rfl rfl) rfl ?_
    refine as1 rfl rfl ?_
    refine l_nil (n_then (ref_ret ?_))
    exact fin1 (.inl rfl) () [0] rfl ⟨rfl, trivial⟩ rfl (rv_tmp rfl)
  refine s_off rfl rfl rfl rfl rfl ?_
  refine s_off rfl rfl rfl rfl rfl ?_
  refine s_rd (r_pickF rfl rfl) rfl ?_
  refine mv1 rfl rfl ?_
  refine s_off rfl rfl rfl rfl rfl ?_
  refine s_off rfl rfl rfl rfl rfl ?_
  refine s_off rfl rfl rfl rfl rfl ?_
  refine s_rd (r_pickF rfl rfl) rfl ?_
  refine mv1 rfl rfl ?_
  refine s_off rfl rfl rfl rfl rfl ?_
  refine s_off rfl rfl rfl rfl rfl ?_
  refine s_off rfl rfl rfl rfl rfl ?_
  refine s_rd (r_pickF rfl rfl) rfl ?_
  refine as1 rfl rfl ?_
  refine l_nil (n_then (ref_ret ?_))
  exact fin1 (.inl rfl) () [0] rfl ⟨rfl, trivial⟩ rfl (rv_tmp rfl)

/-! deliberation/deliberationkeep.New -/
noncomputable def keep_New_m (l_0 : (List Int)) : Option (T_deliberationkeep_Src) :=
  Option.bind (slM l_0 0 (imin (l_0.length : Int) 2000)) fun t1 =>
  some (T_deliberationkeep_Src.mk t1 0)

theorem keep_New_ok {l_0 : (List Int)} {r : T_deliberationkeep_Src} (hm : keep_New_m l_0 = some r) :
    FnOk prog 7 [slv (rI .i64) l_0] [] (fun (x : Nat) => [pv (ptr x 0)]) (fun (x : Nat) => [oc x [slv (rI .i64) r.L, iv .i64 r.At]]) := by
  refine fn_ok (X := Nat) (fn := Tryd.f7) (N := 10) (res := fun r x => [pv (ptr x 0)]) (Ω1 := fun r x => [oc x [slv (rI .i64) r.L, iv .i64 r.At]]) Tryd.func7 rfl rfl hm rfl (fun E hM => ?_)
  unfold keep_New_m
  refine ref_seq (ref_region ?_)
  refine as1 rfl rfl ?_
  refine l_nil (n_then (ref_seq (ref_region ?_)))
  refine mv1 rfl rfl ?_
  refine mv1 rfl rfl ?_
  refine s_rd (r_len Tryd.underlying22 rfl) rfl ?_
  refine s_rd (r_min rfl rfl) rfl ?_
  refine pull fun t1 h_t1 => ?_
  refine s_rd (r_slice h_t1 Tryd.underlying22 el_3 rfl .dft (.of rfl)) rfl ?_
  refine s_rd (r_build (ps := [(0, .tmp 7)]) (rs := [(0, [slv (rI .i64) t1])]) st_61 zs_61 ⟨rfl, (part_at rfl slv_at), trivial⟩ rfl rfl) rfl ?_
  refine s_st (s_box (part_agO (ψs := [slv (rI .i64) t1, iv .i64 0]) rfl ⟨.inl slv_at, .inl iv_at, trivial⟩)) rfl (fun b2 => ?_)
  refine as1 rfl rfl ?_
  refine l_nil (n_then (ref_ret ?_))
  exact fin1 (.inl rfl) b2 [0] rfl ⟨rfl, trivial⟩ rfl (rv_tmp rfl)

/-! (*deliberation/deliberationkeep.Src).Raw -/
noncomputable def keep_Src_Raw_m (s_0 : T_deliberationkeep_Src) : Option (Int × T_deliberationkeep_Src) :=
  bif decide (s_0.At ≥ (s_0.L.length : Int)) then
    some (0, s_0)
  else
    Option.bind (idxM s_0.L (isub .i64 (iadd .i64 s_0.At 1) 1)) fun t2 =>
    some (t2, (T_deliberationkeep_Src.mk s_0.L (iadd .i64 s_0.At 1)))

theorem keep_Src_Raw_ok {s_0 : T_deliberationkeep_Src} {b_0 : Nat} {r : Int × T_deliberationkeep_Src} (hm : keep_Src_Raw_m s_0 = some r) :
    FnOk prog 36 [pv (ptr b_0 0)] [oc b_0 [slv (rI .i64) s_0.L, iv .i64 s_0.At]] (fun (x : Unit) => [iv .i64 r.1]) (fun (x : Unit) => [oc b_0 [slv (rI .i64) r.2.L, iv .i64 r.2.At]]) := by
  refine fn_ok (fn := Tryd.f36) (N := 31) (res := fun r x => [iv .i64 r.1]) (Ω1 := fun r x => [oc b_0 [slv (rI .i64) r.2.L, iv .i64 r.2.At]]) Tryd.func36 rfl rfl hm rfl (fun E hM => ?_)
  unfold keep_Src_Raw_m
  refine ref_seq (ref_region ?_)
  refine as1 rfl rfl ?_
  refine l_nil (n_then (ref_seq (ref_seq ?_)))
  refine ref_draw [0, 1, 2, 3, 4, 5, 6, 7, 8, 9] rfl (by kernel_rfl) (fun hok => ?_)
  refine a_rd (i := 0) hok rfl (by kernel_rfl) rfl (r_move rfl) rfl ?_
  refine a_rd (i := 1) hok rfl (by kernel_rfl) rfl (r_nilc rfl) rfl ?_
  refine a_rd (i := 2) hok rfl (by kernel_rfl) rfl (r_faddr (fo := 1) Tryd.underlying61 rfl rfl Tryd.sizeOf3 rfl) rfl ?_
  refine a_rd (i := 3) hok rfl (by kernel_rfl) rfl (r_cload Tryd.isAgg3 rfl (j := 0) rfl rfl) rfl ?_
  refine a_rd (i := 4) hok rfl (by kernel_rfl) rfl (r_move rfl) rfl ?_
  refine a_rd (i := 5) hok rfl (by kernel_rfl) rfl (r_nilc rfl) rfl ?_
  refine a_rd (i := 6) hok rfl (by kernel_rfl) rfl (r_faddr (fo := 0) Tryd.underlying61 rfl rfl Tryd.sizeOf22 rfl) rfl ?_
  refine a_rd (i := 7) hok rfl (by kernel_rfl) rfl (r_cload Tryd.isAgg22 rfl (j := 0) rfl rfl) rfl ?_
  refine a_rd (i := 8) hok rfl (by kernel_rfl) rfl (r_len Tryd.underlying22 rfl) rfl ?_
  refine a_rd (i := 9) hok rfl (by kernel_rfl) rfl (r_geq rfl rfl) rfl ?_
  refine a_fin hok (by kernel_rfl) ?_
  refine n_then ?_
  refine ref_cond rfl (fun hb1 => ?_) (fun hb1 => ?_)
  · refine ref_seq (ref_region ?_)
    refine as1 rfl rfl ?_
    refine l_nil (n_then (ref_ret (r_then ?_)))
    exact fin1 (.inl rfl) () [0] rfl ⟨rfl, trivial⟩ rfl (rv_tmp rfl)
  refine ref_skip (n_then (ref_seq (ref_region ?_)))
  refine mv1 rfl rfl ?_
  refine s_rd (r_nilc rfl) rfl ?_
  refine s_rd (r_faddr (fo := 1) Tryd.underlying61 rfl rfl Tryd.sizeOf3 rfl) rfl ?_
  refine s_rd (r_cload Tryd.isAgg3 rfl (j := 0) rfl rfl) rfl ?_
  refine s_rd (r_add rfl rfl) rfl ?_
  refine s_rd (r_nilc rfl) rfl ?_
  refine s_rd (r_faddr (fo := 1) Tryd.underlying61 rfl rfl Tryd.sizeOf3 rfl) rfl ?_
  refine s_st0 (s_cstore (out := [slv (rI .i64) s_0.L, iv .i64 (iadd .i64 s_0.At 1)]) Tryd.sizeOf3 rfl (j := 0) rfl (part_at rfl iv_at) rfl rfl rfl) (fun _ => ?_)
  refine l_nil (n_then (ref_seq ?_))
  refine ref_draw [0, 1, 2, 3, 4, 5, 6, 7, 8, 9, 10] rfl (by kernel_rfl) (fun hok => ?_)
  refine a_rd (i := 0) hok rfl (by kernel_rfl) rfl (r_move rfl) rfl ?_
  refine a_rd (i := 1) hok rfl (by kernel_rfl) rfl (r_nilc rfl) rfl ?_
  refine a_rd (i := 2) hok rfl (by kernel_rfl) rfl (r_faddr (fo := 0) Tryd.underlying61 rfl rfl Tryd.sizeOf22 rfl) rfl ?_
  refine a_rd (i := 3) hok rfl (by kernel_rfl) rfl (r_cload Tryd.isAgg22 rfl (j := 0) rfl rfl) rfl ?_
  refine a_rd (i := 4) hok rfl (by kernel_rfl) rfl (r_move rfl) rfl ?_
  refine a_rd (i := 5) hok rfl (by kernel_rfl) rfl (r_nilc rfl) rfl ?_
  refine a_rd (i := 6) hok rfl (by kernel_rfl) rfl (r_faddr (fo := 1) Tryd.underlying61 rfl rfl Tryd.sizeOf3 rfl) rfl ?_
  refine a_rd (i := 7) hok rfl (by kernel_rfl) rfl (r_cload Tryd.isAgg3 rfl (j := 0) rfl rfl) rfl ?_
  refine a_rd (i := 8) hok rfl (by kernel_rfl) rfl (r_sub rfl rfl) rfl ?_
  refine pull fun t2 h_t2 => ?_
  refine a_rd (i := 9) hok rfl (by kernel_rfl) rfl (r_index h_t2 Tryd.underlying22 el_3 rfl rfl) rfl ?_
  refine a_rd (i := 10) hok rfl (by kernel_rfl) rfl (r_load el_3 rfl) rfl ?_
  refine a_next hok 11 [] (by kernel_rfl) ?_ trivial
  refine a_st (i := 11) hok rfl rfl (St.ofRd (r_assign rfl)) (by intro _ h; cases h; rfl) (fun _ => ⟨trivial, ⟨trivial, ⟨trivial, ⟨trivial, ⟨trivial, ⟨trivial, ⟨trivial, ⟨trivial, ⟨trivial, ⟨trivial, ⟨trivial, trivial⟩⟩⟩⟩⟩⟩⟩⟩⟩⟩⟩) (fun _ => ?_)
  refine a_fin hok (by kernel_rfl) ?_
  refine n_then (ref_ret ?_)
  exact fin1 (.inl rfl) () [0] rfl ⟨rfl, trivial⟩ rfl (rv_tmp rfl)

/-! deliberation/deliberationkeep.Mod -/
noncomputable def keep_Mod_m (x_0 : Int) (n_1 : Int) : Option (Int) :=
  bif decide (n_1 < 1) then
    some 0
  else
    Option.bind (iremM .i64 x_0 n_1) fun x2 =>
    bif decide (x2 < 0) then
      letM (iadd .i64 x2 n_1) fun x4 =>
      some x4
    else
      some x2

theorem keep_Mod_ok {x_0 : Int} {n_1 : Int} {r : Int} (hm : keep_Mod_m x_0 n_1 = some r) :
    FnOk prog 35 [iv .i64 x_0, iv .i64 n_1] [] (fun (x : Unit) => [iv .i64 r]) (fun (x : Unit) => []) := by
  refine fn_ok (fn := Tryd.f35) (N := 16) (res := fun r x => [iv .i64 r]) (Ω1 := fun r x => []) Tryd.func35 rfl rfl hm rfl (fun E hM => ?_)
  unfold keep_Mod_m
  refine ref_seq (ref_region ?_)
  refine as1 rfl rfl ?_
  refine l_nil (n_then (ref_seq (ref_seq (ref_region ?_))))
  refine mv1 rfl rfl ?_
  refine s_rd (r_lss rfl rfl) rfl ?_
  refine l_nil (n_then ?_)
  refine ref_cond rfl (fun hb1 => ?_) (fun hb1 => ?_)
  · refine ref_seq (ref_region ?_)
    refine as1 rfl rfl ?_
    refine l_nil (n_then (ref_ret (r_then ?_)))
    exact fin1 (.inl rfl) () [] rfl trivial rfl (rv_tmp rfl)
  refine ref_skip (n_then (ref_seq (ref_region ?_)))
  refine mv1 rfl rfl ?_
  refine mv1 rfl rfl ?_
  refine pull fun x2 h_x2 => ?_
  refine s_rd (r_remM h_x2 rfl rfl) rfl ?_
  refine as1 rfl rfl ?_
  refine l_nil (n_then (ref_seq (ref_seq (ref_region ?_))))
  refine mv1 rfl rfl ?_
  refine s_rd (r_lss rfl rfl) rfl ?_
  refine l_nil (n_then ?_)
  refine ref_cond rfl (fun hb3 => ?_) (fun hb3 => ?_)
  · refine ref_region ?_
    refine mv1 rfl rfl ?_
    refine mv1 rfl rfl ?_
    refine s_rd (r_add rfl rfl) rfl ?_
    refine as1 rfl rfl ?_
    refine b_let (f := iv .i64) (t := 0) rfl fun x4 => ?_
    refine l_nil (n_then (ref_seq (ref_region ?_)))
    refine mv1 rfl rfl ?_
    refine as1 rfl rfl ?_
    refine l_nil (n_then (ref_ret ?_))
    exact fin1 (.inl rfl) () [] rfl trivial rfl (rv_tmp rfl)
  refine ref_skip (n_then (ref_seq (ref_region ?_)))
  refine mv1 rfl rfl ?_
  refine as1 rfl rfl ?_
  refine l_nil (n_then (ref_ret ?_))
  exact fin1 (.inl rfl) () [] rfl trivial rfl (rv_tmp rfl)

/-! (*deliberation/deliberationkeep.Src).N -/
noncomputable def keep_Src_N_m (s_0 : T_deliberationkeep_Src) (n_1 : Int) : Option (Int × T_deliberationkeep_Src) :=
  Option.bind (keep_Src_Raw_m s_0) fun t1 =>
  Option.bind (keep_Mod_m t1.1 n_1) fun t2 =>
  some (t2, t1.2)

theorem keep_Src_N_ok {s_0 : T_deliberationkeep_Src} {n_1 : Int} {b_0 : Nat} {r : Int × T_deliberationkeep_Src} (hm : keep_Src_N_m s_0 n_1 = some r) :
    FnOk prog 16 [pv (ptr b_0 0), iv .i64 n_1] [oc b_0 [slv (rI .i64) s_0.L, iv .i64 s_0.At]] (fun (x : Unit) => [iv .i64 r.1]) (fun (x : Unit) => [oc b_0 [slv (rI .i64) r.2.L, iv .i64 r.2.At]]) := by
  refine fn_ok (fn := Tryd.f16) (N := 9) (res := fun r x => [iv .i64 r.1]) (Ω1 := fun r x => [oc b_0 [slv (rI .i64) r.2.L, iv .i64 r.2.At]]) Tryd.func16 rfl rfl hm rfl (fun E hM => ?_)
  unfold keep_Src_N_m
  refine ref_seq (ref_region ?_)
  refine as1 rfl rfl ?_
  refine l_nil (n_then (ref_seq (ref_region ?_)))
  refine mv1 rfl rfl ?_
  refine pull fun t1 h_t1 => ?_
  refine s_st (s_callC [0] [true] (fun (_ : Unit) => [oc b_0 [slv (rI .i64) t1.2.L, iv .i64 t1.2.At]]) (fun (_ : Unit) => []) (fun (_ : Unit) => iv .i64 t1.1) (args := [.tmp 5]) (caps := []) Tryd.call36 rfl (keep_Src_Raw_ok h_t1) ⟨rfl, rfl, trivial⟩ (fun _ => rfl) (fun _ => trivial) (fun _ => rfl) ⟨arg rfl, trivial⟩ (fun _ _ _ _ h => h)) rfl (fun _ => ?_)
  refine mv1 rfl rfl ?_
  refine pull fun t2 h_t2 => ?_
  refine s_st (s_call (ψ := fun (_ : Unit) => iv .i64 t2) (args := [.tmp 6, .tmp 7]) Tryd.call35 rfl (keep_Mod_ok h_t2) ⟨arg rfl, arg rfl, trivial⟩ (fun _ _ _ _ h => h)) rfl (fun _ => ?_)
  refine as1 rfl rfl ?_
  refine l_nil (n_then (ref_ret ?_))
  exact fin1 (.inl rfl) () [0] rfl ⟨rfl, trivial⟩ rfl (rv_tmp rfl)

/-! (*deliberation/deliberationkeep.Src).Range -/
noncomputable def keep_Src_Range_m (s_0 : T_deliberationkeep_Src) (lo_1 : Int) (hi_2 : Int) : Option (Int × T_deliberationkeep_Src) :=
  Option.bind (keep_Src_N_m s_0 (iadd .i64 (isub .i64 hi_2 lo_1) 1)) fun t1 =>
  letM (iadd .i64 lo_1 t1.1) fun t2 =>
  some (t2, t1.2)

theorem keep_Src_Range_ok {s_0 : T_deliberationkeep_Src} {lo_1 : Int} {hi_2 : Int} {b_0 : Nat} {r : Int × T_deliberationkeep_Src} (hm : keep_Src_Range_m s_0 lo_1 hi_2 = some r) :
    FnOk prog 23 [pv (ptr b_0 0), iv .i64 lo_1, iv .i64 hi_2] [oc b_0 [slv (rI .i64) s_0.L, iv .i64 s_0.At]] (fun (x : Unit) => [iv .i64 r.1]) (fun (x : Unit) => [oc b_0 [slv (rI .i64) r.2.L, iv .i64 r.2.At]]) := by
  refine fn_ok (fn := Tryd.f23) (N := 15) (res := fun r x => [iv .i64 r.1]) (Ω1 := fun r x => [oc b_0 [slv (rI .i64) r.2.L, iv .i64 r.2.At]]) Tryd.func23 rfl rfl hm rfl (fun E hM => ?_)
  unfold keep_Src_Range_m
  refine ref_seq (ref_region ?_)
  refine as1 rfl rfl ?_
  refine l_nil (n_then (ref_seq (ref_region ?_)))
  refine mv1 rfl rfl ?_
  refine mv1 rfl rfl ?_
  refine mv1 rfl rfl ?_
  refine mv1 rfl rfl ?_
  refine s_rd (r_sub rfl rfl) rfl ?_
  refine s_rd (r_add rfl rfl) rfl ?_
  refine pull fun t1 h_t1 => ?_
  refine s_st (s_callC [0] [true] (fun (_ : Unit) => [oc b_0 [slv (rI .i64) t1.2.L, iv .i64 t1.2.At]]) (fun (_ : Unit) => []) (fun (_ : Unit) => iv .i64 t1.1) (args := [.tmp 8, .tmp 12]) (caps := []) Tryd.call16 rfl (keep_Src_N_ok h_t1) ⟨rfl, rfl, trivial⟩ (fun _ => rfl) (fun _ => trivial) (fun _ => rfl) ⟨arg rfl, arg rfl, trivial⟩ (fun _ _ _ _ h => h)) rfl (fun _ => ?_)
  refine s_rd (r_add rfl rfl) rfl ?_
  refine as1 rfl rfl ?_
  refine b_let (f := iv .i64) (t := 6) rfl fun t2 => ?_
  refine l_nil (n_then (ref_ret ?_))
  exact fin1 (.inl rfl) () [0] rfl ⟨rfl, trivial⟩ rfl (rv_tmp rfl)

/-! deliberation/deliberationnet.Graph -/
noncomputable def net_Graph_l2 (t2 : Int × T_deliberationkeep_Src) (dense4 : Int × T_deliberationkeep_Src) (s159 : Int × T_deliberationkeep_Src × (List T_api_Pair)) (s186 : Int × T_deliberationkeep_Src × (List T_api_Pair)) : Option (Sum (T_deliberationkeep_Src × (List T_api_Pair)) (Int × T_deliberationkeep_Src × (List T_api_Pair))) :=
  bif decide (s186.1 < t2.1) then
    joinM (fun j190 : Int =>
        Option.bind (keep_Src_N_m s186.2.1 j190) fun t193 =>
        bif t193.1 == 1 then
          Option.bind (appM 16 s186.2.2 [(T_api_Pair.mk s159.1 s186.1)]) fun t195 =>
          letM (iadd .i64 s186.1 1) fun b197 =>
          some (Sum.inr (b197, t193.2, t195))
        else
          letM (iadd .i64 s186.1 1) fun b198 =>
          some (Sum.inr (b198, t193.2, s186.2.2))) fun k192 =>
    bif s159.1 == s186.1 then
      k192 9
    else
      k192 dense4.1
  else
    some (Sum.inl (s186.2.1, s186.2.2))

noncomputable def net_Graph_l1 (t2 : Int × T_deliberationkeep_Src) (dense4 : Int × T_deliberationkeep_Src) (s159 : Int × T_deliberationkeep_Src × (List T_api_Pair)) : Option (Sum (T_deliberationkeep_Src × (List T_api_Pair)) (Int × T_deliberationkeep_Src × (List T_api_Pair))) :=
  bif decide (s159.1 < t2.1) then
    Option.bind (loopC (net_Graph_l2 t2 dense4 s159) (0, s159.2.1, s159.2.2)) fun q199 : T_deliberationkeep_Src × (List T_api_Pair) =>
    letM (iadd .i64 s159.1 1) fun a_201 =>
    some (Sum.inr (a_201, q199.1, q199.2))
  else
    some (Sum.inl (s159.2.1, s159.2.2))

noncomputable def net_Graph_m (s_0 : T_deliberationkeep_Src) (n_1 : Int) : Option (T_api_Graph × T_deliberationkeep_Src) :=
  Option.bind (keep_Src_Range_m s_0 1 n_1) fun t2 =>
  Option.bind (keep_Src_Range_m t2.2 2 5) fun dense4 =>
  Option.bind (loopC (net_Graph_l1 t2 dense4) (0, dense4.2, [])) fun q202 : T_deliberationkeep_Src × (List T_api_Pair) =>
  some ((T_api_Graph.mk t2.1 q202.2), q202.1)

theorem net_Graph_ok {s_0 : T_deliberationkeep_Src} {n_1 : Int} {b_0 : Nat} {r : T_api_Graph × T_deliberationkeep_Src} (hm : net_Graph_m s_0 n_1 = some r) :
    FnOk prog 8 [pv (ptr b_0 0), iv .i64 n_1] [oc b_0 [slv (rI .i64) s_0.L, iv .i64 s_0.At]] (fun (x : Unit) => [ag [iv .i64 r.1.N, slv rT_api_Pair r.1.L]]) (fun (x : Unit) => [oc b_0 [slv (rI .i64) r.2.L, iv .i64 r.2.At]]) := by
  refine fn_ok (fn := Tryd.f8) (N := 45) (res := fun r x => [ag [iv .i64 r.1.N, slv rT_api_Pair r.1.L]]) (Ω1 := fun r x => [oc b_0 [slv (rI .i64) r.2.L, iv .i64 r.2.At]]) Tryd.func8 rfl rfl hm rfl (fun E hM => ?_)
  unfold net_Graph_m
  refine ref_seq (ref_region ?_)
  refine s_st (s_alloc zt_27) rfl (fun b1 => ?_)
  refine l_nil (n_then (ref_seq (ref_region ?_)))
  refine mv1 rfl rfl ?_
  refine mv1 rfl rfl ?_
  refine pull fun t2 h_t2 => ?_
  refine s_st (s_callC [0] [true] (fun (_ : Unit) => [oc b_0 [slv (rI .i64) t2.2.L, iv .i64 t2.2.At]]) (fun (_ : Unit) => []) (fun (_ : Unit) => iv .i64 t2.1) (args := [.tmp 10, .const (.int .i64 (1)), .tmp 11]) (caps := []) Tryd.call23 rfl (keep_Src_Range_ok h_t2) ⟨rfl, rfl, trivial⟩ (fun _ => rfl) (fun _ => trivial) (fun _ => rfl) ⟨arg rfl, arg rfl, arg rfl, trivial⟩ (fun _ _ _ _ h => h)) rfl (fun _ => ?_)
  refine s_rd (r_build (ps := [(0, .tmp 12)]) (rs := [(0, [iv .i64 t2.1])]) st_27 zs_27 ⟨rfl, (part_at rfl iv_at), trivial⟩ rfl rfl) rfl ?_
  refine s_st (s_alloc zt_27) rfl (fun b3 => ?_)
  refine s_st0 (s_cstore (out := [iv .i64 t2.1, pv (.slice none 0 0)]) Tryd.sizeOf27 rfl (j := 2) rfl (part_agO (ψs := [iv .i64 t2.1, pv (.slice none 0 0)]) rfl ⟨.inl iv_at, .inl (pv_at rfl), trivial⟩) rfl rfl rfl) (fun _ => ?_)
  refine l_nil ?_
  refine b_of (nrm [oc b_0 [slv (rI .i64) t2.2.L, iv .i64 t2.2.At], oc b1 [iv .i64 0, pv (.slice none 0 0)], oc b3 [iv .i64 t2.1, pv (.slice none 0 0)]] rfl) ?_
  refine n_then (ref_seq (ref_region ?_))
  refine mv1 rfl rfl ?_
  refine pull fun dense4 h_dense4 => ?_
  refine s_st (s_callC [0] [true] (fun (_ : Unit) => [oc b_0 [slv (rI .i64) dense4.2.L, iv .i64 dense4.2.At]]) (fun (_ : Unit) => []) (fun (_ : Unit) => iv .i64 dense4.1) (args := [.tmp 14, .const (.int .i64 (2)), .const (.int .i64 (5))]) (caps := []) Tryd.call23 rfl (keep_Src_Range_ok h_dense4) ⟨rfl, rfl, trivial⟩ (fun _ => rfl) (fun _ => trivial) (fun _ => rfl) ⟨arg rfl, arg rfl, arg rfl, trivial⟩ (fun _ _ _ _ h => h)) rfl (fun _ => ?_)
  refine as1 rfl rfl ?_
  refine l_nil (n_then (ref_seq (ref_seq (ref_region ?_))))
  refine as1 rfl rfl ?_
  refine l_nil (n_then ?_)
  refine b_of (own_nil rT_api_Pair) ?_
  refine ref_loopB (f := (net_Graph_l1 t2 dense4)) (Γl := (fun (s159 : Int × T_deliberationkeep_Src × (List T_api_Pair)) (x160 : (Value × List Nat)) => [(0, pv (ptr b_0 0)), (4, pv (ptr b1 0)), (5, pv (ptr b3 0)), (6, iv .i64 dense4.1), (7, iv .i64 s159.1)])) (Ωl := (fun (s159 : Int × T_deliberationkeep_Src × (List T_api_Pair)) (x160 : (Value × List Nat)) => [oc b_0 [slv (rI .i64) s159.2.1.L, iv .i64 s159.2.1.At], oc b1 [iv .i64 0, pv (.slice none 0 0)], oc b3 [iv .i64 t2.1, pv x160.1], oa rT_api_Pair x160.1 x160.2 s159.2.2])) (Γb := (fun (q202 : T_deliberationkeep_Src × (List T_api_Pair)) (y203 : (Value × List Nat)) => [(0, pv (ptr b_0 0)), (4, pv (ptr b1 0)), (5, pv (ptr b3 0))])) (Ωb := (fun (q202 : T_deliberationkeep_Src × (List T_api_Pair)) (y203 : (Value × List Nat)) => [oc b_0 [slv (rI .i64) q202.1.L, iv .i64 q202.1.At], oc b1 [iv .i64 0, pv (.slice none 0 0)], oc b3 [iv .i64 t2.1, pv y203.1], oa rT_api_Pair y203.1 y203.2 q202.2])) (0, dense4.2, []) ((.slice none 0 0), []) (weak [0, 1, 2, 3] ⟨rfl, rfl, rfl, rfl, rfl, trivial⟩ ⟨rfl, rfl, rfl, rfl, trivial⟩) (fun s159 x160 => ?_) (fun q202 y203 => ?_)
  · unfold net_Graph_l1
    refine ref_seq (ref_seq (ref_region ?_))
    refine mv1 rfl rfl ?_
    refine s_rd (r_faddr (fo := 0) Tryd.underlying27 rfl rfl Tryd.sizeOf3 rfl) rfl ?_
    refine s_rd (r_cload Tryd.isAgg3 rfl (j := 2) rfl rfl) rfl ?_
    refine s_rd (r_lss rfl rfl) rfl ?_
    refine l_nil (n_then ?_)
    refine ref_cond rfl (fun hb161 => ?_) (fun hb161 => ?_)
    · refine ref_skip (n_then (ref_seq (ref_block (ref_seq (ref_region ?_)))))
      refine as1 rfl rfl ?_
      refine l_nil (n_then ?_)
      refine ref_loopB (f := (net_Graph_l2 t2 dense4 s159)) (Γl := (fun (s186 : Int × T_deliberationkeep_Src × (List T_api_Pair)) (x187 : (Value × List Nat)) => [(0, pv (ptr b_0 0)), (4, pv (ptr b1 0)), (5, pv (ptr b3 0)), (6, iv .i64 dense4.1), (7, iv .i64 s159.1), (8, iv .i64 s186.1)])) (Ωl := (fun (s186 : Int × T_deliberationkeep_Src × (List T_api_Pair)) (x187 : (Value × List Nat)) => [oc b_0 [slv (rI .i64) s186.2.1.L, iv .i64 s186.2.1.At], oc b1 [iv .i64 0, pv (.slice none 0 0)], oc b3 [iv .i64 t2.1, pv x187.1], oa rT_api_Pair x187.1 x187.2 s186.2.2])) (Γb := (fun (q199 : T_deliberationkeep_Src × (List T_api_Pair)) (y200 : (Value × List Nat)) => [(0, pv (ptr b_0 0)), (4, pv (ptr b1 0)), (5, pv (ptr b3 0)), (6, iv .i64 dense4.1), (7, iv .i64 s159.1)])) (Ωb := (fun (q199 : T_deliberationkeep_Src × (List T_api_Pair)) (y200 : (Value × List Nat)) => [oc b_0 [slv (rI .i64) q199.1.L, iv .i64 q199.1.At], oc b1 [iv .i64 0, pv (.slice none 0 0)], oc b3 [iv .i64 t2.1, pv y200.1], oa rT_api_Pair y200.1 y200.2 q199.2])) (0, s159.2.1, s159.2.2) x160 (weak [0, 1, 2, 3] ⟨rfl, rfl, rfl, rfl, rfl, rfl, trivial⟩ ⟨rfl, rfl, rfl, rfl, trivial⟩) (fun s186 x187 => ?_) (fun q199 y200 => ?_)
      · unfold net_Graph_l2
        refine ref_seq (ref_seq (ref_region ?_))
        refine mv1 rfl rfl ?_
        refine s_rd (r_faddr (fo := 0) Tryd.underlying27 rfl rfl Tryd.sizeOf3 rfl) rfl ?_
        refine s_rd (r_cload Tryd.isAgg3 rfl (j := 2) rfl rfl) rfl ?_
        refine s_rd (r_lss rfl rfl) rfl ?_
        refine l_nil (n_then ?_)
        refine ref_cond rfl (fun hb188 => ?_) (fun hb188 => ?_)
        · refine ref_skip (n_then (ref_seq (ref_block (ref_seq (ref_region ?_)))))
          refine mv1 rfl rfl ?_
          refine as1 rfl rfl ?_
          refine l_nil (n_then (ref_seq ?_))
          refine ref_join (fun (j190 : Int) (x191 : Unit) => [(0, pv (ptr b_0 0)), (4, pv (ptr b1 0)), (5, pv (ptr b3 0)), (6, iv .i64 dense4.1), (7, iv .i64 s159.1), (8, iv .i64 s186.1), (9, iv .i64 j190)]) (fun (j190 : Int) (x191 : Unit) => [oc b_0 [slv (rI .i64) s186.2.1.L, iv .i64 s186.2.1.At], oc b1 [iv .i64 0, pv (.slice none 0 0)], oc b3 [iv .i64 t2.1, pv x187.1], oa rT_api_Pair x187.1 x187.2 s186.2.2]) (fun k192 hk192 => ?_) (fun j190 x191 => ?_)
          · refine ref_seq (ref_region ?_)
            refine mv1 rfl rfl ?_
            refine mv1 rfl rfl ?_
            refine s_rd (r_eql rfl rfl) rfl ?_
            refine l_nil (n_then ?_)
            refine ref_cond rfl (fun hb189 => ?_) (fun hb189 => ?_)
            · refine ref_region ?_
              refine as1 rfl rfl ?_
              refine l_nil ?_
              exact b_to (hk192 9 ()) (weak [0, 1, 2, 3] ⟨rfl, rfl, rfl, rfl, rfl, rfl, rfl, trivial⟩ ⟨rfl, rfl, rfl, rfl, trivial⟩)
            refine ref_skip ?_
            exact b_to (hk192 dense4.1 ()) (weak [0, 1, 2, 3] ⟨rfl, rfl, rfl, rfl, rfl, rfl, rfl, trivial⟩ ⟨rfl, rfl, rfl, rfl, trivial⟩)
          refine n_then (ref_seq (ref_region ?_))
          refine mv1 rfl rfl ?_
          refine mv1 rfl rfl ?_
          refine pull fun t193 h_t193 => ?_
          refine s_st (s_callC [0] [true] (fun (_ : Unit) => [oc b_0 [slv (rI .i64) t193.2.L, iv .i64 t193.2.At]]) (fun (_ : Unit) => []) (fun (_ : Unit) => iv .i64 t193.1) (args := [.tmp 32, .tmp 33]) (caps := []) Tryd.call16 rfl (keep_Src_N_ok h_t193) ⟨rfl, rfl, trivial⟩ (fun _ => rfl) (fun _ => trivial) (fun _ => rfl) ⟨arg rfl, arg rfl, trivial⟩ (fun _ _ _ _ h => h)) rfl (fun _ => ?_)
          refine s_rd (r_eql rfl rfl) rfl ?_
          refine l_nil (n_then ?_)
          refine ref_cond rfl (fun hb194 => ?_) (fun hb194 => ?_)
          · refine ref_region ?_
            refine s_rd (r_faddr (fo := 1) Tryd.underlying27 rfl rfl Tryd.sizeOf25 rfl) rfl ?_
            refine s_rd (r_cload Tryd.isAgg25 rfl (j := 2) rfl rfl) rfl ?_
            refine mv1 rfl rfl ?_
            refine mv1 rfl rfl ?_
            refine s_rd (r_build (ps := [(0, .tmp 38), (1, .tmp 39)]) (rs := [(0, [iv .i64 s159.1]), (1, [iv .i64 s186.1])]) st_63 zs_63 ⟨rfl, (part_at rfl iv_at), ⟨rfl, (part_at rfl iv_at), trivial⟩⟩ rfl rfl) rfl ?_
            refine s_st (s_bslice (xs := [.tmp 40]) (ds := [(T_api_Pair.mk s159.1 s186.1)]) Tryd.underlying25 el_63 rfl (Nat.le_of_ble_eq_true rfl) ⟨(part_agO (ψs := [iv .i64 s159.1, iv .i64 s186.1]) rfl ⟨.inl iv_at, .inl iv_at, trivial⟩), trivial⟩) rfl (fun _ => ?_)
            refine pull fun t195 h_t195 => ?_
            refine s_st (s_append h_t195 Tryd.underlying25 el_63 rfl (j := 3) rfl rfl) rfl (fun o196 => ?_)
            refine s_rd (r_faddr (fo := 1) Tryd.underlying27 rfl rfl Tryd.sizeOf25 rfl) rfl ?_
            refine s_st0 (s_cstore (out := [iv .i64 t2.1, pv o196.1]) Tryd.sizeOf25 rfl (j := 2) rfl (part_own rfl (j := 3) rfl) rfl rfl rfl) (fun _ => ?_)
            refine l_nil ?_
            refine b_of (nrm [oc b_0 [slv (rI .i64) t193.2.L, iv .i64 t193.2.At], oc b1 [iv .i64 0, pv (.slice none 0 0)], oc b3 [iv .i64 t2.1, pv o196.1], oa rT_api_Pair o196.1 o196.2 t195] rfl) ?_
            refine n_block (n_then (ref_region ?_))
            refine mv1 rfl rfl ?_
            refine s_rd (r_add rfl rfl) rfl ?_
            refine as1 rfl rfl ?_
            refine b_let (f := iv .i64) (t := 8) rfl fun b197 => ?_
            refine l_nil ?_
            exact goB o196 (weak [0, 1, 2, 3] ⟨rfl, rfl, rfl, rfl, rfl, rfl, trivial⟩ ⟨rfl, rfl, rfl, rfl, trivial⟩)
          refine ref_skip (n_block (n_then (ref_region ?_)))
          refine mv1 rfl rfl ?_
          refine s_rd (r_add rfl rfl) rfl ?_
          refine as1 rfl rfl ?_
          refine b_let (f := iv .i64) (t := 8) rfl fun b198 => ?_
          refine l_nil ?_
          exact goB x187 (weak [0, 1, 2, 3] ⟨rfl, rfl, rfl, rfl, rfl, rfl, trivial⟩ ⟨rfl, rfl, rfl, rfl, trivial⟩)
        refine ref_exit (x_then ?_)
        exact brkB x187 (weak [0, 1, 2, 3] ⟨rfl, rfl, rfl, rfl, rfl, trivial⟩ ⟨rfl, rfl, rfl, rfl, trivial⟩)
      refine n_block (n_then (ref_region ?_))
      refine mv1 rfl rfl ?_
      refine s_rd (r_add rfl rfl) rfl ?_
      refine as1 rfl rfl ?_
      refine b_let (f := iv .i64) (t := 7) rfl fun a_201 => ?_
      refine l_nil ?_
      exact goB y200 (weak [0, 1, 2, 3] ⟨rfl, rfl, rfl, rfl, rfl, trivial⟩ ⟨rfl, rfl, rfl, rfl, trivial⟩)
    refine ref_exit (x_then ?_)
    exact brkB x160 (weak [0, 1, 2, 3] ⟨rfl, rfl, rfl, trivial⟩ ⟨rfl, rfl, rfl, rfl, trivial⟩)
  refine n_then (ref_seq (ref_region ?_))
  refine s_rd (r_cloadS Tryd.isAgg27 Tryd.sizeOf27 rfl (j := 2) rfl rfl rfl) rfl ?_
  refine s_st0 (s_cstore (out := [iv .i64 t2.1, pv y203.1]) Tryd.sizeOf27 rfl (j := 1) rfl (part_agO (ψs := [iv .i64 t2.1, pv y203.1]) rfl ⟨.inl iv_at, .inr ⟨_, _, _, _, _, 3, rfl, rfl⟩, trivial⟩) rfl rfl rfl) (fun _ => ?_)
  refine l_nil (n_then (ref_ret ?_))
  refine b_of (frzGL [(44, ag [iv .i64 t2.1, slv rT_api_Pair q202.2])] [(1, b1, [iv .i64 t2.1, slv rT_api_Pair q202.2]), (2, b3, [iv .i64 t2.1, slv rT_api_Pair q202.2])] (j := 3) rfl ⟨⟨_, rfl, .inr ⟨_, _, rfl, rfl, ⟨.inl rfl, .inr ⟨rfl, rfl⟩, trivial⟩⟩⟩, trivial⟩ ⟨⟨_, rfl, ⟨.inl rfl, .inr ⟨rfl, rfl⟩, trivial⟩⟩, ⟨_, rfl, ⟨.inl rfl, .inr ⟨rfl, rfl⟩, trivial⟩⟩, trivial⟩) ?_
  refine b_of (nrm [oc b_0 [slv (rI .i64) q202.1.L, iv .i64 q202.1.At], oc b1 [iv .i64 t2.1, slv rT_api_Pair q202.2], oc b3 [iv .i64 t2.1, slv rT_api_Pair q202.2], dead] rfl) ?_
  exact fin1 (.inl rfl) () [0] rfl ⟨rfl, trivial⟩ rfl (rv_cell rfl (j := 1) rfl Tryd.isAgg27 Tryd.sizeOf27 rfl rfl)

/-! deliberation/deliberationlaw23.odds -/
noncomputable def law23_odds_l1 (g_1 : T_api_Graph) (s80 : Int × Int × T_deliberationkeep_Src × (List T_api_Fraction) × (List T_api_Fraction)) : Option (Sum (T_deliberationkeep_Src × (List T_api_Fraction) × (List T_api_Fraction)) (Int × Int × T_deliberationkeep_Src × (List T_api_Fraction) × (List T_api_Fraction))) :=
  bif decide (s80.2.1 < (iadd .i64 g_1.N (g_1.L.length : Int))) then
    joinM (fun j96 : T_deliberationkeep_Src × Int × T_api_Fraction =>
        bif decide (s80.2.1 < g_1.N) then
          Option.bind (appM 16 s80.2.2.2.1 [j96.2.2]) fun t100 =>
          letM (iadd .i64 s80.2.1 1) fun i104 =>
          some (Sum.inr (j96.2.1, i104, j96.1, t100, s80.2.2.2.2))
        else
          Option.bind (appM 16 s80.2.2.2.2 [j96.2.2]) fun t102 =>
          letM (iadd .i64 s80.2.1 1) fun i105 =>
          some (Sum.inr (j96.2.1, i105, j96.1, s80.2.2.2.1, t102))) fun k98 =>
    Option.bind (keep_Src_N_m s80.2.2.1 4) fun t84 =>
    bif t84.1 == 0 then
      Option.bind (keep_Src_Range_m t84.2 1 3) fun t86 =>
      k98 (t86.2, s80.1, (T_api_Fraction.mk 0 t86.1))
    else
      joinM (fun j88 : Bool =>
          bif j88 then
            bif decide (s80.1 > 0) then
              Option.bind (keep_Src_Range_m t84.2 2 5) fun t93 =>
              Option.bind (keep_Src_Range_m t93.2 1 (isub .i64 t93.1 1)) fun t94 =>
              letM (isub .i64 s80.1 1) fun n95 =>
              k98 (t94.2, n95, (T_api_Fraction.mk t94.1 t93.1))
            else
              k98 (t84.2, s80.1, (T_api_Fraction.mk 1 1))
          else
            k98 (t84.2, s80.1, (T_api_Fraction.mk 1 1))) fun k90 =>
      bif t84.1 == 1 then
        k90 (t84.1 == 1)
      else
        k90 (t84.1 == 2)
  else
    some (Sum.inl (s80.2.2.1, s80.2.2.2.1, s80.2.2.2.2))

noncomputable def law23_odds_m (s_0 : T_deliberationkeep_Src) (g_1 : T_api_Graph) (n_2 : Int) : Option (T_api_Odds × T_deliberationkeep_Src) :=
  Option.bind (loopC (law23_odds_l1 g_1) (n_2, 0, s_0, [], [])) fun q106 : T_deliberationkeep_Src × (List T_api_Fraction) × (List T_api_Fraction) =>
  some ((T_api_Odds.mk q106.2.1 q106.2.2), q106.1)

theorem law23_odds_ok {s_0 : T_deliberationkeep_Src} {g_1 : T_api_Graph} {n_2 : Int} {b_0 : Nat} {r : T_api_Odds × T_deliberationkeep_Src} (hm : law23_odds_m s_0 g_1 n_2 = some r) :
    FnOk prog 9 [pv (ptr b_0 0), ag [iv .i64 g_1.N, slv rT_api_Pair g_1.L], iv .i64 n_2] [oc b_0 [slv (rI .i64) s_0.L, iv .i64 s_0.At]] (fun (x : Unit) => [ag [slv rT_api_Fraction r.1.Nodes, slv rT_api_Fraction r.1.Attacks]]) (fun (x : Unit) => [oc b_0 [slv (rI .i64) r.2.L, iv .i64 r.2.At]]) := by
  refine fn_ok (fn := Tryd.f9) (N := 61) (res := fun r x => [ag [slv rT_api_Fraction r.1.Nodes, slv rT_api_Fraction r.1.Attacks]]) (Ω1 := fun r x => [oc b_0 [slv (rI .i64) r.2.L, iv .i64 r.2.At]]) Tryd.func9 rfl rfl hm rfl (fun E hM => ?_)
  unfold law23_odds_m
  refine ref_seq (ref_region ?_)
  refine s_st (s_box (part_agO (ψs := [iv .i64 g_1.N, slv rT_api_Pair g_1.L]) rfl ⟨.inl iv_at, .inl slv_at, trivial⟩)) rfl (fun b1 => ?_)
  refine s_st (s_alloc zt_31) rfl (fun b2 => ?_)
  refine l_nil (n_then (ref_seq (ref_region ?_)))
  refine s_st (s_alloc zt_31) rfl (fun b3 => ?_)
  refine l_nil (n_then (ref_seq (ref_seq (ref_region ?_))))
  refine as1 rfl rfl ?_
  refine l_nil (n_then ?_)
  refine b_of (own_nil rT_api_Fraction) ?_
  refine b_of (own_nil rT_api_Fraction) ?_
  refine ref_loopB (f := (law23_odds_l1 g_1)) (Γl := (fun (s80 : Int × Int × T_deliberationkeep_Src × (List T_api_Fraction) × (List T_api_Fraction)) (x81 : (Value × List Nat) × (Value × List Nat)) => [(0, pv (ptr b_0 0)), (2, iv .i64 s80.1), (4, pv (ptr b1 0)), (6, pv (ptr b2 0)), (7, pv (ptr b3 0)), (8, iv .i64 s80.2.1)])) (Ωl := (fun (s80 : Int × Int × T_deliberationkeep_Src × (List T_api_Fraction) × (List T_api_Fraction)) (x81 : (Value × List Nat) × (Value × List Nat)) => [oc b_0 [slv (rI .i64) s80.2.2.1.L, iv .i64 s80.2.2.1.At], oc b1 [iv .i64 g_1.N, slv rT_api_Pair g_1.L], oc b2 [pv (.slice none 0 0), pv (.slice none 0 0)], oc b3 [pv x81.1.1, pv x81.2.1], oa rT_api_Fraction x81.1.1 x81.1.2 s80.2.2.2.1, oa rT_api_Fraction x81.2.1 x81.2.2 s80.2.2.2.2])) (Γb := (fun (q106 : T_deliberationkeep_Src × (List T_api_Fraction) × (List T_api_Fraction)) (y107 : (Value × List Nat) × (Value × List Nat)) => [(0, pv (ptr b_0 0)), (6, pv (ptr b2 0)), (7, pv (ptr b3 0))])) (Ωb := (fun (q106 : T_deliberationkeep_Src × (List T_api_Fraction) × (List T_api_Fraction)) (y107 : (Value × List Nat) × (Value × List Nat)) => [oc b_0 [slv (rI .i64) q106.1.L, iv .i64 q106.1.At], oc b2 [pv (.slice none 0 0), pv (.slice none 0 0)], oc b3 [pv y107.1.1, pv y107.2.1], oa rT_api_Fraction y107.1.1 y107.1.2 q106.2.1, oa rT_api_Fraction y107.2.1 y107.2.2 q106.2.2])) (n_2, 0, s_0, [], []) (((.slice none 0 0), []), ((.slice none 0 0), [])) (weak [0, 1, 2, 3, 5, 4] ⟨rfl, rfl, rfl, rfl, rfl, rfl, trivial⟩ ⟨rfl, rfl, rfl, rfl, rfl, rfl, trivial⟩) (fun s80 x81 => ?_) (fun q106 y107 => ?_)
  · unfold law23_odds_l1
    refine ref_seq (ref_seq (ref_region ?_))
    refine mv1 rfl rfl ?_
    refine s_rd (r_faddr (fo := 0) Tryd.underlying27 rfl rfl Tryd.sizeOf3 rfl) rfl ?_
    refine s_rd (r_cload Tryd.isAgg3 rfl (j := 1) rfl rfl) rfl ?_
    refine s_rd (r_faddr (fo := 1) Tryd.underlying27 rfl rfl Tryd.sizeOf25 rfl) rfl ?_
    refine s_rd (r_cload Tryd.isAgg25 rfl (j := 1) rfl rfl) rfl ?_
    refine s_rd (r_len Tryd.underlying25 rfl) rfl ?_
    refine s_rd (r_add rfl rfl) rfl ?_
    refine s_rd (r_lss rfl rfl) rfl ?_
    refine l_nil (n_then ?_)
    refine ref_cond rfl (fun hb82 => ?_) (fun hb82 => ?_)
    · refine ref_skip (n_then (ref_seq (ref_block (ref_seq (ref_region ?_)))))
      refine s_rd (r_build (ps := [(0, .const (.int .i64 (1))), (1, .const (.int .i64 (1)))]) (rs := [(0, [iv .i64 1]), (1, [iv .i64 1])]) st_36 zs_36 ⟨rfl, (part_at rfl iv_at), ⟨rfl, (part_at rfl iv_at), trivial⟩⟩ rfl rfl) rfl ?_
      refine s_st (s_alloc zt_36) rfl (fun b83 => ?_)
      refine s_st0 (s_cstore (out := [iv .i64 1, iv .i64 1]) Tryd.sizeOf36 rfl (j := 6) rfl (part_agO (ψs := [iv .i64 1, iv .i64 1]) rfl ⟨.inl iv_at, .inl iv_at, trivial⟩) rfl rfl rfl) (fun _ => ?_)
      refine l_nil ?_
      refine b_of (nrm [oc b_0 [slv (rI .i64) s80.2.2.1.L, iv .i64 s80.2.2.1.At], oc b1 [iv .i64 g_1.N, slv rT_api_Pair g_1.L], oc b2 [pv (.slice none 0 0), pv (.slice none 0 0)], oc b3 [pv x81.1.1, pv x81.2.1], oa rT_api_Fraction x81.1.1 x81.1.2 s80.2.2.2.1, oa rT_api_Fraction x81.2.1 x81.2.2 s80.2.2.2.2, oc b83 [iv .i64 1, iv .i64 1]] rfl) ?_
      refine n_then (ref_seq ?_)
      refine ref_join (fun (j96 : T_deliberationkeep_Src × Int × T_api_Fraction) (x97 : Unit) => [(0, pv (ptr b_0 0)), (2, iv .i64 j96.2.1), (4, pv (ptr b1 0)), (6, pv (ptr b2 0)), (7, pv (ptr b3 0)), (8, iv .i64 s80.2.1), (9, pv (ptr b83 0))]) (fun (j96 : T_deliberationkeep_Src × Int × T_api_Fraction) (x97 : Unit) => [oc b_0 [slv (rI .i64) j96.1.L, iv .i64 j96.1.At], oc b1 [iv .i64 g_1.N, slv rT_api_Pair g_1.L], oc b2 [pv (.slice none 0 0), pv (.slice none 0 0)], oc b3 [pv x81.1.1, pv x81.2.1], oa rT_api_Fraction x81.1.1 x81.1.2 s80.2.2.2.1, oa rT_api_Fraction x81.2.1 x81.2.2 s80.2.2.2.2, oc b83 [iv .i64 j96.2.2.Num, iv .i64 j96.2.2.Den]]) (fun k98 hk98 => ?_) (fun j96 x97 => ?_)
      · refine ref_seq (ref_region ?_)
        refine mv1 rfl rfl ?_
        refine pull fun t84 h_t84 => ?_
        refine s_st (s_callC [0] [true] (fun (_ : Unit) => [oc b_0 [slv (rI .i64) t84.2.L, iv .i64 t84.2.At]]) (fun (_ : Unit) => []) (fun (_ : Unit) => iv .i64 t84.1) (args := [.tmp 21, .const (.int .i64 (4))]) (caps := []) Tryd.call16 rfl (keep_Src_N_ok h_t84) ⟨rfl, rfl, trivial⟩ (fun _ => rfl) (fun _ => trivial) (fun _ => rfl) ⟨arg rfl, arg rfl, trivial⟩ (fun _ _ _ _ h => h)) rfl (fun _ => ?_)
        refine l_nil (n_then (ref_block (ref_seq (ref_region ?_))))
        refine s_rd (r_eql rfl rfl) rfl ?_
        refine as1 rfl rfl ?_
        refine l_nil (n_then ?_)
        refine ref_cond rfl (fun hb85 => ?_) (fun hb85 => ?_)
        · refine ref_region ?_
          refine mv1 rfl rfl ?_
          refine pull fun t86 h_t86 => ?_
          refine s_st (s_callC [0] [true] (fun (_ : Unit) => [oc b_0 [slv (rI .i64) t86.2.L, iv .i64 t86.2.At]]) (fun (_ : Unit) => []) (fun (_ : Unit) => iv .i64 t86.1) (args := [.tmp 25, .const (.int .i64 (1)), .const (.int .i64 (3))]) (caps := []) Tryd.call23 rfl (keep_Src_Range_ok h_t86) ⟨rfl, rfl, trivial⟩ (fun _ => rfl) (fun _ => trivial) (fun _ => rfl) ⟨arg rfl, arg rfl, arg rfl, trivial⟩ (fun _ _ _ _ h => h)) rfl (fun _ => ?_)
          refine s_rd (r_build (ps := [(0, .const (.int .i64 (0))), (1, .tmp 26)]) (rs := [(0, [iv .i64 0]), (1, [iv .i64 t86.1])]) st_36 zs_36 ⟨rfl, (part_at rfl iv_at), ⟨rfl, (part_at rfl iv_at), trivial⟩⟩ rfl rfl) rfl ?_
          refine s_st0 (s_cstore (out := [iv .i64 0, iv .i64 t86.1]) Tryd.sizeOf36 rfl (j := 6) rfl (part_agO (ψs := [iv .i64 0, iv .i64 t86.1]) rfl ⟨.inl iv_at, .inl iv_at, trivial⟩) rfl rfl rfl) (fun _ => ?_)
          refine l_nil (n_block ?_)
          exact b_to (hk98 (t86.2, s80.1, (T_api_Fraction.mk 0 t86.1)) ()) (weak [0, 1, 2, 3, 4, 5, 6] ⟨rfl, rfl, rfl, rfl, rfl, rfl, rfl, trivial⟩ ⟨rfl, rfl, rfl, rfl, rfl, rfl, rfl, trivial⟩)
        refine ref_seq ?_
        refine ref_join (fun (j88 : Bool) (x89 : Unit) => [(0, pv (ptr b_0 0)), (2, iv .i64 s80.1), (4, pv (ptr b1 0)), (6, pv (ptr b2 0)), (7, pv (ptr b3 0)), (8, iv .i64 s80.2.1), (9, pv (ptr b83 0)), (28, bv j88)]) (fun (j88 : Bool) (x89 : Unit) => [oc b_0 [slv (rI .i64) t84.2.L, iv .i64 t84.2.At], oc b1 [iv .i64 g_1.N, slv rT_api_Pair g_1.L], oc b2 [pv (.slice none 0 0), pv (.slice none 0 0)], oc b3 [pv x81.1.1, pv x81.2.1], oa rT_api_Fraction x81.1.1 x81.1.2 s80.2.2.2.1, oa rT_api_Fraction x81.2.1 x81.2.2 s80.2.2.2.2, oc b83 [iv .i64 1, iv .i64 1]]) (fun k90 hk90 => ?_) (fun j88 x89 => ?_)
        · refine ref_seq (ref_region ?_)
          refine s_rd (r_eql rfl rfl) rfl ?_
          refine as1 rfl rfl ?_
          refine l_nil (n_then ?_)
          refine ref_cond rfl (fun hb87 => ?_) (fun hb87 => ?_)
          · refine ref_skip ?_
            exact b_to (hk90 (t84.1 == 1) ()) (weak [0, 1, 2, 3, 4, 5, 6] ⟨rfl, rfl, rfl, rfl, rfl, rfl, rfl, rfl, trivial⟩ ⟨rfl, rfl, rfl, rfl, rfl, rfl, rfl, trivial⟩)
          refine ref_region ?_
          refine s_rd (r_eql rfl rfl) rfl ?_
          refine as1 rfl rfl ?_
          refine l_nil ?_
          exact b_to (hk90 (t84.1 == 2) ()) (weak [0, 1, 2, 3, 4, 5, 6] ⟨rfl, rfl, rfl, rfl, rfl, rfl, rfl, rfl, trivial⟩ ⟨rfl, rfl, rfl, rfl, rfl, rfl, rfl, trivial⟩)
        refine n_then ?_
        refine ref_cond rfl (fun hb91 => ?_) (fun hb91 => ?_)
        · refine ref_seq (ref_region ?_)
          refine mv1 rfl rfl ?_
          refine s_rd (r_gtr rfl rfl) rfl ?_
          refine l_nil (n_then ?_)
          refine ref_cond rfl (fun hb92 => ?_) (fun hb92 => ?_)
          · refine ref_seq (ref_region ?_)
            refine mv1 rfl rfl ?_
            refine pull fun t93 h_t93 => ?_
            refine s_st (s_callC [0] [true] (fun (_ : Unit) => [oc b_0 [slv (rI .i64) t93.2.L, iv .i64 t93.2.At]]) (fun (_ : Unit) => []) (fun (_ : Unit) => iv .i64 t93.1) (args := [.tmp 33, .const (.int .i64 (2)), .const (.int .i64 (5))]) (caps := []) Tryd.call23 rfl (keep_Src_Range_ok h_t93) ⟨rfl, rfl, trivial⟩ (fun _ => rfl) (fun _ => trivial) (fun _ => rfl) ⟨arg rfl, arg rfl, arg rfl, trivial⟩ (fun _ _ _ _ h => h)) rfl (fun _ => ?_)
            refine s_rd (r_faddr (fo := 1) Tryd.underlying36 rfl rfl Tryd.sizeOf3 rfl) rfl ?_
            refine s_st0 (s_cstore (out := [iv .i64 1, iv .i64 t93.1]) Tryd.sizeOf3 rfl (j := 6) rfl (part_at rfl iv_at) rfl rfl rfl) (fun _ => ?_)
            refine l_nil (n_then (ref_seq (ref_region ?_)))
            refine mv1 rfl rfl ?_
            refine s_rd (r_faddr (fo := 1) Tryd.underlying36 rfl rfl Tryd.sizeOf3 rfl) rfl ?_
            refine s_rd (r_cload Tryd.isAgg3 rfl (j := 6) rfl rfl) rfl ?_
            refine s_rd (r_sub rfl rfl) rfl ?_
            refine pull fun t94 h_t94 => ?_
            refine s_st (s_callC [0] [true] (fun (_ : Unit) => [oc b_0 [slv (rI .i64) t94.2.L, iv .i64 t94.2.At]]) (fun (_ : Unit) => []) (fun (_ : Unit) => iv .i64 t94.1) (args := [.tmp 36, .const (.int .i64 (1)), .tmp 39]) (caps := []) Tryd.call23 rfl (keep_Src_Range_ok h_t94) ⟨rfl, rfl, trivial⟩ (fun _ => rfl) (fun _ => trivial) (fun _ => rfl) ⟨arg rfl, arg rfl, arg rfl, trivial⟩ (fun _ _ _ _ h => h)) rfl (fun _ => ?_)
            refine s_rd (r_faddr (fo := 0) Tryd.underlying36 rfl rfl Tryd.sizeOf3 rfl) rfl ?_
            refine s_st0 (s_cstore (out := [iv .i64 t94.1, iv .i64 t93.1]) Tryd.sizeOf3 rfl (j := 6) rfl (part_at rfl iv_at) rfl rfl rfl) (fun _ => ?_)
            refine l_nil ?_
            refine b_of (nrm [oc b_0 [slv (rI .i64) t94.2.L, iv .i64 t94.2.At], oc b1 [iv .i64 g_1.N, slv rT_api_Pair g_1.L], oc b2 [pv (.slice none 0 0), pv (.slice none 0 0)], oc b3 [pv x81.1.1, pv x81.2.1], oa rT_api_Fraction x81.1.1 x81.1.2 s80.2.2.2.1, oa rT_api_Fraction x81.2.1 x81.2.2 s80.2.2.2.2, oc b83 [iv .i64 t94.1, iv .i64 t93.1]] rfl) ?_
            refine n_then (ref_region ?_)
            refine mv1 rfl rfl ?_
            refine s_rd (r_sub rfl rfl) rfl ?_
            refine as1 rfl rfl ?_
            refine b_let (f := iv .i64) (t := 2) rfl fun n95 => ?_
            refine l_nil (n_block ?_)
            exact b_to (hk98 (t94.2, n95, (T_api_Fraction.mk t94.1 t93.1)) ()) (weak [0, 1, 2, 3, 4, 5, 6] ⟨rfl, rfl, rfl, rfl, rfl, rfl, rfl, trivial⟩ ⟨rfl, rfl, rfl, rfl, rfl, rfl, rfl, trivial⟩)
          refine ref_skip (n_block ?_)
          exact b_to (hk98 (t84.2, s80.1, (T_api_Fraction.mk 1 1)) ()) (weak [0, 1, 2, 3, 4, 5, 6] ⟨rfl, rfl, rfl, rfl, rfl, rfl, rfl, trivial⟩ ⟨rfl, rfl, rfl, rfl, rfl, rfl, rfl, trivial⟩)
        refine ref_skip (n_block ?_)
        exact b_to (hk98 (t84.2, s80.1, (T_api_Fraction.mk 1 1)) ()) (weak [0, 1, 2, 3, 4, 5, 6] ⟨rfl, rfl, rfl, rfl, rfl, rfl, rfl, trivial⟩ ⟨rfl, rfl, rfl, rfl, rfl, rfl, rfl, trivial⟩)
      refine n_then (ref_seq (ref_region ?_))
      refine mv1 rfl rfl ?_
      refine s_rd (r_faddr (fo := 0) Tryd.underlying27 rfl rfl Tryd.sizeOf3 rfl) rfl ?_
      refine s_rd (r_cload Tryd.isAgg3 rfl (j := 1) rfl rfl) rfl ?_
      refine s_rd (r_lss rfl rfl) rfl ?_
      refine l_nil (n_then ?_)
      refine ref_cond rfl (fun hb99 => ?_) (fun hb99 => ?_)
      · refine ref_region ?_
        refine s_rd (r_faddr (fo := 0) Tryd.underlying31 rfl rfl Tryd.sizeOf29 rfl) rfl ?_
        refine s_rd (r_cload Tryd.isAgg29 rfl (j := 3) rfl rfl) rfl ?_
        refine s_rd (r_cloadS Tryd.isAgg36 Tryd.sizeOf36 rfl (j := 6) rfl rfl rfl) rfl ?_
        refine s_st (s_bslice (xs := [.tmp 50]) (ds := [j96.2.2]) Tryd.underlying29 el_36 rfl (Nat.le_of_ble_eq_true rfl) ⟨(part_agO (ψs := [iv .i64 j96.2.2.Num, iv .i64 j96.2.2.Den]) rfl ⟨.inl iv_at, .inl iv_at, trivial⟩), trivial⟩) rfl (fun _ => ?_)
        refine pull fun t100 h_t100 => ?_
        refine s_st (s_append h_t100 Tryd.underlying29 el_36 rfl (j := 4) rfl rfl) rfl (fun o101 => ?_)
        refine s_rd (r_faddr (fo := 0) Tryd.underlying31 rfl rfl Tryd.sizeOf29 rfl) rfl ?_
        refine s_st0 (s_cstore (out := [pv o101.1, pv x81.2.1]) Tryd.sizeOf29 rfl (j := 3) rfl (part_own rfl (j := 4) rfl) rfl rfl rfl) (fun _ => ?_)
        refine l_nil (n_block (n_then (ref_region ?_)))
        refine mv1 rfl rfl ?_
        refine s_rd (r_add rfl rfl) rfl ?_
        refine as1 rfl rfl ?_
        refine b_let (f := iv .i64) (t := 8) rfl fun i104 => ?_
        refine l_nil ?_
        exact goB (o101, x81.2) (weak [0, 1, 2, 3, 4, 5] ⟨rfl, rfl, rfl, rfl, rfl, rfl, trivial⟩ ⟨rfl, rfl, rfl, rfl, rfl, rfl, trivial⟩)
      refine ref_region ?_
      refine s_rd (r_faddr (fo := 1) Tryd.underlying31 rfl rfl Tryd.sizeOf29 rfl) rfl ?_
      refine s_rd (r_cload Tryd.isAgg29 rfl (j := 3) rfl rfl) rfl ?_
      refine s_rd (r_cloadS Tryd.isAgg36 Tryd.sizeOf36 rfl (j := 6) rfl rfl rfl) rfl ?_
      refine s_st (s_bslice (xs := [.tmp 56]) (ds := [j96.2.2]) Tryd.underlying29 el_36 rfl (Nat.le_of_ble_eq_true rfl) ⟨(part_agO (ψs := [iv .i64 j96.2.2.Num, iv .i64 j96.2.2.Den]) rfl ⟨.inl iv_at, .inl iv_at, trivial⟩), trivial⟩) rfl (fun _ => ?_)
      refine pull fun t102 h_t102 => ?_
      refine s_st (s_append h_t102 Tryd.underlying29 el_36 rfl (j := 5) rfl rfl) rfl (fun o103 => ?_)
      refine s_rd (r_faddr (fo := 1) Tryd.underlying31 rfl rfl Tryd.sizeOf29 rfl) rfl ?_
      refine s_st0 (s_cstore (out := [pv x81.1.1, pv o103.1]) Tryd.sizeOf29 rfl (j := 3) rfl (part_own rfl (j := 5) rfl) rfl rfl rfl) (fun _ => ?_)
      refine l_nil (n_block (n_then (ref_region ?_)))
      refine mv1 rfl rfl ?_
      refine s_rd (r_add rfl rfl) rfl ?_
      refine as1 rfl rfl ?_
      refine b_let (f := iv .i64) (t := 8) rfl fun i105 => ?_
      refine l_nil ?_
      exact goB (x81.1, o103) (weak [0, 1, 2, 3, 4, 5] ⟨rfl, rfl, rfl, rfl, rfl, rfl, trivial⟩ ⟨rfl, rfl, rfl, rfl, rfl, rfl, trivial⟩)
    refine ref_exit (x_then ?_)
    exact brkB (x81.1, x81.2) (weak [0, 2, 3, 4, 5] ⟨rfl, rfl, rfl, trivial⟩ ⟨rfl, rfl, rfl, rfl, rfl, trivial⟩)
  refine n_then (ref_seq (ref_region ?_))
  refine s_rd (r_cloadS Tryd.isAgg31 Tryd.sizeOf31 rfl (j := 2) rfl rfl rfl) rfl ?_
  refine s_st0 (s_cstore (out := [pv y107.1.1, pv y107.2.1]) Tryd.sizeOf31 rfl (j := 1) rfl (part_agO (ψs := [pv y107.1.1, pv y107.2.1]) rfl ⟨.inr ⟨_, _, _, _, _, 3, rfl, rfl⟩, .inr ⟨_, _, _, _, _, 4, rfl, rfl⟩, trivial⟩) rfl rfl rfl) (fun _ => ?_)
  refine l_nil (n_then (ref_ret ?_))
  refine b_of (frzGL [(60, ag [slv rT_api_Fraction q106.2.1, pv y107.2.1])] [(1, b2, [slv rT_api_Fraction q106.2.1, pv y107.2.1]), (2, b3, [slv rT_api_Fraction q106.2.1, pv y107.2.1])] (j := 3) rfl ⟨⟨_, rfl, .inr ⟨_, _, rfl, rfl, ⟨.inr ⟨rfl, rfl⟩, .inl rfl, trivial⟩⟩⟩, trivial⟩ ⟨⟨_, rfl, ⟨.inr ⟨rfl, rfl⟩, .inl rfl, trivial⟩⟩, ⟨_, rfl, ⟨.inr ⟨rfl, rfl⟩, .inl rfl, trivial⟩⟩, trivial⟩) ?_
  refine b_of (nrm [oc b_0 [slv (rI .i64) q106.1.L, iv .i64 q106.1.At], oc b2 [slv rT_api_Fraction q106.2.1, pv y107.2.1], oc b3 [slv rT_api_Fraction q106.2.1, pv y107.2.1], dead, oa rT_api_Fraction y107.2.1 y107.2.2 q106.2.2] rfl) ?_
  refine b_of (frzGL [(60, ag [slv rT_api_Fraction q106.2.1, slv rT_api_Fraction q106.2.2])] [(1, b2, [slv rT_api_Fraction q106.2.1, slv rT_api_Fraction q106.2.2]), (2, b3, [slv rT_api_Fraction q106.2.1, slv rT_api_Fraction q106.2.2])] (j := 4) rfl ⟨⟨_, rfl, .inr ⟨_, _, rfl, rfl, ⟨.inl rfl, .inr ⟨rfl, rfl⟩, trivial⟩⟩⟩, trivial⟩ ⟨⟨_, rfl, ⟨.inl rfl, .inr ⟨rfl, rfl⟩, trivial⟩⟩, ⟨_, rfl, ⟨.inl rfl, .inr ⟨rfl, rfl⟩, trivial⟩⟩, trivial⟩) ?_
  refine b_of (nrm [oc b_0 [slv (rI .i64) q106.1.L, iv .i64 q106.1.At], oc b2 [slv rT_api_Fraction q106.2.1, slv rT_api_Fraction q106.2.2], oc b3 [slv rT_api_Fraction q106.2.1, slv rT_api_Fraction q106.2.2], dead, dead] rfl) ?_
  exact fin1 (.inl rfl) () [0] rfl ⟨rfl, trivial⟩ rfl (rv_cell rfl (j := 1) rfl Tryd.isAgg31 Tryd.sizeOf31 rfl rfl)

/-! deliberation/deliberationnet.Some -/
noncomputable def net_Some_l1 (n_1 : Int) (s17 : Int × T_deliberationkeep_Src × (List Int)) : Option (Sum (T_deliberationkeep_Src × (List Int)) (Int × T_deliberationkeep_Src × (List Int))) :=
  bif decide (s17.1 < n_1) then
    Option.bind (keep_Src_N_m s17.2.1 3) fun t20 =>
    bif t20.1 == 0 then
      Option.bind (appM 8 s17.2.2 [s17.1]) fun out22 =>
      letM (iadd .i64 s17.1 1) fun i24 =>
      some (Sum.inr (i24, t20.2, out22))
    else
      letM (iadd .i64 s17.1 1) fun i25 =>
      some (Sum.inr (i25, t20.2, s17.2.2))
  else
    some (Sum.inl (s17.2.1, s17.2.2))

noncomputable def net_Some_m (s_0 : T_deliberationkeep_Src) (n_1 : Int) : Option (List Int × T_deliberationkeep_Src) :=
  Option.bind (loopC (net_Some_l1 n_1) (0, s_0, [])) fun q26 : T_deliberationkeep_Src × (List Int) =>
  some (q26.2, q26.1)

theorem net_Some_ok {s_0 : T_deliberationkeep_Src} {n_1 : Int} {b_0 : Nat} {r : List Int × T_deliberationkeep_Src} (hm : net_Some_m s_0 n_1 = some r) :
    FnOk prog 10 [pv (ptr b_0 0), iv .i64 n_1] [oc b_0 [slv (rI .i64) s_0.L, iv .i64 s_0.At]] (fun (x : (Value × List Nat)) => [pv x.1]) (fun (x : (Value × List Nat)) => [oc b_0 [slv (rI .i64) r.2.L, iv .i64 r.2.At], oa (rI .i64) x.1 x.2 r.1]) := by
  refine fn_ok (X := (Value × List Nat)) (fn := Tryd.f10) (N := 20) (res := fun r x => [pv x.1]) (Ω1 := fun r x => [oc b_0 [slv (rI .i64) r.2.L, iv .i64 r.2.At], oa (rI .i64) x.1 x.2 r.1]) Tryd.func10 rfl rfl hm rfl (fun E hM => ?_)
  unfold net_Some_m
  refine ref_seq (ref_region ?_)
  refine as1 rfl rfl ?_
  refine l_nil (n_then (ref_seq (ref_region ?_)))
  refine as1 rfl rfl ?_
  refine l_nil (n_then (ref_seq (ref_seq (ref_region ?_))))
  refine as1 rfl rfl ?_
  refine l_nil (n_then ?_)
  refine b_of (own_nil (rI .i64)) ?_
  refine ref_loopB (f := (net_Some_l1 n_1)) (Γl := (fun (s17 : Int × T_deliberationkeep_Src × (List Int)) (x18 : (Value × List Nat)) => [(0, pv (ptr b_0 0)), (1, iv .i64 n_1), (5, pv x18.1), (6, iv .i64 s17.1)])) (Ωl := (fun (s17 : Int × T_deliberationkeep_Src × (List Int)) (x18 : (Value × List Nat)) => [oc b_0 [slv (rI .i64) s17.2.1.L, iv .i64 s17.2.1.At], oa (rI .i64) x18.1 x18.2 s17.2.2])) (Γb := (fun (q26 : T_deliberationkeep_Src × (List Int)) (y27 : (Value × List Nat)) => [(0, pv (ptr b_0 0)), (5, pv y27.1)])) (Ωb := (fun (q26 : T_deliberationkeep_Src × (List Int)) (y27 : (Value × List Nat)) => [oc b_0 [slv (rI .i64) q26.1.L, iv .i64 q26.1.At], oa (rI .i64) y27.1 y27.2 q26.2])) (0, s_0, []) ((.slice none 0 0), []) (weak [0, 1] ⟨rfl, rfl, rfl, rfl, trivial⟩ ⟨rfl, rfl, trivial⟩) (fun s17 x18 => ?_) (fun q26 y27 => ?_)
  · unfold net_Some_l1
    refine ref_seq (ref_seq (ref_region ?_))
    refine mv1 rfl rfl ?_
    refine mv1 rfl rfl ?_
    refine s_rd (r_lss rfl rfl) rfl ?_
    refine l_nil (n_then ?_)
    refine ref_cond rfl (fun hb19 => ?_) (fun hb19 => ?_)
    · refine ref_skip (n_then (ref_seq (ref_block (ref_seq (ref_region ?_)))))
      refine mv1 rfl rfl ?_
      refine pull fun t20 h_t20 => ?_
      refine s_st (s_callC [0] [true] (fun (_ : Unit) => [oc b_0 [slv (rI .i64) t20.2.L, iv .i64 t20.2.At]]) (fun (_ : Unit) => []) (fun (_ : Unit) => iv .i64 t20.1) (args := [.tmp 12, .const (.int .i64 (3))]) (caps := []) Tryd.call16 rfl (keep_Src_N_ok h_t20) ⟨rfl, rfl, trivial⟩ (fun _ => rfl) (fun _ => trivial) (fun _ => rfl) ⟨arg rfl, arg rfl, trivial⟩ (fun _ _ _ _ h => h)) rfl (fun _ => ?_)
      refine s_rd (r_eql rfl rfl) rfl ?_
      refine l_nil (n_then ?_)
      refine ref_cond rfl (fun hb21 => ?_) (fun hb21 => ?_)
      · refine ref_region ?_
        refine mv1 rfl rfl ?_
        refine mv1 rfl rfl ?_
        refine s_st (s_bslice (xs := [.tmp 16]) (ds := [s17.1]) Tryd.underlying22 el_3 rfl (Nat.le_of_ble_eq_true rfl) ⟨(part_at rfl iv_at), trivial⟩) rfl (fun _ => ?_)
        refine pull fun out22 h_out22 => ?_
        refine s_st (s_append h_out22 Tryd.underlying22 el_3 rfl (j := 1) rfl rfl) rfl (fun o23 => ?_)
        refine as1 rfl rfl ?_
        refine l_nil (n_block (n_then (ref_region ?_)))
        refine mv1 rfl rfl ?_
        refine s_rd (r_add rfl rfl) rfl ?_
        refine as1 rfl rfl ?_
        refine b_let (f := iv .i64) (t := 6) rfl fun i24 => ?_
        refine l_nil ?_
        exact goB o23 (weak [0, 1] ⟨rfl, rfl, rfl, rfl, trivial⟩ ⟨rfl, rfl, trivial⟩)
      refine ref_skip (n_block (n_then (ref_region ?_)))
      refine mv1 rfl rfl ?_
      refine s_rd (r_add rfl rfl) rfl ?_
      refine as1 rfl rfl ?_
      refine b_let (f := iv .i64) (t := 6) rfl fun i25 => ?_
      refine l_nil ?_
      exact goB x18 (weak [0, 1] ⟨rfl, rfl, rfl, rfl, trivial⟩ ⟨rfl, rfl, trivial⟩)
    refine ref_exit (x_then ?_)
    exact brkB x18 (weak [0, 1] ⟨rfl, rfl, trivial⟩ ⟨rfl, rfl, trivial⟩)
  refine n_then (ref_seq (ref_region ?_))
  refine mv1 rfl rfl ?_
  refine as1 rfl rfl ?_
  refine l_nil (n_then (ref_ret ?_))
  exact fin1 (.inl rfl) y27 [0, 1] rfl ⟨rfl, rfl, trivial⟩ rfl (rv_tmp rfl)

/-! deliberation/deliberationref10.Validate -/
noncomputable def ref10_Validate_l1 (g_0 : T_api_Graph) (s13 : Int) : Option (Sum ((Sum (Int) (Unit))) (Int)) :=
  bif decide (s13 < (g_0.L.length : Int)) then
    Option.bind (idxM g_0.L s13) fun t16 =>
    bif decide (t16.From < 0) then
      some (Sum.inl (Sum.inl 1))
    else
      bif decide (t16.From ≥ g_0.N) then
        some (Sum.inl (Sum.inl 1))
      else
        bif decide (t16.To < 0) then
          some (Sum.inl (Sum.inl 1))
        else
          bif decide (t16.To ≥ g_0.N) then
            some (Sum.inl (Sum.inl 1))
          else
            bif decide (s13 > 0) then
              Option.bind (idxM g_0.L (isub .i64 s13 1)) fun t19 =>
              bif decide (t19.From > t16.From) then
                some (Sum.inl (Sum.inl 8))
              else
                Option.bind (idxM g_0.L (isub .i64 s13 1)) fun t20 =>
                bif t20.From == t16.From then
                  Option.bind (idxM g_0.L (isub .i64 s13 1)) fun t21 =>
                  bif decide (t21.To ≥ t16.To) then
                    some (Sum.inl (Sum.inl 8))
                  else
                    letM (iadd .i64 s13 1) fun i23 =>
                    some (Sum.inr i23)
                else
                  letM (iadd .i64 s13 1) fun i24 =>
                  some (Sum.inr i24)
            else
              letM (iadd .i64 s13 1) fun i25 =>
              some (Sum.inr i25)
  else
    some (Sum.inl (Sum.inr ()))

noncomputable def ref10_Validate_m (g_0 : T_api_Graph) : Option (Int) :=
  bif decide (g_0.N < 0) then
    some 1
  else
    bif decide (g_0.N > 40) then
      some 1
    else
      Option.bind (loopC (ref10_Validate_l1 g_0) 0) (sumK (fun a : Int => some a) fun q26 : Unit =>
        some 0)

theorem ref10_Validate_ok {g_0 : T_api_Graph} {r : Int} (hm : ref10_Validate_m g_0 = some r) :
    FnOk prog 51 [ag [iv .i64 g_0.N, slv rT_api_Pair g_0.L]] [] (fun (x : Unit) => [iv .i64 r]) (fun (x : Unit) => []) := by
  refine fn_ok (fn := Tryd.f51) (N := 85) (res := fun r x => [iv .i64 r]) (Ω1 := fun r x => []) Tryd.func51 rfl rfl hm rfl (fun E hM => ?_)
  unfold ref10_Validate_m
  refine ref_seq (ref_region ?_)
  refine s_st (s_box (part_agO (ψs := [iv .i64 g_0.N, slv rT_api_Pair g_0.L]) rfl ⟨.inl iv_at, .inl slv_at, trivial⟩)) rfl (fun b1 => ?_)
  refine as1 rfl rfl ?_
  refine l_nil (n_then (ref_seq (ref_seq (ref_region ?_))))
  refine s_rd (r_faddr (fo := 0) Tryd.underlying27 rfl rfl Tryd.sizeOf3 rfl) rfl ?_
  refine s_rd (r_cload Tryd.isAgg3 rfl (j := 0) rfl rfl) rfl ?_
  refine s_rd (r_lss rfl rfl) rfl ?_
  refine mv1 rfl rfl ?_
  refine b_split (t := 8) rfl (fun _ => ?_) (fun _ => ?_)
  · refine s_off rfl rfl rfl rfl rfl ?_
    refine s_off rfl rfl rfl rfl rfl ?_
    refine s_off rfl rfl rfl rfl rfl ?_
    refine s_rd (r_pickT rfl rfl) rfl ?_
    refine l_nil (n_then ?_)
    refine ref_condT rfl rfl ?_
    refine ref_seq (ref_region ?_)
    refine as1 rfl rfl ?_
    refine l_nil (n_then (ref_ret (r_then ?_)))
    exact fin1 (.inl rfl) () [] rfl trivial rfl (rv_tmp rfl)
  refine s_on rfl rfl rfl ?_
  refine s_rd (r_faddr (fo := 0) Tryd.underlying27 rfl rfl Tryd.sizeOf3 rfl) rfl ?_
  refine s_on rfl rfl rfl ?_
  refine s_rd (r_cload Tryd.isAgg3 rfl (j := 0) rfl rfl) rfl ?_
  refine s_on rfl rfl rfl ?_
  refine s_rd (r_gtr rfl rfl) rfl ?_
  refine s_rd (r_pickF rfl rfl) rfl ?_
  refine l_nil (n_then ?_)
  refine ref_cond rfl (fun hb2 => ?_) (fun hb2 => ?_)
  · refine ref_seq (ref_region ?_)
    refine as1 rfl rfl ?_
    refine l_nil (n_then (ref_ret (r_then ?_)))
    exact fin1 (.inl rfl) () [] rfl trivial rfl (rv_tmp rfl)
  refine ref_skip (n_then (ref_seq (ref_seq (ref_region ?_))))
  refine as1 rfl rfl ?_
  refine l_nil (n_then ?_)
  refine ref_loopX (f := (ref10_Validate_l1 g_0)) (Γl := (fun (s13 : Int) (x14 : Unit) => [(1, pv (ptr b1 0)), (3, iv .i64 s13)])) (Ωl := (fun (s13 : Int) (x14 : Unit) => [oc b1 [iv .i64 g_0.N, slv rT_api_Pair g_0.L]])) (Γb := (fun (q26 : Unit) (y27 : Unit) => [])) (Ωb := (fun (q26 : Unit) (y27 : Unit) => [])) (kr := (fun a : Int => some a)) 0 () (weak [0] ⟨rfl, rfl, trivial⟩ ⟨rfl, trivial⟩) (fun s13 x14 => ?_) (fun q26 y27 => ?_)
  · unfold ref10_Validate_l1
    refine ref_seq (ref_seq (ref_region ?_))
    refine mv1 rfl rfl ?_
    refine s_rd (r_faddr (fo := 1) Tryd.underlying27 rfl rfl Tryd.sizeOf25 rfl) rfl ?_
    refine s_rd (r_cload Tryd.isAgg25 rfl (j := 0) rfl rfl) rfl ?_
    refine s_rd (r_len Tryd.underlying25 rfl) rfl ?_
    refine s_rd (r_lss rfl rfl) rfl ?_
    refine l_nil (n_then ?_)
    refine ref_cond rfl (fun hb15 => ?_) (fun hb15 => ?_)
    · refine ref_skip (n_then (ref_seq (ref_block (ref_seq (ref_region ?_)))))
      refine s_rd (r_faddr (fo := 1) Tryd.underlying27 rfl rfl Tryd.sizeOf25 rfl) rfl ?_
      refine s_rd (r_cload Tryd.isAgg25 rfl (j := 0) rfl rfl) rfl ?_
      refine mv1 rfl rfl ?_
      refine pull fun t16 h_t16 => ?_
      refine s_rd (r_index h_t16 Tryd.underlying25 el_63 rfl rfl) rfl ?_
      refine s_rd (r_load el_63 rfl) rfl ?_
      refine s_st (s_alloc zt_63) rfl (fun b17 => ?_)
      refine s_st0 (s_cstore (out := [iv .i64 t16.From, iv .i64 t16.To]) Tryd.sizeOf63 rfl (j := 1) rfl (part_agO (ψs := [iv .i64 t16.From, iv .i64 t16.To]) rfl ⟨.inl iv_at, .inl iv_at, trivial⟩) rfl rfl rfl) (fun _ => ?_)
      refine l_nil (n_then (ref_seq (ref_seq (ref_region ?_))))
      refine s_rd (r_faddr (fo := 0) Tryd.underlying63 rfl rfl Tryd.sizeOf3 rfl) rfl ?_
      refine s_rd (r_cload Tryd.isAgg3 rfl (j := 1) rfl rfl) rfl ?_
      refine s_rd (r_lss rfl rfl) rfl ?_
      refine mv1 rfl rfl ?_
      refine b_split (t := 28) rfl (fun _ => ?_) (fun _ => ?_)
      · refine s_off rfl rfl rfl rfl rfl ?_
        refine s_off rfl rfl rfl rfl rfl ?_
        refine s_off rfl rfl rfl rfl rfl ?_
        refine s_off rfl rfl rfl rfl rfl ?_
        refine s_off rfl rfl rfl rfl rfl ?_
        refine s_rd (r_pickT rfl rfl) rfl ?_
        refine mv1 rfl rfl ?_
        refine s_off rfl rfl rfl rfl rfl ?_
        refine s_off rfl rfl rfl rfl rfl ?_
        refine s_off rfl rfl rfl rfl rfl ?_
        refine s_rd (r_pickT rfl rfl) rfl ?_
        refine mv1 rfl rfl ?_
        refine s_off rfl rfl rfl rfl rfl ?_
        refine s_off rfl rfl rfl rfl rfl ?_
        refine s_off rfl rfl rfl rfl rfl ?_
        refine s_off rfl rfl rfl rfl rfl ?_
        refine s_off rfl rfl rfl rfl rfl ?_
        refine s_rd (r_pickT rfl rfl) rfl ?_
        refine l_nil (n_then ?_)
        refine ref_condT rfl rfl ?_
        refine ref_seq (ref_region ?_)
        refine as1 rfl rfl ?_
        refine l_nil (n_then (ref_ret (r_then (r_block (r_then ?_)))))
        refine retX ?_
        refine r_block (r_then ?_)
        exact fin1 (.inl rfl) () [] rfl trivial rfl (rv_tmp rfl)
      refine s_on rfl rfl rfl ?_
      refine s_rd (r_faddr (fo := 0) Tryd.underlying63 rfl rfl Tryd.sizeOf3 rfl) rfl ?_
      refine s_on rfl rfl rfl ?_
      refine s_rd (r_cload Tryd.isAgg3 rfl (j := 1) rfl rfl) rfl ?_
      refine s_on rfl rfl rfl ?_
      refine s_rd (r_faddr (fo := 0) Tryd.underlying27 rfl rfl Tryd.sizeOf3 rfl) rfl ?_
      refine s_on rfl rfl rfl ?_
      refine s_rd (r_cload Tryd.isAgg3 rfl (j := 0) rfl rfl) rfl ?_
      refine s_on rfl rfl rfl ?_
      refine s_rd (r_geq rfl rfl) rfl ?_
      refine s_rd (r_pickF rfl rfl) rfl ?_
      refine mv1 rfl rfl ?_
      refine b_split (t := 35) rfl (fun _ => ?_) (fun _ => ?_)
      · refine s_off rfl rfl rfl rfl rfl ?_
        refine s_off rfl rfl rfl rfl rfl ?_
        refine s_off rfl rfl rfl rfl rfl ?_
        refine s_rd (r_pickT rfl rfl) rfl ?_
        refine mv1 rfl rfl ?_
        refine s_off rfl rfl rfl rfl rfl ?_
        refine s_off rfl rfl rfl rfl rfl ?_
        refine s_off rfl rfl rfl rfl rfl ?_
        refine s_off rfl rfl rfl rfl rfl ?_
        refine s_off rfl rfl rfl rfl rfl ?_
        refine s_rd (r_pickT rfl rfl) rfl ?_
        refine l_nil (n_then ?_)
        refine ref_condT rfl rfl ?_
        refine ref_seq (ref_region ?_)
        refine as1 rfl rfl ?_
        refine l_nil (n_then (ref_ret (r_then (r_block (r_then ?_)))))
        refine retX ?_
        refine r_block (r_then ?_)
        exact fin1 (.inl rfl) () [] rfl trivial rfl (rv_tmp rfl)
      refine s_on rfl rfl rfl ?_
      refine s_rd (r_faddr (fo := 1) Tryd.underlying63 rfl rfl Tryd.sizeOf3 rfl) rfl ?_
      refine s_on rfl rfl rfl ?_
      refine s_rd (r_cload Tryd.isAgg3 rfl (j := 1) rfl rfl) rfl ?_
      refine s_on rfl rfl rfl ?_
      refine s_rd (r_lss rfl rfl) rfl ?_
      refine s_rd (r_pickF rfl rfl) rfl ?_
      refine mv1 rfl rfl ?_
      refine b_split (t := 40) rfl (fun _ => ?_) (fun _ => ?_)
      · refine s_off rfl rfl rfl rfl rfl ?_
        refine s_off rfl rfl rfl rfl rfl ?_
        refine s_off rfl rfl rfl rfl rfl ?_
        refine s_off rfl rfl rfl rfl rfl ?_
        refine s_off rfl rfl rfl rfl rfl ?_
        refine s_rd (r_pickT rfl rfl) rfl ?_
        refine l_nil (n_then ?_)
        refine ref_condT rfl rfl ?_
        refine ref_seq (ref_region ?_)
        refine as1 rfl rfl ?_
        refine l_nil (n_then (ref_ret (r_then (r_block (r_then ?_)))))
        refine retX ?_
        refine r_block (r_then ?_)
        exact fin1 (.inl rfl) () [] rfl trivial rfl (rv_tmp rfl)
      refine s_on rfl rfl rfl ?_
      refine s_rd (r_faddr (fo := 1) Tryd.underlying63 rfl rfl Tryd.sizeOf3 rfl) rfl ?_
      refine s_on rfl rfl rfl ?_
      refine s_rd (r_cload Tryd.isAgg3 rfl (j := 1) rfl rfl) rfl ?_
      refine s_on rfl rfl rfl ?_
      refine s_rd (r_faddr (fo := 0) Tryd.underlying27 rfl rfl Tryd.sizeOf3 rfl) rfl ?_
      refine s_on rfl rfl rfl ?_
      refine s_rd (r_cload Tryd.isAgg3 rfl (j := 0) rfl rfl) rfl ?_
      refine s_on rfl rfl rfl ?_
      refine s_rd (r_geq rfl rfl) rfl ?_
      refine s_rd (r_pickF rfl rfl) rfl ?_
      refine l_nil (n_then ?_)
      refine ref_cond rfl (fun hb18 => ?_) (fun hb18 => ?_)
      · refine ref_seq (ref_region ?_)
        refine as1 rfl rfl ?_
        refine l_nil (n_then (ref_ret (r_then (r_block (r_then ?_)))))
        refine retX ?_
        refine r_block (r_then ?_)
        exact fin1 (.inl rfl) () [] rfl trivial rfl (rv_tmp rfl)
      refine ref_skip (n_then (ref_seq ?_))
      refine ref_draw [0, 1, 2, 3, 4, 5, 6, 7, 8, 9, 10, 11, 12, 13, 14, 15, 16, 17, 18, 19, 20, 21, 22, 23, 24, 25, 26, 27, 28, 29, 30, 31, 32, 33, 34, 35, 36, 37] rfl (by kernel_rfl) (fun hok => ?_)
      refine a_rd (i := 0) hok rfl (by kernel_rfl) rfl (r_move rfl) rfl ?_
      refine a_rd (i := 1) hok rfl (by kernel_rfl) rfl (r_gtr rfl rfl) rfl ?_
      refine a_rd (i := 2) hok rfl (by kernel_rfl) rfl (r_move rfl) rfl ?_
      refine b_split (t := 49) rfl (fun _ => ?_) (fun _ => ?_)
      · refine a_rdOn (i := 3) hok rfl rfl rfl rfl (by kernel_rfl) rfl (r_faddr (fo := 1) Tryd.underlying27 rfl rfl Tryd.sizeOf25 rfl) rfl ?_
        refine a_rdOn (i := 4) hok rfl rfl rfl rfl (by kernel_rfl) rfl (r_cload Tryd.isAgg25 rfl (j := 0) rfl rfl) rfl ?_
        refine a_rdOn (i := 5) hok rfl rfl rfl rfl (by kernel_rfl) rfl (r_move rfl) rfl ?_
        refine a_rdOn (i := 6) hok rfl rfl rfl rfl (by kernel_rfl) rfl (r_sub rfl rfl) rfl ?_
        refine pull fun t19 h_t19 => ?_
        refine a_rdOn (i := 7) hok rfl rfl rfl rfl (by kernel_rfl) rfl (r_index h_t19 Tryd.underlying25 el_63 rfl rfl) rfl ?_
        refine a_rdOn (i := 8) hok rfl rfl rfl rfl (by kernel_rfl) rfl (r_fea (fo := 0) (ρ := rT_api_Pair) (y := t19) (ρ' := (rI .i64)) (z := t19.From) Tryd.underlying63 rfl rfl Tryd.sizeOf3 rfl rfl rfl) rfl ?_
        refine a_rdOn (i := 9) hok rfl rfl rfl rfl (by kernel_rfl) rfl (r_load el_3 rfl) rfl ?_
        refine a_rdOn (i := 10) hok rfl rfl rfl rfl (by kernel_rfl) rfl (r_faddr (fo := 0) Tryd.underlying63 rfl rfl Tryd.sizeOf3 rfl) rfl ?_
        refine a_rdOn (i := 11) hok rfl rfl rfl rfl (by kernel_rfl) rfl (r_cload Tryd.isAgg3 rfl (j := 1) rfl rfl) rfl ?_
        refine a_rdOn (i := 12) hok rfl rfl rfl rfl (by kernel_rfl) rfl (r_gtr rfl rfl) rfl ?_
        refine a_rdOn (i := 13) hok rfl rfl rfl rfl (by kernel_rfl) rfl (r_move rfl) rfl ?_
        refine b_split (t := 60) rfl (fun _ => ?_) (fun _ => ?_)
        · refine a_off (i := 14) hok rfl rfl rfl rfl rfl (by kernel_rfl) rfl rfl ?_
          refine a_off (i := 15) hok rfl rfl rfl rfl rfl (by kernel_rfl) rfl rfl ?_
          refine a_off (i := 16) hok rfl rfl rfl rfl rfl (by kernel_rfl) rfl rfl ?_
          refine a_off (i := 17) hok rfl rfl rfl rfl rfl (by kernel_rfl) rfl rfl ?_
          refine a_off (i := 18) hok rfl rfl rfl rfl rfl (by kernel_rfl) rfl rfl ?_
          refine a_off (i := 19) hok rfl rfl rfl rfl rfl (by kernel_rfl) rfl rfl ?_
          refine a_off (i := 20) hok rfl rfl rfl rfl rfl (by kernel_rfl) rfl rfl ?_
          refine a_off (i := 21) hok rfl rfl rfl rfl rfl (by kernel_rfl) rfl rfl ?_
          refine a_off (i := 22) hok rfl rfl rfl rfl rfl (by kernel_rfl) rfl rfl ?_
          refine a_off (i := 23) hok rfl rfl rfl rfl rfl (by kernel_rfl) rfl rfl ?_
          refine a_off (i := 24) hok rfl rfl rfl rfl rfl (by kernel_rfl) rfl rfl ?_
          refine a_offU (i := 25) hok rfl rfl rfl (by kernel_rfl) rfl rfl ?_
          refine a_offU (i := 26) hok rfl rfl rfl (by kernel_rfl) rfl rfl ?_
          refine a_offU (i := 27) hok rfl rfl rfl (by kernel_rfl) rfl rfl ?_
          refine a_offU (i := 28) hok rfl rfl rfl (by kernel_rfl) rfl rfl ?_
          refine a_offU (i := 29) hok rfl rfl rfl (by kernel_rfl) rfl rfl ?_
          refine a_offU (i := 30) hok rfl rfl rfl (by kernel_rfl) rfl rfl ?_
          refine a_offU (i := 31) hok rfl rfl rfl (by kernel_rfl) rfl rfl ?_
          refine a_offU (i := 32) hok rfl rfl rfl (by kernel_rfl) rfl rfl ?_
          refine a_offU (i := 33) hok rfl rfl rfl (by kernel_rfl) rfl rfl ?_
          refine a_offU (i := 34) hok rfl rfl rfl (by kernel_rfl) rfl rfl ?_
          refine a_off (i := 35) hok rfl rfl rfl rfl rfl (by kernel_rfl) rfl rfl ?_
          refine a_rdOn (i := 36) hok rfl rfl rfl rfl (by kernel_rfl) rfl (r_pickT rfl rfl) rfl ?_
          refine a_rd (i := 37) hok rfl (by kernel_rfl) rfl (r_pickT rfl rfl) rfl ?_
          refine a_fin hok (by kernel_rfl) ?_
          refine n_then ?_
          refine ref_condT rfl rfl ?_
          refine ref_seq (ref_region ?_)
          refine as1 rfl rfl ?_
          refine l_nil (n_then (ref_ret (r_block (r_then ?_))))
          refine retX ?_
          refine r_block (r_then ?_)
          exact fin1 (.inl rfl) () [] rfl trivial rfl (rv_tmp rfl)
        refine a_rdOn (i := 14) hok rfl rfl rfl rfl (by kernel_rfl) rfl (r_faddr (fo := 1) Tryd.underlying27 rfl rfl Tryd.sizeOf25 rfl) rfl ?_
        refine a_rdOn (i := 15) hok rfl rfl rfl rfl (by kernel_rfl) rfl (r_cload Tryd.isAgg25 rfl (j := 0) rfl rfl) rfl ?_
        refine a_rdOn (i := 16) hok rfl rfl rfl rfl (by kernel_rfl) rfl (r_move rfl) rfl ?_
        refine a_rdOn (i := 17) hok rfl rfl rfl rfl (by kernel_rfl) rfl (r_sub rfl rfl) rfl ?_
        refine pull fun t20 h_t20 => ?_
        refine a_rdOn (i := 18) hok rfl rfl rfl rfl (by kernel_rfl) rfl (r_index h_t20 Tryd.underlying25 el_63 rfl rfl) rfl ?_
        refine a_rdOn (i := 19) hok rfl rfl rfl rfl (by kernel_rfl) rfl (r_fea (fo := 0) (ρ := rT_api_Pair) (y := t20) (ρ' := (rI .i64)) (z := t20.From) Tryd.underlying63 rfl rfl Tryd.sizeOf3 rfl rfl rfl) rfl ?_
        refine a_rdOn (i := 20) hok rfl rfl rfl rfl (by kernel_rfl) rfl (r_load el_3 rfl) rfl ?_
        refine a_rdOn (i := 21) hok rfl rfl rfl rfl (by kernel_rfl) rfl (r_faddr (fo := 0) Tryd.underlying63 rfl rfl Tryd.sizeOf3 rfl) rfl ?_
        refine a_rdOn (i := 22) hok rfl rfl rfl rfl (by kernel_rfl) rfl (r_cload Tryd.isAgg3 rfl (j := 1) rfl rfl) rfl ?_
        refine a_rdOn (i := 23) hok rfl rfl rfl rfl (by kernel_rfl) rfl (r_eql rfl rfl) rfl ?_
        refine a_rdOn (i := 24) hok rfl rfl rfl rfl (by kernel_rfl) rfl (r_move rfl) rfl ?_
        refine b_split (t := 71) rfl (fun _ => ?_) (fun _ => ?_)
        · refine a_rdOn (i := 25) hok rfl rfl rfl rfl (by kernel_rfl) rfl (r_faddr (fo := 1) Tryd.underlying27 rfl rfl Tryd.sizeOf25 rfl) rfl ?_
          refine a_rdOn (i := 26) hok rfl rfl rfl rfl (by kernel_rfl) rfl (r_cload Tryd.isAgg25 rfl (j := 0) rfl rfl) rfl ?_
          refine a_rdOn (i := 27) hok rfl rfl rfl rfl (by kernel_rfl) rfl (r_move rfl) rfl ?_
          refine a_rdOn (i := 28) hok rfl rfl rfl rfl (by kernel_rfl) rfl (r_sub rfl rfl) rfl ?_
          refine pull fun t21 h_t21 => ?_
          refine a_rdOn (i := 29) hok rfl rfl rfl rfl (by kernel_rfl) rfl (r_index h_t21 Tryd.underlying25 el_63 rfl rfl) rfl ?_
          refine a_rdOn (i := 30) hok rfl rfl rfl rfl (by kernel_rfl) rfl (r_fea (fo := 1) (ρ := rT_api_Pair) (y := t21) (ρ' := (rI .i64)) (z := t21.To) Tryd.underlying63 rfl rfl Tryd.sizeOf3 rfl rfl rfl) rfl ?_
          refine a_rdOn (i := 31) hok rfl rfl rfl rfl (by kernel_rfl) rfl (r_load el_3 rfl) rfl ?_
          refine a_rdOn (i := 32) hok rfl rfl rfl rfl (by kernel_rfl) rfl (r_faddr (fo := 1) Tryd.underlying63 rfl rfl Tryd.sizeOf3 rfl) rfl ?_
          refine a_rdOn (i := 33) hok rfl rfl rfl rfl (by kernel_rfl) rfl (r_cload Tryd.isAgg3 rfl (j := 1) rfl rfl) rfl ?_
          refine a_rdOn (i := 34) hok rfl rfl rfl rfl (by kernel_rfl) rfl (r_geq rfl rfl) rfl ?_
          refine a_rdOn (i := 35) hok rfl rfl rfl rfl (by kernel_rfl) rfl (r_pickT rfl rfl) rfl ?_
          refine a_rdOn (i := 36) hok rfl rfl rfl rfl (by kernel_rfl) rfl (r_pickF rfl rfl) rfl ?_
          refine a_rd (i := 37) hok rfl (by kernel_rfl) rfl (r_pickT rfl rfl) rfl ?_
          refine a_fin hok (by kernel_rfl) ?_
          refine n_then ?_
          refine ref_cond rfl (fun hb22 => ?_) (fun hb22 => ?_)
          · refine ref_seq (ref_region ?_)
            refine as1 rfl rfl ?_
            refine l_nil (n_then (ref_ret (r_block (r_then ?_))))
            refine retX ?_
            refine r_block (r_then ?_)
            exact fin1 (.inl rfl) () [] rfl trivial rfl (rv_tmp rfl)
          refine ref_skip (n_block (n_then (ref_region ?_)))
          refine mv1 rfl rfl ?_
          refine s_rd (r_add rfl rfl) rfl ?_
          refine as1 rfl rfl ?_
          refine b_let (f := iv .i64) (t := 3) rfl fun i23 => ?_
          refine l_nil ?_
          exact goX () (weak [0] ⟨rfl, rfl, trivial⟩ ⟨rfl, trivial⟩)
        refine a_off (i := 25) hok rfl rfl rfl rfl rfl (by kernel_rfl) rfl rfl ?_
        refine a_off (i := 26) hok rfl rfl rfl rfl rfl (by kernel_rfl) rfl rfl ?_
        refine a_off (i := 27) hok rfl rfl rfl rfl rfl (by kernel_rfl) rfl rfl ?_
        refine a_off (i := 28) hok rfl rfl rfl rfl rfl (by kernel_rfl) rfl rfl ?_
        refine a_off (i := 29) hok rfl rfl rfl rfl rfl (by kernel_rfl) rfl rfl ?_
        refine a_off (i := 30) hok rfl rfl rfl rfl rfl (by kernel_rfl) rfl rfl ?_
        refine a_off (i := 31) hok rfl rfl rfl rfl rfl (by kernel_rfl) rfl rfl ?_
        refine a_off (i := 32) hok rfl rfl rfl rfl rfl (by kernel_rfl) rfl rfl ?_
        refine a_off (i := 33) hok rfl rfl rfl rfl rfl (by kernel_rfl) rfl rfl ?_
        refine a_off (i := 34) hok rfl rfl rfl rfl rfl (by kernel_rfl) rfl rfl ?_
        refine a_rdOn (i := 35) hok rfl rfl rfl rfl (by kernel_rfl) rfl (r_pickF rfl rfl) rfl ?_
        refine a_rdOn (i := 36) hok rfl rfl rfl rfl (by kernel_rfl) rfl (r_pickF rfl rfl) rfl ?_
        refine a_rd (i := 37) hok rfl (by kernel_rfl) rfl (r_pickT rfl rfl) rfl ?_
        refine a_fin hok (by kernel_rfl) ?_
        refine n_then ?_
        refine ref_condF rfl rfl ?_
        refine ref_skip (n_block (n_then (ref_region ?_)))
        refine mv1 rfl rfl ?_
        refine s_rd (r_add rfl rfl) rfl ?_
        refine as1 rfl rfl ?_
        refine b_let (f := iv .i64) (t := 3) rfl fun i24 => ?_
        refine l_nil ?_
        exact goX () (weak [0] ⟨rfl, rfl, trivial⟩ ⟨rfl, trivial⟩)
      refine a_off (i := 3) hok rfl rfl rfl rfl rfl (by kernel_rfl) rfl rfl ?_
      refine a_off (i := 4) hok rfl rfl rfl rfl rfl (by kernel_rfl) rfl rfl ?_
      refine a_off (i := 5) hok rfl rfl rfl rfl rfl (by kernel_rfl) rfl rfl ?_
      refine a_off (i := 6) hok rfl rfl rfl rfl rfl (by kernel_rfl) rfl rfl ?_
      refine a_off (i := 7) hok rfl rfl rfl rfl rfl (by kernel_rfl) rfl rfl ?_
      refine a_off (i := 8) hok rfl rfl rfl rfl rfl (by kernel_rfl) rfl rfl ?_
      refine a_off (i := 9) hok rfl rfl rfl rfl rfl (by kernel_rfl) rfl rfl ?_
      refine a_off (i := 10) hok rfl rfl rfl rfl rfl (by kernel_rfl) rfl rfl ?_
      refine a_off (i := 11) hok rfl rfl rfl rfl rfl (by kernel_rfl) rfl rfl ?_
      refine a_off (i := 12) hok rfl rfl rfl rfl rfl (by kernel_rfl) rfl rfl ?_
      refine a_off (i := 13) hok rfl rfl rfl rfl rfl (by kernel_rfl) rfl rfl ?_
      refine a_offU (i := 14) hok rfl rfl rfl (by kernel_rfl) rfl rfl ?_
      refine a_offU (i := 15) hok rfl rfl rfl (by kernel_rfl) rfl rfl ?_
      refine a_offU (i := 16) hok rfl rfl rfl (by kernel_rfl) rfl rfl ?_
      refine a_offU (i := 17) hok rfl rfl rfl (by kernel_rfl) rfl rfl ?_
      refine a_offU (i := 18) hok rfl rfl rfl (by kernel_rfl) rfl rfl ?_
      refine a_offU (i := 19) hok rfl rfl rfl (by kernel_rfl) rfl rfl ?_
      refine a_offU (i := 20) hok rfl rfl rfl (by kernel_rfl) rfl rfl ?_
      refine a_offU (i := 21) hok rfl rfl rfl (by kernel_rfl) rfl rfl ?_
      refine a_offU (i := 22) hok rfl rfl rfl (by kernel_rfl) rfl rfl ?_
      refine a_offU (i := 23) hok rfl rfl rfl (by kernel_rfl) rfl rfl ?_
      refine a_offU (i := 24) hok rfl rfl rfl (by kernel_rfl) rfl rfl ?_
      refine a_offU (i := 25) hok rfl rfl rfl (by kernel_rfl) rfl rfl ?_
      refine a_offU (i := 26) hok rfl rfl rfl (by kernel_rfl) rfl rfl ?_
      refine a_offU (i := 27) hok rfl rfl rfl (by kernel_rfl) rfl rfl ?_
      refine a_offU (i := 28) hok rfl rfl rfl (by kernel_rfl) rfl rfl ?_
      refine a_offU (i := 29) hok rfl rfl rfl (by kernel_rfl) rfl rfl ?_
      refine a_offU (i := 30) hok rfl rfl rfl (by kernel_rfl) rfl rfl ?_
      refine a_offU (i := 31) hok rfl rfl rfl (by kernel_rfl) rfl rfl ?_
      refine a_offU (i := 32) hok rfl rfl rfl (by kernel_rfl) rfl rfl ?_
      refine a_offU (i := 33) hok rfl rfl rfl (by kernel_rfl) rfl rfl ?_
      refine a_offU (i := 34) hok rfl rfl rfl (by kernel_rfl) rfl rfl ?_
      refine a_offU (i := 35) hok rfl rfl rfl (by kernel_rfl) rfl rfl ?_
      refine a_off (i := 36) hok rfl rfl rfl rfl rfl (by kernel_rfl) rfl rfl ?_
      refine a_rd (i := 37) hok rfl (by kernel_rfl) rfl (r_pickF rfl rfl) rfl ?_
      refine a_fin hok (by kernel_rfl) ?_
      refine n_then ?_
      refine ref_condF rfl rfl ?_
      refine ref_skip (n_block (n_then (ref_region ?_)))
      refine mv1 rfl rfl ?_
      refine s_rd (r_add rfl rfl) rfl ?_
      refine as1 rfl rfl ?_
      refine b_let (f := iv .i64) (t := 3) rfl fun i25 => ?_
      refine l_nil ?_
      exact goX () (weak [0] ⟨rfl, rfl, trivial⟩ ⟨rfl, trivial⟩)
    refine ref_exit (x_then ?_)
    exact brkX () (weak [] trivial trivial)
  refine n_then (ref_seq (ref_region ?_))
  refine as1 rfl rfl ?_
  refine l_nil (n_then (ref_ret ?_))
  exact fin1 (.inl rfl) () [] rfl trivial rfl (rv_tmp rfl)

/-! deliberation/deliberationref23.all -/
noncomputable def ref23_all_m (o_0 : T_api_Odds) : Option (List T_api_Fraction) :=
  Option.bind (appM 16 [] o_0.Nodes) fun t3 =>
  Option.bind (appM 16 t3 o_0.Attacks) fun t5 =>
  some t5

theorem ref23_all_ok {o_0 : T_api_Odds} {r : List T_api_Fraction} (hm : ref23_all_m o_0 = some r) :
    FnOk prog 72 [ag [slv rT_api_Fraction o_0.Nodes, slv rT_api_Fraction o_0.Attacks]] [] (fun (x : (Value × List Nat)) => [pv x.1]) (fun (x : (Value × List Nat)) => [oa rT_api_Fraction x.1 x.2 r]) := by
  refine fn_ok (X := (Value × List Nat)) (fn := Tryd.f72) (N := 10) (res := fun r x => [pv x.1]) (Ω1 := fun r x => [oa rT_api_Fraction x.1 x.2 r]) Tryd.func72 rfl rfl hm rfl (fun E hM => ?_)
  unfold ref23_all_m
  refine ref_seq (ref_region ?_)
  refine s_st (s_box (part_agO (ψs := [slv rT_api_Fraction o_0.Nodes, slv rT_api_Fraction o_0.Attacks]) rfl ⟨.inl slv_at, .inl slv_at, trivial⟩)) rfl (fun b1 => ?_)
  refine as1 rfl rfl ?_
  refine l_nil (n_then (ref_seq ?_))
  refine ref_draw [1, 2, 4, 5] rfl (by kernel_rfl) (fun hok => ?_)
  refine a_rd (i := 1) hok rfl (by kernel_rfl) rfl (r_faddr (fo := 0) Tryd.underlying31 rfl rfl Tryd.sizeOf29 rfl) rfl ?_
  refine a_rd (i := 2) hok rfl (by kernel_rfl) rfl (r_cload Tryd.isAgg29 rfl (j := 0) rfl rfl) rfl ?_
  refine a_rd (i := 4) hok rfl (by kernel_rfl) rfl (r_faddr (fo := 1) Tryd.underlying31 rfl rfl Tryd.sizeOf29 rfl) rfl ?_
  refine a_rd (i := 5) hok rfl (by kernel_rfl) rfl (r_cload Tryd.isAgg29 rfl (j := 0) rfl rfl) rfl ?_
  refine a_next hok 0 [] (by kernel_rfl) ?_ trivial
  refine a_st (i := 0) hok rfl rfl (s_bsliceO (xs := []) (ds := []) Tryd.underlying29 el_36 rfl (Nat.le_of_ble_eq_true rfl) trivial) (by intro _ h; cases h; rfl) (fun _ => ⟨⟨⟨rfl, rfl⟩, trivial⟩, ⟨trivial, ⟨⟨⟨rfl, rfl⟩, trivial⟩, ⟨trivial, trivial⟩⟩⟩⟩) (fun o2 => ?_)
  refine pull fun t3 h_t3 => ?_
  refine a_next hok 3 [] (by kernel_rfl) ?_ trivial
  refine a_st (i := 3) hok rfl rfl (s_append h_t3 Tryd.underlying29 el_36 rfl (j := 1) rfl rfl) (by intro _ h; cases h; rfl) (fun _ => ⟨⟨⟨rfl, rfl⟩, trivial⟩, ⟨trivial, ⟨trivial, ⟨trivial, trivial⟩⟩⟩⟩) (fun o4 => ?_)
  refine pull fun t5 h_t5 => ?_
  refine a_next hok 6 [] (by kernel_rfl) ?_ trivial
  refine a_st (i := 6) hok rfl rfl (s_append h_t5 Tryd.underlying29 el_36 rfl (j := 1) rfl rfl) (by intro _ h; cases h; rfl) (fun _ => ⟨trivial, ⟨trivial, ⟨⟨⟨rfl, rfl⟩, trivial⟩, ⟨trivial, trivial⟩⟩⟩⟩) (fun o6 => ?_)
  refine a_next hok 7 [] (by kernel_rfl) ?_ trivial
  refine a_st (i := 7) hok rfl rfl (St.ofRd (r_assign rfl)) (by intro _ h; cases h; rfl) (fun _ => ⟨trivial, ⟨trivial, ⟨trivial, ⟨trivial, trivial⟩⟩⟩⟩) (fun _ => ?_)
  refine a_fin hok (by kernel_rfl) ?_
  refine b_of (nrm [oc b1 [slv rT_api_Fraction o_0.Nodes, slv rT_api_Fraction o_0.Attacks], oa rT_api_Fraction o6.1 o6.2 t5] rfl) ?_
  refine n_then (ref_ret ?_)
  exact fin1 (.inl rfl) o6 [1] rfl ⟨rfl, trivial⟩ rfl (rv_tmp rfl)

/-! deliberation/deliberationref23.valid -/
noncomputable def ref23_valid_m (f_0 : T_api_Fraction) : Option (Bool) :=
  bif decide (f_0.Den ≥ 1) then
    bif decide (f_0.Den ≤ 12) then
      bif decide (f_0.Num ≥ 0) then
        letM (decide (f_0.Num ≤ f_0.Den)) fun t2 =>
        some t2
      else
        some false
    else
      some false
  else
    some false

theorem ref23_valid_ok {f_0 : T_api_Fraction} {r : Bool} (hm : ref23_valid_m f_0 = some r) :
    FnOk prog 73 [ag [iv .i64 f_0.Num, iv .i64 f_0.Den]] [] (fun (x : Unit) => [bv r]) (fun (x : Unit) => []) := by
  refine fn_ok (fn := Tryd.f73) (N := 23) (res := fun r x => [bv r]) (Ω1 := fun r x => []) Tryd.func73 rfl rfl hm rfl (fun E hM => ?_)
  unfold ref23_valid_m
  refine ref_seq (ref_region ?_)
  refine s_st (s_box (part_agO (ψs := [iv .i64 f_0.Num, iv .i64 f_0.Den]) rfl ⟨.inl iv_at, .inl iv_at, trivial⟩)) rfl (fun b1 => ?_)
  refine as1 rfl rfl ?_
  refine l_nil (n_then (ref_seq (ref_region ?_)))
  refine s_rd (r_faddr (fo := 1) Tryd.underlying36 rfl rfl Tryd.sizeOf3 rfl) rfl ?_
  refine s_rd (r_cload Tryd.isAgg3 rfl (j := 0) rfl rfl) rfl ?_
  refine s_rd (r_geq rfl rfl) rfl ?_
  refine mv1 rfl rfl ?_
  refine b_split (t := 6) rfl (fun _ => ?_) (fun _ => ?_)
  · refine s_on rfl rfl rfl ?_
    refine s_rd (r_faddr (fo := 1) Tryd.underlying36 rfl rfl Tryd.sizeOf3 rfl) rfl ?_
    refine s_on rfl rfl rfl ?_
    refine s_rd (r_cload Tryd.isAgg3 rfl (j := 0) rfl rfl) rfl ?_
    refine s_on rfl rfl rfl ?_
    refine s_rd (r_leq rfl rfl) rfl ?_
    refine s_rd (r_pickT rfl rfl) rfl ?_
    refine mv1 rfl rfl ?_
    refine b_split (t := 11) rfl (fun _ => ?_) (fun _ => ?_)
    · refine s_on rfl rfl rfl ?_
      refine s_rd (r_faddr (fo := 0) Tryd.underlying36 rfl rfl Tryd.sizeOf3 rfl) rfl ?_
      refine s_on rfl rfl rfl ?_
      refine s_rd (r_cload Tryd.isAgg3 rfl (j := 0) rfl rfl) rfl ?_
      refine s_on rfl rfl rfl ?_
      refine s_rd (r_geq rfl rfl) rfl ?_
      refine s_rd (r_pickT rfl rfl) rfl ?_
      refine mv1 rfl rfl ?_
      refine b_split (t := 16) rfl (fun _ => ?_) (fun _ => ?_)
      · refine s_on rfl rfl rfl ?_
        refine s_rd (r_faddr (fo := 0) Tryd.underlying36 rfl rfl Tryd.sizeOf3 rfl) rfl ?_
        refine s_on rfl rfl rfl ?_
        refine s_rd (r_cload Tryd.isAgg3 rfl (j := 0) rfl rfl) rfl ?_
        refine s_on rfl rfl rfl ?_
        refine s_rd (r_faddr (fo := 1) Tryd.underlying36 rfl rfl Tryd.sizeOf3 rfl) rfl ?_
        refine s_on rfl rfl rfl ?_
        refine s_rd (r_cload Tryd.isAgg3 rfl (j := 0) rfl rfl) rfl ?_
        refine s_on rfl rfl rfl ?_
        refine s_rd (r_leq rfl rfl) rfl ?_
        refine s_rd (r_pickT rfl rfl) rfl ?_
        refine as1 rfl rfl ?_
        refine b_let (f := bv) (t := 2) rfl fun t2 => ?_
        refine l_nil (n_then (ref_ret ?_))
        exact fin1 (.inl rfl) () [] rfl trivial rfl (rv_tmp rfl)
      refine s_off rfl rfl rfl rfl rfl ?_
      refine s_off rfl rfl rfl rfl rfl ?_
      refine s_off rfl rfl rfl rfl rfl ?_
      refine s_off rfl rfl rfl rfl rfl ?_
      refine s_off rfl rfl rfl rfl rfl ?_
      refine s_rd (r_pickF rfl rfl) rfl ?_
      refine as1 rfl rfl ?_
      refine l_nil (n_then (ref_ret ?_))
      exact fin1 (.inl rfl) () [] rfl trivial rfl (rv_tmp rfl)
    refine s_off rfl rfl rfl rfl rfl ?_
    refine s_off rfl rfl rfl rfl rfl ?_
    refine s_off rfl rfl rfl rfl rfl ?_
    refine s_rd (r_pickF rfl rfl) rfl ?_
    refine mv1 rfl rfl ?_
    refine s_off rfl rfl rfl rfl rfl ?_
    refine s_off rfl rfl rfl rfl rfl ?_
    refine s_off rfl rfl rfl rfl rfl ?_
    refine s_off rfl rfl rfl rfl rfl ?_
    refine s_off rfl rfl rfl rfl rfl ?_
    refine s_rd (r_pickF rfl rfl) rfl ?_
    refine as1 rfl rfl ?_
    refine l_nil (n_then (ref_ret ?_))
    exact fin1 (.inl rfl) () [] rfl trivial rfl (rv_tmp rfl)
  refine s_off rfl rfl rfl rfl rfl ?_
  refine s_off rfl rfl rfl rfl rfl ?_
  refine s_off rfl rfl rfl rfl rfl ?_
  refine s_rd (r_pickF rfl rfl) rfl ?_
  refine mv1 rfl rfl ?_
  refine s_off rfl rfl rfl rfl rfl ?_
  refine s_off rfl rfl rfl rfl rfl ?_
  refine s_off rfl rfl rfl rfl rfl ?_
  refine s_rd (r_pickF rfl rfl) rfl ?_
  refine mv1 rfl rfl ?_
  refine s_off rfl rfl rfl rfl rfl ?_
  refine s_off rfl rfl rfl rfl rfl ?_
  refine s_off rfl rfl rfl rfl rfl ?_
  refine s_off rfl rfl rfl rfl rfl ?_
  refine s_off rfl rfl rfl rfl rfl ?_
  refine s_rd (r_pickF rfl rfl) rfl ?_
  refine as1 rfl rfl ?_
  refine l_nil (n_then (ref_ret ?_))
  exact fin1 (.inl rfl) () [] rfl trivial rfl (rv_tmp rfl)

/-! deliberation/deliberationref23.Odds -/
noncomputable def ref23_Odds_l1 (l3 : List T_api_Fraction) (s11 : Int) : Option (Sum ((Sum (Bool) (Unit))) (Int)) :=
  bif decide (s11 < (l3.length : Int)) then
    Option.bind (idxM l3 s11) fun t14 =>
    Option.bind (ref23_valid_m t14) fun t15 =>
    bif !t15 then
      some (Sum.inl (Sum.inl false))
    else
      letM (iadd .i64 s11 1) fun i17 =>
      some (Sum.inr i17)
  else
    some (Sum.inl (Sum.inr ()))

noncomputable def ref23_Odds_m (g_0 : T_api_Graph) (o_1 : T_api_Odds) : Option (Bool) :=
  Option.bind (ref23_all_m o_1) fun l3 =>
  Option.bind (loopC (ref23_Odds_l1 l3) 0) (sumK (fun a : Bool => some a) fun q18 : Unit =>
    bif (o_1.Nodes.length : Int) == g_0.N then
      letM ((o_1.Attacks.length : Int) == (g_0.L.length : Int)) fun t20 =>
      some t20
    else
      some false)

theorem ref23_Odds_ok {g_0 : T_api_Graph} {o_1 : T_api_Odds} {r : Bool} (hm : ref23_Odds_m g_0 o_1 = some r) :
    FnOk prog 52 [ag [iv .i64 g_0.N, slv rT_api_Pair g_0.L], ag [slv rT_api_Fraction o_1.Nodes, slv rT_api_Fraction o_1.Attacks]] [] (fun (x : Unit) => [bv r]) (fun (x : Unit) => []) := by
  refine fn_ok (fn := Tryd.f52) (N := 36) (res := fun r x => [bv r]) (Ω1 := fun r x => []) Tryd.func52 rfl rfl hm rfl (fun E hM => ?_)
  unfold ref23_Odds_m
  refine ref_seq (ref_region ?_)
  refine s_st (s_box (part_agO (ψs := [iv .i64 g_0.N, slv rT_api_Pair g_0.L]) rfl ⟨.inl iv_at, .inl slv_at, trivial⟩)) rfl (fun b1 => ?_)
  refine s_st (s_box (part_agO (ψs := [slv rT_api_Fraction o_1.Nodes, slv rT_api_Fraction o_1.Attacks]) rfl ⟨.inl slv_at, .inl slv_at, trivial⟩)) rfl (fun b2 => ?_)
  refine as1 rfl rfl ?_
  refine l_nil (n_then (ref_seq (ref_region ?_)))
  refine s_rd (r_cloadS Tryd.isAgg31 Tryd.sizeOf31 rfl (j := 1) rfl rfl rfl) rfl ?_
  refine pull fun l3 h_l3 => ?_
  refine s_st (s_call (ψ := fun (x4 : (Value × List Nat)) => pv x4.1) (args := [.tmp 7]) Tryd.call72 rfl (ref23_all_ok h_l3) ⟨arg rfl, trivial⟩ (fun _ _ _ _ h => h)) rfl (fun x4 => ?_)
  refine as1 rfl rfl ?_
  refine l_nil (n_then (ref_seq (ref_seq (ref_region ?_))))
  refine as1 rfl rfl ?_
  refine l_nil (n_then ?_)
  refine ref_loopX (f := (ref23_Odds_l1 l3)) (Γl := (fun (s11 : Int) (x12 : Unit) => [(2, pv (ptr b1 0)), (3, pv (ptr b2 0)), (5, pv x4.1), (6, iv .i64 s11)])) (Ωl := (fun (s11 : Int) (x12 : Unit) => [oc b1 [iv .i64 g_0.N, slv rT_api_Pair g_0.L], oc b2 [slv rT_api_Fraction o_1.Nodes, slv rT_api_Fraction o_1.Attacks], oa rT_api_Fraction x4.1 x4.2 l3])) (Γb := (fun (q18 : Unit) (y19 : Unit) => [(2, pv (ptr b1 0)), (3, pv (ptr b2 0))])) (Ωb := (fun (q18 : Unit) (y19 : Unit) => [oc b1 [iv .i64 g_0.N, slv rT_api_Pair g_0.L], oc b2 [slv rT_api_Fraction o_1.Nodes, slv rT_api_Fraction o_1.Attacks]])) (kr := (fun a : Bool => some a)) 0 () (weak [0, 1, 2] ⟨rfl, rfl, rfl, rfl, trivial⟩ ⟨rfl, rfl, rfl, trivial⟩) (fun s11 x12 => ?_) (fun q18 y19 => ?_)
  · unfold ref23_Odds_l1
    refine ref_seq (ref_seq (ref_region ?_))
    refine mv1 rfl rfl ?_
    refine mv1 rfl rfl ?_
    refine s_rd (r_olen Tryd.underlying29 rfl (j := 2) rfl) rfl ?_
    refine s_rd (r_lss rfl rfl) rfl ?_
    refine l_nil (n_then ?_)
    refine ref_cond rfl (fun hb13 => ?_) (fun hb13 => ?_)
    · refine ref_skip (n_then (ref_seq (ref_block (ref_seq (ref_region ?_)))))
      refine mv1 rfl rfl ?_
      refine mv1 rfl rfl ?_
      refine pull fun t14 h_t14 => ?_
      refine s_rd (r_oindex h_t14 Tryd.underlying29 el_36 rfl (j := 2) rfl rfl) rfl ?_
      refine s_rd (r_oload h_t14 el_36 rfl (j := 2) rfl) rfl ?_
      refine pull fun t15 h_t15 => ?_
      refine s_st (s_call (ψ := fun (_ : Unit) => bv t15) (args := [.tmp 18]) Tryd.call73 rfl (ref23_valid_ok h_t15) ⟨arg rfl, trivial⟩ (fun _ _ _ _ h => h)) rfl (fun _ => ?_)
      refine s_rd (r_not rfl) rfl ?_
      refine l_nil ?_
      refine b_of (nrm [oc b1 [iv .i64 g_0.N, slv rT_api_Pair g_0.L], oc b2 [slv rT_api_Fraction o_1.Nodes, slv rT_api_Fraction o_1.Attacks], oa rT_api_Fraction x4.1 x4.2 l3] rfl) ?_
      refine n_then ?_
      refine ref_cond rfl (fun hb16 => ?_) (fun hb16 => ?_)
      · refine ref_seq (ref_region ?_)
        refine as1 rfl rfl ?_
        refine l_nil (n_then (ref_ret (r_block (r_then ?_))))
        refine retX ?_
        refine r_block (r_then ?_)
        exact fin1 (.inl rfl) () [] rfl trivial rfl (rv_tmp rfl)
      refine ref_skip (n_block (n_then (ref_region ?_)))
      refine mv1 rfl rfl ?_
      refine s_rd (r_add rfl rfl) rfl ?_
      refine as1 rfl rfl ?_
      refine b_let (f := iv .i64) (t := 6) rfl fun i17 => ?_
      refine l_nil ?_
      exact goX () (weak [0, 1, 2] ⟨rfl, rfl, rfl, rfl, trivial⟩ ⟨rfl, rfl, rfl, trivial⟩)
    refine ref_exit (x_then ?_)
    exact brkX () (weak [0, 1] ⟨rfl, rfl, trivial⟩ ⟨rfl, rfl, trivial⟩)
  refine n_then (ref_seq (ref_region ?_))
  refine s_rd (r_faddr (fo := 0) Tryd.underlying31 rfl rfl Tryd.sizeOf29 rfl) rfl ?_
  refine s_rd (r_cload Tryd.isAgg29 rfl (j := 1) rfl rfl) rfl ?_
  refine s_rd (r_len Tryd.underlying29 rfl) rfl ?_
  refine s_rd (r_faddr (fo := 0) Tryd.underlying27 rfl rfl Tryd.sizeOf3 rfl) rfl ?_
  refine s_rd (r_cload Tryd.isAgg3 rfl (j := 0) rfl rfl) rfl ?_
  refine s_rd (r_eql rfl rfl) rfl ?_
  refine mv1 rfl rfl ?_
  refine b_split (t := 27) rfl (fun _ => ?_) (fun _ => ?_)
  · refine s_on rfl rfl rfl ?_
    refine s_rd (r_faddr (fo := 1) Tryd.underlying31 rfl rfl Tryd.sizeOf29 rfl) rfl ?_
    refine s_on rfl rfl rfl ?_
    refine s_rd (r_cload Tryd.isAgg29 rfl (j := 1) rfl rfl) rfl ?_
    refine s_on rfl rfl rfl ?_
    refine s_rd (r_len Tryd.underlying29 rfl) rfl ?_
    refine s_on rfl rfl rfl ?_
    refine s_rd (r_faddr (fo := 1) Tryd.underlying27 rfl rfl Tryd.sizeOf25 rfl) rfl ?_
    refine s_on rfl rfl rfl ?_
    refine s_rd (r_cload Tryd.isAgg25 rfl (j := 0) rfl rfl) rfl ?_
    refine s_on rfl rfl rfl ?_
    refine s_rd (r_len Tryd.underlying25 rfl) rfl ?_
    refine s_on rfl rfl rfl ?_
    refine s_rd (r_eql rfl rfl) rfl ?_
    refine s_rd (r_pickT rfl rfl) rfl ?_
    refine as1 rfl rfl ?_
    refine b_let (f := bv) (t := 4) rfl fun t20 => ?_
    refine l_nil (n_then (ref_ret ?_))
    exact fin1 (.inl rfl) () [] rfl trivial rfl (rv_tmp rfl)
  refine s_off rfl rfl rfl rfl rfl ?_
  refine s_off rfl rfl rfl rfl rfl ?_
  refine s_off rfl rfl rfl rfl rfl ?_
  refine s_off rfl rfl rfl rfl rfl ?_
  refine s_off rfl rfl rfl rfl rfl ?_
  refine s_off rfl rfl rfl rfl rfl ?_
  refine s_off rfl rfl rfl rfl rfl ?_
  refine s_rd (r_pickF rfl rfl) rfl ?_
  refine as1 rfl rfl ?_
  refine l_nil (n_then (ref_ret ?_))
  exact fin1 (.inl rfl) () [] rfl trivial rfl (rv_tmp rfl)

/-! deliberation/deliberationnet.Set -/
noncomputable def net_Set_l1 (g_0 : T_api_Graph) (s_1 : (List Int)) (s10 : Int) : Option (Sum ((Sum (Bool) (Unit))) (Int)) :=
  bif decide (s10 < (s_1.length : Int)) then
    Option.bind (idxM s_1 s10) fun t13 =>
    bif decide (t13 < 0) then
      some (Sum.inl (Sum.inl false))
    else
      Option.bind (idxM s_1 s10) fun t14 =>
      bif decide (t14 ≥ g_0.N) then
        some (Sum.inl (Sum.inl false))
      else
        bif decide (s10 > 0) then
          Option.bind (idxM s_1 s10) fun t15 =>
          Option.bind (idxM s_1 (isub .i64 s10 1)) fun t16 =>
          bif decide (t15 ≤ t16) then
            some (Sum.inl (Sum.inl false))
          else
            letM (iadd .i64 s10 1) fun i18 =>
            some (Sum.inr i18)
        else
          letM (iadd .i64 s10 1) fun i19 =>
          some (Sum.inr i19)
  else
    some (Sum.inl (Sum.inr ()))

noncomputable def net_Set_m (g_0 : T_api_Graph) (s_1 : (List Int)) : Option (Bool) :=
  Option.bind (loopC (net_Set_l1 g_0 s_1) 0) (sumK (fun a : Bool => some a) fun q20 : Unit =>
    some true)

theorem net_Set_ok {g_0 : T_api_Graph} {s_1 : (List Int)} {r : Bool} (hm : net_Set_m g_0 s_1 = some r) :
    FnOk prog 71 [ag [iv .i64 g_0.N, slv rT_api_Pair g_0.L], slv (rI .i64) s_1] [] (fun (x : Unit) => [bv r]) (fun (x : Unit) => []) := by
  refine fn_ok (fn := Tryd.f71) (N := 42) (res := fun r x => [bv r]) (Ω1 := fun r x => []) Tryd.func71 rfl rfl hm rfl (fun E hM => ?_)
  unfold net_Set_m
  refine ref_seq (ref_region ?_)
  refine s_st (s_box (part_agO (ψs := [iv .i64 g_0.N, slv rT_api_Pair g_0.L]) rfl ⟨.inl iv_at, .inl slv_at, trivial⟩)) rfl (fun b1 => ?_)
  refine as1 rfl rfl ?_
  refine l_nil (n_then (ref_seq (ref_seq (ref_region ?_))))
  refine as1 rfl rfl ?_
  refine l_nil (n_then ?_)
  refine ref_loopX (f := (net_Set_l1 g_0 s_1)) (Γl := (fun (s10 : Int) (x11 : Unit) => [(1, slv (rI .i64) s_1), (2, pv (ptr b1 0)), (5, iv .i64 s10)])) (Ωl := (fun (s10 : Int) (x11 : Unit) => [oc b1 [iv .i64 g_0.N, slv rT_api_Pair g_0.L]])) (Γb := (fun (q20 : Unit) (y21 : Unit) => [])) (Ωb := (fun (q20 : Unit) (y21 : Unit) => [])) (kr := (fun a : Bool => some a)) 0 () (weak [0] ⟨rfl, rfl, rfl, trivial⟩ ⟨rfl, trivial⟩) (fun s10 x11 => ?_) (fun q20 y21 => ?_)
  · unfold net_Set_l1
    refine ref_seq (ref_seq (ref_region ?_))
    refine mv1 rfl rfl ?_
    refine mv1 rfl rfl ?_
    refine s_rd (r_len Tryd.underlying22 rfl) rfl ?_
    refine s_rd (r_lss rfl rfl) rfl ?_
    refine l_nil (n_then ?_)
    refine ref_cond rfl (fun hb12 => ?_) (fun hb12 => ?_)
    · refine ref_skip (n_then (ref_seq (ref_block (ref_seq ?_))))
      refine ref_draw [0, 1, 2, 3, 4, 5, 6, 7, 8, 9, 10, 11, 12, 13, 14, 15, 16, 17, 18, 19, 20, 21, 22, 23, 24, 25, 26, 27, 28, 29] rfl (by kernel_rfl) (fun hok => ?_)
      refine a_rd (i := 0) hok rfl (by kernel_rfl) rfl (r_move rfl) rfl ?_
      refine a_rd (i := 1) hok rfl (by kernel_rfl) rfl (r_move rfl) rfl ?_
      refine pull fun t13 h_t13 => ?_
      refine a_rd (i := 2) hok rfl (by kernel_rfl) rfl (r_index h_t13 Tryd.underlying22 el_3 rfl rfl) rfl ?_
      refine a_rd (i := 3) hok rfl (by kernel_rfl) rfl (r_load el_3 rfl) rfl ?_
      refine a_rd (i := 4) hok rfl (by kernel_rfl) rfl (r_lss rfl rfl) rfl ?_
      refine a_rd (i := 5) hok rfl (by kernel_rfl) rfl (r_move rfl) rfl ?_
      refine b_split (t := 17) rfl (fun _ => ?_) (fun _ => ?_)
      · refine a_off (i := 6) hok rfl rfl rfl rfl rfl (by kernel_rfl) rfl rfl ?_
        refine a_off (i := 7) hok rfl rfl rfl rfl rfl (by kernel_rfl) rfl rfl ?_
        refine a_off (i := 8) hok rfl rfl rfl rfl rfl (by kernel_rfl) rfl rfl ?_
        refine a_off (i := 9) hok rfl rfl rfl rfl rfl (by kernel_rfl) rfl rfl ?_
        refine a_off (i := 10) hok rfl rfl rfl rfl rfl (by kernel_rfl) rfl rfl ?_
        refine a_off (i := 11) hok rfl rfl rfl rfl rfl (by kernel_rfl) rfl rfl ?_
        refine a_off (i := 12) hok rfl rfl rfl rfl rfl (by kernel_rfl) rfl rfl ?_
        refine a_rd (i := 13) hok rfl (by kernel_rfl) rfl (r_pickT rfl rfl) rfl ?_
        refine a_rd (i := 14) hok rfl (by kernel_rfl) rfl (r_move rfl) rfl ?_
        refine a_off (i := 15) hok rfl rfl rfl rfl rfl (by kernel_rfl) rfl rfl ?_
        refine a_off (i := 16) hok rfl rfl rfl rfl rfl (by kernel_rfl) rfl rfl ?_
        refine a_off (i := 17) hok rfl rfl rfl rfl rfl (by kernel_rfl) rfl rfl ?_
        refine a_offU (i := 18) hok rfl rfl rfl (by kernel_rfl) rfl rfl ?_
        refine a_offU (i := 19) hok rfl rfl rfl (by kernel_rfl) rfl rfl ?_
        refine a_offU (i := 20) hok rfl rfl rfl (by kernel_rfl) rfl rfl ?_
        refine a_offU (i := 21) hok rfl rfl rfl (by kernel_rfl) rfl rfl ?_
        refine a_offU (i := 22) hok rfl rfl rfl (by kernel_rfl) rfl rfl ?_
        refine a_offU (i := 23) hok rfl rfl rfl (by kernel_rfl) rfl rfl ?_
        refine a_offU (i := 24) hok rfl rfl rfl (by kernel_rfl) rfl rfl ?_
        refine a_offU (i := 25) hok rfl rfl rfl (by kernel_rfl) rfl rfl ?_
        refine a_offU (i := 26) hok rfl rfl rfl (by kernel_rfl) rfl rfl ?_
        refine a_offU (i := 27) hok rfl rfl rfl (by kernel_rfl) rfl rfl ?_
        refine a_off (i := 28) hok rfl rfl rfl rfl rfl (by kernel_rfl) rfl rfl ?_
        refine a_rd (i := 29) hok rfl (by kernel_rfl) rfl (r_pickT rfl rfl) rfl ?_
        refine a_fin hok (by kernel_rfl) ?_
        refine n_then ?_
        refine ref_condT rfl rfl ?_
        refine ref_seq (ref_region ?_)
        refine as1 rfl rfl ?_
        refine l_nil (n_then (ref_ret (r_block (r_then ?_))))
        refine retX ?_
        refine r_block (r_then ?_)
        exact fin1 (.inl rfl) () [] rfl trivial rfl (rv_tmp rfl)
      refine a_rdOn (i := 6) hok rfl rfl rfl rfl (by kernel_rfl) rfl (r_move rfl) rfl ?_
      refine a_rdOn (i := 7) hok rfl rfl rfl rfl (by kernel_rfl) rfl (r_move rfl) rfl ?_
      refine pull fun t14 h_t14 => ?_
      refine a_rdOn (i := 8) hok rfl rfl rfl rfl (by kernel_rfl) rfl (r_index h_t14 Tryd.underlying22 el_3 rfl rfl) rfl ?_
      refine a_rdOn (i := 9) hok rfl rfl rfl rfl (by kernel_rfl) rfl (r_load el_3 rfl) rfl ?_
      refine a_rdOn (i := 10) hok rfl rfl rfl rfl (by kernel_rfl) rfl (r_faddr (fo := 0) Tryd.underlying27 rfl rfl Tryd.sizeOf3 rfl) rfl ?_
      refine a_rdOn (i := 11) hok rfl rfl rfl rfl (by kernel_rfl) rfl (r_cload Tryd.isAgg3 rfl (j := 0) rfl rfl) rfl ?_
      refine a_rdOn (i := 12) hok rfl rfl rfl rfl (by kernel_rfl) rfl (r_geq rfl rfl) rfl ?_
      refine a_rd (i := 13) hok rfl (by kernel_rfl) rfl (r_pickF rfl rfl) rfl ?_
      refine a_rd (i := 14) hok rfl (by kernel_rfl) rfl (r_move rfl) rfl ?_
      refine b_split (t := 26) rfl (fun _ => ?_) (fun _ => ?_)
      · refine a_off (i := 15) hok rfl rfl rfl rfl rfl (by kernel_rfl) rfl rfl ?_
        refine a_off (i := 16) hok rfl rfl rfl rfl rfl (by kernel_rfl) rfl rfl ?_
        refine a_off (i := 17) hok rfl rfl rfl rfl rfl (by kernel_rfl) rfl rfl ?_
        refine a_offU (i := 18) hok rfl rfl rfl (by kernel_rfl) rfl rfl ?_
        refine a_offU (i := 19) hok rfl rfl rfl (by kernel_rfl) rfl rfl ?_
        refine a_offU (i := 20) hok rfl rfl rfl (by kernel_rfl) rfl rfl ?_
        refine a_offU (i := 21) hok rfl rfl rfl (by kernel_rfl) rfl rfl ?_
        refine a_offU (i := 22) hok rfl rfl rfl (by kernel_rfl) rfl rfl ?_
        refine a_offU (i := 23) hok rfl rfl rfl (by kernel_rfl) rfl rfl ?_
        refine a_offU (i := 24) hok rfl rfl rfl (by kernel_rfl) rfl rfl ?_
        refine a_offU (i := 25) hok rfl rfl rfl (by kernel_rfl) rfl rfl ?_
        refine a_offU (i := 26) hok rfl rfl rfl (by kernel_rfl) rfl rfl ?_
        refine a_offU (i := 27) hok rfl rfl rfl (by kernel_rfl) rfl rfl ?_
        refine a_off (i := 28) hok rfl rfl rfl rfl rfl (by kernel_rfl) rfl rfl ?_
        refine a_rd (i := 29) hok rfl (by kernel_rfl) rfl (r_pickT rfl rfl) rfl ?_
        refine a_fin hok (by kernel_rfl) ?_
        refine n_then ?_
        refine ref_condT rfl rfl ?_
        refine ref_seq (ref_region ?_)
        refine as1 rfl rfl ?_
        refine l_nil (n_then (ref_ret (r_block (r_then ?_))))
        refine retX ?_
        refine r_block (r_then ?_)
        exact fin1 (.inl rfl) () [] rfl trivial rfl (rv_tmp rfl)
      refine a_rdOn (i := 15) hok rfl rfl rfl rfl (by kernel_rfl) rfl (r_move rfl) rfl ?_
      refine a_rdOn (i := 16) hok rfl rfl rfl rfl (by kernel_rfl) rfl (r_gtr rfl rfl) rfl ?_
      refine a_rdOn (i := 17) hok rfl rfl rfl rfl (by kernel_rfl) rfl (r_move rfl) rfl ?_
      refine b_split (t := 29) rfl (fun _ => ?_) (fun _ => ?_)
      · refine a_rdOn (i := 18) hok rfl rfl rfl rfl (by kernel_rfl) rfl (r_move rfl) rfl ?_
        refine a_rdOn (i := 19) hok rfl rfl rfl rfl (by kernel_rfl) rfl (r_move rfl) rfl ?_
        refine pull fun t15 h_t15 => ?_
        refine a_rdOn (i := 20) hok rfl rfl rfl rfl (by kernel_rfl) rfl (r_index h_t15 Tryd.underlying22 el_3 rfl rfl) rfl ?_
        refine a_rdOn (i := 21) hok rfl rfl rfl rfl (by kernel_rfl) rfl (r_load el_3 rfl) rfl ?_
        refine a_rdOn (i := 22) hok rfl rfl rfl rfl (by kernel_rfl) rfl (r_move rfl) rfl ?_
        refine a_rdOn (i := 23) hok rfl rfl rfl rfl (by kernel_rfl) rfl (r_move rfl) rfl ?_
        refine a_rdOn (i := 24) hok rfl rfl rfl rfl (by kernel_rfl) rfl (r_sub rfl rfl) rfl ?_
        refine pull fun t16 h_t16 => ?_
        refine a_rdOn (i := 25) hok rfl rfl rfl rfl (by kernel_rfl) rfl (r_index h_t16 Tryd.underlying22 el_3 rfl rfl) rfl ?_
        refine a_rdOn (i := 26) hok rfl rfl rfl rfl (by kernel_rfl) rfl (r_load el_3 rfl) rfl ?_
        refine a_rdOn (i := 27) hok rfl rfl rfl rfl (by kernel_rfl) rfl (r_leq rfl rfl) rfl ?_
        refine a_rdOn (i := 28) hok rfl rfl rfl rfl (by kernel_rfl) rfl (r_pickT rfl rfl) rfl ?_
        refine a_rd (i := 29) hok rfl (by kernel_rfl) rfl (r_pickF rfl rfl) rfl ?_
        refine a_fin hok (by kernel_rfl) ?_
        refine n_then ?_
        refine ref_cond rfl (fun hb17 => ?_) (fun hb17 => ?_)
        · refine ref_seq (ref_region ?_)
          refine as1 rfl rfl ?_
          refine l_nil (n_then (ref_ret (r_block (r_then ?_))))
          refine retX ?_
          refine r_block (r_then ?_)
          exact fin1 (.inl rfl) () [] rfl trivial rfl (rv_tmp rfl)
        refine ref_skip (n_block (n_then (ref_region ?_)))
        refine mv1 rfl rfl ?_
        refine s_rd (r_add rfl rfl) rfl ?_
        refine as1 rfl rfl ?_
        refine b_let (f := iv .i64) (t := 5) rfl fun i18 => ?_
        refine l_nil ?_
        exact goX () (weak [0] ⟨rfl, rfl, rfl, trivial⟩ ⟨rfl, trivial⟩)
      refine a_off (i := 18) hok rfl rfl rfl rfl rfl (by kernel_rfl) rfl rfl ?_
      refine a_off (i := 19) hok rfl rfl rfl rfl rfl (by kernel_rfl) rfl rfl ?_
      refine a_off (i := 20) hok rfl rfl rfl rfl rfl (by kernel_rfl) rfl rfl ?_
      refine a_off (i := 21) hok rfl rfl rfl rfl rfl (by kernel_rfl) rfl rfl ?_
      refine a_off (i := 22) hok rfl rfl rfl rfl rfl (by kernel_rfl) rfl rfl ?_
      refine a_off (i := 23) hok rfl rfl rfl rfl rfl (by kernel_rfl) rfl rfl ?_
      refine a_off (i := 24) hok rfl rfl rfl rfl rfl (by kernel_rfl) rfl rfl ?_
      refine a_off (i := 25) hok rfl rfl rfl rfl rfl (by kernel_rfl) rfl rfl ?_
      refine a_off (i := 26) hok rfl rfl rfl rfl rfl (by kernel_rfl) rfl rfl ?_
      refine a_off (i := 27) hok rfl rfl rfl rfl rfl (by kernel_rfl) rfl rfl ?_
      refine a_rdOn (i := 28) hok rfl rfl rfl rfl (by kernel_rfl) rfl (r_pickF rfl rfl) rfl ?_
      refine a_rd (i := 29) hok rfl (by kernel_rfl) rfl (r_pickF rfl rfl) rfl ?_
      refine a_fin hok (by kernel_rfl) ?_
      refine n_then ?_
      refine ref_condF rfl rfl ?_
      refine ref_skip (n_block (n_then (ref_region ?_)))
      refine mv1 rfl rfl ?_
      refine s_rd (r_add rfl rfl) rfl ?_
      refine as1 rfl rfl ?_
      refine b_let (f := iv .i64) (t := 5) rfl fun i19 => ?_
      refine l_nil ?_
      exact goX () (weak [0] ⟨rfl, rfl, rfl, trivial⟩ ⟨rfl, trivial⟩)
    refine ref_exit (x_then ?_)
    exact brkX () (weak [] trivial trivial)
  refine n_then (ref_seq (ref_region ?_))
  refine as1 rfl rfl ?_
  refine l_nil (n_then (ref_ret ?_))
  exact fin1 (.inl rfl) () [] rfl trivial rfl (rv_tmp rfl)

/-! deliberation/deliberationref23.possible -/
noncomputable def ref23_possible_l1 (l10 : List T_api_Fraction) (s19 : Int × Int) : Option (Sum (Int) (Int × Int)) :=
  bif decide (s19.2 < (l10.length : Int)) then
    Option.bind (idxM l10 s19.2) fun t22 =>
    bif t22.Num != 0 then
      Option.bind (idxM l10 s19.2) fun t23 =>
      Option.bind (idxM l10 s19.2) fun t24 =>
      bif t23.Num != t24.Den then
        letM (iadd .i64 s19.1 1) fun n26 =>
        letM (iadd .i64 s19.2 1) fun i27 =>
        some (Sum.inr (n26, i27))
      else
        letM (iadd .i64 s19.2 1) fun i28 =>
        some (Sum.inr (s19.1, i28))
    else
      letM (iadd .i64 s19.2 1) fun i29 =>
      some (Sum.inr (s19.1, i29))
  else
    some (Sum.inl s19.1)

noncomputable def ref23_possible_m (g_0 : T_api_Graph) (o_1 : T_api_Odds) (set__2 : (List Int)) (question_3 : Int) : Option (Int) :=
  Option.bind (ref10_Validate_m g_0) fun e3 =>
  bif e3 != 0 then
    some e3
  else
    Option.bind (ref23_Odds_m g_0 o_1) fun t5 =>
    bif !t5 then
      some 1
    else
      bif decide (question_3 < 1) then
        some 4
      else
        bif decide (question_3 > 4) then
          some 4
        else
          Option.bind (net_Set_m g_0 set__2) fun t8 =>
          bif !t8 then
            some 1
          else
            Option.bind (ref23_all_m o_1) fun l10 =>
            Option.bind (loopC (ref23_possible_l1 l10) (0, 0)) fun q30 : Int =>
            bif decide (g_0.N > 10) then
              some 2
            else
              bif decide (q30 > 10) then
                some 2
              else
                some 0

theorem ref23_possible_ok {g_0 : T_api_Graph} {o_1 : T_api_Odds} {set__2 : (List Int)} {question_3 : Int} {r : Int} (hm : ref23_possible_m g_0 o_1 set__2 question_3 = some r) :
    FnOk prog 48 [ag [iv .i64 g_0.N, slv rT_api_Pair g_0.L], ag [slv rT_api_Fraction o_1.Nodes, slv rT_api_Fraction o_1.Attacks], slv (rI .i64) set__2, iv .i64 question_3] [] (fun (x : Unit) => [iv .i64 r]) (fun (x : Unit) => []) := by
  refine fn_ok (fn := Tryd.f48) (N := 68) (res := fun r x => [iv .i64 r]) (Ω1 := fun r x => []) Tryd.func48 rfl rfl hm rfl (fun E hM => ?_)
  unfold ref23_possible_m
  refine ref_seq (ref_region ?_)
  refine s_st (s_box (part_agO (ψs := [iv .i64 g_0.N, slv rT_api_Pair g_0.L]) rfl ⟨.inl iv_at, .inl slv_at, trivial⟩)) rfl (fun b1 => ?_)
  refine s_st (s_box (part_agO (ψs := [slv rT_api_Fraction o_1.Nodes, slv rT_api_Fraction o_1.Attacks]) rfl ⟨.inl slv_at, .inl slv_at, trivial⟩)) rfl (fun b2 => ?_)
  refine as1 rfl rfl ?_
  refine l_nil (n_then (ref_seq (ref_seq (ref_region ?_))))
  refine s_rd (r_cloadS Tryd.isAgg27 Tryd.sizeOf27 rfl (j := 0) rfl rfl rfl) rfl ?_
  refine pull fun e3 h_e3 => ?_
  refine s_st (s_call (ψ := fun (_ : Unit) => iv .i64 e3) (args := [.tmp 13]) Tryd.call51 rfl (ref10_Validate_ok h_e3) ⟨arg rfl, trivial⟩ (fun _ _ _ _ h => h)) rfl (fun _ => ?_)
  refine as1 rfl rfl ?_
  refine l_nil (n_then (ref_seq (ref_region ?_)))
  refine mv1 rfl rfl ?_
  refine s_rd (r_neq rfl rfl) rfl ?_
  refine l_nil (n_then ?_)
  refine ref_cond rfl (fun hb4 => ?_) (fun hb4 => ?_)
  · refine ref_seq (ref_region ?_)
    refine mv1 rfl rfl ?_
    refine as1 rfl rfl ?_
    refine l_nil (n_then (ref_ret (r_then ?_)))
    exact fin1 (.inl rfl) () [] rfl trivial rfl (rv_tmp rfl)
  refine ref_skip (n_then (ref_seq (ref_seq (ref_region ?_))))
  refine s_rd (r_cloadS Tryd.isAgg27 Tryd.sizeOf27 rfl (j := 0) rfl rfl rfl) rfl ?_
  refine s_rd (r_cloadS Tryd.isAgg31 Tryd.sizeOf31 rfl (j := 1) rfl rfl rfl) rfl ?_
  refine pull fun t5 h_t5 => ?_
  refine s_st (s_call (ψ := fun (_ : Unit) => bv t5) (args := [.tmp 18, .tmp 19]) Tryd.call52 rfl (ref23_Odds_ok h_t5) ⟨arg rfl, arg rfl, trivial⟩ (fun _ _ _ _ h => h)) rfl (fun _ => ?_)
  refine s_rd (r_not rfl) rfl ?_
  refine l_nil ?_
  refine b_of (nrm [oc b1 [iv .i64 g_0.N, slv rT_api_Pair g_0.L], oc b2 [slv rT_api_Fraction o_1.Nodes, slv rT_api_Fraction o_1.Attacks]] rfl) ?_
  refine n_then ?_
  refine ref_cond rfl (fun hb6 => ?_) (fun hb6 => ?_)
  · refine ref_seq (ref_region ?_)
    refine as1 rfl rfl ?_
    refine l_nil (n_then (ref_ret (r_then ?_)))
    exact fin1 (.inl rfl) () [] rfl trivial rfl (rv_tmp rfl)
  refine ref_skip (n_then (ref_seq (ref_seq (ref_region ?_))))
  refine mv1 rfl rfl ?_
  refine s_rd (r_lss rfl rfl) rfl ?_
  refine mv1 rfl rfl ?_
  refine b_split (t := 24) rfl (fun _ => ?_) (fun _ => ?_)
  · refine s_off rfl rfl rfl rfl rfl ?_
    refine s_off rfl rfl rfl rfl rfl ?_
    refine s_rd (r_pickT rfl rfl) rfl ?_
    refine l_nil (n_then ?_)
    refine ref_condT rfl rfl ?_
    refine ref_seq (ref_region ?_)
    refine as1 rfl rfl ?_
    refine l_nil (n_then (ref_ret (r_then ?_)))
    exact fin1 (.inl rfl) () [] rfl trivial rfl (rv_tmp rfl)
  refine s_on rfl rfl rfl ?_
  refine mv1 rfl rfl ?_
  refine s_on rfl rfl rfl ?_
  refine s_rd (r_gtr rfl rfl) rfl ?_
  refine s_rd (r_pickF rfl rfl) rfl ?_
  refine l_nil (n_then ?_)
  refine ref_cond rfl (fun hb7 => ?_) (fun hb7 => ?_)
  · refine ref_seq (ref_region ?_)
    refine as1 rfl rfl ?_
    refine l_nil (n_then (ref_ret (r_then ?_)))
    exact fin1 (.inl rfl) () [] rfl trivial rfl (rv_tmp rfl)
  refine ref_skip (n_then (ref_seq (ref_seq (ref_region ?_))))
  refine s_rd (r_cloadS Tryd.isAgg27 Tryd.sizeOf27 rfl (j := 0) rfl rfl rfl) rfl ?_
  refine mv1 rfl rfl ?_
  refine pull fun t8 h_t8 => ?_
  refine s_st (s_call (ψ := fun (_ : Unit) => bv t8) (args := [.tmp 28, .tmp 29]) Tryd.call71 rfl (net_Set_ok h_t8) ⟨arg rfl, arg rfl, trivial⟩ (fun _ _ _ _ h => h)) rfl (fun _ => ?_)
  refine s_rd (r_not rfl) rfl ?_
  refine l_nil (n_then ?_)
  refine ref_cond rfl (fun hb9 => ?_) (fun hb9 => ?_)
  · refine ref_seq (ref_region ?_)
    refine as1 rfl rfl ?_
    refine l_nil (n_then (ref_ret (r_then ?_)))
    exact fin1 (.inl rfl) () [] rfl trivial rfl (rv_tmp rfl)
  refine ref_skip (n_then (ref_seq (ref_region ?_)))
  refine as1 rfl rfl ?_
  refine l_nil (n_then (ref_seq (ref_region ?_)))
  refine s_rd (r_cloadS Tryd.isAgg31 Tryd.sizeOf31 rfl (j := 1) rfl rfl rfl) rfl ?_
  refine pull fun l10 h_l10 => ?_
  refine s_st (s_call (ψ := fun (x11 : (Value × List Nat)) => pv x11.1) (args := [.tmp 32]) Tryd.call72 rfl (ref23_all_ok h_l10) ⟨arg rfl, trivial⟩ (fun _ _ _ _ h => h)) rfl (fun x11 => ?_)
  refine as1 rfl rfl ?_
  refine l_nil (n_then (ref_seq (ref_seq (ref_region ?_))))
  refine as1 rfl rfl ?_
  refine l_nil (n_then ?_)
  refine ref_loopB (f := (ref23_possible_l1 l10)) (Γl := (fun (s19 : Int × Int) (x20 : Unit) => [(4, pv (ptr b1 0)), (10, iv .i64 s19.1), (11, pv x11.1), (12, iv .i64 s19.2)])) (Ωl := (fun (s19 : Int × Int) (x20 : Unit) => [oc b1 [iv .i64 g_0.N, slv rT_api_Pair g_0.L], oa rT_api_Fraction x11.1 x11.2 l10])) (Γb := (fun (q30 : Int) (y31 : Unit) => [(4, pv (ptr b1 0)), (10, iv .i64 q30)])) (Ωb := (fun (q30 : Int) (y31 : Unit) => [oc b1 [iv .i64 g_0.N, slv rT_api_Pair g_0.L]])) (0, 0) () (weak [0, 2] ⟨rfl, rfl, rfl, rfl, trivial⟩ ⟨rfl, rfl, trivial⟩) (fun s19 x20 => ?_) (fun q30 y31 => ?_)
  · unfold ref23_possible_l1
    refine ref_seq (ref_seq (ref_region ?_))
    refine mv1 rfl rfl ?_
    refine mv1 rfl rfl ?_
    refine s_rd (r_olen Tryd.underlying29 rfl (j := 1) rfl) rfl ?_
    refine s_rd (r_lss rfl rfl) rfl ?_
    refine l_nil (n_then ?_)
    refine ref_cond rfl (fun hb21 => ?_) (fun hb21 => ?_)
    · refine ref_skip (n_then (ref_seq (ref_block (ref_seq ?_))))
      refine ref_draw [0, 1, 2, 3, 4, 5, 6, 7, 8, 9, 10, 11, 12, 13, 14, 15, 16, 17, 18] rfl (by kernel_rfl) (fun hok => ?_)
      refine a_rd (i := 0) hok rfl (by kernel_rfl) rfl (r_move rfl) rfl ?_
      refine a_rd (i := 1) hok rfl (by kernel_rfl) rfl (r_move rfl) rfl ?_
      refine pull fun t22 h_t22 => ?_
      refine a_rd (i := 2) hok rfl (by kernel_rfl) rfl (r_oindex h_t22 Tryd.underlying29 el_36 rfl (j := 1) rfl rfl) rfl ?_
      refine a_rd (i := 3) hok rfl (by kernel_rfl) rfl (r_foea (ρ := rT_api_Fraction) (fo := 0) h_t22 Tryd.underlying36 rfl rfl Tryd.sizeOf3 rfl (j := 1) rfl) rfl ?_
      refine a_rd (i := 4) hok rfl (by kernel_rfl) rfl (r_foload (ρ := rT_api_Fraction) (y := t22) (ρ' := (rI .i64)) (z := t22.Num) h_t22 el_3 rfl (j := 1) rfl rfl rfl) rfl ?_
      refine a_rd (i := 5) hok rfl (by kernel_rfl) rfl (r_neq rfl rfl) rfl ?_
      refine a_rd (i := 6) hok rfl (by kernel_rfl) rfl (r_move rfl) rfl ?_
      refine b_split (t := 46) rfl (fun _ => ?_) (fun _ => ?_)
      · refine a_rdOn (i := 7) hok rfl rfl rfl rfl (by kernel_rfl) rfl (r_move rfl) rfl ?_
        refine a_rdOn (i := 8) hok rfl rfl rfl rfl (by kernel_rfl) rfl (r_move rfl) rfl ?_
        refine pull fun t23 h_t23 => ?_
        refine a_rdOn (i := 9) hok rfl rfl rfl rfl (by kernel_rfl) rfl (r_oindex h_t23 Tryd.underlying29 el_36 rfl (j := 1) rfl rfl) rfl ?_
        refine a_rdOn (i := 10) hok rfl rfl rfl rfl (by kernel_rfl) rfl (r_foea (ρ := rT_api_Fraction) (fo := 0) h_t23 Tryd.underlying36 rfl rfl Tryd.sizeOf3 rfl (j := 1) rfl) rfl ?_
        refine a_rdOn (i := 11) hok rfl rfl rfl rfl (by kernel_rfl) rfl (r_foload (ρ := rT_api_Fraction) (y := t23) (ρ' := (rI .i64)) (z := t23.Num) h_t23 el_3 rfl (j := 1) rfl rfl rfl) rfl ?_
        refine a_rdOn (i := 12) hok rfl rfl rfl rfl (by kernel_rfl) rfl (r_move rfl) rfl ?_
        refine a_rdOn (i := 13) hok rfl rfl rfl rfl (by kernel_rfl) rfl (r_move rfl) rfl ?_
        refine pull fun t24 h_t24 => ?_
        refine a_rdOn (i := 14) hok rfl rfl rfl rfl (by kernel_rfl) rfl (r_oindex h_t24 Tryd.underlying29 el_36 rfl (j := 1) rfl rfl) rfl ?_
        refine a_rdOn (i := 15) hok rfl rfl rfl rfl (by kernel_rfl) rfl (r_foea (ρ := rT_api_Fraction) (fo := 1) h_t24 Tryd.underlying36 rfl rfl Tryd.sizeOf3 rfl (j := 1) rfl) rfl ?_
        refine a_rdOn (i := 16) hok rfl rfl rfl rfl (by kernel_rfl) rfl (r_foload (ρ := rT_api_Fraction) (y := t24) (ρ' := (rI .i64)) (z := t24.Den) h_t24 el_3 rfl (j := 1) rfl rfl rfl) rfl ?_
        refine a_rdOn (i := 17) hok rfl rfl rfl rfl (by kernel_rfl) rfl (r_neq rfl rfl) rfl ?_
        refine a_rd (i := 18) hok rfl (by kernel_rfl) rfl (r_pickT rfl rfl) rfl ?_
        refine a_fin hok (by kernel_rfl) ?_
        refine n_then ?_
        refine ref_cond rfl (fun hb25 => ?_) (fun hb25 => ?_)
        · refine ref_region ?_
          refine mv1 rfl rfl ?_
          refine s_rd (r_add rfl rfl) rfl ?_
          refine as1 rfl rfl ?_
          refine b_let (f := iv .i64) (t := 10) rfl fun n26 => ?_
          refine l_nil (n_block (n_then (ref_region ?_)))
          refine mv1 rfl rfl ?_
          refine s_rd (r_add rfl rfl) rfl ?_
          refine as1 rfl rfl ?_
          refine b_let (f := iv .i64) (t := 12) rfl fun i27 => ?_
          refine l_nil ?_
          exact goB () (weak [0, 1] ⟨rfl, rfl, rfl, rfl, trivial⟩ ⟨rfl, rfl, trivial⟩)
        refine ref_skip (n_block (n_then (ref_region ?_)))
        refine mv1 rfl rfl ?_
        refine s_rd (r_add rfl rfl) rfl ?_
        refine as1 rfl rfl ?_
        refine b_let (f := iv .i64) (t := 12) rfl fun i28 => ?_
        refine l_nil ?_
        exact goB () (weak [0, 1] ⟨rfl, rfl, rfl, rfl, trivial⟩ ⟨rfl, rfl, trivial⟩)
      refine a_off (i := 7) hok rfl rfl rfl rfl rfl (by kernel_rfl) rfl rfl ?_
      refine a_off (i := 8) hok rfl rfl rfl rfl rfl (by kernel_rfl) rfl rfl ?_
      refine a_off (i := 9) hok rfl rfl rfl rfl rfl (by kernel_rfl) rfl rfl ?_
      refine a_off (i := 10) hok rfl rfl rfl rfl rfl (by kernel_rfl) rfl rfl ?_
      refine a_off (i := 11) hok rfl rfl rfl rfl rfl (by kernel_rfl) rfl rfl ?_
      refine a_off (i := 12) hok rfl rfl rfl rfl rfl (by kernel_rfl) rfl rfl ?_
      refine a_off (i := 13) hok rfl rfl rfl rfl rfl (by kernel_rfl) rfl rfl ?_
      refine a_off (i := 14) hok rfl rfl rfl rfl rfl (by kernel_rfl) rfl rfl ?_
      refine a_off (i := 15) hok rfl rfl rfl rfl rfl (by kernel_rfl) rfl rfl ?_
      refine a_off (i := 16) hok rfl rfl rfl rfl rfl (by kernel_rfl) rfl rfl ?_
      refine a_off (i := 17) hok rfl rfl rfl rfl rfl (by kernel_rfl) rfl rfl ?_
      refine a_rd (i := 18) hok rfl (by kernel_rfl) rfl (r_pickF rfl rfl) rfl ?_
      refine a_fin hok (by kernel_rfl) ?_
      refine n_then ?_
      refine ref_condF rfl rfl ?_
      refine ref_skip (n_block (n_then (ref_region ?_)))
      refine mv1 rfl rfl ?_
      refine s_rd (r_add rfl rfl) rfl ?_
      refine as1 rfl rfl ?_
      refine b_let (f := iv .i64) (t := 12) rfl fun i29 => ?_
      refine l_nil ?_
      exact goB () (weak [0, 1] ⟨rfl, rfl, rfl, rfl, trivial⟩ ⟨rfl, rfl, trivial⟩)
    refine ref_exit (x_then ?_)
    exact brkB () (weak [0] ⟨rfl, rfl, trivial⟩ ⟨rfl, trivial⟩)
  refine n_then (ref_seq (ref_seq (ref_region ?_)))
  refine s_rd (r_faddr (fo := 0) Tryd.underlying27 rfl rfl Tryd.sizeOf3 rfl) rfl ?_
  refine s_rd (r_cload Tryd.isAgg3 rfl (j := 0) rfl rfl) rfl ?_
  refine s_rd (r_gtr rfl rfl) rfl ?_
  refine mv1 rfl rfl ?_
  refine b_split (t := 64) rfl (fun _ => ?_) (fun _ => ?_)
  · refine s_off rfl rfl rfl rfl rfl ?_
    refine s_off rfl rfl rfl rfl rfl ?_
    refine s_rd (r_pickT rfl rfl) rfl ?_
    refine l_nil (n_then ?_)
    refine ref_condT rfl rfl ?_
    refine ref_seq (ref_region ?_)
    refine as1 rfl rfl ?_
    refine l_nil (n_then (ref_ret (r_then ?_)))
    exact fin1 (.inl rfl) () [] rfl trivial rfl (rv_tmp rfl)
  refine s_on rfl rfl rfl ?_
  refine mv1 rfl rfl ?_
  refine s_on rfl rfl rfl ?_
  refine s_rd (r_gtr rfl rfl) rfl ?_
  refine s_rd (r_pickF rfl rfl) rfl ?_
  refine l_nil (n_then ?_)
  refine ref_cond rfl (fun hb32 => ?_) (fun hb32 => ?_)
  · refine ref_seq (ref_region ?_)
    refine as1 rfl rfl ?_
    refine l_nil (n_then (ref_ret (r_then ?_)))
    exact fin1 (.inl rfl) () [] rfl trivial rfl (rv_tmp rfl)
  refine ref_skip (n_then (ref_seq (ref_region ?_)))
  refine as1 rfl rfl ?_
  refine l_nil (n_then (ref_ret ?_))
  exact fin1 (.inl rfl) () [] rfl trivial rfl (rv_tmp rfl)

/-! deliberation/deliberationref22.gcd -/
noncomputable def ref22_gcd_l1  (s5 : Int × Int) : Option (Sum (Int) (Int × Int)) :=
  bif s5.2 != 0 then
    Option.bind (iremM .i64 s5.1 s5.2) fun b8 =>
    some (Sum.inr (s5.2, b8))
  else
    some (Sum.inl s5.1)

noncomputable def ref22_gcd_m (a__0 : Int) (b_1 : Int) : Option (Int) :=
  Option.bind (loopC (ref22_gcd_l1) (a__0, b_1)) fun q9 : Int =>
  some q9

theorem ref22_gcd_ok {a__0 : Int} {b_1 : Int} {r : Int} (hm : ref22_gcd_m a__0 b_1 = some r) :
    FnOk prog 34 [iv .i64 a__0, iv .i64 b_1] [] (fun (x : Unit) => [iv .i64 r]) (fun (x : Unit) => []) := by
  refine fn_ok (fn := Tryd.f34) (N := 12) (res := fun r x => [iv .i64 r]) (Ω1 := fun r x => []) Tryd.func34 rfl rfl hm rfl (fun E hM => ?_)
  unfold ref22_gcd_m
  refine ref_seq (ref_region ?_)
  refine as1 rfl rfl ?_
  refine l_nil (n_then (ref_seq ?_))
  refine ref_loopB (f := (ref22_gcd_l1)) (Γl := (fun (s5 : Int × Int) (x6 : Unit) => [(0, iv .i64 s5.1), (1, iv .i64 s5.2)])) (Ωl := (fun (s5 : Int × Int) (x6 : Unit) => [])) (Γb := (fun (q9 : Int) (y10 : Unit) => [(0, iv .i64 q9)])) (Ωb := (fun (q9 : Int) (y10 : Unit) => [])) (a__0, b_1) () (weak [] ⟨rfl, rfl, trivial⟩ trivial) (fun s5 x6 => ?_) (fun q9 y10 => ?_)
  · unfold ref22_gcd_l1
    refine ref_seq (ref_seq (ref_region ?_))
    refine mv1 rfl rfl ?_
    refine s_rd (r_neq rfl rfl) rfl ?_
    refine l_nil (n_then ?_)
    refine ref_cond rfl (fun hb7 => ?_) (fun hb7 => ?_)
    · refine ref_skip (n_then (ref_block ?_))
      refine ref_draw [0, 1, 2, 3] rfl (by kernel_rfl) (fun hok => ?_)
      refine a_rd (i := 0) hok rfl (by kernel_rfl) rfl (r_move rfl) rfl ?_
      refine a_rd (i := 1) hok rfl (by kernel_rfl) rfl (r_move rfl) rfl ?_
      refine a_rd (i := 2) hok rfl (by kernel_rfl) rfl (r_move rfl) rfl ?_
      refine pull fun b8 h_b8 => ?_
      refine a_rd (i := 3) hok rfl (by kernel_rfl) rfl (r_remM h_b8 rfl rfl) rfl ?_
      refine a_next hok 4 [] (by kernel_rfl) ?_ trivial
      refine a_st (i := 4) hok rfl rfl (St.ofRd (r_assign rfl)) (by intro _ h; cases h; rfl) (fun _ => ⟨trivial, ⟨trivial, ⟨trivial, ⟨trivial, trivial⟩⟩⟩⟩) (fun _ => ?_)
      refine a_next hok 5 [] (by kernel_rfl) ?_ trivial
      refine a_st (i := 5) hok rfl rfl (St.ofRd (r_assign rfl)) (by intro _ h; cases h; rfl) (fun _ => ⟨trivial, ⟨trivial, ⟨trivial, ⟨trivial, trivial⟩⟩⟩⟩) (fun _ => ?_)
      refine a_fin hok (by kernel_rfl) ?_
      refine n_block ?_
      exact goB () (weak [] ⟨rfl, rfl, trivial⟩ trivial)
    refine ref_exit (x_then ?_)
    exact brkB () (weak [] ⟨rfl, trivial⟩ trivial)
  refine n_then (ref_seq (ref_region ?_))
  refine mv1 rfl rfl ?_
  refine as1 rfl rfl ?_
  refine l_nil (n_then (ref_ret ?_))
  exact fin1 (.inl rfl) () [] rfl trivial rfl (rv_tmp rfl)

/-! deliberation/deliberationref22.Reduced -/
noncomputable def ref22_Reduced_m (n_0 : Int) (d_1 : Int) : Option (T_api_Fraction) :=
  Option.bind (ref22_gcd_m n_0 d_1) fun k2 =>
  Option.bind (iquoM .i64 n_0 k2) fun t3 =>
  Option.bind (iquoM .i64 d_1 k2) fun t4 =>
  some (T_api_Fraction.mk t3 t4)

theorem ref22_Reduced_ok {n_0 : Int} {d_1 : Int} {r : T_api_Fraction} (hm : ref22_Reduced_m n_0 d_1 = some r) :
    FnOk prog 15 [iv .i64 n_0, iv .i64 d_1] [] (fun (x : Unit) => [ag [iv .i64 r.Num, iv .i64 r.Den]]) (fun (x : Unit) => []) := by
  refine fn_ok (fn := Tryd.f15) (N := 16) (res := fun r x => [ag [iv .i64 r.Num, iv .i64 r.Den]]) (Ω1 := fun r x => []) Tryd.func15 rfl rfl hm rfl (fun E hM => ?_)
  unfold ref22_Reduced_m
  refine ref_seq (ref_region ?_)
  refine s_st (s_alloc zt_36) rfl (fun b1 => ?_)
  refine l_nil (n_then (ref_seq (ref_region ?_)))
  refine mv1 rfl rfl ?_
  refine mv1 rfl rfl ?_
  refine pull fun k2 h_k2 => ?_
  refine s_st (s_call (ψ := fun (_ : Unit) => iv .i64 k2) (args := [.tmp 6, .tmp 7]) Tryd.call34 rfl (ref22_gcd_ok h_k2) ⟨arg rfl, arg rfl, trivial⟩ (fun _ _ _ _ h => h)) rfl (fun _ => ?_)
  refine as1 rfl rfl ?_
  refine l_nil (n_then (ref_seq ?_))
  refine ref_draw [0, 1, 2, 3, 4, 5, 6] rfl (by kernel_rfl) (fun hok => ?_)
  refine a_rd (i := 0) hok rfl (by kernel_rfl) rfl (r_move rfl) rfl ?_
  refine a_rd (i := 1) hok rfl (by kernel_rfl) rfl (r_move rfl) rfl ?_
  refine pull fun t3 h_t3 => ?_
  refine a_rd (i := 2) hok rfl (by kernel_rfl) rfl (r_quoM h_t3 rfl rfl) rfl ?_
  refine a_rd (i := 3) hok rfl (by kernel_rfl) rfl (r_move rfl) rfl ?_
  refine a_rd (i := 4) hok rfl (by kernel_rfl) rfl (r_move rfl) rfl ?_
  refine pull fun t4 h_t4 => ?_
  refine a_rd (i := 5) hok rfl (by kernel_rfl) rfl (r_quoM h_t4 rfl rfl) rfl ?_
  refine a_rd (i := 6) hok rfl (by kernel_rfl) rfl (r_build (ps := [(0, .tmp 11), (1, .tmp 14)]) (rs := [(0, [iv .i64 t3]), (1, [iv .i64 t4])]) st_36 zs_36 ⟨rfl, (part_at rfl iv_at), ⟨rfl, (part_at rfl iv_at), trivial⟩⟩ rfl rfl) rfl ?_
  refine a_next hok 7 [] (by kernel_rfl) ?_ trivial
  refine a_st (i := 7) hok rfl rfl (s_cstore (out := [iv .i64 t3, iv .i64 t4]) Tryd.sizeOf36 rfl (j := 0) rfl (part_agO (ψs := [iv .i64 t3, iv .i64 t4]) rfl ⟨.inl iv_at, .inl iv_at, trivial⟩) rfl rfl rfl) (by intro _ h; cases h) (fun _ => ⟨trivial, ⟨trivial, ⟨trivial, ⟨trivial, ⟨trivial, ⟨trivial, ⟨trivial, trivial⟩⟩⟩⟩⟩⟩⟩) (fun _ => ?_)
  refine a_fin hok (by kernel_rfl) ?_
  refine n_then (ref_ret ?_)
  exact fin1 (.inl rfl) () [] rfl trivial rfl (rv_cell rfl (j := 0) rfl Tryd.isAgg36 Tryd.sizeOf36 rfl rfl)

/-! deliberation/deliberationref23.worlds -/
noncomputable def ref23_worlds_l2 (g_0 : T_api_Graph) (s118 : (List T_deliberationref23_world) × Int × Int) (t124 : T_api_Fraction) (s195 : Int × (List T_deliberationref23_world)) : Option (Sum ((List T_deliberationref23_world)) (Int × (List T_deliberationref23_world))) :=
  bif decide (s195.1 < (s118.1.length : Int)) then
    Option.bind (idxM s118.1 s195.1) fun t198 =>
    joinM (fun j214 : (List T_deliberationref23_world) =>
        bif decide (t124.Num < t124.Den) then
          bif decide (s118.2.2 < g_0.N) then
            Option.bind (appM 8 [] t198.gone) fun t221 =>
            Option.bind (appM 8 t221 [s118.2.2]) fun t223 =>
            Option.bind (appM 64 j214 [(T_deliberationref23_world.mk t198.g t223 (imul .i64 t198.num (isub .i64 t124.Den t124.Num)))]) fun next225 =>
            some (Sum.inr (iadd .i64 s195.1 1, next225))
          else
            Option.bind (appM 64 j214 [(T_deliberationref23_world.mk t198.g t198.gone (imul .i64 t198.num (isub .i64 t124.Den t124.Num)))]) fun next227 =>
            some (Sum.inr (iadd .i64 s195.1 1, next227))
        else
          some (Sum.inr (iadd .i64 s195.1 1, j214))) fun k216 =>
    bif decide (t124.Num > 0) then
      bif decide (s118.2.2 ≥ g_0.N) then
        Option.bind (appM 16 [] t198.g.L) fun t205 =>
        Option.bind (idxM g_0.L (isub .i64 s118.2.2 g_0.N)) fun t207 =>
        Option.bind (appM 16 t205 [t207]) fun t208 =>
        Option.bind (appM 64 s195.2 [(T_deliberationref23_world.mk (T_api_Graph.mk g_0.N t208) t198.gone (imul .i64 t198.num t124.Num))]) fun next210 =>
        k216 next210
      else
        Option.bind (appM 64 s195.2 [(T_deliberationref23_world.mk t198.g t198.gone (imul .i64 t198.num t124.Num))]) fun next212 =>
        k216 next212
    else
      k216 s195.2
  else
    some (Sum.inl s195.2)

noncomputable def ref23_worlds_l1 (g_0 : T_api_Graph) (l3 : List T_api_Fraction) (s118 : (List T_deliberationref23_world) × Int × Int) : Option (Sum ((List T_deliberationref23_world) × Int) ((List T_deliberationref23_world) × Int × Int)) :=
  bif decide (s118.2.2 < (l3.length : Int)) then
    Option.bind (idxM l3 s118.2.2) fun t122 =>
    Option.bind (idxM l3 s118.2.2) fun t123 =>
    Option.bind (ref22_Reduced_m t122.Num t123.Den) fun t124 =>
    letM (imul .i64 s118.2.1 t124.Den) fun den126 =>
    Option.bind (loopC (ref23_worlds_l2 g_0 s118 t124) (0, [])) fun q229 : (List T_deliberationref23_world) =>
    letM (iadd .i64 s118.2.2 1) fun i231 =>
    some (Sum.inr (q229, den126, i231))
  else
    some (Sum.inl (s118.1, s118.2.1))

noncomputable def ref23_worlds_m (g_0 : T_api_Graph) (o_1 : T_api_Odds) : Option (List T_deliberationref23_world × Int) :=
  Option.bind (ref23_all_m o_1) fun l3 =>
  Option.bind (loopC (ref23_worlds_l1 g_0 l3) ([(T_deliberationref23_world.mk (T_api_Graph.mk g_0.N []) [] 1)], 1, 0)) fun q232 : (List T_deliberationref23_world) × Int =>
  some (q232.1, q232.2)

theorem ref23_worlds_ok {g_0 : T_api_Graph} {o_1 : T_api_Odds} {r : List T_deliberationref23_world × Int} (hm : ref23_worlds_m g_0 o_1 = some r) :
    FnOk prog 49 [ag [iv .i64 g_0.N, slv rT_api_Pair g_0.L], ag [slv rT_api_Fraction o_1.Nodes, slv rT_api_Fraction o_1.Attacks]] [] (fun (x : Unit) => [slv rT_deliberationref23_world r.1, iv .i64 r.2]) (fun (x : Unit) => []) := by
  refine fn_ok (fn := Tryd.f49) (N := 128) (res := fun r x => [slv rT_deliberationref23_world r.1, iv .i64 r.2]) (Ω1 := fun r x => []) Tryd.func49 rfl rfl hm rfl (fun E hM => ?_)
  unfold ref23_worlds_m
  refine ref_seq (ref_region ?_)
  refine s_st (s_box (part_agO (ψs := [iv .i64 g_0.N, slv rT_api_Pair g_0.L]) rfl ⟨.inl iv_at, .inl slv_at, trivial⟩)) rfl (fun b1 => ?_)
  refine s_st (s_box (part_agO (ψs := [slv rT_api_Fraction o_1.Nodes, slv rT_api_Fraction o_1.Attacks]) rfl ⟨.inl slv_at, .inl slv_at, trivial⟩)) rfl (fun b2 => ?_)
  refine as1 rfl rfl ?_
  refine as1 rfl rfl ?_
  refine l_nil (n_then (ref_seq (ref_region ?_)))
  refine s_rd (r_faddr (fo := 0) Tryd.underlying27 rfl rfl Tryd.sizeOf3 rfl) rfl ?_
  refine s_rd (r_cload Tryd.isAgg3 rfl (j := 0) rfl rfl) rfl ?_
  refine s_rd (r_build (ps := [(0, .tmp 17)]) (rs := [(0, [iv .i64 g_0.N])]) st_27 zs_27 ⟨rfl, (part_at rfl iv_at), trivial⟩ rfl rfl) rfl ?_
  refine s_rd (r_build (ps := [(0, .tmp 18), (2, .const (.int .i64 (1)))]) (rs := [(0, [iv .i64 g_0.N, pv (.slice none 0 0)]), (2, [iv .i64 1])]) st_89 zs_89 ⟨rfl, (part_agO (ψs := [iv .i64 g_0.N, pv (.slice none 0 0)]) rfl ⟨.inl iv_at, .inl (pv_at rfl), trivial⟩), ⟨rfl, (part_at rfl iv_at), trivial⟩⟩ rfl rfl) rfl ?_
  refine b_of (nilG (rI .i64) [(19, ag [iv .i64 g_0.N, pv (.slice none 0 0), slv (rI .i64) [], iv .i64 1])] [] ⟨⟨_, rfl, .inr ⟨_, _, rfl, rfl, ⟨.inl rfl, .inl rfl, .inr ⟨rfl, rfl⟩, .inl rfl, trivial⟩⟩⟩, trivial⟩ trivial) ?_
  refine b_of (nilG rT_api_Pair [(19, ag [iv .i64 g_0.N, slv rT_api_Pair [], slv (rI .i64) [], iv .i64 1])] [] ⟨⟨_, rfl, .inr ⟨_, _, rfl, rfl, ⟨.inl rfl, .inr ⟨rfl, rfl⟩, .inl rfl, .inl rfl, trivial⟩⟩⟩, trivial⟩ trivial) ?_
  refine s_st (s_bslice (xs := [.tmp 19]) (ds := [(T_deliberationref23_world.mk (T_api_Graph.mk g_0.N []) [] 1)]) Tryd.underlying85 el_89 rfl (Nat.le_of_ble_eq_true rfl) ⟨(part_agO (ψs := [iv .i64 g_0.N, slv rT_api_Pair [], slv (rI .i64) [], iv .i64 1]) rfl ⟨.inl iv_at, .inl slv_at, .inl slv_at, .inl iv_at, trivial⟩), trivial⟩) rfl (fun _ => ?_)
  refine as1 rfl rfl ?_
  refine l_nil (n_then (ref_seq (ref_region ?_)))
  refine as1 rfl rfl ?_
  refine l_nil (n_then (ref_seq (ref_region ?_)))
  refine s_rd (r_cloadS Tryd.isAgg31 Tryd.sizeOf31 rfl (j := 1) rfl rfl rfl) rfl ?_
  refine pull fun l3 h_l3 => ?_
  refine s_st (s_call (ψ := fun (x4 : (Value × List Nat)) => pv x4.1) (args := [.tmp 21]) Tryd.call72 rfl (ref23_all_ok h_l3) ⟨arg rfl, trivial⟩ (fun _ _ _ _ h => h)) rfl (fun x4 => ?_)
  refine as1 rfl rfl ?_
  refine l_nil ?_
  refine b_of (nrm [oc b1 [iv .i64 g_0.N, slv rT_api_Pair g_0.L], oc b2 [slv rT_api_Fraction o_1.Nodes, slv rT_api_Fraction o_1.Attacks], oa rT_api_Fraction x4.1 x4.2 l3] rfl) ?_
  refine n_then (ref_seq (ref_seq (ref_region ?_)))
  refine as1 rfl rfl ?_
  refine l_nil (n_then ?_)
  refine ref_loopB (f := (ref23_worlds_l1 g_0 l3)) (Γl := (fun (s118 : (List T_deliberationref23_world) × Int × Int) (x119 : Unit) => [(2, pv (ptr b1 0)), (6, slv rT_deliberationref23_world s118.1), (7, iv .i64 s118.2.1), (8, pv x4.1), (9, iv .i64 s118.2.2)])) (Ωl := (fun (s118 : (List T_deliberationref23_world) × Int × Int) (x119 : Unit) => [oc b1 [iv .i64 g_0.N, slv rT_api_Pair g_0.L], oa rT_api_Fraction x4.1 x4.2 l3])) (Γb := (fun (q232 : (List T_deliberationref23_world) × Int) (y233 : Unit) => [(6, slv rT_deliberationref23_world q232.1), (7, iv .i64 q232.2)])) (Ωb := (fun (q232 : (List T_deliberationref23_world) × Int) (y233 : Unit) => [])) ([(T_deliberationref23_world.mk (T_api_Graph.mk g_0.N []) [] 1)], 1, 0) () (weak [0, 2] ⟨rfl, rfl, rfl, rfl, rfl, trivial⟩ ⟨rfl, rfl, trivial⟩) (fun s118 x119 => ?_) (fun q232 y233 => ?_)
  · unfold ref23_worlds_l1
    refine ref_seq (ref_seq (ref_region ?_))
    refine mv1 rfl rfl ?_
    refine mv1 rfl rfl ?_
    refine s_rd (r_olen Tryd.underlying29 rfl (j := 1) rfl) rfl ?_
    refine s_rd (r_lss rfl rfl) rfl ?_
    refine l_nil (n_then ?_)
    refine ref_cond rfl (fun hb120 => ?_) (fun hb120 => ?_)
    · refine ref_skip (n_then (ref_seq (ref_block (ref_seq ?_))))
      refine pull fun t122 h_t122 => ?_
      refine pull fun t123 h_t123 => ?_
      refine pull fun t124 h_t124 => ?_
      refine ref_drawI 1 [⟨[], [], [], [], [], fun us u => pv x4.1, fun us u => []⟩, ⟨[], [], [], [], [], fun us u => iv .i64 s118.2.2, fun us u => []⟩, ⟨[0, 1], [], [], [1], [], fun us u => pv (elA x4.1 (rT_api_Fraction).size s118.2.2), fun us u => []⟩, ⟨[0, 1, 2], [], [], [1], [], fun us u => pv (elF x4.1 (rT_api_Fraction).size s118.2.2 0), fun us u => []⟩, ⟨[0, 1, 2, 3], [], [], [1], [], fun us u => iv .i64 t122.Num, fun us u => []⟩, ⟨[], [], [], [], [], fun us u => pv x4.1, fun us u => []⟩, ⟨[], [], [], [], [], fun us u => iv .i64 s118.2.2, fun us u => []⟩, ⟨[5, 6], [], [], [1], [], fun us u => pv (elA x4.1 (rT_api_Fraction).size s118.2.2), fun us u => []⟩, ⟨[5, 6, 7], [], [], [1], [], fun us u => pv (elF x4.1 (rT_api_Fraction).size s118.2.2 1), fun us u => []⟩, ⟨[5, 6, 7, 8], [], [], [1], [], fun us u => iv .i64 t123.Den, fun us u => []⟩, ⟨[0, 1, 2, 3, 4, 5, 6, 7, 8, 9], [], [], [], [], fun us u => ag [iv .i64 t124.Num, iv .i64 t124.Den], fun us u => []⟩, ⟨[], [], [2], [2], [], fun us u => pv (ptr u.Nn 0), fun us u => [oc u.Nn [iv .i64 0, iv .i64 0]]⟩, ⟨[0, 1, 2, 3, 4, 5, 6, 7, 8, 9, 10, 11], [11], [2], [2], [2], fun us u => pv undef, fun us u => [oc (us.getD 0 .none).Nn [iv .i64 t124.Num, iv .i64 t124.Den]]⟩] (fun χ121 => [(2, pv (ptr b1 0)), (6, slv rT_deliberationref23_world s118.1), (7, iv .i64 s118.2.1), (8, pv x4.1), (9, iv .i64 s118.2.2), (10, pv (ptr (χ121 11).Nn 0))]) (fun χ121 => [oc b1 [iv .i64 g_0.N, slv rT_api_Pair g_0.L], oa rT_api_Fraction x4.1 x4.2 l3, oc (χ121 11).Nn [iv .i64 t124.Num, iv .i64 t124.Den]]) rfl (by kernel_rfl) ⟨fun χ121 Ω _ => St.toR (r_move rfl) (fun _ => rfl) (fun _ => rfl), (by intro _ h; cases h; rfl), ⟨fun χ121 Ω _ => St.toR (r_move rfl) (fun _ => rfl) (fun _ => rfl), (by intro _ h; cases h; rfl), ⟨fun χ121 Ω ⟨h1, _⟩ => St.toR (r_oindex h_t122 Tryd.underlying29 el_36 rfl (j := 1) h1 rfl) (fun _ => rfl) (fun _ => rfl), (by intro _ h; cases h; rfl), ⟨fun χ121 Ω ⟨h1, _⟩ => St.toR (r_foea (ρ := rT_api_Fraction) (fo := 0) h_t122 Tryd.underlying36 rfl rfl Tryd.sizeOf3 rfl (j := 1) h1) (fun _ => rfl) (fun _ => rfl), (by intro _ h; cases h; rfl), ⟨fun χ121 Ω ⟨h1, _⟩ => St.toR (r_foload (ρ := rT_api_Fraction) (y := t122) (ρ' := (rI .i64)) (z := t122.Num) h_t122 el_3 rfl (j := 1) h1 rfl rfl) (fun _ => rfl) (fun _ => rfl), (by intro _ h; cases h; rfl), ⟨fun χ121 Ω _ => St.toR (r_move rfl) (fun _ => rfl) (fun _ => rfl), (by intro _ h; cases h; rfl), ⟨fun χ121 Ω _ => St.toR (r_move rfl) (fun _ => rfl) (fun _ => rfl), (by intro _ h; cases h; rfl), ⟨fun χ121 Ω ⟨h1, _⟩ => St.toR (r_oindex h_t123 Tryd.underlying29 el_36 rfl (j := 1) h1 rfl) (fun _ => rfl) (fun _ => rfl), (by intro _ h; cases h; rfl), ⟨fun χ121 Ω ⟨h1, _⟩ => St.toR (r_foea (ρ := rT_api_Fraction) (fo := 1) h_t123 Tryd.underlying36 rfl rfl Tryd.sizeOf3 rfl (j := 1) h1) (fun _ => rfl) (fun _ => rfl), (by intro _ h; cases h; rfl), ⟨fun χ121 Ω ⟨h1, _⟩ => St.toR (r_foload (ρ := rT_api_Fraction) (y := t123) (ρ' := (rI .i64)) (z := t123.Den) h_t123 el_3 rfl (j := 1) h1 rfl rfl) (fun _ => rfl) (fun _ => rfl), (by intro _ h; cases h; rfl), ⟨fun χ121 Ω _ => St.to XU.U XU.hU (St.placeL [] (s_call (ψ := fun (_ : Unit) => ag [iv .i64 t124.Num, iv .i64 t124.Den]) (args := [.tmp 33, .tmp 38]) Tryd.call15 rfl (ref22_Reduced_ok h_t124) ⟨arg rfl, arg rfl, trivial⟩ (fun _ _ _ _ h => h)) (fun _ => rfl) (fun _ => trivial)) (fun _ => rfl) (fun _ => rfl), (by intro _ h; cases h; rfl), ⟨fun χ121 Ω ⟨h2, _⟩ => St.to XU.Nn XU.hN (St.placeL (os := fun _ => [_]) [2] (s_alloc zt_36) (fun _ => rfl) (fun _ => ⟨h2, rfl, trivial⟩)) (fun _ => rfl) (fun _ => rfl), (by intro _ h; cases h; rfl), ⟨fun χ121 Ω ⟨h2, _⟩ => St.to XU.U XU.hU (s_cstore (out := [iv .i64 t124.Num, iv .i64 t124.Den]) Tryd.sizeOf36 rfl (j := 2) h2 (part_agO (ψs := [iv .i64 t124.Num, iv .i64 t124.Den]) rfl ⟨.inl iv_at, .inl iv_at, trivial⟩) rfl rfl rfl) (fun _ => rfl) (fun _ => rfl), (by intro _ h; cases h), trivial⟩⟩⟩⟩⟩⟩⟩⟩⟩⟩⟩⟩⟩ (fun _ => ⟨rfl, rfl, rfl, rfl, rfl, rfl, trivial⟩) (fun _ => rfl) (fun χ121 => ?_)
      refine n_then (ref_seq (ref_region ?_))
      refine mv1 rfl rfl ?_
      refine s_rd (r_faddr (fo := 1) Tryd.underlying36 rfl rfl Tryd.sizeOf3 rfl) rfl ?_
      refine s_rd (r_cload Tryd.isAgg3 rfl (j := 2) rfl rfl) rfl ?_
      refine s_rd (r_mul rfl rfl) rfl ?_
      refine as1 rfl rfl ?_
      refine b_let (f := iv .i64) (t := 7) rfl fun den126 => ?_
      refine l_nil (n_then (ref_seq (ref_region ?_)))
      refine as1 rfl rfl ?_
      refine l_nil (n_then (ref_seq (ref_seq (ref_region ?_))))
      refine mv1 rfl rfl ?_
      refine s_rd (r_len Tryd.underlying85 rfl) rfl ?_
      refine mv1 rfl rfl ?_
      refine l_nil (n_then ?_)
      refine b_of (own_nil rT_deliberationref23_world) ?_
      refine ref_loopB (f := (ref23_worlds_l2 g_0 s118 t124)) (Γl := (fun (s195 : Int × (List T_deliberationref23_world)) (x196 : (Value × List Nat)) => [(2, pv (ptr b1 0)), (7, iv .i64 den126), (8, pv x4.1), (9, iv .i64 s118.2.2), (10, pv (ptr (χ121 11).Nn 0)), (11, pv x196.1), (44, slv rT_deliberationref23_world s118.1), (45, iv .i64 (s118.1.length : Int)), (46, iv .i64 s195.1)])) (Ωl := (fun (s195 : Int × (List T_deliberationref23_world)) (x196 : (Value × List Nat)) => [oc b1 [iv .i64 g_0.N, slv rT_api_Pair g_0.L], oa rT_api_Fraction x4.1 x4.2 l3, oc (χ121 11).Nn [iv .i64 t124.Num, iv .i64 t124.Den], oa rT_deliberationref23_world x196.1 x196.2 s195.2])) (Γb := (fun (q229 : (List T_deliberationref23_world)) (y230 : (Value × List Nat)) => [(2, pv (ptr b1 0)), (7, iv .i64 den126), (8, pv x4.1), (9, iv .i64 s118.2.2), (11, pv y230.1)])) (Ωb := (fun (q229 : (List T_deliberationref23_world)) (y230 : (Value × List Nat)) => [oc b1 [iv .i64 g_0.N, slv rT_api_Pair g_0.L], oa rT_api_Fraction x4.1 x4.2 l3, oa rT_deliberationref23_world y230.1 y230.2 q229])) (0, []) ((.slice none 0 0), []) (weak [0, 1, 2, 3] ⟨rfl, rfl, rfl, rfl, rfl, rfl, rfl, rfl, rfl, trivial⟩ ⟨rfl, rfl, rfl, rfl, trivial⟩) (fun s195 x196 => ?_) (fun q229 y230 => ?_)
      · unfold ref23_worlds_l2
        refine ref_seq (ref_region ?_)
        refine s_rd (r_lss rfl rfl) rfl ?_
        refine l_nil (n_then (ref_seq ?_))
        refine ref_cond rfl (fun hb197 => ?_) (fun hb197 => ?_)
        · refine ref_skip (n_then (ref_seq (ref_block (ref_seq (ref_region ?_)))))
          refine pull fun t198 h_t198 => ?_
          refine s_rd (r_index h_t198 Tryd.underlying85 el_89 rfl rfl) rfl ?_
          refine s_rd (r_load el_89 rfl) rfl ?_
          refine s_st (s_alloc zt_89) rfl (fun b199 => ?_)
          refine s_st0 (s_cstore (out := [iv .i64 t198.g.N, slv rT_api_Pair t198.g.L, slv (rI .i64) t198.gone, iv .i64 t198.num]) Tryd.sizeOf89 rfl (j := 4) rfl (part_agO (ψs := [iv .i64 t198.g.N, slv rT_api_Pair t198.g.L, slv (rI .i64) t198.gone, iv .i64 t198.num]) rfl ⟨.inl iv_at, .inl slv_at, .inl slv_at, .inl iv_at, trivial⟩) rfl rfl rfl) (fun _ => ?_)
          refine l_nil (n_then (ref_seq ?_))
          refine ref_join (fun (j214 : (List T_deliberationref23_world)) (x215 : (Value × List Nat)) => [(2, pv (ptr b1 0)), (7, iv .i64 den126), (8, pv x4.1), (9, iv .i64 s118.2.2), (10, pv (ptr (χ121 11).Nn 0)), (11, pv x215.1), (13, pv (ptr b199 0)), (44, slv rT_deliberationref23_world s118.1), (45, iv .i64 (s118.1.length : Int)), (46, iv .i64 s195.1)]) (fun (j214 : (List T_deliberationref23_world)) (x215 : (Value × List Nat)) => [oc b1 [iv .i64 g_0.N, slv rT_api_Pair g_0.L], oa rT_api_Fraction x4.1 x4.2 l3, oc (χ121 11).Nn [iv .i64 t124.Num, iv .i64 t124.Den], oa rT_deliberationref23_world x215.1 x215.2 j214, oc b199 [iv .i64 t198.g.N, slv rT_api_Pair t198.g.L, slv (rI .i64) t198.gone, iv .i64 t198.num]]) (fun k216 hk216 => ?_) (fun j214 x215 => ?_)
          · refine ref_seq (ref_region ?_)
            refine s_rd (r_faddr (fo := 0) Tryd.underlying36 rfl rfl Tryd.sizeOf3 rfl) rfl ?_
            refine s_rd (r_cload Tryd.isAgg3 rfl (j := 2) rfl rfl) rfl ?_
            refine s_rd (r_gtr rfl rfl) rfl ?_
            refine l_nil (n_then ?_)
            refine ref_cond rfl (fun hb200 => ?_) (fun hb200 => ?_)
            · refine ref_seq (ref_region ?_)
              refine s_rd (r_faddr (fo := 0) Tryd.underlying89 rfl rfl Tryd.sizeOf27 rfl) rfl ?_
              refine s_rd (r_cloadS Tryd.isAgg27 Tryd.sizeOf27 rfl (j := 4) rfl rfl rfl) rfl ?_
              refine s_rd (r_faddr (fo := 2) Tryd.underlying89 rfl rfl Tryd.sizeOf22 rfl) rfl ?_
              refine s_rd (r_cload Tryd.isAgg22 rfl (j := 4) rfl rfl) rfl ?_
              refine s_rd (r_faddr (fo := 3) Tryd.underlying89 rfl rfl Tryd.sizeOf3 rfl) rfl ?_
              refine s_rd (r_cload Tryd.isAgg3 rfl (j := 4) rfl rfl) rfl ?_
              refine s_rd (r_faddr (fo := 0) Tryd.underlying36 rfl rfl Tryd.sizeOf3 rfl) rfl ?_
              refine s_rd (r_cload Tryd.isAgg3 rfl (j := 2) rfl rfl) rfl ?_
              refine s_rd (r_mul rfl rfl) rfl ?_
              refine s_rd (r_build (ps := [(0, .tmp 54), (1, .tmp 56), (2, .tmp 61)]) (rs := [(0, [iv .i64 t198.g.N, slv rT_api_Pair t198.g.L]), (1, [slv (rI .i64) t198.gone]), (2, [iv .i64 (imul .i64 t198.num t124.Num)])]) st_89 zs_89 ⟨rfl, (part_agO (ψs := [iv .i64 t198.g.N, slv rT_api_Pair t198.g.L]) rfl ⟨.inl iv_at, .inl slv_at, trivial⟩), ⟨rfl, (part_at rfl slv_at), ⟨rfl, (part_at rfl iv_at), trivial⟩⟩⟩ rfl rfl) rfl ?_
              refine s_st (s_alloc zt_89) rfl (fun b201 => ?_)
              refine s_st0 (s_cstore (out := [iv .i64 t198.g.N, slv rT_api_Pair t198.g.L, slv (rI .i64) t198.gone, iv .i64 (imul .i64 t198.num t124.Num)]) Tryd.sizeOf89 rfl (j := 5) rfl (part_agO (ψs := [iv .i64 t198.g.N, slv rT_api_Pair t198.g.L, slv (rI .i64) t198.gone, iv .i64 (imul .i64 t198.num t124.Num)]) rfl ⟨.inl iv_at, .inl slv_at, .inl slv_at, .inl iv_at, trivial⟩) rfl rfl rfl) (fun _ => ?_)
              refine l_nil ?_
              refine b_of (nrm [oc b1 [iv .i64 g_0.N, slv rT_api_Pair g_0.L], oa rT_api_Fraction x4.1 x4.2 l3, oc (χ121 11).Nn [iv .i64 t124.Num, iv .i64 t124.Den], oa rT_deliberationref23_world x196.1 x196.2 s195.2, oc b199 [iv .i64 t198.g.N, slv rT_api_Pair t198.g.L, slv (rI .i64) t198.gone, iv .i64 t198.num], oc b201 [iv .i64 t198.g.N, slv rT_api_Pair t198.g.L, slv (rI .i64) t198.gone, iv .i64 (imul .i64 t198.num t124.Num)]] rfl) ?_
              refine n_then (ref_seq (ref_seq (ref_region ?_)))
              refine mv1 rfl rfl ?_
              refine s_rd (r_faddr (fo := 0) Tryd.underlying27 rfl rfl Tryd.sizeOf3 rfl) rfl ?_
              refine s_rd (r_cload Tryd.isAgg3 rfl (j := 0) rfl rfl) rfl ?_
              refine s_rd (r_geq rfl rfl) rfl ?_
              refine l_nil (n_then ?_)
              refine ref_cond rfl (fun hb202 => ?_) (fun hb202 => ?_)
              · refine pull fun t205 h_t205 => ?_
                refine pull fun t207 h_t207 => ?_
                refine pull fun t208 h_t208 => ?_
                refine ref_drawI 1 [⟨[], [], [], [], [], fun us u => pv (ptr b1 0), fun us u => []⟩, ⟨[0], [], [], [0], [], fun us u => iv .i64 g_0.N, fun us u => []⟩, ⟨[], [], [6], [6], [], fun us u => pv u.V.1, fun us u => [oa rT_api_Pair u.V.1 u.V.2 []]⟩, ⟨[], [], [], [], [], fun us u => pv (ptr b199 0), fun us u => []⟩, ⟨[3], [], [], [], [], fun us u => pv (ptr b199 1), fun us u => []⟩, ⟨[3, 4], [], [], [4], [], fun us u => slv rT_api_Pair t198.g.L, fun us u => []⟩, ⟨[2, 3, 4, 5], [], [6], [6], [6], fun us u => pv u.V.1, fun us u => [oa rT_api_Pair u.V.1 u.V.2 t205]⟩, ⟨[], [], [], [], [], fun us u => pv (ptr b1 1), fun us u => []⟩, ⟨[7], [], [], [0], [], fun us u => slv rT_api_Pair g_0.L, fun us u => []⟩, ⟨[], [], [], [], [], fun us u => iv .i64 s118.2.2, fun us u => []⟩, ⟨[], [], [], [], [], fun us u => pv (ptr b1 0), fun us u => []⟩, ⟨[10], [], [], [0], [], fun us u => iv .i64 g_0.N, fun us u => []⟩, ⟨[9, 10, 11], [], [], [], [], fun us u => iv .i64 (isub .i64 s118.2.2 g_0.N), fun us u => []⟩, ⟨[7, 8, 9, 10, 11, 12], [], [], [], [], fun us u => ea rT_api_Pair t207, fun us u => []⟩, ⟨[7, 8, 9, 10, 11, 12, 13], [], [], [], [], fun us u => ag [iv .i64 t207.From, iv .i64 t207.To], fun us u => []⟩, ⟨[7, 8, 9, 10, 11, 12, 13, 14], [], [], [], [], fun us u => slv rT_api_Pair [t207], fun us u => []⟩, ⟨[2, 3, 4, 5, 6, 7, 8, 9, 10, 11, 12, 13, 14, 15], [], [6], [6], [6], fun us u => pv u.V.1, fun us u => [oa rT_api_Pair u.V.1 u.V.2 t208]⟩, ⟨[0, 1, 2, 3, 4, 5, 6, 7, 8, 9, 10, 11, 12, 13, 14, 15, 16], [16], [], [6], [], fun us u => ag [iv .i64 g_0.N, pv (us.getD 0 .none).V.1], fun us u => []⟩, ⟨[0, 1, 2, 3, 4, 5, 6, 7, 8, 9, 10, 11, 12, 13, 14, 15, 16, 17], [], [], [], [], fun us u => pv (ptr b201 0), fun us u => []⟩, ⟨[0, 1, 2, 3, 4, 5, 6, 7, 8, 9, 10, 11, 12, 13, 14, 15, 16, 17, 18], [16], [5], [5, 6], [5], fun us u => pv undef, fun us u => [oc b201 [iv .i64 g_0.N, pv (us.getD 0 .none).V.1, slv (rI .i64) t198.gone, iv .i64 (imul .i64 t198.num t124.Num)]]⟩] (fun χ203 => [(2, pv (ptr b1 0)), (7, iv .i64 den126), (8, pv x4.1), (9, iv .i64 s118.2.2), (10, pv (ptr (χ121 11).Nn 0)), (11, pv x196.1), (13, pv (ptr b199 0)), (14, pv (ptr b201 0)), (44, slv rT_deliberationref23_world s118.1), (45, iv .i64 (s118.1.length : Int)), (46, iv .i64 s195.1)]) (fun χ203 => [oc b1 [iv .i64 g_0.N, slv rT_api_Pair g_0.L], oa rT_api_Fraction x4.1 x4.2 l3, oc (χ121 11).Nn [iv .i64 t124.Num, iv .i64 t124.Den], oa rT_deliberationref23_world x196.1 x196.2 s195.2, oc b199 [iv .i64 t198.g.N, slv rT_api_Pair t198.g.L, slv (rI .i64) t198.gone, iv .i64 t198.num], oc b201 [iv .i64 g_0.N, pv (χ203 16).V.1, slv (rI .i64) t198.gone, iv .i64 (imul .i64 t198.num t124.Num)], oa rT_api_Pair (χ203 16).V.1 (χ203 16).V.2 t208]) rfl (by kernel_rfl) ⟨fun χ203 Ω _ => St.toR (r_faddr (fo := 0) Tryd.underlying27 rfl rfl Tryd.sizeOf3 rfl) (fun _ => rfl) (fun _ => rfl), (by intro _ h; cases h; rfl), ⟨fun χ203 Ω ⟨h0, _⟩ => St.toR (r_cload Tryd.isAgg3 rfl (j := 0) h0 rfl) (fun _ => rfl) (fun _ => rfl), (by intro _ h; cases h; rfl), ⟨fun χ203 Ω ⟨h6, _⟩ => St.to XU.V XU.hV (St.placeL (os := fun _ => [_]) [6] (s_bsliceO (xs := []) (ds := []) Tryd.underlying25 el_63 rfl (Nat.le_of_ble_eq_true rfl) trivial) (fun _ => rfl) (fun _ => ⟨h6, rfl, trivial⟩)) (fun _ => rfl) (fun _ => rfl), (by intro _ h; cases h; rfl), ⟨fun χ203 Ω _ => St.toR (r_faddr (fo := 0) Tryd.underlying89 rfl rfl Tryd.sizeOf27 rfl) (fun _ => rfl) (fun _ => rfl), (by intro _ h; cases h; rfl), ⟨fun χ203 Ω _ => St.toR (r_faddr (fo := 1) Tryd.underlying27 rfl rfl Tryd.sizeOf25 rfl) (fun _ => rfl) (fun _ => rfl), (by intro _ h; cases h; rfl), ⟨fun χ203 Ω ⟨h4, _⟩ => St.toR (r_cload Tryd.isAgg25 rfl (j := 4) h4 rfl) (fun _ => rfl) (fun _ => rfl), (by intro _ h; cases h; rfl), ⟨fun χ203 Ω ⟨h6, _⟩ => St.to XU.V XU.hV (s_append h_t205 Tryd.underlying25 el_63 rfl (j := 6) h6 rfl) (fun _ => rfl) (fun _ => rfl), (by intro _ h; cases h; rfl), ⟨fun χ203 Ω _ => St.toR (r_faddr (fo := 1) Tryd.underlying27 rfl rfl Tryd.sizeOf25 rfl) (fun _ => rfl) (fun _ => rfl), (by intro _ h; cases h; rfl), ⟨fun χ203 Ω ⟨h0, _⟩ => St.toR (r_cload Tryd.isAgg25 rfl (j := 0) h0 rfl) (fun _ => rfl) (fun _ => rfl), (by intro _ h; cases h; rfl), ⟨fun χ203 Ω _ => St.toR (r_move rfl) (fun _ => rfl) (fun _ => rfl), (by intro _ h; cases h; rfl), ⟨fun χ203 Ω _ => St.toR (r_faddr (fo := 0) Tryd.underlying27 rfl rfl Tryd.sizeOf3 rfl) (fun _ => rfl) (fun _ => rfl), (by intro _ h; cases h; rfl), ⟨fun χ203 Ω ⟨h0, _⟩ => St.toR (r_cload Tryd.isAgg3 rfl (j := 0) h0 rfl) (fun _ => rfl) (fun _ => rfl), (by intro _ h; cases h; rfl), ⟨fun χ203 Ω _ => St.toR (r_sub rfl rfl) (fun _ => rfl) (fun _ => rfl), (by intro _ h; cases h; rfl), ⟨fun χ203 Ω _ => St.toR (r_index h_t207 Tryd.underlying25 el_63 rfl rfl) (fun _ => rfl) (fun _ => rfl), (by intro _ h; cases h; rfl), ⟨fun χ203 Ω _ => St.toR (r_load el_63 rfl) (fun _ => rfl) (fun _ => rfl), (by intro _ h; cases h; rfl), ⟨fun χ203 Ω _ => St.to XU.U XU.hU (s_bslice (xs := [.tmp 81]) (ds := [t207]) Tryd.underlying25 el_63 rfl (Nat.le_of_ble_eq_true rfl) ⟨(part_agO (ψs := [iv .i64 t207.From, iv .i64 t207.To]) rfl ⟨.inl iv_at, .inl iv_at, trivial⟩), trivial⟩) (fun _ => rfl) (fun _ => rfl), (by intro _ h; cases h; rfl), ⟨fun χ203 Ω ⟨h6, _⟩ => St.to XU.V XU.hV (s_append h_t208 Tryd.underlying25 el_63 rfl (j := 6) h6 rfl) (fun _ => rfl) (fun _ => rfl), (by intro _ h; cases h; rfl), ⟨fun χ203 Ω ⟨h6, _⟩ => St.toR (r_build (ps := [(0, .tmp 68), (1, .tmp 83)]) (rs := [(0, [iv .i64 g_0.N]), (1, [pv (χ203 16).V.1])]) st_27 zs_27 ⟨rfl, (part_at rfl iv_at), ⟨rfl, (part_own rfl (j := 6) h6), trivial⟩⟩ rfl rfl) (fun _ => rfl) (fun _ => rfl), (by intro _ h; cases h; rfl), ⟨fun χ203 Ω _ => St.toR (r_faddr (fo := 0) Tryd.underlying89 rfl rfl Tryd.sizeOf27 rfl) (fun _ => rfl) (fun _ => rfl), (by intro _ h; cases h; rfl), ⟨fun χ203 Ω ⟨h5, h6, _⟩ => St.to XU.U XU.hU (s_cstore (out := [iv .i64 g_0.N, pv (χ203 16).V.1, slv (rI .i64) t198.gone, iv .i64 (imul .i64 t198.num t124.Num)]) Tryd.sizeOf27 rfl (j := 5) h5 (part_agO (ψs := [iv .i64 g_0.N, pv (χ203 16).V.1]) rfl ⟨.inl iv_at, .inr ⟨_, _, _, _, _, 6, rfl, h6⟩, trivial⟩) rfl rfl rfl) (fun _ => rfl) (fun _ => rfl), (by intro _ h; cases h), trivial⟩⟩⟩⟩⟩⟩⟩⟩⟩⟩⟩⟩⟩⟩⟩⟩⟩⟩⟩⟩ (fun _ => ⟨rfl, rfl, rfl, rfl, rfl, rfl, rfl, rfl, rfl, rfl, rfl, trivial⟩) (fun _ => rfl) (fun χ203 => ?_)
                refine n_then (ref_region ?_)
                refine mv1 rfl rfl ?_
                refine s_rd (r_cloadS Tryd.isAgg89 Tryd.sizeOf89 rfl (j := 5) rfl rfl rfl) rfl ?_
                refine b_of (frzGL [(87, ag [iv .i64 g_0.N, slv rT_api_Pair t208, slv (rI .i64) t198.gone, iv .i64 (imul .i64 t198.num t124.Num)])] [(5, b201, [iv .i64 g_0.N, slv rT_api_Pair t208, slv (rI .i64) t198.gone, iv .i64 (imul .i64 t198.num t124.Num)])] (j := 6) rfl ⟨⟨_, rfl, .inr ⟨_, _, rfl, rfl, ⟨.inl rfl, .inr ⟨rfl, rfl⟩, .inl rfl, .inl rfl, trivial⟩⟩⟩, trivial⟩ ⟨⟨_, rfl, ⟨.inl rfl, .inr ⟨rfl, rfl⟩, .inl rfl, .inl rfl, trivial⟩⟩, trivial⟩) ?_
                refine s_st (s_bslice (xs := [.tmp 87]) (ds := [(T_deliberationref23_world.mk (T_api_Graph.mk g_0.N t208) t198.gone (imul .i64 t198.num t124.Num))]) Tryd.underlying85 el_89 rfl (Nat.le_of_ble_eq_true rfl) ⟨(part_agO (ψs := [iv .i64 g_0.N, slv rT_api_Pair t208, slv (rI .i64) t198.gone, iv .i64 (imul .i64 t198.num t124.Num)]) rfl ⟨.inl iv_at, .inl slv_at, .inl slv_at, .inl iv_at, trivial⟩), trivial⟩) rfl (fun _ => ?_)
                refine pull fun next210 h_next210 => ?_
                refine s_st (s_append h_next210 Tryd.underlying85 el_89 rfl (j := 3) rfl rfl) rfl (fun o211 => ?_)
                refine as1 rfl rfl ?_
                refine l_nil ?_
                exact b_to (hk216 next210 o211) (weak [0, 1, 2, 3, 4] ⟨rfl, rfl, rfl, rfl, rfl, rfl, rfl, rfl, rfl, rfl, trivial⟩ ⟨rfl, rfl, rfl, rfl, rfl, trivial⟩)
              refine ref_skip (n_then (ref_region ?_))
              refine mv1 rfl rfl ?_
              refine s_rd (r_cloadS Tryd.isAgg89 Tryd.sizeOf89 rfl (j := 5) rfl rfl rfl) rfl ?_
              refine s_st (s_bslice (xs := [.tmp 87]) (ds := [(T_deliberationref23_world.mk t198.g t198.gone (imul .i64 t198.num t124.Num))]) Tryd.underlying85 el_89 rfl (Nat.le_of_ble_eq_true rfl) ⟨(part_agO (ψs := [iv .i64 t198.g.N, slv rT_api_Pair t198.g.L, slv (rI .i64) t198.gone, iv .i64 (imul .i64 t198.num t124.Num)]) rfl ⟨.inl iv_at, .inl slv_at, .inl slv_at, .inl iv_at, trivial⟩), trivial⟩) rfl (fun _ => ?_)
              refine pull fun next212 h_next212 => ?_
              refine s_st (s_append h_next212 Tryd.underlying85 el_89 rfl (j := 3) rfl rfl) rfl (fun o213 => ?_)
              refine as1 rfl rfl ?_
              refine l_nil ?_
              exact b_to (hk216 next212 o213) (weak [0, 1, 2, 3, 4] ⟨rfl, rfl, rfl, rfl, rfl, rfl, rfl, rfl, rfl, rfl, trivial⟩ ⟨rfl, rfl, rfl, rfl, rfl, trivial⟩)
            refine ref_skip ?_
            exact b_to (hk216 s195.2 x196) (weak [0, 1, 2, 3, 4] ⟨rfl, rfl, rfl, rfl, rfl, rfl, rfl, rfl, rfl, rfl, trivial⟩ ⟨rfl, rfl, rfl, rfl, rfl, trivial⟩)
          refine n_then (ref_seq (ref_region ?_))
          refine s_rd (r_faddr (fo := 0) Tryd.underlying36 rfl rfl Tryd.sizeOf3 rfl) rfl ?_
          refine s_rd (r_cload Tryd.isAgg3 rfl (j := 2) rfl rfl) rfl ?_
          refine s_rd (r_faddr (fo := 1) Tryd.underlying36 rfl rfl Tryd.sizeOf3 rfl) rfl ?_
          refine s_rd (r_cload Tryd.isAgg3 rfl (j := 2) rfl rfl) rfl ?_
          refine s_rd (r_lss rfl rfl) rfl ?_
          refine l_nil (n_then ?_)
          refine ref_cond rfl (fun hb217 => ?_) (fun hb217 => ?_)
          · refine ref_seq (ref_region ?_)
            refine s_rd (r_faddr (fo := 0) Tryd.underlying89 rfl rfl Tryd.sizeOf27 rfl) rfl ?_
            refine s_rd (r_cloadS Tryd.isAgg27 Tryd.sizeOf27 rfl (j := 4) rfl rfl rfl) rfl ?_
            refine s_rd (r_faddr (fo := 2) Tryd.underlying89 rfl rfl Tryd.sizeOf22 rfl) rfl ?_
            refine s_rd (r_cload Tryd.isAgg22 rfl (j := 4) rfl rfl) rfl ?_
            refine s_rd (r_faddr (fo := 3) Tryd.underlying89 rfl rfl Tryd.sizeOf3 rfl) rfl ?_
            refine s_rd (r_cload Tryd.isAgg3 rfl (j := 4) rfl rfl) rfl ?_
            refine s_rd (r_faddr (fo := 1) Tryd.underlying36 rfl rfl Tryd.sizeOf3 rfl) rfl ?_
            refine s_rd (r_cload Tryd.isAgg3 rfl (j := 2) rfl rfl) rfl ?_
            refine s_rd (r_faddr (fo := 0) Tryd.underlying36 rfl rfl Tryd.sizeOf3 rfl) rfl ?_
            refine s_rd (r_cload Tryd.isAgg3 rfl (j := 2) rfl rfl) rfl ?_
            refine s_rd (r_sub rfl rfl) rfl ?_
            refine s_rd (r_mul rfl rfl) rfl ?_
            refine s_rd (r_build (ps := [(0, .tmp 96), (1, .tmp 98), (2, .tmp 106)]) (rs := [(0, [iv .i64 t198.g.N, slv rT_api_Pair t198.g.L]), (1, [slv (rI .i64) t198.gone]), (2, [iv .i64 (imul .i64 t198.num (isub .i64 t124.Den t124.Num))])]) st_89 zs_89 ⟨rfl, (part_agO (ψs := [iv .i64 t198.g.N, slv rT_api_Pair t198.g.L]) rfl ⟨.inl iv_at, .inl slv_at, trivial⟩), ⟨rfl, (part_at rfl slv_at), ⟨rfl, (part_at rfl iv_at), trivial⟩⟩⟩ rfl rfl) rfl ?_
            refine s_st (s_alloc zt_89) rfl (fun b218 => ?_)
            refine s_st0 (s_cstore (out := [iv .i64 t198.g.N, slv rT_api_Pair t198.g.L, slv (rI .i64) t198.gone, iv .i64 (imul .i64 t198.num (isub .i64 t124.Den t124.Num))]) Tryd.sizeOf89 rfl (j := 5) rfl (part_agO (ψs := [iv .i64 t198.g.N, slv rT_api_Pair t198.g.L, slv (rI .i64) t198.gone, iv .i64 (imul .i64 t198.num (isub .i64 t124.Den t124.Num))]) rfl ⟨.inl iv_at, .inl slv_at, .inl slv_at, .inl iv_at, trivial⟩) rfl rfl rfl) (fun _ => ?_)
            refine l_nil (n_then (ref_seq (ref_seq (ref_region ?_))))
            refine mv1 rfl rfl ?_
            refine s_rd (r_faddr (fo := 0) Tryd.underlying27 rfl rfl Tryd.sizeOf3 rfl) rfl ?_
            refine s_rd (r_cload Tryd.isAgg3 rfl (j := 0) rfl rfl) rfl ?_
            refine s_rd (r_lss rfl rfl) rfl ?_
            refine l_nil (n_then ?_)
            refine ref_cond rfl (fun hb219 => ?_) (fun hb219 => ?_)
            · refine ref_region ?_
              refine s_st (s_bsliceO (xs := []) (ds := []) Tryd.underlying22 el_3 rfl (Nat.le_of_ble_eq_true rfl) trivial) rfl (fun o220 => ?_)
              refine s_rd (r_faddr (fo := 2) Tryd.underlying89 rfl rfl Tryd.sizeOf22 rfl) rfl ?_
              refine s_rd (r_cload Tryd.isAgg22 rfl (j := 4) rfl rfl) rfl ?_
              refine pull fun t221 h_t221 => ?_
              refine s_st (s_append h_t221 Tryd.underlying22 el_3 rfl (j := 6) rfl rfl) rfl (fun o222 => ?_)
              refine mv1 rfl rfl ?_
              refine s_st (s_bslice (xs := [.tmp 116]) (ds := [s118.2.2]) Tryd.underlying22 el_3 rfl (Nat.le_of_ble_eq_true rfl) ⟨(part_at rfl iv_at), trivial⟩) rfl (fun _ => ?_)
              refine pull fun t223 h_t223 => ?_
              refine s_st (s_append h_t223 Tryd.underlying22 el_3 rfl (j := 6) rfl rfl) rfl (fun o224 => ?_)
              refine s_rd (r_faddr (fo := 2) Tryd.underlying89 rfl rfl Tryd.sizeOf22 rfl) rfl ?_
              refine s_st0 (s_cstore (out := [iv .i64 t198.g.N, slv rT_api_Pair t198.g.L, pv o224.1, iv .i64 (imul .i64 t198.num (isub .i64 t124.Den t124.Num))]) Tryd.sizeOf22 rfl (j := 5) rfl (part_own rfl (j := 6) rfl) rfl rfl rfl) (fun _ => ?_)
              refine l_nil ?_
              refine b_of (nrm [oc b1 [iv .i64 g_0.N, slv rT_api_Pair g_0.L], oa rT_api_Fraction x4.1 x4.2 l3, oc (χ121 11).Nn [iv .i64 t124.Num, iv .i64 t124.Den], oa rT_deliberationref23_world x215.1 x215.2 j214, oc b199 [iv .i64 t198.g.N, slv rT_api_Pair t198.g.L, slv (rI .i64) t198.gone, iv .i64 t198.num], oc b218 [iv .i64 t198.g.N, slv rT_api_Pair t198.g.L, pv o224.1, iv .i64 (imul .i64 t198.num (isub .i64 t124.Den t124.Num))], oa (rI .i64) o224.1 o224.2 t223] rfl) ?_
              refine n_then (ref_region ?_)
              refine mv1 rfl rfl ?_
              refine s_rd (r_cloadS Tryd.isAgg89 Tryd.sizeOf89 rfl (j := 5) rfl rfl rfl) rfl ?_
              refine b_of (frzGL [(118, slv (rI .i64) t223), (121, ag [iv .i64 t198.g.N, slv rT_api_Pair t198.g.L, slv (rI .i64) t223, iv .i64 (imul .i64 t198.num (isub .i64 t124.Den t124.Num))])] [(5, b218, [iv .i64 t198.g.N, slv rT_api_Pair t198.g.L, slv (rI .i64) t223, iv .i64 (imul .i64 t198.num (isub .i64 t124.Den t124.Num))])] (j := 6) rfl ⟨⟨_, rfl, .inl ⟨rfl, rfl⟩⟩, ⟨_, rfl, .inr ⟨_, _, rfl, rfl, ⟨.inl rfl, .inl rfl, .inr ⟨rfl, rfl⟩, .inl rfl, trivial⟩⟩⟩, trivial⟩ ⟨⟨_, rfl, ⟨.inl rfl, .inl rfl, .inr ⟨rfl, rfl⟩, .inl rfl, trivial⟩⟩, trivial⟩) ?_
              refine s_st (s_bslice (xs := [.tmp 121]) (ds := [(T_deliberationref23_world.mk t198.g t223 (imul .i64 t198.num (isub .i64 t124.Den t124.Num)))]) Tryd.underlying85 el_89 rfl (Nat.le_of_ble_eq_true rfl) ⟨(part_agO (ψs := [iv .i64 t198.g.N, slv rT_api_Pair t198.g.L, slv (rI .i64) t223, iv .i64 (imul .i64 t198.num (isub .i64 t124.Den t124.Num))]) rfl ⟨.inl iv_at, .inl slv_at, .inl slv_at, .inl iv_at, trivial⟩), trivial⟩) rfl (fun _ => ?_)
              refine pull fun next225 h_next225 => ?_
              refine s_st (s_append h_next225 Tryd.underlying85 el_89 rfl (j := 3) rfl rfl) rfl (fun o226 => ?_)
              refine as1 rfl rfl ?_
              refine l_nil (n_block (n_then (ref_region ?_)))
              refine s_rd (r_add rfl rfl) rfl ?_
              refine mv1 rfl rfl ?_
              refine l_nil ?_
              exact goB o226 (weak [0, 1, 2, 3] ⟨rfl, rfl, rfl, rfl, rfl, rfl, rfl, rfl, rfl, trivial⟩ ⟨rfl, rfl, rfl, rfl, trivial⟩)
            refine ref_skip (n_then (ref_region ?_))
            refine mv1 rfl rfl ?_
            refine s_rd (r_cloadS Tryd.isAgg89 Tryd.sizeOf89 rfl (j := 5) rfl rfl rfl) rfl ?_
            refine s_st (s_bslice (xs := [.tmp 121]) (ds := [(T_deliberationref23_world.mk t198.g t198.gone (imul .i64 t198.num (isub .i64 t124.Den t124.Num)))]) Tryd.underlying85 el_89 rfl (Nat.le_of_ble_eq_true rfl) ⟨(part_agO (ψs := [iv .i64 t198.g.N, slv rT_api_Pair t198.g.L, slv (rI .i64) t198.gone, iv .i64 (imul .i64 t198.num (isub .i64 t124.Den t124.Num))]) rfl ⟨.inl iv_at, .inl slv_at, .inl slv_at, .inl iv_at, trivial⟩), trivial⟩) rfl (fun _ => ?_)
            refine pull fun next227 h_next227 => ?_
            refine s_st (s_append h_next227 Tryd.underlying85 el_89 rfl (j := 3) rfl rfl) rfl (fun o228 => ?_)
            refine as1 rfl rfl ?_
            refine l_nil ?_
            refine b_of (nrm [oc b1 [iv .i64 g_0.N, slv rT_api_Pair g_0.L], oa rT_api_Fraction x4.1 x4.2 l3, oc (χ121 11).Nn [iv .i64 t124.Num, iv .i64 t124.Den], oa rT_deliberationref23_world o228.1 o228.2 next227, oc b199 [iv .i64 t198.g.N, slv rT_api_Pair t198.g.L, slv (rI .i64) t198.gone, iv .i64 t198.num], oc b218 [iv .i64 t198.g.N, slv rT_api_Pair t198.g.L, slv (rI .i64) t198.gone, iv .i64 (imul .i64 t198.num (isub .i64 t124.Den t124.Num))]] rfl) ?_
            refine n_block (n_then (ref_region ?_))
            refine s_rd (r_add rfl rfl) rfl ?_
            refine mv1 rfl rfl ?_
            refine l_nil ?_
            exact goB o228 (weak [0, 1, 2, 3] ⟨rfl, rfl, rfl, rfl, rfl, rfl, rfl, rfl, rfl, trivial⟩ ⟨rfl, rfl, rfl, rfl, trivial⟩)
          refine ref_skip (n_block (n_then (ref_region ?_)))
          refine s_rd (r_add rfl rfl) rfl ?_
          refine mv1 rfl rfl ?_
          refine l_nil ?_
          exact goB x215 (weak [0, 1, 2, 3] ⟨rfl, rfl, rfl, rfl, rfl, rfl, rfl, rfl, rfl, trivial⟩ ⟨rfl, rfl, rfl, rfl, trivial⟩)
        refine ref_exit (x_then ?_)
        exact brkB x196 (weak [0, 1, 3] ⟨rfl, rfl, rfl, rfl, rfl, trivial⟩ ⟨rfl, rfl, rfl, trivial⟩)
      refine n_then (ref_region ?_)
      refine mv1 rfl rfl ?_
      refine as1 rfl rfl ?_
      refine l_nil (n_block (n_then (ref_region ?_)))
      refine mv1 rfl rfl ?_
      refine s_rd (r_add rfl rfl) rfl ?_
      refine as1 rfl rfl ?_
      refine b_let (f := iv .i64) (t := 9) rfl fun i231 => ?_
      refine l_nil ?_
      refine b_of (frzL [11, 125, 6] (j := 2) rfl ⟨rfl, rfl, rfl, trivial⟩) ?_
      exact goB () (weak [0, 1] ⟨rfl, rfl, rfl, rfl, rfl, trivial⟩ ⟨rfl, rfl, trivial⟩)
    refine ref_exit (x_then ?_)
    exact brkB () (weak [] ⟨rfl, rfl, trivial⟩ trivial)
  refine n_then (ref_seq (ref_region ?_))
  refine mv1 rfl rfl ?_
  refine mv1 rfl rfl ?_
  refine as1 rfl rfl ?_
  refine as1 rfl rfl ?_
  refine l_nil (n_then (ref_ret ?_))
  exact fin2 (.inl rfl) () [] rfl trivial rfl (rv_tmp rfl) (rv_tmp rfl)

/-! deliberation/deliberationnet.In -/
noncomputable def net_In_l1 (l_0 : (List Int)) (x_1 : Int) (s6 : Int) : Option (Sum ((Sum (Bool) (Unit))) (Int)) :=
  bif decide (s6 < (l_0.length : Int)) then
    Option.bind (idxM l_0 s6) fun t9 =>
    bif t9 == x_1 then
      some (Sum.inl (Sum.inl true))
    else
      some (Sum.inr (iadd .i64 s6 1))
  else
    some (Sum.inl (Sum.inr ()))

noncomputable def net_In_m (l_0 : (List Int)) (x_1 : Int) : Option (Bool) :=
  Option.bind (loopC (net_In_l1 l_0 x_1) 0) (sumK (fun a : Bool => some a) fun q11 : Unit =>
    some false)

theorem net_In_ok {l_0 : (List Int)} {x_1 : Int} {r : Bool} (hm : net_In_m l_0 x_1 = some r) :
    FnOk prog 44 [slv (rI .i64) l_0, iv .i64 x_1] [] (fun (x : Unit) => [bv r]) (fun (x : Unit) => []) := by
  refine fn_ok (fn := Tryd.f44) (N := 18) (res := fun r x => [bv r]) (Ω1 := fun r x => []) Tryd.func44 rfl rfl hm rfl (fun E hM => ?_)
  unfold net_In_m
  refine ref_seq (ref_region ?_)
  refine as1 rfl rfl ?_
  refine l_nil (n_then (ref_seq (ref_seq (ref_region ?_))))
  refine as1 rfl rfl ?_
  refine l_nil (n_then ?_)
  refine ref_loopX (f := (net_In_l1 l_0 x_1)) (Γl := (fun (s6 : Int) (x7 : Unit) => [(0, slv (rI .i64) l_0), (1, iv .i64 x_1), (5, iv .i64 s6)])) (Ωl := (fun (s6 : Int) (x7 : Unit) => [])) (Γb := (fun (q11 : Unit) (y12 : Unit) => [])) (Ωb := (fun (q11 : Unit) (y12 : Unit) => [])) (kr := (fun a : Bool => some a)) 0 () (weak [] ⟨rfl, rfl, rfl, trivial⟩ trivial) (fun s6 x7 => ?_) (fun q11 y12 => ?_)
  · unfold net_In_l1
    refine ref_seq (ref_seq (ref_region ?_))
    refine mv1 rfl rfl ?_
    refine mv1 rfl rfl ?_
    refine s_rd (r_len Tryd.underlying22 rfl) rfl ?_
    refine s_rd (r_lss rfl rfl) rfl ?_
    refine l_nil (n_then ?_)
    refine ref_cond rfl (fun hb8 => ?_) (fun hb8 => ?_)
    · refine ref_skip (n_then (ref_seq (ref_block (ref_seq (ref_region ?_)))))
      refine mv1 rfl rfl ?_
      refine mv1 rfl rfl ?_
      refine pull fun t9 h_t9 => ?_
      refine s_rd (r_index h_t9 Tryd.underlying22 el_3 rfl rfl) rfl ?_
      refine s_rd (r_load el_3 rfl) rfl ?_
      refine mv1 rfl rfl ?_
      refine s_rd (r_eql rfl rfl) rfl ?_
      refine l_nil (n_then ?_)
      refine ref_cond rfl (fun hb10 => ?_) (fun hb10 => ?_)
      · refine ref_seq (ref_region ?_)
        refine as1 rfl rfl ?_
        refine l_nil (n_then (ref_ret (r_block (r_then ?_))))
        refine retX ?_
        refine r_block (r_then ?_)
        exact fin1 (.inl rfl) () [] rfl trivial rfl (rv_tmp rfl)
      refine ref_skip (n_block (n_then (ref_region ?_)))
      refine mv1 rfl rfl ?_
      refine s_rd (r_add rfl rfl) rfl ?_
      refine as1 rfl rfl ?_
      refine l_nil ?_
      exact goX () (weak [] ⟨rfl, rfl, rfl, trivial⟩ trivial)
    refine ref_exit (x_then ?_)
    exact brkX () (weak [] trivial trivial)
  refine n_then (ref_seq (ref_region ?_))
  refine as1 rfl rfl ?_
  refine l_nil (n_then (ref_ret ?_))
  exact fin1 (.inl rfl) () [] rfl trivial rfl (rv_tmp rfl)

/-! deliberation/deliberationnet.Without -/
noncomputable def net_Without_l1 (g_0 : T_api_Graph) (gone_1 : (List Int)) (s50 : Int × (List T_api_Pair)) : Option (Sum ((List T_api_Pair)) (Int × (List T_api_Pair))) :=
  bif decide (s50.1 < (g_0.L.length : Int)) then
    joinM (fun j57 : Bool =>
        bif j57 then
          Option.bind (idxM g_0.L s50.1) fun t61 =>
          Option.bind (appM 16 s50.2 [t61]) fun t62 =>
          letM (iadd .i64 s50.1 1) fun i64x =>
          some (Sum.inr (i64x, t62))
        else
          letM (iadd .i64 s50.1 1) fun i65 =>
          some (Sum.inr (i65, s50.2))) fun k59 =>
    Option.bind (idxM g_0.L s50.1) fun t53 =>
    Option.bind (net_In_m gone_1 t53.From) fun t54 =>
    bif !t54 then
      Option.bind (idxM g_0.L s50.1) fun t55 =>
      Option.bind (net_In_m gone_1 t55.To) fun t56 =>
      k59 (!t56)
    else
      k59 false
  else
    some (Sum.inl s50.2)

noncomputable def net_Without_m (g_0 : T_api_Graph) (gone_1 : (List Int)) : Option (T_api_Graph) :=
  Option.bind (loopC (net_Without_l1 g_0 gone_1) (0, [])) fun q66 : (List T_api_Pair) =>
  some (T_api_Graph.mk g_0.N q66)

theorem net_Without_ok {g_0 : T_api_Graph} {gone_1 : (List Int)} {r : T_api_Graph} (hm : net_Without_m g_0 gone_1 = some r) :
    FnOk prog 43 [ag [iv .i64 g_0.N, slv rT_api_Pair g_0.L], slv (rI .i64) gone_1] [] (fun (x : Unit) => [ag [iv .i64 r.N, slv rT_api_Pair r.L]]) (fun (x : Unit) => []) := by
  refine fn_ok (fn := Tryd.f43) (N := 48) (res := fun r x => [ag [iv .i64 r.N, slv rT_api_Pair r.L]]) (Ω1 := fun r x => []) Tryd.func43 rfl rfl hm rfl (fun E hM => ?_)
  unfold net_Without_m
  refine ref_seq (ref_region ?_)
  refine s_st (s_box (part_agO (ψs := [iv .i64 g_0.N, slv rT_api_Pair g_0.L]) rfl ⟨.inl iv_at, .inl slv_at, trivial⟩)) rfl (fun b1 => ?_)
  refine s_st (s_alloc zt_27) rfl (fun b2 => ?_)
  refine l_nil (n_then (ref_seq (ref_region ?_)))
  refine s_rd (r_faddr (fo := 0) Tryd.underlying27 rfl rfl Tryd.sizeOf3 rfl) rfl ?_
  refine s_rd (r_cload Tryd.isAgg3 rfl (j := 0) rfl rfl) rfl ?_
  refine s_rd (r_build (ps := [(0, .tmp 8)]) (rs := [(0, [iv .i64 g_0.N])]) st_27 zs_27 ⟨rfl, (part_at rfl iv_at), trivial⟩ rfl rfl) rfl ?_
  refine s_st (s_alloc zt_27) rfl (fun b3 => ?_)
  refine s_st0 (s_cstore (out := [iv .i64 g_0.N, pv (.slice none 0 0)]) Tryd.sizeOf27 rfl (j := 2) rfl (part_agO (ψs := [iv .i64 g_0.N, pv (.slice none 0 0)]) rfl ⟨.inl iv_at, .inl (pv_at rfl), trivial⟩) rfl rfl rfl) (fun _ => ?_)
  refine l_nil ?_
  refine b_of (nrm [oc b1 [iv .i64 g_0.N, slv rT_api_Pair g_0.L], oc b2 [iv .i64 0, pv (.slice none 0 0)], oc b3 [iv .i64 g_0.N, pv (.slice none 0 0)]] rfl) ?_
  refine n_then (ref_seq (ref_seq (ref_region ?_)))
  refine as1 rfl rfl ?_
  refine l_nil (n_then ?_)
  refine b_of (own_nil rT_api_Pair) ?_
  refine ref_loopB (f := (net_Without_l1 g_0 gone_1)) (Γl := (fun (s50 : Int × (List T_api_Pair)) (x51 : (Value × List Nat)) => [(1, slv (rI .i64) gone_1), (2, pv (ptr b1 0)), (4, pv (ptr b2 0)), (5, pv (ptr b3 0)), (6, iv .i64 s50.1)])) (Ωl := (fun (s50 : Int × (List T_api_Pair)) (x51 : (Value × List Nat)) => [oc b1 [iv .i64 g_0.N, slv rT_api_Pair g_0.L], oc b2 [iv .i64 0, pv (.slice none 0 0)], oc b3 [iv .i64 g_0.N, pv x51.1], oa rT_api_Pair x51.1 x51.2 s50.2])) (Γb := (fun (q66 : (List T_api_Pair)) (y67 : (Value × List Nat)) => [(4, pv (ptr b2 0)), (5, pv (ptr b3 0))])) (Ωb := (fun (q66 : (List T_api_Pair)) (y67 : (Value × List Nat)) => [oc b2 [iv .i64 0, pv (.slice none 0 0)], oc b3 [iv .i64 g_0.N, pv y67.1], oa rT_api_Pair y67.1 y67.2 q66])) (0, []) ((.slice none 0 0), []) (weak [0, 1, 2, 3] ⟨rfl, rfl, rfl, rfl, rfl, trivial⟩ ⟨rfl, rfl, rfl, rfl, trivial⟩) (fun s50 x51 => ?_) (fun q66 y67 => ?_)
  · unfold net_Without_l1
    refine ref_seq (ref_seq (ref_region ?_))
    refine mv1 rfl rfl ?_
    refine s_rd (r_faddr (fo := 1) Tryd.underlying27 rfl rfl Tryd.sizeOf25 rfl) rfl ?_
    refine s_rd (r_cload Tryd.isAgg25 rfl (j := 0) rfl rfl) rfl ?_
    refine s_rd (r_len Tryd.underlying25 rfl) rfl ?_
    refine s_rd (r_lss rfl rfl) rfl ?_
    refine l_nil (n_then ?_)
    refine ref_cond rfl (fun hb52 => ?_) (fun hb52 => ?_)
    · refine ref_skip (n_then (ref_seq (ref_block (ref_seq ?_))))
      refine ref_join (fun (j57 : Bool) (x58 : Unit) => [(1, slv (rI .i64) gone_1), (2, pv (ptr b1 0)), (4, pv (ptr b2 0)), (5, pv (ptr b3 0)), (6, iv .i64 s50.1), (36, bv j57)]) (fun (j57 : Bool) (x58 : Unit) => [oc b1 [iv .i64 g_0.N, slv rT_api_Pair g_0.L], oc b2 [iv .i64 0, pv (.slice none 0 0)], oc b3 [iv .i64 g_0.N, pv x51.1], oa rT_api_Pair x51.1 x51.2 s50.2]) (fun k59 hk59 => ?_) (fun j57 x58 => ?_)
      · refine ref_region ?_
        refine mv1 rfl rfl ?_
        refine s_rd (r_faddr (fo := 1) Tryd.underlying27 rfl rfl Tryd.sizeOf25 rfl) rfl ?_
        refine s_rd (r_cload Tryd.isAgg25 rfl (j := 0) rfl rfl) rfl ?_
        refine mv1 rfl rfl ?_
        refine pull fun t53 h_t53 => ?_
        refine s_rd (r_index h_t53 Tryd.underlying25 el_63 rfl rfl) rfl ?_
        refine s_rd (r_fea (fo := 0) (ρ := rT_api_Pair) (y := t53) (ρ' := (rI .i64)) (z := t53.From) Tryd.underlying63 rfl rfl Tryd.sizeOf3 rfl rfl rfl) rfl ?_
        refine s_rd (r_load el_3 rfl) rfl ?_
        refine pull fun t54 h_t54 => ?_
        refine s_st (s_call (ψ := fun (_ : Unit) => bv t54) (args := [.tmp 17, .tmp 23]) Tryd.call44 rfl (net_In_ok h_t54) ⟨arg rfl, arg rfl, trivial⟩ (fun _ _ _ _ h => h)) rfl (fun _ => ?_)
        refine s_rd (r_not rfl) rfl ?_
        refine mv1 rfl rfl ?_
        refine b_split (t := 26) rfl (fun _ => ?_) (fun _ => ?_)
        · refine s_on rfl rfl rfl ?_
          refine mv1 rfl rfl ?_
          refine s_on rfl rfl rfl ?_
          refine s_rd (r_faddr (fo := 1) Tryd.underlying27 rfl rfl Tryd.sizeOf25 rfl) rfl ?_
          refine s_on rfl rfl rfl ?_
          refine s_rd (r_cload Tryd.isAgg25 rfl (j := 0) rfl rfl) rfl ?_
          refine s_on rfl rfl rfl ?_
          refine mv1 rfl rfl ?_
          refine s_on rfl rfl rfl ?_
          refine pull fun t55 h_t55 => ?_
          refine s_rd (r_index h_t55 Tryd.underlying25 el_63 rfl rfl) rfl ?_
          refine s_on rfl rfl rfl ?_
          refine s_rd (r_fea (fo := 1) (ρ := rT_api_Pair) (y := t55) (ρ' := (rI .i64)) (z := t55.To) Tryd.underlying63 rfl rfl Tryd.sizeOf3 rfl rfl rfl) rfl ?_
          refine s_on rfl rfl rfl ?_
          refine s_rd (r_load el_3 rfl) rfl ?_
          refine s_on rfl rfl rfl ?_
          refine pull fun t56 h_t56 => ?_
          refine s_st (s_call (ψ := fun (_ : Unit) => bv t56) (args := [.tmp 27, .tmp 33]) Tryd.call44 rfl (net_In_ok h_t56) ⟨arg rfl, arg rfl, trivial⟩ (fun _ _ _ _ h => h)) rfl (fun _ => ?_)
          refine s_on rfl rfl rfl ?_
          refine s_rd (r_not rfl) rfl ?_
          refine s_rd (r_pickT rfl rfl) rfl ?_
          refine l_nil ?_
          exact b_to (hk59 (!t56) ()) (weak [0, 1, 2, 3] ⟨rfl, rfl, rfl, rfl, rfl, rfl, trivial⟩ ⟨rfl, rfl, rfl, rfl, trivial⟩)
        refine s_off rfl rfl rfl rfl rfl ?_
        refine s_off rfl rfl rfl rfl rfl ?_
        refine s_off rfl rfl rfl rfl rfl ?_
        refine s_off rfl rfl rfl rfl rfl ?_
        refine s_off rfl rfl rfl rfl rfl ?_
        refine s_off rfl rfl rfl rfl rfl ?_
        refine s_off rfl rfl rfl rfl rfl ?_
        refine s_off rfl rfl rfl rfl rfl ?_
        refine s_off rfl rfl rfl rfl rfl ?_
        refine s_rd (r_pickF rfl rfl) rfl ?_
        refine l_nil ?_
        exact b_to (hk59 false ()) (weak [0, 1, 2, 3] ⟨rfl, rfl, rfl, rfl, rfl, rfl, trivial⟩ ⟨rfl, rfl, rfl, rfl, trivial⟩)
      refine n_then ?_
      refine ref_cond rfl (fun hb60 => ?_) (fun hb60 => ?_)
      · refine ref_draw [0, 1, 2, 3, 4, 5, 6, 9] rfl (by kernel_rfl) (fun hok => ?_)
        refine a_rd (i := 0) hok rfl (by kernel_rfl) rfl (r_faddr (fo := 1) Tryd.underlying27 rfl rfl Tryd.sizeOf25 rfl) rfl ?_
        refine a_rd (i := 1) hok rfl (by kernel_rfl) rfl (r_cload Tryd.isAgg25 rfl (j := 2) rfl rfl) rfl ?_
        refine a_rd (i := 2) hok rfl (by kernel_rfl) rfl (r_faddr (fo := 1) Tryd.underlying27 rfl rfl Tryd.sizeOf25 rfl) rfl ?_
        refine a_rd (i := 3) hok rfl (by kernel_rfl) rfl (r_cload Tryd.isAgg25 rfl (j := 0) rfl rfl) rfl ?_
        refine a_rd (i := 4) hok rfl (by kernel_rfl) rfl (r_move rfl) rfl ?_
        refine pull fun t61 h_t61 => ?_
        refine a_rd (i := 5) hok rfl (by kernel_rfl) rfl (r_index h_t61 Tryd.underlying25 el_63 rfl rfl) rfl ?_
        refine a_rd (i := 6) hok rfl (by kernel_rfl) rfl (r_load el_63 rfl) rfl ?_
        refine a_next hok 7 [] (by kernel_rfl) ?_ trivial
        refine a_st (i := 7) hok rfl rfl (s_bslice (xs := [.tmp 43]) (ds := [t61]) Tryd.underlying25 el_63 rfl (Nat.le_of_ble_eq_true rfl) ⟨(part_agO (ψs := [iv .i64 t61.From, iv .i64 t61.To]) rfl ⟨.inl iv_at, .inl iv_at, trivial⟩), trivial⟩) (by intro _ h; cases h; rfl) (fun _ => ⟨trivial, ⟨trivial, ⟨trivial, ⟨⟨⟨rfl, rfl⟩, trivial⟩, ⟨trivial, ⟨⟨⟨rfl, rfl⟩, trivial⟩, ⟨trivial, trivial⟩⟩⟩⟩⟩⟩⟩) (fun _ => ?_)
        refine pull fun t62 h_t62 => ?_
        refine a_next hok 8 [] (by kernel_rfl) ?_ trivial
        refine a_st (i := 8) hok rfl rfl (s_append h_t62 Tryd.underlying25 el_63 rfl (j := 3) rfl rfl) (by intro _ h; cases h; rfl) (fun _ => ⟨trivial, ⟨trivial, ⟨trivial, ⟨⟨⟨rfl, rfl⟩, trivial⟩, ⟨trivial, ⟨trivial, ⟨trivial, trivial⟩⟩⟩⟩⟩⟩⟩) (fun o63 => ?_)
        refine a_rd (i := 9) hok rfl (by kernel_rfl) rfl (r_faddr (fo := 1) Tryd.underlying27 rfl rfl Tryd.sizeOf25 rfl) rfl ?_
        refine a_next hok 10 [] (by kernel_rfl) ?_ trivial
        refine a_st (i := 10) hok rfl rfl (s_cstore (out := [iv .i64 g_0.N, pv o63.1]) Tryd.sizeOf25 rfl (j := 2) rfl (part_own rfl (j := 3) rfl) rfl rfl rfl) (by intro _ h; cases h) (fun _ => ⟨trivial, ⟨trivial, ⟨trivial, ⟨trivial, ⟨trivial, ⟨trivial, ⟨trivial, ⟨trivial, trivial⟩⟩⟩⟩⟩⟩⟩⟩) (fun _ => ?_)
        refine a_fin hok (by kernel_rfl) ?_
        refine n_block (n_then (ref_region ?_))
        refine mv1 rfl rfl ?_
        refine s_rd (r_add rfl rfl) rfl ?_
        refine as1 rfl rfl ?_
        refine b_let (f := iv .i64) (t := 6) rfl fun i64x => ?_
        refine l_nil ?_
        exact goB o63 (weak [0, 1, 2, 3] ⟨rfl, rfl, rfl, rfl, rfl, trivial⟩ ⟨rfl, rfl, rfl, rfl, trivial⟩)
      refine ref_skip (n_block (n_then (ref_region ?_)))
      refine mv1 rfl rfl ?_
      refine s_rd (r_add rfl rfl) rfl ?_
      refine as1 rfl rfl ?_
      refine b_let (f := iv .i64) (t := 6) rfl fun i65 => ?_
      refine l_nil ?_
      exact goB x51 (weak [0, 1, 2, 3] ⟨rfl, rfl, rfl, rfl, rfl, trivial⟩ ⟨rfl, rfl, rfl, rfl, trivial⟩)
    refine ref_exit (x_then ?_)
    exact brkB x51 (weak [1, 2, 3] ⟨rfl, rfl, trivial⟩ ⟨rfl, rfl, rfl, trivial⟩)
  refine n_then (ref_seq (ref_region ?_))
  refine s_rd (r_cloadS Tryd.isAgg27 Tryd.sizeOf27 rfl (j := 1) rfl rfl rfl) rfl ?_
  refine s_st0 (s_cstore (out := [iv .i64 g_0.N, pv y67.1]) Tryd.sizeOf27 rfl (j := 0) rfl (part_agO (ψs := [iv .i64 g_0.N, pv y67.1]) rfl ⟨.inl iv_at, .inr ⟨_, _, _, _, _, 2, rfl, rfl⟩, trivial⟩) rfl rfl rfl) (fun _ => ?_)
  refine l_nil (n_then (ref_ret ?_))
  refine b_of (frzGL [(47, ag [iv .i64 g_0.N, slv rT_api_Pair q66])] [(0, b2, [iv .i64 g_0.N, slv rT_api_Pair q66]), (1, b3, [iv .i64 g_0.N, slv rT_api_Pair q66])] (j := 2) rfl ⟨⟨_, rfl, .inr ⟨_, _, rfl, rfl, ⟨.inl rfl, .inr ⟨rfl, rfl⟩, trivial⟩⟩⟩, trivial⟩ ⟨⟨_, rfl, ⟨.inl rfl, .inr ⟨rfl, rfl⟩, trivial⟩⟩, ⟨_, rfl, ⟨.inl rfl, .inr ⟨rfl, rfl⟩, trivial⟩⟩, trivial⟩) ?_
  refine b_of (nrm [oc b2 [iv .i64 g_0.N, slv rT_api_Pair q66], oc b3 [iv .i64 g_0.N, slv rT_api_Pair q66], dead] rfl) ?_
  exact fin1 (.inl rfl) () [] rfl trivial rfl (rv_cell rfl (j := 0) rfl Tryd.isAgg27 Tryd.sizeOf27 rfl rfl)

/-! deliberation/deliberationnet.Has -/
noncomputable def net_Has_l1 (g_0 : T_api_Graph) (from__1 : Int) (to__2 : Int) (s8 : Int) : Option (Sum ((Sum (Bool) (Unit))) (Int)) :=
  bif decide (s8 < (g_0.L.length : Int)) then
    Option.bind (idxM g_0.L s8) fun t11 =>
    bif t11.From == from__1 then
      Option.bind (idxM g_0.L s8) fun t12 =>
      bif t12.To == to__2 then
        some (Sum.inl (Sum.inl true))
      else
        some (Sum.inr (iadd .i64 s8 1))
    else
      some (Sum.inr (iadd .i64 s8 1))
  else
    some (Sum.inl (Sum.inr ()))

noncomputable def net_Has_m (g_0 : T_api_Graph) (from__1 : Int) (to__2 : Int) : Option (Bool) :=
  Option.bind (loopC (net_Has_l1 g_0 from__1 to__2) 0) (sumK (fun a : Bool => some a) fun q14 : Unit =>
    some false)

theorem net_Has_ok {g_0 : T_api_Graph} {from__1 : Int} {to__2 : Int} {r : Bool} (hm : net_Has_m g_0 from__1 to__2 = some r) :
    FnOk prog 67 [ag [iv .i64 g_0.N, slv rT_api_Pair g_0.L], iv .i64 from__1, iv .i64 to__2] [] (fun (x : Unit) => [bv r]) (fun (x : Unit) => []) := by
  refine fn_ok (fn := Tryd.f67) (N := 33) (res := fun r x => [bv r]) (Ω1 := fun r x => []) Tryd.func67 rfl rfl hm rfl (fun E hM => ?_)
  unfold net_Has_m
  refine ref_seq (ref_region ?_)
  refine s_st (s_box (part_agO (ψs := [iv .i64 g_0.N, slv rT_api_Pair g_0.L]) rfl ⟨.inl iv_at, .inl slv_at, trivial⟩)) rfl (fun b1 => ?_)
  refine as1 rfl rfl ?_
  refine l_nil (n_then (ref_seq (ref_seq (ref_region ?_))))
  refine as1 rfl rfl ?_
  refine l_nil (n_then ?_)
  refine ref_loopX (f := (net_Has_l1 g_0 from__1 to__2)) (Γl := (fun (s8 : Int) (x9 : Unit) => [(1, iv .i64 from__1), (2, iv .i64 to__2), (3, pv (ptr b1 0)), (7, iv .i64 s8)])) (Ωl := (fun (s8 : Int) (x9 : Unit) => [oc b1 [iv .i64 g_0.N, slv rT_api_Pair g_0.L]])) (Γb := (fun (q14 : Unit) (y15 : Unit) => [])) (Ωb := (fun (q14 : Unit) (y15 : Unit) => [])) (kr := (fun a : Bool => some a)) 0 () (weak [0] ⟨rfl, rfl, rfl, rfl, trivial⟩ ⟨rfl, trivial⟩) (fun s8 x9 => ?_) (fun q14 y15 => ?_)
  · unfold net_Has_l1
    refine ref_seq (ref_seq (ref_region ?_))
    refine mv1 rfl rfl ?_
    refine s_rd (r_faddr (fo := 1) Tryd.underlying27 rfl rfl Tryd.sizeOf25 rfl) rfl ?_
    refine s_rd (r_cload Tryd.isAgg25 rfl (j := 0) rfl rfl) rfl ?_
    refine s_rd (r_len Tryd.underlying25 rfl) rfl ?_
    refine s_rd (r_lss rfl rfl) rfl ?_
    refine l_nil (n_then ?_)
    refine ref_cond rfl (fun hb10 => ?_) (fun hb10 => ?_)
    · refine ref_skip (n_then (ref_seq (ref_block (ref_seq (ref_region ?_)))))
      refine s_rd (r_faddr (fo := 1) Tryd.underlying27 rfl rfl Tryd.sizeOf25 rfl) rfl ?_
      refine s_rd (r_cload Tryd.isAgg25 rfl (j := 0) rfl rfl) rfl ?_
      refine mv1 rfl rfl ?_
      refine pull fun t11 h_t11 => ?_
      refine s_rd (r_index h_t11 Tryd.underlying25 el_63 rfl rfl) rfl ?_
      refine s_rd (r_fea (fo := 0) (ρ := rT_api_Pair) (y := t11) (ρ' := (rI .i64)) (z := t11.From) Tryd.underlying63 rfl rfl Tryd.sizeOf3 rfl rfl rfl) rfl ?_
      refine s_rd (r_load el_3 rfl) rfl ?_
      refine mv1 rfl rfl ?_
      refine s_rd (r_eql rfl rfl) rfl ?_
      refine mv1 rfl rfl ?_
      refine b_split (t := 23) rfl (fun _ => ?_) (fun _ => ?_)
      · refine s_on rfl rfl rfl ?_
        refine s_rd (r_faddr (fo := 1) Tryd.underlying27 rfl rfl Tryd.sizeOf25 rfl) rfl ?_
        refine s_on rfl rfl rfl ?_
        refine s_rd (r_cload Tryd.isAgg25 rfl (j := 0) rfl rfl) rfl ?_
        refine s_on rfl rfl rfl ?_
        refine mv1 rfl rfl ?_
        refine s_on rfl rfl rfl ?_
        refine pull fun t12 h_t12 => ?_
        refine s_rd (r_index h_t12 Tryd.underlying25 el_63 rfl rfl) rfl ?_
        refine s_on rfl rfl rfl ?_
        refine s_rd (r_fea (fo := 1) (ρ := rT_api_Pair) (y := t12) (ρ' := (rI .i64)) (z := t12.To) Tryd.underlying63 rfl rfl Tryd.sizeOf3 rfl rfl rfl) rfl ?_
        refine s_on rfl rfl rfl ?_
        refine s_rd (r_load el_3 rfl) rfl ?_
        refine s_on rfl rfl rfl ?_
        refine mv1 rfl rfl ?_
        refine s_on rfl rfl rfl ?_
        refine s_rd (r_eql rfl rfl) rfl ?_
        refine s_rd (r_pickT rfl rfl) rfl ?_
        refine l_nil (n_then ?_)
        refine ref_cond rfl (fun hb13 => ?_) (fun hb13 => ?_)
        · refine ref_seq (ref_region ?_)
          refine as1 rfl rfl ?_
          refine l_nil (n_then (ref_ret (r_block (r_then ?_))))
          refine retX ?_
          refine r_block (r_then ?_)
          exact fin1 (.inl rfl) () [] rfl trivial rfl (rv_tmp rfl)
        refine ref_skip (n_block (n_then (ref_region ?_)))
        refine mv1 rfl rfl ?_
        refine s_rd (r_add rfl rfl) rfl ?_
        refine as1 rfl rfl ?_
        refine l_nil ?_
        exact goX () (weak [0] ⟨rfl, rfl, rfl, rfl, trivial⟩ ⟨rfl, trivial⟩)
      refine s_off rfl rfl rfl rfl rfl ?_
      refine s_off rfl rfl rfl rfl rfl ?_
      refine s_off rfl rfl rfl rfl rfl ?_
      refine s_off rfl rfl rfl rfl rfl ?_
      refine s_off rfl rfl rfl rfl rfl ?_
      refine s_off rfl rfl rfl rfl rfl ?_
      refine s_off rfl rfl rfl rfl rfl ?_
      refine s_off rfl rfl rfl rfl rfl ?_
      refine s_rd (r_pickF rfl rfl) rfl ?_
      refine l_nil (n_then ?_)
      refine ref_condF rfl rfl ?_
      refine ref_skip (n_block (n_then (ref_region ?_)))
      refine mv1 rfl rfl ?_
      refine s_rd (r_add rfl rfl) rfl ?_
      refine as1 rfl rfl ?_
      refine l_nil ?_
      exact goX () (weak [0] ⟨rfl, rfl, rfl, rfl, trivial⟩ ⟨rfl, trivial⟩)
    refine ref_exit (x_then ?_)
    exact brkX () (weak [] trivial trivial)
  refine n_then (ref_seq (ref_region ?_))
  refine as1 rfl rfl ?_
  refine l_nil (n_then (ref_ret ?_))
  exact fin1 (.inl rfl) () [] rfl trivial rfl (rv_tmp rfl)

/-! deliberation/deliberationnet.Attacked -/
noncomputable def net_Attacked_l1 (g_0 : T_api_Graph) (s_1 : (List Int)) (a__2 : Int) (s8 : Int) : Option (Sum ((Sum (Bool) (Unit))) (Int)) :=
  bif decide (s8 < (s_1.length : Int)) then
    Option.bind (idxM s_1 s8) fun t11 =>
    Option.bind (net_Has_m g_0 t11 a__2) fun t12 =>
    bif t12 then
      some (Sum.inl (Sum.inl true))
    else
      some (Sum.inr (iadd .i64 s8 1))
  else
    some (Sum.inl (Sum.inr ()))

noncomputable def net_Attacked_m (g_0 : T_api_Graph) (s_1 : (List Int)) (a__2 : Int) : Option (Bool) :=
  Option.bind (loopC (net_Attacked_l1 g_0 s_1 a__2) 0) (sumK (fun a : Bool => some a) fun q14 : Unit =>
    some false)

theorem net_Attacked_ok {g_0 : T_api_Graph} {s_1 : (List Int)} {a__2 : Int} {r : Bool} (hm : net_Attacked_m g_0 s_1 a__2 = some r) :
    FnOk prog 68 [ag [iv .i64 g_0.N, slv rT_api_Pair g_0.L], slv (rI .i64) s_1, iv .i64 a__2] [] (fun (x : Unit) => [bv r]) (fun (x : Unit) => []) := by
  refine fn_ok (fn := Tryd.f68) (N := 21) (res := fun r x => [bv r]) (Ω1 := fun r x => []) Tryd.func68 rfl rfl hm rfl (fun E hM => ?_)
  unfold net_Attacked_m
  refine ref_seq (ref_region ?_)
  refine s_st (s_box (part_agO (ψs := [iv .i64 g_0.N, slv rT_api_Pair g_0.L]) rfl ⟨.inl iv_at, .inl slv_at, trivial⟩)) rfl (fun b1 => ?_)
  refine as1 rfl rfl ?_
  refine l_nil (n_then (ref_seq (ref_seq (ref_region ?_))))
  refine as1 rfl rfl ?_
  refine l_nil (n_then ?_)
  refine ref_loopX (f := (net_Attacked_l1 g_0 s_1 a__2)) (Γl := (fun (s8 : Int) (x9 : Unit) => [(1, slv (rI .i64) s_1), (2, iv .i64 a__2), (3, pv (ptr b1 0)), (7, iv .i64 s8)])) (Ωl := (fun (s8 : Int) (x9 : Unit) => [oc b1 [iv .i64 g_0.N, slv rT_api_Pair g_0.L]])) (Γb := (fun (q14 : Unit) (y15 : Unit) => [])) (Ωb := (fun (q14 : Unit) (y15 : Unit) => [])) (kr := (fun a : Bool => some a)) 0 () (weak [0] ⟨rfl, rfl, rfl, rfl, trivial⟩ ⟨rfl, trivial⟩) (fun s8 x9 => ?_) (fun q14 y15 => ?_)
  · unfold net_Attacked_l1
    refine ref_seq (ref_seq (ref_region ?_))
    refine mv1 rfl rfl ?_
    refine mv1 rfl rfl ?_
    refine s_rd (r_len Tryd.underlying22 rfl) rfl ?_
    refine s_rd (r_lss rfl rfl) rfl ?_
    refine l_nil (n_then ?_)
    refine ref_cond rfl (fun hb10 => ?_) (fun hb10 => ?_)
    · refine ref_skip (n_then (ref_seq (ref_block (ref_seq ?_))))
      refine ref_draw [0, 1, 2, 3, 4, 5] rfl (by kernel_rfl) (fun hok => ?_)
      refine a_rd (i := 0) hok rfl (by kernel_rfl) rfl (r_cloadS Tryd.isAgg27 Tryd.sizeOf27 rfl (j := 0) rfl rfl rfl) rfl ?_
      refine a_rd (i := 1) hok rfl (by kernel_rfl) rfl (r_move rfl) rfl ?_
      refine a_rd (i := 2) hok rfl (by kernel_rfl) rfl (r_move rfl) rfl ?_
      refine pull fun t11 h_t11 => ?_
      refine a_rd (i := 3) hok rfl (by kernel_rfl) rfl (r_index h_t11 Tryd.underlying22 el_3 rfl rfl) rfl ?_
      refine a_rd (i := 4) hok rfl (by kernel_rfl) rfl (r_load el_3 rfl) rfl ?_
      refine a_rd (i := 5) hok rfl (by kernel_rfl) rfl (r_move rfl) rfl ?_
      refine pull fun t12 h_t12 => ?_
      refine a_next hok 6 [] (by kernel_rfl) ?_ trivial
      refine a_st (i := 6) hok rfl rfl (s_call (ψ := fun (_ : Unit) => bv t12) (args := [.tmp 14, .tmp 18, .tmp 19]) Tryd.call67 rfl (net_Has_ok h_t12) ⟨arg rfl, arg rfl, arg rfl, trivial⟩ (fun _ _ _ _ h => h)) (by intro _ h; cases h; rfl) (fun _ => ⟨trivial, ⟨trivial, ⟨trivial, ⟨trivial, ⟨trivial, ⟨trivial, trivial⟩⟩⟩⟩⟩⟩) (fun _ => ?_)
      refine a_fin hok (by kernel_rfl) ?_
      refine n_then ?_
      refine ref_cond rfl (fun hb13 => ?_) (fun hb13 => ?_)
      · refine ref_seq (ref_region ?_)
        refine as1 rfl rfl ?_
        refine l_nil (n_then (ref_ret (r_block (r_then ?_))))
        refine retX ?_
        refine r_block (r_then ?_)
        exact fin1 (.inl rfl) () [] rfl trivial rfl (rv_tmp rfl)
      refine ref_skip (n_block (n_then (ref_region ?_)))
      refine mv1 rfl rfl ?_
      refine s_rd (r_add rfl rfl) rfl ?_
      refine as1 rfl rfl ?_
      refine l_nil ?_
      exact goX () (weak [0] ⟨rfl, rfl, rfl, rfl, trivial⟩ ⟨rfl, trivial⟩)
    refine ref_exit (x_then ?_)
    exact brkX () (weak [] trivial trivial)
  refine n_then (ref_seq (ref_region ?_))
  refine as1 rfl rfl ?_
  refine l_nil (n_then (ref_ret ?_))
  exact fin1 (.inl rfl) () [] rfl trivial rfl (rv_tmp rfl)

end Go.Dc
