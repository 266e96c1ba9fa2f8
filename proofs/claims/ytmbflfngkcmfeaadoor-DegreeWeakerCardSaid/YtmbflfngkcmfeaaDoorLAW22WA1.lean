/- Part LAW22W.A1 of a proof: lemmas. -/
import Derived.Test.YtmbflfngkcmfeaaDoorLAW22WA0
import Derived.Test.YtmbflfngkcmfeaaDoorProg
set_option linter.unusedVariables false
set_option maxRecDepth 100000
set_option maxHeartbeats 4000000
namespace Go.Dc
open Go.Proofs
open Go.Proofs.Tryd (prog)

/-! deliberation/degree.Budget -/
noncomputable def degree_Budget_l2 (weights_1 : (List Int)) (s105 : (Option T_api_Budget) × Int) (s133 : Int × Int × (List Int)) : Option (Sum (Int × (List Int)) (Int × Int × (List Int))) :=
  bif decide (s133.1 < (weights_1.length : Int)) then
    Option.bind (idxM weights_1 s133.1) fun w_136 =>
    Option.bind (ishrM .i64 s105.2 s133.1) fun t137 =>
    bif (iand .i64 t137 1) == 1 then
      Option.bind (appM 8 s133.2.2 [s133.1]) fun t139 =>
      some (Sum.inr (iadd .i64 s133.1 1, iadd .i64 s133.2.1 w_136, t139))
    else
      some (Sum.inr (iadd .i64 s133.1 1, s133.2.1, s133.2.2))
  else
    some (Sum.inl (s133.2.1, s133.2.2))

noncomputable def degree_Budget_l1 (g_0 : T_api_Graph) (weights_1 : (List Int)) (node_2 : Int) (t10 : Int) (s105 : (Option T_api_Budget) × Int) : Option (Sum ((Option T_api_Budget)) ((Option T_api_Budget) × Int)) :=
  bif decide (s105.2 < t10) then
    Option.bind (loopC (degree_Budget_l2 weights_1 s105) (0, 0, [])) fun q141 : Int × (List Int) =>
    joinM (fun j148 : Unit =>
        Option.bind (degree_without_m g_0 s105.2) fun t151 =>
        Option.bind (network_New_m t151) fun t152 =>
        Option.bind (network_Net_In_m t152) fun t153 =>
        Option.bind (network_Set_Has_m t153 node_2) fun t154 =>
        bif t154 then
          some (Sum.inr ((some (T_api_Budget.mk q141.1 q141.2)), iadd .i64 s105.2 1))
        else
          some (Sum.inr (s105.1, iadd .i64 s105.2 1))) fun k150 =>
    bif s105.1.isSome then
      Option.bind (s105.1) fun p143 =>
      bif decide (q141.1 > p143.Weight) then
        some (Sum.inr (s105.1, iadd .i64 s105.2 1))
      else
        Option.bind (s105.1) fun p144 =>
        bif q141.1 == p144.Weight then
          Option.bind (s105.1) fun p145 =>
          Option.bind (slices_Compare_int_int_m q141.2 p145.Dropped) fun t146 =>
          bif decide (t146 ≥ 0) then
            some (Sum.inr (s105.1, iadd .i64 s105.2 1))
          else
            k150 ()
        else
          k150 ()
    else
      k150 ()
  else
    some (Sum.inl s105.1)

noncomputable def degree_Budget_m (g_0 : T_api_Graph) (weights_1 : (List Int)) (node_2 : Int) : Option (T_api_Budget × Int) :=
  Option.bind (graph_Validate_m g_0) fun e3 =>
  bif e3 != 0 then
    some ((T_api_Budget.mk 0 []), e3)
  else
    letM (decide ((g_0.L.length : Int) > 12)) fun t5 =>
    bif t5 then
      some ((T_api_Budget.mk 0 []), 2)
    else
      Option.bind (degree_weighs_m g_0 weights_1) fun t7 =>
      bif !t7 then
        some ((T_api_Budget.mk 0 []), 1)
      else
        bif decide (node_2 < 0) then
          some ((T_api_Budget.mk 0 []), 1)
        else
          letM (decide (node_2 ≥ g_0.N)) fun t8 =>
          bif t8 then
            some ((T_api_Budget.mk 0 []), 1)
          else
            Option.bind (ishlM .i64 1 (g_0.L.length : Int)) fun t10 =>
            Option.bind (loopC (degree_Budget_l1 g_0 weights_1 node_2 t10) (none, 0)) fun q156 : (Option T_api_Budget) =>
            Option.bind (q156) fun p158 =>
            some (p158, 0)

theorem degree_Budget_ok {g_0 : T_api_Graph} {weights_1 : (List Int)} {node_2 : Int} {r : T_api_Budget × Int} (hm : degree_Budget_m g_0 weights_1 node_2 = some r) :
    FnOk prog 12 [ag [iv .i64 g_0.N, slv rT_api_Pair g_0.L], slv (rI .i64) weights_1, iv .i64 node_2] [tbO (rI .u8) 0 tab_0] (fun (x : Unit) => [ag [iv .i64 r.1.Weight, slv (rI .i64) r.1.Dropped], iv .i64 r.2]) (fun (x : Unit) => [tbO (rI .u8) 0 tab_0]) := by
  refine fn_ok (fn := Tryd.f12) (N := 115) (res := fun r x => [ag [iv .i64 r.1.Weight, slv (rI .i64) r.1.Dropped], iv .i64 r.2]) (Ω1 := fun r x => [tbO (rI .u8) 0 tab_0]) Tryd.func12 rfl rfl hm rfl (fun E hM => ?_)
  unfold degree_Budget_m
  refine ref_seq (ref_region ?_)
  refine s_st (s_box (part_agO (ψs := [iv .i64 g_0.N, slv rT_api_Pair g_0.L]) rfl ⟨.inl iv_at, .inl slv_at, trivial⟩)) rfl (fun b1 => ?_)
  refine s_st (s_alloc zt_32) rfl (fun b2 => ?_)
  refine as1 rfl rfl ?_
  refine l_nil (n_then (ref_seq (ref_seq (ref_region ?_))))
  refine s_rd (r_cloadS Tryd.isAgg27 Tryd.sizeOf27 rfl (j := 1) rfl rfl rfl) rfl ?_
  refine pull fun e3 h_e3 => ?_
  refine s_st (s_call (ψ := fun (_ : Unit) => iv .i64 e3) (args := [.tmp 14]) Tryd.call36 rfl (graph_Validate_ok h_e3) ⟨arg rfl, trivial⟩ (fun _ _ _ _ h => h)) rfl (fun _ => ?_)
  refine as1 rfl rfl ?_
  refine l_nil (n_then (ref_seq (ref_region ?_)))
  refine mv1 rfl rfl ?_
  refine s_rd (r_neq rfl rfl) rfl ?_
  refine l_nil (n_then ?_)
  refine ref_cond rfl (fun hb4 => ?_) (fun hb4 => ?_)
  · refine ref_seq (ref_region ?_)
    refine s_rd (r_build (ps := []) (rs := []) st_32 zs_32 trivial rfl rfl) rfl ?_
    refine mv1 rfl rfl ?_
    refine s_st0 (s_cstore (out := [iv .i64 0, pv (.slice none 0 0)]) Tryd.sizeOf32 rfl (j := 2) rfl (part_agO (ψs := [iv .i64 0, pv (.slice none 0 0)]) rfl ⟨.inl iv_at, .inl (pv_at rfl), trivial⟩) rfl rfl rfl) (fun _ => ?_)
    refine as1 rfl rfl ?_
    refine l_nil ?_
    refine b_of (nrm [tbO (rI .u8) 0 tab_0, oc b1 [iv .i64 g_0.N, slv rT_api_Pair g_0.L], oc b2 [iv .i64 0, pv (.slice none 0 0)]] rfl) ?_
    refine n_then (ref_ret (r_then ?_))
    refine b_of (ocW 2 [iv .i64 0, slv (rI .i64) []] rfl ⟨imp_rfl, nil_sl, trivial⟩) ?_
    exact fin2 (.inl rfl) () [0] rfl ⟨rfl, trivial⟩ rfl (rv_cell rfl (j := 2) rfl Tryd.isAgg32 Tryd.sizeOf32 rfl rfl) (rv_tmp rfl)
  refine ref_skip (n_then (ref_seq (ref_block (ref_seq (ref_region ?_)))))
  refine s_rd (r_faddr (fo := 1) Tryd.underlying27 rfl rfl Tryd.sizeOf25 rfl) rfl ?_
  refine s_rd (r_cload Tryd.isAgg25 rfl (j := 1) rfl rfl) rfl ?_
  refine s_rd (r_len Tryd.underlying25 rfl) rfl ?_
  refine s_rd (r_gtr rfl rfl) rfl ?_
  refine as1 rfl rfl ?_
  refine b_let (f := bv) (t := 20) rfl fun t5 => ?_
  refine l_nil (n_then ?_)
  refine ref_cond rfl (fun hb6 => ?_) (fun hb6 => ?_)
  · refine ref_seq (ref_region ?_)
    refine s_rd (r_build (ps := []) (rs := []) st_32 zs_32 trivial rfl rfl) rfl ?_
    refine s_st0 (s_cstore (out := [iv .i64 0, pv (.slice none 0 0)]) Tryd.sizeOf32 rfl (j := 2) rfl (part_agO (ψs := [iv .i64 0, pv (.slice none 0 0)]) rfl ⟨.inl iv_at, .inl (pv_at rfl), trivial⟩) rfl rfl rfl) (fun _ => ?_)
    refine as1 rfl rfl ?_
    refine l_nil ?_
    refine b_of (nrm [tbO (rI .u8) 0 tab_0, oc b1 [iv .i64 g_0.N, slv rT_api_Pair g_0.L], oc b2 [iv .i64 0, pv (.slice none 0 0)]] rfl) ?_
    refine n_then (ref_ret (r_block (r_then ?_)))
    refine b_of (ocW 2 [iv .i64 0, slv (rI .i64) []] rfl ⟨imp_rfl, nil_sl, trivial⟩) ?_
    exact fin2 (.inl rfl) () [0] rfl ⟨rfl, trivial⟩ rfl (rv_cell rfl (j := 2) rfl Tryd.isAgg32 Tryd.sizeOf32 rfl rfl) (rv_tmp rfl)
  refine ref_seq (ref_region ?_)
  refine s_rd (r_cloadS Tryd.isAgg27 Tryd.sizeOf27 rfl (j := 1) rfl rfl rfl) rfl ?_
  refine mv1 rfl rfl ?_
  refine pull fun t7 h_t7 => ?_
  refine s_st (s_call (ψ := fun (_ : Unit) => bv t7) (args := [.tmp 27, .tmp 28]) Tryd.call37 rfl (degree_weighs_ok h_t7) ⟨arg rfl, arg rfl, trivial⟩ (fun _ _ _ _ h => h)) rfl (fun _ => ?_)
  refine s_rd (r_not rfl) rfl ?_
  refine mv1 rfl rfl ?_
  refine b_split (t := 31) rfl (fun _ => ?_) (fun _ => ?_)
  · refine s_off rfl rfl rfl rfl rfl ?_
    refine s_off rfl rfl rfl rfl rfl ?_
    refine s_rd (r_pickT rfl rfl) rfl ?_
    refine mv1 rfl rfl ?_
    refine s_off rfl rfl rfl rfl rfl ?_
    refine s_off rfl rfl rfl rfl rfl ?_
    refine s_off rfl rfl rfl rfl rfl ?_
    refine s_off rfl rfl rfl rfl rfl ?_
    refine s_rd (r_pickT rfl rfl) rfl ?_
    refine as1 rfl rfl ?_
    refine l_nil ?_
    refine b_of (nrm [tbO (rI .u8) 0 tab_0, oc b1 [iv .i64 g_0.N, slv rT_api_Pair g_0.L], oc b2 [iv .i64 0, pv (.slice none 0 0)]] rfl) ?_
    refine n_then ?_
    refine ref_condT rfl rfl ?_
    refine ref_seq (ref_region ?_)
    refine s_rd (r_build (ps := []) (rs := []) st_32 zs_32 trivial rfl rfl) rfl ?_
    refine s_st0 (s_cstore (out := [iv .i64 0, pv (.slice none 0 0)]) Tryd.sizeOf32 rfl (j := 2) rfl (part_agO (ψs := [iv .i64 0, pv (.slice none 0 0)]) rfl ⟨.inl iv_at, .inl (pv_at rfl), trivial⟩) rfl rfl rfl) (fun _ => ?_)
    refine as1 rfl rfl ?_
    refine l_nil (n_then (ref_ret (r_block (r_then ?_))))
    refine b_of (ocW 2 [iv .i64 0, slv (rI .i64) []] rfl ⟨imp_rfl, nil_sl, trivial⟩) ?_
    exact fin2 (.inl rfl) () [0] rfl ⟨rfl, trivial⟩ rfl (rv_cell rfl (j := 2) rfl Tryd.isAgg32 Tryd.sizeOf32 rfl rfl) (rv_tmp rfl)
  refine s_on rfl rfl rfl ?_
  refine mv1 rfl rfl ?_
  refine s_on rfl rfl rfl ?_
  refine s_rd (r_lss rfl rfl) rfl ?_
  refine s_rd (r_pickF rfl rfl) rfl ?_
  refine mv1 rfl rfl ?_
  refine b_split (t := 35) rfl (fun _ => ?_) (fun _ => ?_)
  · refine s_off rfl rfl rfl rfl rfl ?_
    refine s_off rfl rfl rfl rfl rfl ?_
    refine s_off rfl rfl rfl rfl rfl ?_
    refine s_off rfl rfl rfl rfl rfl ?_
    refine s_rd (r_pickT rfl rfl) rfl ?_
    refine as1 rfl rfl ?_
    refine l_nil ?_
    refine b_of (nrm [tbO (rI .u8) 0 tab_0, oc b1 [iv .i64 g_0.N, slv rT_api_Pair g_0.L], oc b2 [iv .i64 0, pv (.slice none 0 0)]] rfl) ?_
    refine n_then ?_
    refine ref_condT rfl rfl ?_
    refine ref_seq (ref_region ?_)
    refine s_rd (r_build (ps := []) (rs := []) st_32 zs_32 trivial rfl rfl) rfl ?_
    refine s_st0 (s_cstore (out := [iv .i64 0, pv (.slice none 0 0)]) Tryd.sizeOf32 rfl (j := 2) rfl (part_agO (ψs := [iv .i64 0, pv (.slice none 0 0)]) rfl ⟨.inl iv_at, .inl (pv_at rfl), trivial⟩) rfl rfl rfl) (fun _ => ?_)
    refine as1 rfl rfl ?_
    refine l_nil (n_then (ref_ret (r_block (r_then ?_))))
    refine b_of (ocW 2 [iv .i64 0, slv (rI .i64) []] rfl ⟨imp_rfl, nil_sl, trivial⟩) ?_
    exact fin2 (.inl rfl) () [0] rfl ⟨rfl, trivial⟩ rfl (rv_cell rfl (j := 2) rfl Tryd.isAgg32 Tryd.sizeOf32 rfl rfl) (rv_tmp rfl)
  refine s_on rfl rfl rfl ?_
  refine mv1 rfl rfl ?_
  refine s_on rfl rfl rfl ?_
  refine s_rd (r_faddr (fo := 0) Tryd.underlying27 rfl rfl Tryd.sizeOf3 rfl) rfl ?_
  refine s_on rfl rfl rfl ?_
  refine s_rd (r_cload Tryd.isAgg3 rfl (j := 1) rfl rfl) rfl ?_
  refine s_on rfl rfl rfl ?_
  refine s_rd (r_geq rfl rfl) rfl ?_
  refine s_rd (r_pickF rfl rfl) rfl ?_
  refine as1 rfl rfl ?_
  refine b_let (f := bv) (t := 26) rfl fun t8 => ?_
  refine l_nil ?_
  refine b_of (nrm [tbO (rI .u8) 0 tab_0, oc b1 [iv .i64 g_0.N, slv rT_api_Pair g_0.L], oc b2 [iv .i64 0, pv (.slice none 0 0)]] rfl) ?_
  refine n_then ?_
  refine ref_cond rfl (fun hb9 => ?_) (fun hb9 => ?_)
  · refine ref_seq (ref_region ?_)
    refine s_rd (r_build (ps := []) (rs := []) st_32 zs_32 trivial rfl rfl) rfl ?_
    refine s_st0 (s_cstore (out := [iv .i64 0, pv (.slice none 0 0)]) Tryd.sizeOf32 rfl (j := 2) rfl (part_agO (ψs := [iv .i64 0, pv (.slice none 0 0)]) rfl ⟨.inl iv_at, .inl (pv_at rfl), trivial⟩) rfl rfl rfl) (fun _ => ?_)
    refine as1 rfl rfl ?_
    refine l_nil (n_then (ref_ret (r_block (r_then ?_))))
    refine b_of (ocW 2 [iv .i64 0, slv (rI .i64) []] rfl ⟨imp_rfl, nil_sl, trivial⟩) ?_
    exact fin2 (.inl rfl) () [0] rfl ⟨rfl, trivial⟩ rfl (rv_cell rfl (j := 2) rfl Tryd.isAgg32 Tryd.sizeOf32 rfl rfl) (rv_tmp rfl)
  refine ref_skip (n_block (n_then (ref_seq (ref_region ?_))))
  refine as1 rfl rfl ?_
  refine l_nil (n_then (ref_seq (ref_seq (ref_region ?_))))
  refine s_rd (r_faddr (fo := 1) Tryd.underlying27 rfl rfl Tryd.sizeOf25 rfl) rfl ?_
  refine s_rd (r_cload Tryd.isAgg25 rfl (j := 1) rfl rfl) rfl ?_
  refine s_rd (r_len Tryd.underlying25 rfl) rfl ?_
  refine pull fun t10 h_t10 => ?_
  refine s_rd (r_shlM h_t10 rfl rfl) rfl ?_
  refine mv1 rfl rfl ?_
  refine l_nil (n_then ?_)
  refine b_of (opt_nil rT_api_Budget (t := 9) rfl) ?_
  refine ref_loopB (f := (degree_Budget_l1 g_0 weights_1 node_2 t10)) (Γl := (fun (s105 : (Option T_api_Budget) × Int) (x106 : Unit) => [(1, slv (rI .i64) weights_1), (2, iv .i64 node_2), (3, pv (ptr b1 0)), (6, pv (ptr b2 0)), (9, oea rT_api_Budget s105.1), (45, iv .i64 t10), (46, iv .i64 s105.2)])) (Ωl := (fun (s105 : (Option T_api_Budget) × Int) (x106 : Unit) => [tbO (rI .u8) 0 tab_0, oc b1 [iv .i64 g_0.N, slv rT_api_Pair g_0.L], oc b2 [iv .i64 0, pv (.slice none 0 0)]])) (Γb := (fun (q156 : (Option T_api_Budget)) (y157 : Unit) => [(6, pv (ptr b2 0)), (9, oea rT_api_Budget q156)])) (Ωb := (fun (q156 : (Option T_api_Budget)) (y157 : Unit) => [oc b2 [iv .i64 0, pv (.slice none 0 0)], tbO (rI .u8) 0 tab_0])) (none, 0) () (weak [0, 1, 2] ⟨rfl, rfl, rfl, rfl, rfl, rfl, rfl, trivial⟩ ⟨rfl, rfl, rfl, trivial⟩) (fun s105 x106 => ?_) (fun q156 y157 => ?_)
  · unfold degree_Budget_l1
    refine ref_seq (ref_region ?_)
    refine s_rd (r_lss rfl rfl) rfl ?_
    refine l_nil (n_then (ref_seq ?_))
    refine ref_cond rfl (fun hb107 => ?_) (fun hb107 => ?_)
    · refine ref_skip (n_then (ref_seq (ref_block (ref_seq (ref_region ?_)))))
      refine mv1 rfl rfl ?_
      refine s_st (s_alloc zt_3) rfl (fun b108 => ?_)
      refine s_st0 (s_cstore (out := [iv .i64 s105.2]) Tryd.sizeOf3 rfl (j := 3) rfl (part_at rfl iv_at) rfl rfl rfl) (fun _ => ?_)
      refine l_nil (n_then (ref_seq (ref_region ?_)))
      refine s_rd (r_build (ps := []) (rs := []) st_32 zs_32 trivial rfl rfl) rfl ?_
      refine s_st (s_alloc zt_32) rfl (fun b109 => ?_)
      refine s_st0 (s_cstore (out := [iv .i64 0, pv (.slice none 0 0)]) Tryd.sizeOf32 rfl (j := 4) rfl (part_agO (ψs := [iv .i64 0, pv (.slice none 0 0)]) rfl ⟨.inl iv_at, .inl (pv_at rfl), trivial⟩) rfl rfl rfl) (fun _ => ?_)
      refine l_nil ?_
      refine b_of (nrm [tbO (rI .u8) 0 tab_0, oc b1 [iv .i64 g_0.N, slv rT_api_Pair g_0.L], oc b2 [iv .i64 0, pv (.slice none 0 0)], oc b108 [iv .i64 s105.2], oc b109 [iv .i64 0, pv (.slice none 0 0)]] rfl) ?_
      refine n_then (ref_seq (ref_seq (ref_region ?_)))
      refine mv1 rfl rfl ?_
      refine s_rd (r_len Tryd.underlying22 rfl) rfl ?_
      refine mv1 rfl rfl ?_
      refine l_nil (n_then ?_)
      refine b_of (own_nil (rI .i64)) ?_
      refine ref_loopB (f := (degree_Budget_l2 weights_1 s105)) (Γl := (fun (s133 : Int × Int × (List Int)) (x134 : (Value × List Nat)) => [(1, slv (rI .i64) weights_1), (2, iv .i64 node_2), (3, pv (ptr b1 0)), (6, pv (ptr b2 0)), (9, oea rT_api_Budget s105.1), (10, pv (ptr b108 0)), (11, pv (ptr b109 0)), (45, iv .i64 t10), (46, iv .i64 s105.2), (50, slv (rI .i64) weights_1), (51, iv .i64 (weights_1.length : Int)), (52, iv .i64 s133.1)])) (Ωl := (fun (s133 : Int × Int × (List Int)) (x134 : (Value × List Nat)) => [tbO (rI .u8) 0 tab_0, oc b1 [iv .i64 g_0.N, slv rT_api_Pair g_0.L], oc b2 [iv .i64 0, pv (.slice none 0 0)], oc b108 [iv .i64 s105.2], oc b109 [iv .i64 s133.2.1, pv x134.1], oa (rI .i64) x134.1 x134.2 s133.2.2])) (Γb := (fun (q141 : Int × (List Int)) (y142 : (Value × List Nat)) => [(1, slv (rI .i64) weights_1), (2, iv .i64 node_2), (3, pv (ptr b1 0)), (6, pv (ptr b2 0)), (9, oea rT_api_Budget s105.1), (10, pv (ptr b108 0)), (11, pv (ptr b109 0)), (45, iv .i64 t10), (46, iv .i64 s105.2)])) (Ωb := (fun (q141 : Int × (List Int)) (y142 : (Value × List Nat)) => [oc b1 [iv .i64 g_0.N, slv rT_api_Pair g_0.L], oc b2 [iv .i64 0, pv (.slice none 0 0)], oc b108 [iv .i64 s105.2], oc b109 [iv .i64 q141.1, pv y142.1], oa (rI .i64) y142.1 y142.2 q141.2, tbO (rI .u8) 0 tab_0])) (0, 0, []) ((.slice none 0 0), []) (weak [0, 1, 2, 3, 4, 5] ⟨rfl, rfl, rfl, rfl, rfl, rfl, rfl, rfl, rfl, rfl, rfl, rfl, trivial⟩ ⟨rfl, rfl, rfl, rfl, rfl, rfl, trivial⟩) (fun s133 x134 => ?_) (fun q141 y142 => ?_)
      · unfold degree_Budget_l2
        refine ref_seq (ref_region ?_)
        refine s_rd (r_lss rfl rfl) rfl ?_
        refine l_nil (n_then (ref_seq ?_))
        refine ref_cond rfl (fun hb135 => ?_) (fun hb135 => ?_)
        · refine ref_skip (n_then (ref_seq (ref_block (ref_seq (ref_region ?_)))))
          refine mv1 rfl rfl ?_
          refine pull fun w_136 h_w_136 => ?_
          refine s_rd (r_index h_w_136 Tryd.underlying22 el_3 rfl rfl) rfl ?_
          refine s_rd (r_load el_3 rfl) rfl ?_
          refine as1 rfl rfl ?_
          refine as1 rfl rfl ?_
          refine l_nil (n_then (ref_seq (ref_region ?_)))
          refine s_rd (r_cload Tryd.isAgg3 rfl (j := 3) rfl rfl) rfl ?_
          refine mv1 rfl rfl ?_
          refine pull fun t137 h_t137 => ?_
          refine s_rd (r_shrM h_t137 rfl rfl) rfl ?_
          refine s_rd (r_and rfl rfl) rfl ?_
          refine s_rd (r_eql rfl rfl) rfl ?_
          refine l_nil (n_then ?_)
          refine ref_cond rfl (fun hb138 => ?_) (fun hb138 => ?_)
          · refine ref_draw [0, 1, 2, 3, 4, 5, 6, 9, 11] rfl (by kernel_rfl) (fun hok => ?_)
            refine a_rd (i := 0) hok rfl (by kernel_rfl) rfl (r_faddr (fo := 0) Tryd.underlying32 rfl rfl Tryd.sizeOf3 rfl) rfl ?_
            refine a_rd (i := 1) hok rfl (by kernel_rfl) rfl (r_cload Tryd.isAgg3 rfl (j := 4) rfl rfl) rfl ?_
            refine a_rd (i := 2) hok rfl (by kernel_rfl) rfl (r_move rfl) rfl ?_
            refine a_rd (i := 3) hok rfl (by kernel_rfl) rfl (r_add rfl rfl) rfl ?_
            refine a_rd (i := 4) hok rfl (by kernel_rfl) rfl (r_faddr (fo := 1) Tryd.underlying32 rfl rfl Tryd.sizeOf22 rfl) rfl ?_
            refine a_rd (i := 5) hok rfl (by kernel_rfl) rfl (r_cload Tryd.isAgg22 rfl (j := 4) rfl rfl) rfl ?_
            refine a_rd (i := 6) hok rfl (by kernel_rfl) rfl (r_move rfl) rfl ?_
            refine a_next hok 7 [] (by kernel_rfl) ?_ trivial
            refine a_st (i := 7) hok rfl rfl (s_bslice (xs := [.tmp 68]) (ds := [s133.1]) Tryd.underlying22 el_3 rfl (Nat.le_of_ble_eq_true rfl) ⟨(part_at rfl iv_at), trivial⟩) (by intro _ h; cases h; rfl) (fun _ => ⟨trivial, ⟨⟨⟨rfl, rfl⟩, trivial⟩, ⟨trivial, ⟨trivial, ⟨trivial, ⟨⟨⟨rfl, rfl⟩, trivial⟩, ⟨trivial, trivial⟩⟩⟩⟩⟩⟩⟩) (fun _ => ?_)
            refine pull fun t139 h_t139 => ?_
            refine a_next hok 8 [] (by kernel_rfl) ?_ trivial
            refine a_st (i := 8) hok rfl rfl (s_append h_t139 Tryd.underlying22 el_3 rfl (j := 5) rfl rfl) (by intro _ h; cases h; rfl) (fun _ => ⟨trivial, ⟨trivial, ⟨trivial, ⟨trivial, ⟨trivial, ⟨⟨⟨rfl, rfl⟩, trivial⟩, ⟨trivial, trivial⟩⟩⟩⟩⟩⟩⟩) (fun o140 => ?_)
            refine a_rd (i := 9) hok rfl (by kernel_rfl) rfl (r_faddr (fo := 0) Tryd.underlying32 rfl rfl Tryd.sizeOf3 rfl) rfl ?_
            refine a_next hok 10 [] (by kernel_rfl) ?_ trivial
            refine a_st (i := 10) hok rfl rfl (s_cstore (out := [iv .i64 (iadd .i64 s133.2.1 w_136), pv x134.1]) Tryd.sizeOf3 rfl (j := 4) rfl (part_at rfl iv_at) rfl rfl rfl) (by intro _ h; cases h) (fun _ => ⟨trivial, ⟨trivial, ⟨trivial, ⟨trivial, ⟨trivial, ⟨trivial, ⟨trivial, ⟨trivial, trivial⟩⟩⟩⟩⟩⟩⟩⟩) (fun _ => ?_)
            refine a_rd (i := 11) hok rfl (by kernel_rfl) rfl (r_faddr (fo := 1) Tryd.underlying32 rfl rfl Tryd.sizeOf22 rfl) rfl ?_
            refine a_next hok 12 [] (by kernel_rfl) ?_ trivial
            refine a_st (i := 12) hok rfl rfl (s_cstore (out := [iv .i64 (iadd .i64 s133.2.1 w_136), pv o140.1]) Tryd.sizeOf22 rfl (j := 4) rfl (part_own rfl (j := 5) rfl) rfl rfl rfl) (by intro _ h; cases h) (fun _ => ⟨trivial, ⟨trivial, ⟨trivial, ⟨trivial, ⟨trivial, ⟨trivial, ⟨trivial, ⟨trivial, ⟨trivial, trivial⟩⟩⟩⟩⟩⟩⟩⟩⟩) (fun _ => ?_)
            refine a_fin hok (by kernel_rfl) ?_
            refine b_of (nrm [tbO (rI .u8) 0 tab_0, oc b1 [iv .i64 g_0.N, slv rT_api_Pair g_0.L], oc b2 [iv .i64 0, pv (.slice none 0 0)], oc b108 [iv .i64 s105.2], oc b109 [iv .i64 (iadd .i64 s133.2.1 w_136), pv o140.1], oa (rI .i64) o140.1 o140.2 t139] rfl) ?_
            refine n_block (n_then (ref_region ?_))
            refine s_rd (r_add rfl rfl) rfl ?_
            refine mv1 rfl rfl ?_
            refine l_nil ?_
            exact goB o140 (weak [0, 1, 2, 3, 4, 5] ⟨rfl, rfl, rfl, rfl, rfl, rfl, rfl, rfl, rfl, rfl, rfl, rfl, trivial⟩ ⟨rfl, rfl, rfl, rfl, rfl, rfl, trivial⟩)
          refine ref_skip (n_block (n_then (ref_region ?_)))
          refine s_rd (r_add rfl rfl) rfl ?_
          refine mv1 rfl rfl ?_
          refine l_nil ?_
          exact goB x134 (weak [0, 1, 2, 3, 4, 5] ⟨rfl, rfl, rfl, rfl, rfl, rfl, rfl, rfl, rfl, rfl, rfl, rfl, trivial⟩ ⟨rfl, rfl, rfl, rfl, rfl, rfl, trivial⟩)
        refine ref_exit (x_then ?_)
        exact brkB x134 (weak [1, 2, 3, 4, 5, 0] ⟨rfl, rfl, rfl, rfl, rfl, rfl, rfl, rfl, rfl, trivial⟩ ⟨rfl, rfl, rfl, rfl, rfl, rfl, trivial⟩)
      refine n_then (ref_seq ?_)
      refine ref_join (fun (j148 : Unit) (x149 : Unit) => [(1, slv (rI .i64) weights_1), (2, iv .i64 node_2), (3, pv (ptr b1 0)), (6, pv (ptr b2 0)), (9, oea rT_api_Budget s105.1), (10, pv (ptr b108 0)), (11, pv (ptr b109 0)), (45, iv .i64 t10), (46, iv .i64 s105.2)]) (fun (j148 : Unit) (x149 : Unit) => [oc b1 [iv .i64 g_0.N, slv rT_api_Pair g_0.L], oc b2 [iv .i64 0, pv (.slice none 0 0)], oc b108 [iv .i64 s105.2], oc b109 [iv .i64 q141.1, pv y142.1], oa (rI .i64) y142.1 y142.2 q141.2, tbO (rI .u8) 0 tab_0]) (fun k150 hk150 => ?_) (fun j148 x149 => ?_)
      · refine ref_seq ?_
        refine ref_draw [0, 1, 2, 3, 4, 5, 6, 7, 8, 9, 10, 11, 12, 13, 14, 15, 16, 17, 18, 19, 20, 21, 22, 23, 24, 26, 27, 28, 29] rfl (by kernel_rfl) (fun hok => ?_)
        refine a_rd (i := 0) hok rfl (by kernel_rfl) rfl (r_move rfl) rfl ?_
        refine a_rd (i := 1) hok rfl (by kernel_rfl) rfl (r_optneq Tryd.underlying74 rfl rfl) rfl ?_
        refine a_rd (i := 2) hok rfl (by kernel_rfl) rfl (r_move rfl) rfl ?_
        refine b_split (t := 76) rfl (fun _ => ?_) (fun _ => ?_)
        · refine a_rdOn (i := 3) hok rfl rfl rfl rfl (by kernel_rfl) rfl (r_faddr (fo := 0) Tryd.underlying32 rfl rfl Tryd.sizeOf3 rfl) rfl ?_
          refine a_rdOn (i := 4) hok rfl rfl rfl rfl (by kernel_rfl) rfl (r_cload Tryd.isAgg3 rfl (j := 3) rfl rfl) rfl ?_
          refine a_rdOn (i := 5) hok rfl rfl rfl rfl (by kernel_rfl) rfl (r_move rfl) rfl ?_
          refine pull fun p143 h_p143 => ?_
          refine a_rdOn (i := 6) hok rfl rfl rfl rfl (by kernel_rfl) rfl (r_optc h_p143 rfl) rfl ?_
          refine a_rdOn (i := 7) hok rfl rfl rfl rfl (by kernel_rfl) rfl (r_fea (fo := 0) (ρ := rT_api_Budget) (y := p143) (ρ' := (rI .i64)) (z := p143.Weight) Tryd.underlying32 rfl rfl Tryd.sizeOf3 rfl rfl rfl) rfl ?_
          refine a_rdOn (i := 8) hok rfl rfl rfl rfl (by kernel_rfl) rfl (r_load el_3 rfl) rfl ?_
          refine a_rdOn (i := 9) hok rfl rfl rfl rfl (by kernel_rfl) rfl (r_gtr rfl rfl) rfl ?_
          refine a_rdOn (i := 10) hok rfl rfl rfl rfl (by kernel_rfl) rfl (r_move rfl) rfl ?_
          refine b_split (t := 84) rfl (fun _ => ?_) (fun _ => ?_)
          · refine a_off (i := 11) hok rfl rfl rfl rfl rfl (by kernel_rfl) rfl rfl ?_
            refine a_off (i := 12) hok rfl rfl rfl rfl rfl (by kernel_rfl) rfl rfl ?_
            refine a_off (i := 13) hok rfl rfl rfl rfl rfl (by kernel_rfl) rfl rfl ?_
            refine a_off (i := 14) hok rfl rfl rfl rfl rfl (by kernel_rfl) rfl rfl ?_
            refine a_off (i := 15) hok rfl rfl rfl rfl rfl (by kernel_rfl) rfl rfl ?_
            refine a_off (i := 16) hok rfl rfl rfl rfl rfl (by kernel_rfl) rfl rfl ?_
            refine a_off (i := 17) hok rfl rfl rfl rfl rfl (by kernel_rfl) rfl rfl ?_
            refine a_off (i := 18) hok rfl rfl rfl rfl rfl (by kernel_rfl) rfl rfl ?_
            refine a_offU (i := 19) hok rfl rfl rfl (by kernel_rfl) rfl rfl ?_
            refine a_offU (i := 20) hok rfl rfl rfl (by kernel_rfl) rfl rfl ?_
            refine a_offU (i := 21) hok rfl rfl rfl (by kernel_rfl) rfl rfl ?_
            refine a_offU (i := 22) hok rfl rfl rfl (by kernel_rfl) rfl rfl ?_
            refine a_offU (i := 23) hok rfl rfl rfl (by kernel_rfl) rfl rfl ?_
            refine a_offU (i := 24) hok rfl rfl rfl (by kernel_rfl) rfl rfl ?_
            refine a_next hok 25 [] (by kernel_rfl) ?_ trivial
            refine a_stOffU (i := 25) hok rfl rfl rfl rfl (by intro _ h; cases h; rfl) ⟨trivial, ⟨trivial, ⟨trivial, ⟨trivial, ⟨trivial, ⟨trivial, ⟨trivial, ⟨trivial, ⟨trivial, ⟨trivial, ⟨trivial, ⟨trivial, ⟨trivial, ⟨trivial, ⟨trivial, ⟨trivial, ⟨trivial, ⟨trivial, ⟨trivial, ⟨trivial, ⟨⟨⟨rfl, rfl⟩, trivial⟩, ⟨trivial, ⟨trivial, ⟨trivial, ⟨trivial, trivial⟩⟩⟩⟩⟩⟩⟩⟩⟩⟩⟩⟩⟩⟩⟩⟩⟩⟩⟩⟩⟩⟩⟩⟩⟩ ?_
            refine a_offU (i := 26) hok rfl rfl rfl (by kernel_rfl) rfl rfl ?_
            refine a_off (i := 27) hok rfl rfl rfl rfl rfl (by kernel_rfl) rfl rfl ?_
            refine a_rdOn (i := 28) hok rfl rfl rfl rfl (by kernel_rfl) rfl (r_pickT rfl rfl) rfl ?_
            refine a_rd (i := 29) hok rfl (by kernel_rfl) rfl (r_pickT rfl rfl) rfl ?_
            refine a_fin hok (by kernel_rfl) ?_
            refine n_then ?_
            refine ref_condT rfl rfl ?_
            refine ref_exit (x_then (x_eq (n_then (ref_region ?_))))
            refine s_rd (r_add rfl rfl) rfl ?_
            refine mv1 rfl rfl ?_
            refine l_nil ?_
            exact goB () (weak [5, 0, 1] ⟨rfl, rfl, rfl, rfl, rfl, rfl, rfl, trivial⟩ ⟨rfl, rfl, rfl, trivial⟩)
          refine a_rdOn (i := 11) hok rfl rfl rfl rfl (by kernel_rfl) rfl (r_faddr (fo := 0) Tryd.underlying32 rfl rfl Tryd.sizeOf3 rfl) rfl ?_
          refine a_rdOn (i := 12) hok rfl rfl rfl rfl (by kernel_rfl) rfl (r_cload Tryd.isAgg3 rfl (j := 3) rfl rfl) rfl ?_
          refine a_rdOn (i := 13) hok rfl rfl rfl rfl (by kernel_rfl) rfl (r_move rfl) rfl ?_
          refine pull fun p144 h_p144 => ?_
          refine a_rdOn (i := 14) hok rfl rfl rfl rfl (by kernel_rfl) rfl (r_optc h_p144 rfl) rfl ?_
          refine a_rdOn (i := 15) hok rfl rfl rfl rfl (by kernel_rfl) rfl (r_fea (fo := 0) (ρ := rT_api_Budget) (y := p144) (ρ' := (rI .i64)) (z := p144.Weight) Tryd.underlying32 rfl rfl Tryd.sizeOf3 rfl rfl rfl) rfl ?_
          refine a_rdOn (i := 16) hok rfl rfl rfl rfl (by kernel_rfl) rfl (r_load el_3 rfl) rfl ?_
          refine a_rdOn (i := 17) hok rfl rfl rfl rfl (by kernel_rfl) rfl (r_eql rfl rfl) rfl ?_
          refine a_rdOn (i := 18) hok rfl rfl rfl rfl (by kernel_rfl) rfl (r_move rfl) rfl ?_
          refine b_split (t := 92) rfl (fun _ => ?_) (fun _ => ?_)
          · refine a_rdOn (i := 19) hok rfl rfl rfl rfl (by kernel_rfl) rfl (r_faddr (fo := 1) Tryd.underlying32 rfl rfl Tryd.sizeOf22 rfl) rfl ?_
            refine a_rdOn (i := 20) hok rfl rfl rfl rfl (by kernel_rfl) rfl (r_cload Tryd.isAgg22 rfl (j := 3) rfl rfl) rfl ?_
            refine a_rdOn (i := 21) hok rfl rfl rfl rfl (by kernel_rfl) rfl (r_move rfl) rfl ?_
            refine pull fun p145 h_p145 => ?_
            refine a_rdOn (i := 22) hok rfl rfl rfl rfl (by kernel_rfl) rfl (r_optc h_p145 rfl) rfl ?_
            refine a_rdOn (i := 23) hok rfl rfl rfl rfl (by kernel_rfl) rfl (r_fea (fo := 1) (ρ := rT_api_Budget) (y := p145) (ρ' := (rSl (rI .i64))) (z := p145.Dropped) Tryd.underlying32 rfl rfl Tryd.sizeOf22 rfl rfl rfl) rfl ?_
            refine a_rdOn (i := 24) hok rfl rfl rfl rfl (by kernel_rfl) rfl (r_load el_22 rfl) rfl ?_
            refine pull fun t146 h_t146 => ?_
            refine a_next hok 25 [] (by kernel_rfl) ?_ trivial
            refine a_stOn (i := 25) hok rfl rfl rfl rfl rfl (s_callB (ψ := fun (_ : Unit) => iv .i64 t146) (args := [.tmp 94, .tmp 98]) Tryd.call38 rfl (slices_Compare_int_int_ok h_t146) ⟨argO rfl (j := 4) rfl, argB rfl, trivial⟩ (fun _ _ _ _ _ h => h)) (by intro _ h; cases h; rfl) (fun _ => ⟨trivial, ⟨trivial, ⟨trivial, ⟨trivial, ⟨trivial, ⟨trivial, ⟨trivial, ⟨trivial, ⟨trivial, ⟨trivial, ⟨trivial, ⟨trivial, ⟨⟨⟨rfl, rfl⟩, trivial⟩, ⟨trivial, ⟨trivial, ⟨trivial, ⟨trivial, ⟨trivial, ⟨trivial, ⟨trivial, ⟨⟨⟨rfl, rfl⟩, trivial⟩, ⟨trivial, ⟨trivial, ⟨trivial, ⟨trivial, trivial⟩⟩⟩⟩⟩⟩⟩⟩⟩⟩⟩⟩⟩⟩⟩⟩⟩⟩⟩⟩⟩⟩⟩⟩⟩) (fun _ => ?_)
            refine a_rdOn (i := 26) hok rfl rfl rfl rfl (by kernel_rfl) rfl (r_geq rfl rfl) rfl ?_
            refine a_rdOn (i := 27) hok rfl rfl rfl rfl (by kernel_rfl) rfl (r_pickT rfl rfl) rfl ?_
            refine a_rdOn (i := 28) hok rfl rfl rfl rfl (by kernel_rfl) rfl (r_pickF rfl rfl) rfl ?_
            refine a_rd (i := 29) hok rfl (by kernel_rfl) rfl (r_pickT rfl rfl) rfl ?_
            refine a_fin hok (by kernel_rfl) ?_
            refine n_then ?_
            refine ref_cond rfl (fun hb147 => ?_) (fun hb147 => ?_)
            · refine ref_exit (x_then (x_eq (n_then (ref_region ?_))))
              refine s_rd (r_add rfl rfl) rfl ?_
              refine mv1 rfl rfl ?_
              refine l_nil ?_
              exact goB () (weak [5, 0, 1] ⟨rfl, rfl, rfl, rfl, rfl, rfl, rfl, trivial⟩ ⟨rfl, rfl, rfl, trivial⟩)
            refine ref_skip ?_
            exact b_to (hk150 () ()) (weak [0, 1, 2, 3, 4, 5] ⟨rfl, rfl, rfl, rfl, rfl, rfl, rfl, rfl, rfl, trivial⟩ ⟨rfl, rfl, rfl, rfl, rfl, rfl, trivial⟩)
          refine a_off (i := 19) hok rfl rfl rfl rfl rfl (by kernel_rfl) rfl rfl ?_
          refine a_off (i := 20) hok rfl rfl rfl rfl rfl (by kernel_rfl) rfl rfl ?_
          refine a_off (i := 21) hok rfl rfl rfl rfl rfl (by kernel_rfl) rfl rfl ?_
          refine a_off (i := 22) hok rfl rfl rfl rfl rfl (by kernel_rfl) rfl rfl ?_
          refine a_off (i := 23) hok rfl rfl rfl rfl rfl (by kernel_rfl) rfl rfl ?_
          refine a_off (i := 24) hok rfl rfl rfl rfl rfl (by kernel_rfl) rfl rfl ?_
          refine a_next hok 25 [] (by kernel_rfl) ?_ trivial
          refine a_stOff (i := 25) hok rfl rfl rfl rfl rfl rfl (by intro _ h; cases h; rfl) ⟨trivial, ⟨trivial, ⟨trivial, ⟨trivial, ⟨trivial, ⟨trivial, ⟨trivial, ⟨trivial, ⟨trivial, ⟨trivial, ⟨trivial, ⟨trivial, ⟨⟨⟨rfl, rfl⟩, trivial⟩, ⟨trivial, ⟨trivial, ⟨trivial, ⟨trivial, ⟨trivial, ⟨trivial, ⟨trivial, ⟨⟨⟨rfl, rfl⟩, trivial⟩, ⟨trivial, ⟨trivial, ⟨trivial, ⟨trivial, trivial⟩⟩⟩⟩⟩⟩⟩⟩⟩⟩⟩⟩⟩⟩⟩⟩⟩⟩⟩⟩⟩⟩⟩⟩⟩ ?_
          refine a_off (i := 26) hok rfl rfl rfl rfl rfl (by kernel_rfl) rfl rfl ?_
          refine a_rdOn (i := 27) hok rfl rfl rfl rfl (by kernel_rfl) rfl (r_pickF rfl rfl) rfl ?_
          refine a_rdOn (i := 28) hok rfl rfl rfl rfl (by kernel_rfl) rfl (r_pickF rfl rfl) rfl ?_
          refine a_rd (i := 29) hok rfl (by kernel_rfl) rfl (r_pickT rfl rfl) rfl ?_
          refine a_fin hok (by kernel_rfl) ?_
          refine n_then ?_
          refine ref_condF rfl rfl ?_
          refine ref_skip ?_
          exact b_to (hk150 () ()) (weak [0, 1, 2, 3, 4, 5] ⟨rfl, rfl, rfl, rfl, rfl, rfl, rfl, rfl, rfl, trivial⟩ ⟨rfl, rfl, rfl, rfl, rfl, rfl, trivial⟩)
        refine a_off (i := 3) hok rfl rfl rfl rfl rfl (by kernel_rfl) rfl rfl ?_
        refine a_off (i := 4) hok rfl rfl rfl rfl rfl (by kernel_rfl) rfl rfl ?_
        refine a_off (i := 5) hok rfl rfl rfl rfl rfl (by kernel_rfl) rfl rfl ?_
        refine a_off (i := 6) hok rfl rfl rfl rfl rfl (by kernel_rfl) rfl rfl ?_
        refine a_off (i := 7) hok rfl rfl rfl rfl rfl (by kernel_rfl) rfl rfl ?_
        refine a_off (i := 8) hok rfl rfl rfl rfl rfl (by kernel_rfl) rfl rfl ?_
        refine a_off (i := 9) hok rfl rfl rfl rfl rfl (by kernel_rfl) rfl rfl ?_
        refine a_off (i := 10) hok rfl rfl rfl rfl rfl (by kernel_rfl) rfl rfl ?_
        refine a_offU (i := 11) hok rfl rfl rfl (by kernel_rfl) rfl rfl ?_
        refine a_offU (i := 12) hok rfl rfl rfl (by kernel_rfl) rfl rfl ?_
        refine a_offU (i := 13) hok rfl rfl rfl (by kernel_rfl) rfl rfl ?_
        refine a_offU (i := 14) hok rfl rfl rfl (by kernel_rfl) rfl rfl ?_
        refine a_offU (i := 15) hok rfl rfl rfl (by kernel_rfl) rfl rfl ?_
        refine a_offU (i := 16) hok rfl rfl rfl (by kernel_rfl) rfl rfl ?_
        refine a_offU (i := 17) hok rfl rfl rfl (by kernel_rfl) rfl rfl ?_
        refine a_offU (i := 18) hok rfl rfl rfl (by kernel_rfl) rfl rfl ?_
        refine a_offU (i := 19) hok rfl rfl rfl (by kernel_rfl) rfl rfl ?_
        refine a_offU (i := 20) hok rfl rfl rfl (by kernel_rfl) rfl rfl ?_
        refine a_offU (i := 21) hok rfl rfl rfl (by kernel_rfl) rfl rfl ?_
        refine a_offU (i := 22) hok rfl rfl rfl (by kernel_rfl) rfl rfl ?_
        refine a_offU (i := 23) hok rfl rfl rfl (by kernel_rfl) rfl rfl ?_
        refine a_offU (i := 24) hok rfl rfl rfl (by kernel_rfl) rfl rfl ?_
        refine a_next hok 25 [] (by kernel_rfl) ?_ trivial
        refine a_stOffU (i := 25) hok rfl rfl rfl rfl (by intro _ h; cases h; rfl) ⟨trivial, ⟨trivial, ⟨trivial, ⟨trivial, ⟨trivial, ⟨trivial, ⟨trivial, ⟨trivial, ⟨trivial, ⟨trivial, ⟨trivial, ⟨trivial, ⟨trivial, ⟨trivial, ⟨trivial, ⟨trivial, ⟨trivial, ⟨trivial, ⟨trivial, ⟨trivial, ⟨trivial, ⟨trivial, ⟨trivial, ⟨trivial, ⟨trivial, trivial⟩⟩⟩⟩⟩⟩⟩⟩⟩⟩⟩⟩⟩⟩⟩⟩⟩⟩⟩⟩⟩⟩⟩⟩⟩ ?_
        refine a_offU (i := 26) hok rfl rfl rfl (by kernel_rfl) rfl rfl ?_
        refine a_offU (i := 27) hok rfl rfl rfl (by kernel_rfl) rfl rfl ?_
        refine a_off (i := 28) hok rfl rfl rfl rfl rfl (by kernel_rfl) rfl rfl ?_
        refine a_rd (i := 29) hok rfl (by kernel_rfl) rfl (r_pickF rfl rfl) rfl ?_
        refine a_fin hok (by kernel_rfl) ?_
        refine n_then ?_
        refine ref_condF rfl rfl ?_
        refine ref_skip ?_
        exact b_to (hk150 () ()) (weak [0, 1, 2, 3, 4, 5] ⟨rfl, rfl, rfl, rfl, rfl, rfl, rfl, rfl, rfl, trivial⟩ ⟨rfl, rfl, rfl, rfl, rfl, rfl, trivial⟩)
      refine n_then (ref_seq (ref_region ?_))
      refine s_rd (r_cloadS Tryd.isAgg27 Tryd.sizeOf27 rfl (j := 0) rfl rfl rfl) rfl ?_
      refine s_rd (r_mkfn (xs := [.tmp 10]) (vs := [(ptr b108 0)]) ⟨rfl, trivial⟩) rfl ?_
      refine pull fun t151 h_t151 => ?_
      refine s_st (s_callC [2] [true] (fun (_ : Unit) => [oc b108 [iv .i64 s105.2]]) (fun (_ : Unit) => []) (fun (_ : Unit) => ag [iv .i64 t151.N, slv rT_api_Pair t151.L]) (args := [.tmp 104, .tmp 105]) (caps := []) Tryd.call40 rfl (degree_without_ok h_t151) ⟨rfl, rfl, trivial⟩ (fun _ => rfl) (fun _ => trivial) (fun _ => rfl) ⟨arg rfl, arg rfl, trivial⟩ (fun _ _ _ _ h => h)) rfl (fun _ => ?_)
      refine pull fun t152 h_t152 => ?_
      refine s_st (s_call (ψ := fun (_ : Unit) => ag [iv .u64 t152.All, slv (rI .u64) t152.By, slv (rI .u64) t152.Out]) (args := [.tmp 106]) Tryd.call39 rfl (network_New_ok h_t152) ⟨arg rfl, trivial⟩ (fun _ _ _ _ h => h)) rfl (fun _ => ?_)
      refine pull fun t153 h_t153 => ?_
      refine s_st (s_callC [5] [true] (fun (_ : Unit) => [tbO (rI .u8) 0 tab_0]) (fun (_ : Unit) => []) (fun (_ : Unit) => iv .u64 t153) (args := [.tmp 107]) (caps := []) Tryd.call42 rfl (network_Net_In_ok h_t153) ⟨rfl, rfl, trivial⟩ (fun _ => rfl) (fun _ => trivial) (fun _ => rfl) ⟨arg rfl, trivial⟩ (fun _ _ _ _ h => h)) rfl (fun _ => ?_)
      refine mv1 rfl rfl ?_
      refine pull fun t154 h_t154 => ?_
      refine s_st (s_call (ψ := fun (_ : Unit) => bv t154) (args := [.tmp 108, .tmp 109]) Tryd.call43 rfl (network_Set_Has_ok h_t154) ⟨arg rfl, arg rfl, trivial⟩ (fun _ _ _ _ h => h)) rfl (fun _ => ?_)
      refine l_nil ?_
      refine b_of (nrm [oc b1 [iv .i64 g_0.N, slv rT_api_Pair g_0.L], oc b2 [iv .i64 0, pv (.slice none 0 0)], oc b108 [iv .i64 s105.2], oc b109 [iv .i64 q141.1, pv y142.1], oa (rI .i64) y142.1 y142.2 q141.2, tbO (rI .u8) 0 tab_0] rfl) ?_
      refine n_then ?_
      refine ref_cond rfl (fun hb155 => ?_) (fun hb155 => ?_)
      · refine ref_region ?_
        refine as1 rfl rfl ?_
        refine l_nil (n_block (n_then (ref_region ?_)))
        refine s_rd (r_add rfl rfl) rfl ?_
        refine mv1 rfl rfl ?_
        refine l_nil ?_
        refine b_of (frzGL [] [(3, b109, [iv .i64 q141.1, slv (rI .i64) q141.2])] (j := 4) rfl trivial ⟨⟨_, rfl, ⟨.inl rfl, .inr ⟨rfl, rfl⟩, trivial⟩⟩, trivial⟩) ?_
        refine b_of (opt_share rT_api_Budget (T_api_Budget.mk q141.1 q141.2) (t := 9) (j := 3) rfl rfl) ?_
        exact goB () (weak [5, 0, 1] ⟨rfl, rfl, rfl, rfl, rfl, rfl, rfl, trivial⟩ ⟨rfl, rfl, rfl, trivial⟩)
      refine ref_skip (n_block (n_then (ref_region ?_)))
      refine s_rd (r_add rfl rfl) rfl ?_
      refine mv1 rfl rfl ?_
      refine l_nil ?_
      exact goB () (weak [5, 0, 1] ⟨rfl, rfl, rfl, rfl, rfl, rfl, rfl, trivial⟩ ⟨rfl, rfl, rfl, trivial⟩)
    refine ref_exit (x_then ?_)
    exact brkB () (weak [2, 0] ⟨rfl, rfl, trivial⟩ ⟨rfl, rfl, trivial⟩)
  refine n_then (ref_seq (ref_region ?_))
  refine mv1 rfl rfl ?_
  refine pull fun p158 h_p158 => ?_
  refine s_rd (r_optc h_p158 rfl) rfl ?_
  refine s_rd (r_load el_32 rfl) rfl ?_
  refine s_st0 (s_cstore (out := [iv .i64 p158.Weight, slv (rI .i64) p158.Dropped]) Tryd.sizeOf32 rfl (j := 0) rfl (part_agO (ψs := [iv .i64 p158.Weight, slv (rI .i64) p158.Dropped]) rfl ⟨.inl iv_at, .inl slv_at, trivial⟩) rfl rfl rfl) (fun _ => ?_)
  refine as1 rfl rfl ?_
  refine l_nil (n_then (ref_ret ?_))
  exact fin2 (.inl rfl) () [1] rfl ⟨rfl, trivial⟩ rfl (rv_cell rfl (j := 0) rfl Tryd.isAgg32 Tryd.sizeOf32 rfl rfl) (rv_tmp rfl)

/-! slices.Clone[[]int,int] -/
def slices_Clone_int_int_m (d_0 : List Int) : Option (List Int) := appM 8 [] d_0

theorem slices_Clone_int_int_ok {d_0 r : List Int} (hm : slices_Clone_int_int_m d_0 = some r) : FnOk prog 64 [slv (rI .i64) d_0] [] (fun (x : Value × List Nat) => [pv x.1]) (fun (x : Value × List Nat) => [oa (rI .i64) x.1 x.2 r]) := by
  have hm' : appM 8 [] d_0 = some r := hm
  have hr : r = d_0 := by have := (appM_some hm').2; simpa using this
  subst hr
  refine fn_ok (X := Value × List Nat) (fn := Tryd.f64) (N := 8) (m := some ()) (r := ()) (res := fun _ x => [pv x.1]) (Ω1 := fun _ x => [oa (rI .i64) x.1 x.2 r]) Tryd.func64 rfl rfl rfl rfl (fun E hM => ?_)
  refine ref_seq ?_
  refine ref_region ?_
  refine s_rd (r_assign rfl) rfl ?_
  refine l_nil ?_
  refine n_then ?_
  refine ref_seq ?_
  refine ref_seq ?_
  refine ref_region ?_
  refine s_rd (r_move rfl) rfl ?_
  refine s_st (s_isnil Tryd.underlying22 rfl) rfl (fun b => ?_)
  refine l_nil ?_
  refine n_then ?_
  refine ref_condE (b := b.1) rfl (fun hb => ?_) (fun hb => ?_)
  · refine ref_seq ?_
    refine ref_region ?_
    refine s_rd (r_assign rfl) rfl ?_
    refine l_nil ?_
    refine n_then ?_
    refine ref_ret ?_
    refine r_then ?_
    have hd := b.2 hb
    subst hd
    refine b_of (own_nil (rI .i64)) ?_
    exact fin1 (.inl rfl) (.slice none 0 0, []) [0] rfl ⟨rfl, trivial⟩ rfl (rv_tmp rfl)
  · refine ref_skip ?_
    refine n_then ?_
    refine ref_seq ?_
    refine ref_region ?_
    refine s_st (s_bsliceO (xs := []) (ds := []) Tryd.underlying22 el_3 rfl (Nat.le_of_ble_eq_true rfl) trivial) rfl (fun o => ?_)
    refine s_rd (r_move rfl) rfl ?_
    refine s_st (s_append hm' Tryd.underlying22 el_3 rfl (j := 0) rfl rfl) rfl (fun o2 => ?_)
    refine s_rd (r_assign rfl) rfl ?_
    refine l_nil ?_
    refine n_then ?_
    refine ref_ret ?_
    exact fin1 (.inl rfl) o2 [0] rfl ⟨rfl, trivial⟩ rfl (rv_tmp rfl)

/-! slices.Values[[]int,int] -/
noncomputable def slices_Values_int_int_m (s_0 : (List Int)) : Option ((List Int)) :=
  some s_0

theorem slices_Values_int_int_ok {s_0 : (List Int)} {r : (List Int)} (hm : slices_Values_int_int_m s_0 = some r) :
    FnOk prog 63 [slv (rI .i64) s_0] [] (fun (x : Nat) => [pv (.func (.func 84) #[] #[(ptr x 0)])]) (fun (x : Nat) => [oc x [slv (rI .i64) r]]) := by
  refine fn_ok (X := Nat) (fn := Tryd.f63) (N := 4) (res := fun r x => [pv (.func (.func 84) #[] #[(ptr x 0)])]) (Ω1 := fun r x => [oc x [slv (rI .i64) r]]) Tryd.func63 rfl rfl hm rfl (fun E hM => ?_)
  unfold slices_Values_int_int_m
  refine ref_seq (ref_region ?_)
  refine s_st (s_box (part_at rfl slv_at)) rfl (fun b1 => ?_)
  refine as1 rfl rfl ?_
  refine l_nil (n_then (ref_seq (ref_region ?_)))
  refine s_rd (r_mkfn (xs := [.tmp 1]) (vs := [(ptr b1 0)]) ⟨rfl, trivial⟩) rfl ?_
  refine as1 rfl rfl ?_
  refine l_nil (n_then (ref_ret ?_))
  exact fin1 (.inl rfl) b1 [0] rfl ⟨rfl, trivial⟩ rfl (rv_tmp rfl)

/-! deliberation/degree.Levels$1 -/
noncomputable def degree_Levels_1_m (i_0 : Int) (p_1 : (List Int)) (p_2 : Int) : Option (Bool) :=
  Option.bind (idxM p_1 i_0) fun t1 =>
  some (decide (t1 ≥ p_2))

theorem degree_Levels_1_ok {i_0 : Int} {p_1 : (List Int)} {p_2 : Int} {b_1 : Nat} {b_2 : Nat} {r : Bool} (hm : degree_Levels_1_m i_0 p_1 p_2 = some r) :
    FnOk prog 65 [iv .i64 i_0, pv (ptr b_1 0), pv (ptr b_2 0)] [oc b_1 [slv (rI .i64) p_1], oc b_2 [iv .i64 p_2]] (fun (x : Unit) => [bv r]) (fun (x : Unit) => [oc b_1 [slv (rI .i64) p_1], oc b_2 [iv .i64 p_2]]) := by
  refine fn_ok (fn := Tryd.f65) (N := 11) (res := fun r x => [bv r]) (Ω1 := fun r x => [oc b_1 [slv (rI .i64) p_1], oc b_2 [iv .i64 p_2]]) Tryd.func65 rfl rfl hm rfl (fun E hM => ?_)
  unfold degree_Levels_1_m
  refine ref_seq (ref_region ?_)
  refine as1 rfl rfl ?_
  refine l_nil (n_then (ref_seq ?_))
  refine ref_draw [0, 1, 2, 3, 4, 5] rfl (by kernel_rfl) (fun hok => ?_)
  refine a_rd (i := 0) hok rfl (by kernel_rfl) rfl (r_cload Tryd.isAgg22 rfl (j := 0) rfl rfl) rfl ?_
  refine a_rd (i := 1) hok rfl (by kernel_rfl) rfl (r_move rfl) rfl ?_
  refine pull fun t1 h_t1 => ?_
  refine a_rd (i := 2) hok rfl (by kernel_rfl) rfl (r_index h_t1 Tryd.underlying22 el_3 rfl rfl) rfl ?_
  refine a_rd (i := 3) hok rfl (by kernel_rfl) rfl (r_load el_3 rfl) rfl ?_
  refine a_rd (i := 4) hok rfl (by kernel_rfl) rfl (r_cload Tryd.isAgg3 rfl (j := 1) rfl rfl) rfl ?_
  refine a_rd (i := 5) hok rfl (by kernel_rfl) rfl (r_geq rfl rfl) rfl ?_
  refine a_next hok 6 [] (by kernel_rfl) ?_ trivial
  refine a_st (i := 6) hok rfl rfl (St.ofRd (r_assign rfl)) (by intro _ h; cases h; rfl) (fun _ => ⟨trivial, ⟨trivial, ⟨trivial, ⟨trivial, ⟨trivial, ⟨trivial, trivial⟩⟩⟩⟩⟩⟩) (fun _ => ?_)
  refine a_fin hok (by kernel_rfl) ?_
  refine n_then (ref_ret ?_)
  exact fin1 (.inl rfl) () [0, 1] rfl ⟨rfl, rfl, trivial⟩ rfl (rv_tmp rfl)

/-! deliberation/degree.without -/
noncomputable def degree_without_1_l1 (g_0 : T_api_Graph) (e_0 : (List Int)) (e_1 : Int) (s31 : Int × (List T_api_Pair)) : Option (Sum ((List T_api_Pair)) (Int × (List T_api_Pair))) :=
  bif decide (s31.1 < (g_0.L.length : Int)) then
    Option.bind (idxM g_0.L s31.1) fun t34 =>
    Option.bind (degree_Levels_1_m s31.1 e_0 e_1) fun t36 =>
    bif t36 then
      Option.bind (appM 16 s31.2 [t34]) fun t38 =>
      some (Sum.inr (iadd .i64 s31.1 1, t38))
    else
      some (Sum.inr (iadd .i64 s31.1 1, s31.2))
  else
    some (Sum.inl s31.2)

noncomputable def degree_without_1_m (g_0 : T_api_Graph) (e_0 : (List Int)) (e_1 : Int) : Option (T_api_Graph) :=
  Option.bind (loopC (degree_without_1_l1 g_0 e_0 e_1) (0, [])) fun q40 : (List T_api_Pair) =>
  some (T_api_Graph.mk g_0.N q40)

theorem degree_without_1_ok {g_0 : T_api_Graph} {e_0 : (List Int)} {e_1 : Int} {be_0 : Nat} {be_1 : Nat} {r : T_api_Graph} (hm : degree_without_1_m g_0 e_0 e_1 = some r) :
    FnOk prog 40 [ag [iv .i64 g_0.N, slv rT_api_Pair g_0.L], pv (.func (.func 65) #[] #[(ptr be_0 0), (ptr be_1 0)])] [oc be_0 [slv (rI .i64) e_0], oc be_1 [iv .i64 e_1]] (fun (x : Unit) => [ag [iv .i64 r.N, slv rT_api_Pair r.L]]) (fun (x : Unit) => [oc be_0 [slv (rI .i64) e_0], oc be_1 [iv .i64 e_1]]) := by
  refine fn_ok (fn := Tryd.f40) (N := 30) (res := fun r x => [ag [iv .i64 r.N, slv rT_api_Pair r.L]]) (Ω1 := fun r x => [oc be_0 [slv (rI .i64) e_0], oc be_1 [iv .i64 e_1]]) Tryd.func40 rfl rfl hm rfl (fun E hM => ?_)
  unfold degree_without_1_m
  refine ref_seq (ref_region ?_)
  refine s_st (s_box (part_agO (ψs := [iv .i64 g_0.N, slv rT_api_Pair g_0.L]) rfl ⟨.inl iv_at, .inl slv_at, trivial⟩)) rfl (fun b1 => ?_)
  refine s_st (s_alloc zt_27) rfl (fun b2 => ?_)
  refine l_nil (n_then (ref_seq (ref_region ?_)))
  refine s_rd (r_faddr (fo := 0) Tryd.underlying27 rfl rfl Tryd.sizeOf3 rfl) rfl ?_
  refine s_rd (r_cload Tryd.isAgg3 rfl (j := 2) rfl rfl) rfl ?_
  refine s_rd (r_build (ps := [(0, .tmp 9)]) (rs := [(0, [iv .i64 g_0.N])]) st_27 zs_27 ⟨rfl, (part_at rfl iv_at), trivial⟩ rfl rfl) rfl ?_
  refine s_st (s_alloc zt_27) rfl (fun b3 => ?_)
  refine s_st0 (s_cstore (out := [iv .i64 g_0.N, pv (.slice none 0 0)]) Tryd.sizeOf27 rfl (j := 4) rfl (part_agO (ψs := [iv .i64 g_0.N, pv (.slice none 0 0)]) rfl ⟨.inl iv_at, .inl (pv_at rfl), trivial⟩) rfl rfl rfl) (fun _ => ?_)
  refine l_nil ?_
  refine b_of (nrm [oc be_0 [slv (rI .i64) e_0], oc be_1 [iv .i64 e_1], oc b1 [iv .i64 g_0.N, slv rT_api_Pair g_0.L], oc b2 [iv .i64 0, pv (.slice none 0 0)], oc b3 [iv .i64 g_0.N, pv (.slice none 0 0)]] rfl) ?_
  refine n_then (ref_seq (ref_seq (ref_region ?_)))
  refine s_rd (r_faddr (fo := 1) Tryd.underlying27 rfl rfl Tryd.sizeOf25 rfl) rfl ?_
  refine s_rd (r_cload Tryd.isAgg25 rfl (j := 2) rfl rfl) rfl ?_
  refine s_rd (r_len Tryd.underlying25 rfl) rfl ?_
  refine mv1 rfl rfl ?_
  refine l_nil (n_then ?_)
  refine b_of (own_nil rT_api_Pair) ?_
  refine ref_loopB (f := (degree_without_1_l1 g_0 e_0 e_1)) (Γl := (fun (s31 : Int × (List T_api_Pair)) (x32 : (Value × List Nat)) => [(1, pv (.func (.func 65) #[] #[(ptr be_0 0), (ptr be_1 0)])), (4, pv (ptr b2 0)), (5, pv (ptr b3 0)), (12, slv rT_api_Pair g_0.L), (13, iv .i64 (g_0.L.length : Int)), (14, iv .i64 s31.1)])) (Ωl := (fun (s31 : Int × (List T_api_Pair)) (x32 : (Value × List Nat)) => [oc be_0 [slv (rI .i64) e_0], oc be_1 [iv .i64 e_1], oc b2 [iv .i64 0, pv (.slice none 0 0)], oc b3 [iv .i64 g_0.N, pv x32.1], oa rT_api_Pair x32.1 x32.2 s31.2])) (Γb := (fun (q40 : (List T_api_Pair)) (y41 : (Value × List Nat)) => [(1, pv (.func (.func 65) #[] #[(ptr be_0 0), (ptr be_1 0)])), (4, pv (ptr b2 0)), (5, pv (ptr b3 0))])) (Ωb := (fun (q40 : (List T_api_Pair)) (y41 : (Value × List Nat)) => [oc be_0 [slv (rI .i64) e_0], oc be_1 [iv .i64 e_1], oc b2 [iv .i64 0, pv (.slice none 0 0)], oc b3 [iv .i64 g_0.N, pv y41.1], oa rT_api_Pair y41.1 y41.2 q40])) (0, []) ((.slice none 0 0), []) (weak [0, 1, 3, 4, 5] ⟨rfl, rfl, rfl, rfl, rfl, rfl, trivial⟩ ⟨rfl, rfl, rfl, rfl, rfl, trivial⟩) (fun s31 x32 => ?_) (fun q40 y41 => ?_)
  · unfold degree_without_1_l1
    refine ref_seq (ref_region ?_)
    refine s_rd (r_lss rfl rfl) rfl ?_
    refine l_nil (n_then (ref_seq ?_))
    refine ref_cond rfl (fun hb33 => ?_) (fun hb33 => ?_)
    · refine ref_skip (n_then (ref_seq (ref_block (ref_seq (ref_region ?_)))))
      refine mv1 rfl rfl ?_
      refine pull fun t34 h_t34 => ?_
      refine s_rd (r_index h_t34 Tryd.underlying25 el_56 rfl rfl) rfl ?_
      refine s_rd (r_load el_56 rfl) rfl ?_
      refine s_st (s_alloc zt_56) rfl (fun b35 => ?_)
      refine as1 rfl rfl ?_
      refine s_st0 (s_cstore (out := [iv .i64 t34.From, iv .i64 t34.To]) Tryd.sizeOf56 rfl (j := 5) rfl (part_agO (ψs := [iv .i64 t34.From, iv .i64 t34.To]) rfl ⟨.inl iv_at, .inl iv_at, trivial⟩) rfl rfl rfl) (fun _ => ?_)
      refine l_nil (n_then (ref_seq (ref_region ?_)))
      refine mv1 rfl rfl ?_
      refine mv1 rfl rfl ?_
      refine pull fun t36 h_t36 => ?_
      refine s_st (s_callC [0, 1] [true, true] (fun (_ : Unit) => [oc be_0 [slv (rI .i64) e_0], oc be_1 [iv .i64 e_1]]) (fun (_ : Unit) => []) (fun (_ : Unit) => bv t36) (args := [.tmp 20]) (caps := [(ptr be_0 0), (ptr be_1 0)]) Tryd.call65 rfl (degree_Levels_1_ok h_t36) ⟨rfl, rfl, ⟨rfl, rfl, trivial⟩⟩ (fun _ => rfl) (fun _ => trivial) (fun _ => rfl) ⟨arg rfl, arg rfl, arg rfl, trivial⟩ (fun _ _ _ _ h => h)) rfl (fun _ => ?_)
      refine l_nil (n_then ?_)
      refine ref_cond rfl (fun hb37 => ?_) (fun hb37 => ?_)
      · refine ref_region ?_
        refine s_rd (r_faddr (fo := 1) Tryd.underlying27 rfl rfl Tryd.sizeOf25 rfl) rfl ?_
        refine s_rd (r_cload Tryd.isAgg25 rfl (j := 3) rfl rfl) rfl ?_
        refine s_rd (r_cloadS Tryd.isAgg56 Tryd.sizeOf56 rfl (j := 5) rfl rfl rfl) rfl ?_
        refine s_st (s_bslice (xs := [.tmp 24]) (ds := [t34]) Tryd.underlying25 el_56 rfl (Nat.le_of_ble_eq_true rfl) ⟨(part_agO (ψs := [iv .i64 t34.From, iv .i64 t34.To]) rfl ⟨.inl iv_at, .inl iv_at, trivial⟩), trivial⟩) rfl (fun _ => ?_)
        refine pull fun t38 h_t38 => ?_
        refine s_st (s_append h_t38 Tryd.underlying25 el_56 rfl (j := 4) rfl rfl) rfl (fun o39 => ?_)
        refine s_rd (r_faddr (fo := 1) Tryd.underlying27 rfl rfl Tryd.sizeOf25 rfl) rfl ?_
        refine s_st0 (s_cstore (out := [iv .i64 g_0.N, pv o39.1]) Tryd.sizeOf25 rfl (j := 3) rfl (part_own rfl (j := 4) rfl) rfl rfl rfl) (fun _ => ?_)
        refine l_nil ?_
        refine b_of (nrm [oc be_0 [slv (rI .i64) e_0], oc be_1 [iv .i64 e_1], oc b2 [iv .i64 0, pv (.slice none 0 0)], oc b3 [iv .i64 g_0.N, pv o39.1], oa rT_api_Pair o39.1 o39.2 t38, oc b35 [iv .i64 t34.From, iv .i64 t34.To]] rfl) ?_
        refine n_block (n_then (ref_region ?_))
        refine s_rd (r_add rfl rfl) rfl ?_
        refine mv1 rfl rfl ?_
        refine l_nil ?_
        exact goB o39 (weak [0, 1, 2, 3, 4] ⟨rfl, rfl, rfl, rfl, rfl, rfl, trivial⟩ ⟨rfl, rfl, rfl, rfl, rfl, trivial⟩)
      refine ref_skip (n_block (n_then (ref_region ?_)))
      refine s_rd (r_add rfl rfl) rfl ?_
      refine mv1 rfl rfl ?_
      refine l_nil ?_
      exact goB x32 (weak [0, 1, 2, 3, 4] ⟨rfl, rfl, rfl, rfl, rfl, rfl, trivial⟩ ⟨rfl, rfl, rfl, rfl, rfl, trivial⟩)
    refine ref_exit (x_then ?_)
    exact brkB x32 (weak [0, 1, 2, 3, 4] ⟨rfl, rfl, rfl, trivial⟩ ⟨rfl, rfl, rfl, rfl, rfl, trivial⟩)
  refine n_then (ref_seq (ref_region ?_))
  refine s_rd (r_cloadS Tryd.isAgg27 Tryd.sizeOf27 rfl (j := 3) rfl rfl rfl) rfl ?_
  refine s_st0 (s_cstore (out := [iv .i64 g_0.N, pv y41.1]) Tryd.sizeOf27 rfl (j := 2) rfl (part_agO (ψs := [iv .i64 g_0.N, pv y41.1]) rfl ⟨.inl iv_at, .inr ⟨_, _, _, _, _, 4, rfl, rfl⟩, trivial⟩) rfl rfl rfl) (fun _ => ?_)
  refine l_nil (n_then (ref_ret ?_))
  refine b_of (frzGL [(29, ag [iv .i64 g_0.N, slv rT_api_Pair q40])] [(2, b2, [iv .i64 g_0.N, slv rT_api_Pair q40]), (3, b3, [iv .i64 g_0.N, slv rT_api_Pair q40])] (j := 4) rfl ⟨⟨_, rfl, .inr ⟨_, _, rfl, rfl, ⟨.inl rfl, .inr ⟨rfl, rfl⟩, trivial⟩⟩⟩, trivial⟩ ⟨⟨_, rfl, ⟨.inl rfl, .inr ⟨rfl, rfl⟩, trivial⟩⟩, ⟨_, rfl, ⟨.inl rfl, .inr ⟨rfl, rfl⟩, trivial⟩⟩, trivial⟩) ?_
  refine b_of (nrm [oc be_0 [slv (rI .i64) e_0], oc be_1 [iv .i64 e_1], oc b2 [iv .i64 g_0.N, slv rT_api_Pair q40], oc b3 [iv .i64 g_0.N, slv rT_api_Pair q40], dead] rfl) ?_
  exact fin1 (.inl rfl) () [0, 1] rfl ⟨rfl, rfl, trivial⟩ rfl (rv_cell rfl (j := 2) rfl Tryd.isAgg27 Tryd.sizeOf27 rfl rfl)

/-! deliberation/degree.Levels -/
noncomputable def degree_Levels_l1 (g_0 : T_api_Graph) (weights_1 : (List Int)) (node_2 : Int) (bounds15 : List Int) (s57 : Int × (List Int)) : Option (Sum ((List Int)) (Int × (List Int))) :=
  bif decide (s57.1 < (bounds15.length : Int)) then
    Option.bind (idxM bounds15 s57.1) fun t60 =>
    Option.bind (degree_without_1_m g_0 weights_1 t60) fun t62 =>
    Option.bind (network_New_m t62) fun t63 =>
    Option.bind (network_Net_In_m t63) fun in_65 =>
    Option.bind (network_Set_Has_m in_65 node_2) fun t66 =>
    bif t66 then
      Option.bind (appM 8 s57.2 [1]) fun out71 =>
      some (Sum.inr (iadd .i64 s57.1 1, out71))
    else
      Option.bind (network_Net_Hit_m t63 in_65) fun t68 =>
      Option.bind (network_Set_Has_m t68 node_2) fun t69 =>
      bif t69 then
        Option.bind (appM 8 s57.2 [2]) fun out73 =>
        some (Sum.inr (iadd .i64 s57.1 1, out73))
      else
        Option.bind (appM 8 s57.2 [3]) fun out75 =>
        some (Sum.inr (iadd .i64 s57.1 1, out75))
  else
    some (Sum.inl s57.2)

noncomputable def degree_Levels_m (g_0 : T_api_Graph) (weights_1 : (List Int)) (node_2 : Int) : Option (List Int × Int) :=
  Option.bind (graph_Validate_m g_0) fun e3 =>
  bif e3 != 0 then
    some ([], e3)
  else
    Option.bind (degree_weighs_m g_0 weights_1) fun t5 =>
    bif !t5 then
      some ([], 1)
    else
      bif decide (node_2 < 0) then
        some ([], 1)
      else
        bif decide (node_2 ≥ g_0.N) then
          some ([], 1)
        else
          Option.bind (slices_Clone_int_int_m weights_1) fun t7 =>
          Option.bind (appM 8 t7 [1001]) fun t9 =>
          Option.bind (slices_Values_int_int_m t9) fun t11 =>
          Option.bind (sortedM t11) fun t13 =>
          Option.bind (compactM t13) fun bounds15 =>
          Option.bind (loopC (degree_Levels_l1 g_0 weights_1 node_2 bounds15) (0, [])) fun q77 : (List Int) =>
          some (q77, 0)

theorem degree_Levels_ok {g_0 : T_api_Graph} {weights_1 : (List Int)} {node_2 : Int} {r : List Int × Int} (hm : degree_Levels_m g_0 weights_1 node_2 = some r) :
    FnOk prog 26 [ag [iv .i64 g_0.N, slv rT_api_Pair g_0.L], slv (rI .i64) weights_1, iv .i64 node_2] [tbO (rI .u8) 0 tab_0] (fun (x : (Value × List Nat)) => [pv x.1, iv .i64 r.2]) (fun (x : (Value × List Nat)) => [tbO (rI .u8) 0 tab_0, oa (rI .i64) x.1 x.2 r.1]) := by
  refine fn_ok (X := (Value × List Nat)) (fn := Tryd.f26) (N := 70) (res := fun r x => [pv x.1, iv .i64 r.2]) (Ω1 := fun r x => [tbO (rI .u8) 0 tab_0, oa (rI .i64) x.1 x.2 r.1]) Tryd.func26 rfl rfl hm rfl (fun E hM => ?_)
  unfold degree_Levels_m
  refine ref_seq (ref_region ?_)
  refine s_st (s_box (part_agO (ψs := [iv .i64 g_0.N, slv rT_api_Pair g_0.L]) rfl ⟨.inl iv_at, .inl slv_at, trivial⟩)) rfl (fun b1 => ?_)
  refine s_st (s_box (part_at rfl slv_at)) rfl (fun b2 => ?_)
  refine as1 rfl rfl ?_
  refine as1 rfl rfl ?_
  refine l_nil (n_then (ref_seq (ref_seq (ref_region ?_))))
  refine s_rd (r_cloadS Tryd.isAgg27 Tryd.sizeOf27 rfl (j := 1) rfl rfl rfl) rfl ?_
  refine pull fun e3 h_e3 => ?_
  refine s_st (s_call (ψ := fun (_ : Unit) => iv .i64 e3) (args := [.tmp 16]) Tryd.call36 rfl (graph_Validate_ok h_e3) ⟨arg rfl, trivial⟩ (fun _ _ _ _ h => h)) rfl (fun _ => ?_)
  refine as1 rfl rfl ?_
  refine l_nil (n_then (ref_seq (ref_region ?_)))
  refine mv1 rfl rfl ?_
  refine s_rd (r_neq rfl rfl) rfl ?_
  refine l_nil (n_then ?_)
  refine ref_cond rfl (fun hb4 => ?_) (fun hb4 => ?_)
  · refine ref_seq (ref_region ?_)
    refine mv1 rfl rfl ?_
    refine as1 rfl rfl ?_
    refine as1 rfl rfl ?_
    refine l_nil (n_then (ref_ret (r_then ?_)))
    refine b_of (own_nil (rI .i64)) ?_
    exact fin2 (.inl rfl) ((.slice none 0 0), []) [0, 3] rfl ⟨rfl, rfl, trivial⟩ rfl (rv_tmp rfl) (rv_tmp rfl)
  refine ref_skip (n_then (ref_seq (ref_seq (ref_region ?_))))
  refine s_rd (r_cloadS Tryd.isAgg27 Tryd.sizeOf27 rfl (j := 1) rfl rfl rfl) rfl ?_
  refine s_rd (r_cload Tryd.isAgg22 rfl (j := 2) rfl rfl) rfl ?_
  refine pull fun t5 h_t5 => ?_
  refine s_st (s_call (ψ := fun (_ : Unit) => bv t5) (args := [.tmp 21, .tmp 22]) Tryd.call37 rfl (degree_weighs_ok h_t5) ⟨arg rfl, arg rfl, trivial⟩ (fun _ _ _ _ h => h)) rfl (fun _ => ?_)
  refine s_rd (r_not rfl) rfl ?_
  refine mv1 rfl rfl ?_
  refine b_split (t := 25) rfl (fun _ => ?_) (fun _ => ?_)
  · refine s_off rfl rfl rfl rfl rfl ?_
    refine s_off rfl rfl rfl rfl rfl ?_
    refine s_rd (r_pickT rfl rfl) rfl ?_
    refine mv1 rfl rfl ?_
    refine s_off rfl rfl rfl rfl rfl ?_
    refine s_off rfl rfl rfl rfl rfl ?_
    refine s_off rfl rfl rfl rfl rfl ?_
    refine s_off rfl rfl rfl rfl rfl ?_
    refine s_rd (r_pickT rfl rfl) rfl ?_
    refine l_nil ?_
    refine b_of (nrm [tbO (rI .u8) 0 tab_0, oc b1 [iv .i64 g_0.N, slv rT_api_Pair g_0.L], oc b2 [slv (rI .i64) weights_1]] rfl) ?_
    refine n_then ?_
    refine ref_condT rfl rfl ?_
    refine ref_seq (ref_region ?_)
    refine as1 rfl rfl ?_
    refine as1 rfl rfl ?_
    refine l_nil (n_then (ref_ret (r_then ?_)))
    refine b_of (own_nil (rI .i64)) ?_
    exact fin2 (.inl rfl) ((.slice none 0 0), []) [0, 3] rfl ⟨rfl, rfl, trivial⟩ rfl (rv_tmp rfl) (rv_tmp rfl)
  refine s_on rfl rfl rfl ?_
  refine mv1 rfl rfl ?_
  refine s_on rfl rfl rfl ?_
  refine s_rd (r_lss rfl rfl) rfl ?_
  refine s_rd (r_pickF rfl rfl) rfl ?_
  refine mv1 rfl rfl ?_
  refine b_split (t := 29) rfl (fun _ => ?_) (fun _ => ?_)
  · refine s_off rfl rfl rfl rfl rfl ?_
    refine s_off rfl rfl rfl rfl rfl ?_
    refine s_off rfl rfl rfl rfl rfl ?_
    refine s_off rfl rfl rfl rfl rfl ?_
    refine s_rd (r_pickT rfl rfl) rfl ?_
    refine l_nil ?_
    refine b_of (nrm [tbO (rI .u8) 0 tab_0, oc b1 [iv .i64 g_0.N, slv rT_api_Pair g_0.L], oc b2 [slv (rI .i64) weights_1]] rfl) ?_
    refine n_then ?_
    refine ref_condT rfl rfl ?_
    refine ref_seq (ref_region ?_)
    refine as1 rfl rfl ?_
    refine as1 rfl rfl ?_
    refine l_nil (n_then (ref_ret (r_then ?_)))
    refine b_of (own_nil (rI .i64)) ?_
    exact fin2 (.inl rfl) ((.slice none 0 0), []) [0, 3] rfl ⟨rfl, rfl, trivial⟩ rfl (rv_tmp rfl) (rv_tmp rfl)
  refine s_on rfl rfl rfl ?_
  refine mv1 rfl rfl ?_
  refine s_on rfl rfl rfl ?_
  refine s_rd (r_faddr (fo := 0) Tryd.underlying27 rfl rfl Tryd.sizeOf3 rfl) rfl ?_
  refine s_on rfl rfl rfl ?_
  refine s_rd (r_cload Tryd.isAgg3 rfl (j := 1) rfl rfl) rfl ?_
  refine s_on rfl rfl rfl ?_
  refine s_rd (r_geq rfl rfl) rfl ?_
  refine s_rd (r_pickF rfl rfl) rfl ?_
  refine l_nil ?_
  refine b_of (nrm [tbO (rI .u8) 0 tab_0, oc b1 [iv .i64 g_0.N, slv rT_api_Pair g_0.L], oc b2 [slv (rI .i64) weights_1]] rfl) ?_
  refine n_then ?_
  refine ref_cond rfl (fun hb6 => ?_) (fun hb6 => ?_)
  · refine ref_seq (ref_region ?_)
    refine as1 rfl rfl ?_
    refine as1 rfl rfl ?_
    refine l_nil (n_then (ref_ret (r_then ?_)))
    refine b_of (own_nil (rI .i64)) ?_
    exact fin2 (.inl rfl) ((.slice none 0 0), []) [0, 3] rfl ⟨rfl, rfl, trivial⟩ rfl (rv_tmp rfl) (rv_tmp rfl)
  refine ref_skip (n_then (ref_seq (ref_region ?_)))
  refine s_rd (r_cload Tryd.isAgg22 rfl (j := 2) rfl rfl) rfl ?_
  refine pull fun t7 h_t7 => ?_
  refine s_st (s_call (ψ := fun (x8 : (Value × List Nat)) => pv x8.1) (args := [.tmp 35]) Tryd.call64 rfl (slices_Clone_int_int_ok h_t7) ⟨arg rfl, trivial⟩ (fun _ _ _ _ h => h)) rfl (fun x8 => ?_)
  refine s_st (s_bslice (xs := [.const (.int .i64 (1001))]) (ds := [1001]) Tryd.underlying22 el_3 rfl (Nat.le_of_ble_eq_true rfl) ⟨(part_at rfl iv_at), trivial⟩) rfl (fun _ => ?_)
  refine pull fun t9 h_t9 => ?_
  refine s_st (s_append h_t9 Tryd.underlying22 el_3 rfl (j := 3) rfl rfl) rfl (fun o10 => ?_)
  refine b_of (frzL [38] (j := 3) rfl ⟨rfl, trivial⟩) ?_
  refine pull fun t11 h_t11 => ?_
  refine s_st (s_call (ψ := fun (x12 : Nat) => pv (.func (.func 84) #[] #[(ptr x12 0)])) (args := [.tmp 38]) Tryd.call63 rfl (slices_Values_int_int_ok h_t11) ⟨arg rfl, trivial⟩ (fun _ _ _ _ h => h)) rfl (fun x12 => ?_)
  refine pull fun t13 h_t13 => ?_
  refine s_st (s_callC [4] [false] (fun (x14 : (Value × List Nat)) => [dead]) (fun (x14 : (Value × List Nat)) => [oa (rI .i64) x14.1 x14.2 t13]) (fun (x14 : (Value × List Nat)) => pv x14.1) (args := [.tmp 39]) (caps := []) Tryd.call62 rfl (slices_Sorted_ok h_t13) ⟨rfl, rfl, trivial⟩ (fun _ => rfl) (fun _ => ⟨rfl, trivial⟩) (fun _ => rfl) ⟨arg rfl, trivial⟩ (fun _ _ _ _ h => h)) rfl (fun x14 => ?_)
  refine pull fun bounds15 h_bounds15 => ?_
  refine s_st (s_callC [5] [false] (fun (x16 : (Value × List Nat)) => [dead]) (fun (x16 : (Value × List Nat)) => [oa (rI .i64) x16.1 x16.2 bounds15]) (fun (x16 : (Value × List Nat)) => pv x16.1) (args := [.tmp 40]) (caps := []) Tryd.call61 rfl (slices_Compact_ok h_bounds15) ⟨rfl, rfl, trivial⟩ (fun _ => rfl) (fun _ => ⟨rfl, trivial⟩) (fun _ => rfl) ⟨arg rfl, trivial⟩ (fun _ _ _ _ h => h)) rfl (fun x16 => ?_)
  refine as1 rfl rfl ?_
  refine l_nil ?_
  refine b_of (nrm [tbO (rI .u8) 0 tab_0, oc b1 [iv .i64 g_0.N, slv rT_api_Pair g_0.L], oc b2 [slv (rI .i64) weights_1], dead, dead, dead, oa (rI .i64) x16.1 x16.2 bounds15] rfl) ?_
  refine n_then (ref_seq (ref_region ?_))
  refine as1 rfl rfl ?_
  refine l_nil (n_then (ref_seq (ref_seq (ref_region ?_))))
  refine mv1 rfl rfl ?_
  refine s_rd (r_olen Tryd.underlying22 rfl (j := 6) rfl) rfl ?_
  refine mv1 rfl rfl ?_
  refine l_nil (n_then ?_)
  refine b_of (own_nil (rI .i64)) ?_
  refine ref_loopB (f := (degree_Levels_l1 g_0 weights_1 node_2 bounds15)) (Γl := (fun (s57 : Int × (List Int)) (x58 : (Value × List Nat)) => [(2, iv .i64 node_2), (3, pv (ptr b1 0)), (4, pv (ptr b2 0)), (10, pv x58.1), (42, pv x16.1), (43, iv .i64 (bounds15.length : Int)), (44, iv .i64 s57.1)])) (Ωl := (fun (s57 : Int × (List Int)) (x58 : (Value × List Nat)) => [tbO (rI .u8) 0 tab_0, oc b1 [iv .i64 g_0.N, slv rT_api_Pair g_0.L], oc b2 [slv (rI .i64) weights_1], oa (rI .i64) x58.1 x58.2 s57.2, oa (rI .i64) x16.1 x16.2 bounds15])) (Γb := (fun (q77 : (List Int)) (y78 : (Value × List Nat)) => [(10, pv y78.1)])) (Ωb := (fun (q77 : (List Int)) (y78 : (Value × List Nat)) => [oa (rI .i64) y78.1 y78.2 q77, tbO (rI .u8) 0 tab_0])) (0, []) ((.slice none 0 0), []) (weak [0, 1, 2, 7, 6] ⟨rfl, rfl, rfl, rfl, rfl, rfl, rfl, trivial⟩ ⟨rfl, rfl, rfl, rfl, rfl, trivial⟩) (fun s57 x58 => ?_) (fun q77 y78 => ?_)
  · unfold degree_Levels_l1
    refine ref_seq (ref_region ?_)
    refine s_rd (r_lss rfl rfl) rfl ?_
    refine l_nil (n_then (ref_seq ?_))
    refine ref_cond rfl (fun hb59 => ?_) (fun hb59 => ?_)
    · refine ref_skip (n_then (ref_seq (ref_block (ref_seq (ref_region ?_)))))
      refine pull fun t60 h_t60 => ?_
      refine s_rd (r_oindex h_t60 Tryd.underlying22 el_3 rfl (j := 4) rfl rfl) rfl ?_
      refine s_rd (r_oload h_t60 el_3 rfl (j := 4) rfl) rfl ?_
      refine s_st (s_alloc zt_3) rfl (fun b61 => ?_)
      refine s_st0 (s_cstore (out := [iv .i64 t60]) Tryd.sizeOf3 rfl (j := 5) rfl (part_at rfl iv_at) rfl rfl rfl) (fun _ => ?_)
      refine l_nil (n_then (ref_seq (ref_region ?_)))
      refine s_rd (r_cloadS Tryd.isAgg27 Tryd.sizeOf27 rfl (j := 1) rfl rfl rfl) rfl ?_
      refine s_rd (r_mkfn (xs := [.tmp 4, .tmp 12]) (vs := [(ptr b2 0), (ptr b61 0)]) ⟨rfl, rfl, trivial⟩) rfl ?_
      refine pull fun t62 h_t62 => ?_
      refine s_st (s_callC [2, 5] [true, true] (fun (_ : Unit) => [oc b2 [slv (rI .i64) weights_1], oc b61 [iv .i64 t60]]) (fun (_ : Unit) => []) (fun (_ : Unit) => ag [iv .i64 t62.N, slv rT_api_Pair t62.L]) (args := [.tmp 48, .tmp 49]) (caps := []) Tryd.call40 rfl (degree_without_1_ok h_t62) ⟨rfl, rfl, ⟨rfl, rfl, trivial⟩⟩ (fun _ => rfl) (fun _ => trivial) (fun _ => rfl) ⟨arg rfl, arg rfl, trivial⟩ (fun _ _ _ _ h => h)) rfl (fun _ => ?_)
      refine pull fun t63 h_t63 => ?_
      refine s_st (s_call (ψ := fun (_ : Unit) => ag [iv .u64 t63.All, slv (rI .u64) t63.By, slv (rI .u64) t63.Out]) (args := [.tmp 50]) Tryd.call39 rfl (network_New_ok h_t63) ⟨arg rfl, trivial⟩ (fun _ _ _ _ h => h)) rfl (fun _ => ?_)
      refine s_st (s_alloc zt_80) rfl (fun b64 => ?_)
      refine s_st0 (s_cstore (out := [iv .u64 t63.All, slv (rI .u64) t63.By, slv (rI .u64) t63.Out]) Tryd.sizeOf80 rfl (j := 6) rfl (part_agO (ψs := [iv .u64 t63.All, slv (rI .u64) t63.By, slv (rI .u64) t63.Out]) rfl ⟨.inl iv_at, .inl slv_at, .inl slv_at, trivial⟩) rfl rfl rfl) (fun _ => ?_)
      refine l_nil ?_
      refine b_of (nrm [tbO (rI .u8) 0 tab_0, oc b1 [iv .i64 g_0.N, slv rT_api_Pair g_0.L], oc b2 [slv (rI .i64) weights_1], oa (rI .i64) x58.1 x58.2 s57.2, oa (rI .i64) x16.1 x16.2 bounds15, oc b61 [iv .i64 t60], oc b64 [iv .u64 t63.All, slv (rI .u64) t63.By, slv (rI .u64) t63.Out]] rfl) ?_
      refine n_then (ref_seq (ref_region ?_))
      refine s_rd (r_cloadS Tryd.isAgg80 Tryd.sizeOf80 rfl (j := 6) rfl rfl rfl) rfl ?_
      refine pull fun in_65 h_in_65 => ?_
      refine s_st (s_callC [0] [true] (fun (_ : Unit) => [tbO (rI .u8) 0 tab_0]) (fun (_ : Unit) => []) (fun (_ : Unit) => iv .u64 in_65) (args := [.tmp 52]) (caps := []) Tryd.call42 rfl (network_Net_In_ok h_in_65) ⟨rfl, rfl, trivial⟩ (fun _ => rfl) (fun _ => trivial) (fun _ => rfl) ⟨arg rfl, trivial⟩ (fun _ _ _ _ h => h)) rfl (fun _ => ?_)
      refine as1 rfl rfl ?_
      refine l_nil (n_then (ref_seq (ref_region ?_)))
      refine as1 rfl rfl ?_
      refine l_nil (n_then (ref_seq (ref_block (ref_seq (ref_region ?_)))))
      refine mv1 rfl rfl ?_
      refine mv1 rfl rfl ?_
      refine pull fun t66 h_t66 => ?_
      refine s_st (s_call (ψ := fun (_ : Unit) => bv t66) (args := [.tmp 55, .tmp 56]) Tryd.call43 rfl (network_Set_Has_ok h_t66) ⟨arg rfl, arg rfl, trivial⟩ (fun _ _ _ _ h => h)) rfl (fun _ => ?_)
      refine as1 rfl rfl ?_
      refine l_nil (n_then ?_)
      refine ref_cond rfl (fun hb67 => ?_) (fun hb67 => ?_)
      · refine ref_region ?_
        refine as1 rfl rfl ?_
        refine l_nil (n_block (n_then (ref_region ?_)))
        refine mv1 rfl rfl ?_
        refine mv1 rfl rfl ?_
        refine s_st (s_bslice (xs := [.tmp 65]) (ds := [1]) Tryd.underlying22 el_3 rfl (Nat.le_of_ble_eq_true rfl) ⟨(part_at rfl iv_at), trivial⟩) rfl (fun _ => ?_)
        refine pull fun out71 h_out71 => ?_
        refine s_st (s_append h_out71 Tryd.underlying22 el_3 rfl (j := 3) rfl rfl) rfl (fun o72 => ?_)
        refine as1 rfl rfl ?_
        refine l_nil ?_
        refine b_of (nrm [tbO (rI .u8) 0 tab_0, oc b1 [iv .i64 g_0.N, slv rT_api_Pair g_0.L], oc b2 [slv (rI .i64) weights_1], oa (rI .i64) o72.1 o72.2 out71, oa (rI .i64) x16.1 x16.2 bounds15, oc b61 [iv .i64 t60], oc b64 [iv .u64 t63.All, slv (rI .u64) t63.By, slv (rI .u64) t63.Out]] rfl) ?_
        refine n_block (n_then (ref_region ?_))
        refine s_rd (r_add rfl rfl) rfl ?_
        refine mv1 rfl rfl ?_
        refine l_nil ?_
        exact goB o72 (weak [0, 1, 2, 3, 4] ⟨rfl, rfl, rfl, rfl, rfl, rfl, rfl, trivial⟩ ⟨rfl, rfl, rfl, rfl, rfl, trivial⟩)
      refine ref_seq (ref_region ?_)
      refine s_rd (r_cloadS Tryd.isAgg80 Tryd.sizeOf80 rfl (j := 6) rfl rfl rfl) rfl ?_
      refine mv1 rfl rfl ?_
      refine pull fun t68 h_t68 => ?_
      refine s_st (s_callC [0] [true] (fun (_ : Unit) => [tbO (rI .u8) 0 tab_0]) (fun (_ : Unit) => []) (fun (_ : Unit) => iv .u64 t68) (args := [.tmp 59, .tmp 60]) (caps := []) Tryd.call66 rfl (network_Net_Hit_ok h_t68) ⟨rfl, rfl, trivial⟩ (fun _ => rfl) (fun _ => trivial) (fun _ => rfl) ⟨arg rfl, arg rfl, trivial⟩ (fun _ _ _ _ h => h)) rfl (fun _ => ?_)
      refine mv1 rfl rfl ?_
      refine pull fun t69 h_t69 => ?_
      refine s_st (s_call (ψ := fun (_ : Unit) => bv t69) (args := [.tmp 61, .tmp 62]) Tryd.call43 rfl (network_Set_Has_ok h_t69) ⟨arg rfl, arg rfl, trivial⟩ (fun _ _ _ _ h => h)) rfl (fun _ => ?_)
      refine as1 rfl rfl ?_
      refine l_nil ?_
      refine b_of (nrm [tbO (rI .u8) 0 tab_0, oc b1 [iv .i64 g_0.N, slv rT_api_Pair g_0.L], oc b2 [slv (rI .i64) weights_1], oa (rI .i64) x58.1 x58.2 s57.2, oa (rI .i64) x16.1 x16.2 bounds15, oc b61 [iv .i64 t60], oc b64 [iv .u64 t63.All, slv (rI .u64) t63.By, slv (rI .u64) t63.Out]] rfl) ?_
      refine n_then ?_
      refine ref_cond rfl (fun hb70 => ?_) (fun hb70 => ?_)
      · refine ref_region ?_
        refine as1 rfl rfl ?_
        refine l_nil (n_block (n_then (ref_region ?_)))
        refine mv1 rfl rfl ?_
        refine mv1 rfl rfl ?_
        refine s_st (s_bslice (xs := [.tmp 65]) (ds := [2]) Tryd.underlying22 el_3 rfl (Nat.le_of_ble_eq_true rfl) ⟨(part_at rfl iv_at), trivial⟩) rfl (fun _ => ?_)
        refine pull fun out73 h_out73 => ?_
        refine s_st (s_append h_out73 Tryd.underlying22 el_3 rfl (j := 3) rfl rfl) rfl (fun o74 => ?_)
        refine as1 rfl rfl ?_
        refine l_nil (n_block (n_then (ref_region ?_)))
        refine s_rd (r_add rfl rfl) rfl ?_
        refine mv1 rfl rfl ?_
        refine l_nil ?_
        exact goB o74 (weak [0, 1, 2, 3, 4] ⟨rfl, rfl, rfl, rfl, rfl, rfl, rfl, trivial⟩ ⟨rfl, rfl, rfl, rfl, rfl, trivial⟩)
      refine ref_skip (n_block (n_then (ref_region ?_)))
      refine mv1 rfl rfl ?_
      refine mv1 rfl rfl ?_
      refine s_st (s_bslice (xs := [.tmp 65]) (ds := [3]) Tryd.underlying22 el_3 rfl (Nat.le_of_ble_eq_true rfl) ⟨(part_at rfl iv_at), trivial⟩) rfl (fun _ => ?_)
      refine pull fun out75 h_out75 => ?_
      refine s_st (s_append h_out75 Tryd.underlying22 el_3 rfl (j := 3) rfl rfl) rfl (fun o76 => ?_)
      refine as1 rfl rfl ?_
      refine l_nil (n_block (n_then (ref_region ?_)))
      refine s_rd (r_add rfl rfl) rfl ?_
      refine mv1 rfl rfl ?_
      refine l_nil ?_
      exact goB o76 (weak [0, 1, 2, 3, 4] ⟨rfl, rfl, rfl, rfl, rfl, rfl, rfl, trivial⟩ ⟨rfl, rfl, rfl, rfl, rfl, trivial⟩)
    refine ref_exit (x_then ?_)
    exact brkB x58 (weak [3, 0] ⟨rfl, trivial⟩ ⟨rfl, rfl, trivial⟩)
  refine n_then (ref_seq (ref_region ?_))
  refine mv1 rfl rfl ?_
  refine as1 rfl rfl ?_
  refine as1 rfl rfl ?_
  refine l_nil (n_then (ref_ret ?_))
  exact fin2 (.inl rfl) y78 [1, 0] rfl ⟨rfl, rfl, trivial⟩ rfl (rv_tmp rfl) (rv_tmp rfl)

/-! deliberation/deliberationkeep.Ints -/
noncomputable def keep_Ints_l1 (a__0 : (List Int)) (b_1 : (List Int)) (s8 : Int) : Option (Sum ((Sum (Bool) (Unit))) (Int)) :=
  bif decide (s8 < (a__0.length : Int)) then
    Option.bind (idxM a__0 s8) fun t11 =>
    Option.bind (idxM b_1 s8) fun t12 =>
    bif t11 != t12 then
      some (Sum.inl (Sum.inl false))
    else
      some (Sum.inr (iadd .i64 s8 1))
  else
    some (Sum.inl (Sum.inr ()))

noncomputable def keep_Ints_m (a__0 : (List Int)) (b_1 : (List Int)) : Option (Bool) :=
  bif (a__0.length : Int) != (b_1.length : Int) then
    some false
  else
    Option.bind (loopC (keep_Ints_l1 a__0 b_1) 0) (sumK (fun a : Bool => some a) fun q14 : Unit =>
      some true)

theorem keep_Ints_ok {a__0 : (List Int)} {b_1 : (List Int)} {r : Bool} (hm : keep_Ints_m a__0 b_1 = some r) :
    FnOk prog 28 [slv (rI .i64) a__0, slv (rI .i64) b_1] [] (fun (x : Unit) => [bv r]) (fun (x : Unit) => []) := by
  refine fn_ok (fn := Tryd.f28) (N := 26) (res := fun r x => [bv r]) (Ω1 := fun r x => []) Tryd.func28 rfl rfl hm rfl (fun E hM => ?_)
  unfold keep_Ints_m
  refine ref_seq (ref_region ?_)
  refine as1 rfl rfl ?_
  refine l_nil (n_then (ref_seq (ref_seq (ref_region ?_))))
  refine mv1 rfl rfl ?_
  refine s_rd (r_len Tryd.underlying22 rfl) rfl ?_
  refine mv1 rfl rfl ?_
  refine s_rd (r_len Tryd.underlying22 rfl) rfl ?_
  refine s_rd (r_neq rfl rfl) rfl ?_
  refine l_nil (n_then ?_)
  refine ref_cond rfl (fun hb1 => ?_) (fun hb1 => ?_)
  · refine ref_seq (ref_region ?_)
    refine as1 rfl rfl ?_
    refine l_nil (n_then (ref_ret (r_then ?_)))
    exact fin1 (.inl rfl) () [] rfl trivial rfl (rv_tmp rfl)
  refine ref_skip (n_then (ref_seq (ref_seq (ref_region ?_))))
  refine mv1 rfl rfl ?_
  refine s_rd (r_len Tryd.underlying22 rfl) rfl ?_
  refine mv1 rfl rfl ?_
  refine l_nil (n_then ?_)
  refine ref_loopX (f := (keep_Ints_l1 a__0 b_1)) (Γl := (fun (s8 : Int) (x9 : Unit) => [(0, slv (rI .i64) a__0), (1, slv (rI .i64) b_1), (12, iv .i64 (a__0.length : Int)), (13, iv .i64 s8)])) (Ωl := (fun (s8 : Int) (x9 : Unit) => [])) (Γb := (fun (q14 : Unit) (y15 : Unit) => [])) (Ωb := (fun (q14 : Unit) (y15 : Unit) => [])) (kr := (fun a : Bool => some a)) 0 () (weak [] ⟨rfl, rfl, rfl, rfl, trivial⟩ trivial) (fun s8 x9 => ?_) (fun q14 y15 => ?_)
  · unfold keep_Ints_l1
    refine ref_seq (ref_region ?_)
    refine s_rd (r_lss rfl rfl) rfl ?_
    refine l_nil (n_then (ref_seq ?_))
    refine ref_cond rfl (fun hb10 => ?_) (fun hb10 => ?_)
    · refine ref_skip (n_then (ref_seq (ref_block (ref_seq (ref_region ?_)))))
      refine mv1 rfl rfl ?_
      refine as1 rfl rfl ?_
      refine l_nil (n_then (ref_seq ?_))
      refine ref_draw [0, 1, 2, 3, 4, 5, 6, 7, 8] rfl (by kernel_rfl) (fun hok => ?_)
      refine a_rd (i := 0) hok rfl (by kernel_rfl) rfl (r_move rfl) rfl ?_
      refine a_rd (i := 1) hok rfl (by kernel_rfl) rfl (r_move rfl) rfl ?_
      refine pull fun t11 h_t11 => ?_
      refine a_rd (i := 2) hok rfl (by kernel_rfl) rfl (r_index h_t11 Tryd.underlying22 el_3 rfl rfl) rfl ?_
      refine a_rd (i := 3) hok rfl (by kernel_rfl) rfl (r_load el_3 rfl) rfl ?_
      refine a_rd (i := 4) hok rfl (by kernel_rfl) rfl (r_move rfl) rfl ?_
      refine a_rd (i := 5) hok rfl (by kernel_rfl) rfl (r_move rfl) rfl ?_
      refine pull fun t12 h_t12 => ?_
      refine a_rd (i := 6) hok rfl (by kernel_rfl) rfl (r_index h_t12 Tryd.underlying22 el_3 rfl rfl) rfl ?_
      refine a_rd (i := 7) hok rfl (by kernel_rfl) rfl (r_load el_3 rfl) rfl ?_
      refine a_rd (i := 8) hok rfl (by kernel_rfl) rfl (r_neq rfl rfl) rfl ?_
      refine a_fin hok (by kernel_rfl) ?_
      refine n_then ?_
      refine ref_cond rfl (fun hb13 => ?_) (fun hb13 => ?_)
      · refine ref_seq (ref_region ?_)
        refine as1 rfl rfl ?_
        refine l_nil (n_then (ref_ret (r_block (r_then ?_))))
        refine retX ?_
        refine r_block (r_then ?_)
        exact fin1 (.inl rfl) () [] rfl trivial rfl (rv_tmp rfl)
      refine ref_skip (n_block (n_then (ref_region ?_)))
      refine s_rd (r_add rfl rfl) rfl ?_
      refine mv1 rfl rfl ?_
      refine l_nil ?_
      exact goX () (weak [] ⟨rfl, rfl, rfl, rfl, trivial⟩ trivial)
    refine ref_exit (x_then ?_)
    exact brkX () (weak [] trivial trivial)
  refine n_then (ref_seq (ref_region ?_))
  refine as1 rfl rfl ?_
  refine l_nil (n_then (ref_ret ?_))
  exact fin1 (.inl rfl) () [] rfl trivial rfl (rv_tmp rfl)

/-! deliberation/deliberationref22.Same -/
noncomputable def ref22_Same_l1 (a__0 : (List T_api_Fraction)) (b_1 : (List T_api_Fraction)) (s8 : Int) : Option (Sum ((Sum (Bool) (Unit))) (Int)) :=
  bif decide (s8 < (a__0.length : Int)) then
    Option.bind (idxM a__0 s8) fun t11 =>
    Option.bind (idxM b_1 s8) fun t12 =>
    bif !decide (t11 = t12) then
      some (Sum.inl (Sum.inl false))
    else
      some (Sum.inr (iadd .i64 s8 1))
  else
    some (Sum.inl (Sum.inr ()))

noncomputable def ref22_Same_m (a__0 : (List T_api_Fraction)) (b_1 : (List T_api_Fraction)) : Option (Bool) :=
  bif (a__0.length : Int) != (b_1.length : Int) then
    some false
  else
    Option.bind (loopC (ref22_Same_l1 a__0 b_1) 0) (sumK (fun a : Bool => some a) fun q14 : Unit =>
      some true)

theorem ref22_Same_ok {a__0 : (List T_api_Fraction)} {b_1 : (List T_api_Fraction)} {r : Bool} (hm : ref22_Same_m a__0 b_1 = some r) :
    FnOk prog 22 [slv rT_api_Fraction a__0, slv rT_api_Fraction b_1] [] (fun (x : Unit) => [bv r]) (fun (x : Unit) => []) := by
  refine fn_ok (fn := Tryd.f22) (N := 26) (res := fun r x => [bv r]) (Ω1 := fun r x => []) Tryd.func22 rfl rfl hm rfl (fun E hM => ?_)
  unfold ref22_Same_m
  refine ref_seq (ref_region ?_)
  refine as1 rfl rfl ?_
  refine l_nil (n_then (ref_seq (ref_seq (ref_region ?_))))
  refine mv1 rfl rfl ?_
  refine s_rd (r_len Tryd.underlying40 rfl) rfl ?_
  refine mv1 rfl rfl ?_
  refine s_rd (r_len Tryd.underlying40 rfl) rfl ?_
  refine s_rd (r_neq rfl rfl) rfl ?_
  refine l_nil (n_then ?_)
  refine ref_cond rfl (fun hb1 => ?_) (fun hb1 => ?_)
  · refine ref_seq (ref_region ?_)
    refine as1 rfl rfl ?_
    refine l_nil (n_then (ref_ret (r_then ?_)))
    exact fin1 (.inl rfl) () [] rfl trivial rfl (rv_tmp rfl)
  refine ref_skip (n_then (ref_seq (ref_seq (ref_region ?_))))
  refine as1 rfl rfl ?_
  refine l_nil (n_then ?_)
  refine ref_loopX (f := (ref22_Same_l1 a__0 b_1)) (Γl := (fun (s8 : Int) (x9 : Unit) => [(0, slv rT_api_Fraction a__0), (1, slv rT_api_Fraction b_1), (5, iv .i64 s8)])) (Ωl := (fun (s8 : Int) (x9 : Unit) => [])) (Γb := (fun (q14 : Unit) (y15 : Unit) => [])) (Ωb := (fun (q14 : Unit) (y15 : Unit) => [])) (kr := (fun a : Bool => some a)) 0 () (weak [] ⟨rfl, rfl, rfl, trivial⟩ trivial) (fun s8 x9 => ?_) (fun q14 y15 => ?_)
  · unfold ref22_Same_l1
    refine ref_seq (ref_seq (ref_region ?_))
    refine mv1 rfl rfl ?_
    refine mv1 rfl rfl ?_
    refine s_rd (r_len Tryd.underlying40 rfl) rfl ?_
    refine s_rd (r_lss rfl rfl) rfl ?_
    refine l_nil (n_then ?_)
    refine ref_cond rfl (fun hb10 => ?_) (fun hb10 => ?_)
    · refine ref_skip (n_then (ref_seq (ref_block (ref_seq ?_))))
      refine ref_draw [0, 1, 2, 3, 4, 5, 6, 7, 8] rfl (by kernel_rfl) (fun hok => ?_)
      refine a_rd (i := 0) hok rfl (by kernel_rfl) rfl (r_move rfl) rfl ?_
      refine a_rd (i := 1) hok rfl (by kernel_rfl) rfl (r_move rfl) rfl ?_
      refine pull fun t11 h_t11 => ?_
      refine a_rd (i := 2) hok rfl (by kernel_rfl) rfl (r_index h_t11 Tryd.underlying40 el_53 rfl rfl) rfl ?_
      refine a_rd (i := 3) hok rfl (by kernel_rfl) rfl (r_load el_53 rfl) rfl ?_
      refine a_rd (i := 4) hok rfl (by kernel_rfl) rfl (r_move rfl) rfl ?_
      refine a_rd (i := 5) hok rfl (by kernel_rfl) rfl (r_move rfl) rfl ?_
      refine pull fun t12 h_t12 => ?_
      refine a_rd (i := 6) hok rfl (by kernel_rfl) rfl (r_index h_t12 Tryd.underlying40 el_53 rfl rfl) rfl ?_
      refine a_rd (i := 7) hok rfl (by kernel_rfl) rfl (r_load el_53 rfl) rfl ?_
      refine a_rd (i := 8) hok rfl (by kernel_rfl) rfl (r_stneq (u := t11) (v := t12) eq_53 rfl rfl rfl rfl) rfl ?_
      refine a_fin hok (by kernel_rfl) ?_
      refine n_then ?_
      refine ref_cond rfl (fun hb13 => ?_) (fun hb13 => ?_)
      · refine ref_seq (ref_region ?_)
        refine as1 rfl rfl ?_
        refine l_nil (n_then (ref_ret (r_block (r_then ?_))))
        refine retX ?_
        refine r_block (r_then ?_)
        exact fin1 (.inl rfl) () [] rfl trivial rfl (rv_tmp rfl)
      refine ref_skip (n_block (n_then (ref_region ?_)))
      refine mv1 rfl rfl ?_
      refine s_rd (r_add rfl rfl) rfl ?_
      refine as1 rfl rfl ?_
      refine l_nil ?_
      exact goX () (weak [] ⟨rfl, rfl, rfl, trivial⟩ trivial)
    refine ref_exit (x_then ?_)
    exact brkX () (weak [] trivial trivial)
  refine n_then (ref_seq (ref_region ?_))
  refine as1 rfl rfl ?_
  refine l_nil (n_then (ref_ret ?_))
  exact fin1 (.inl rfl) () [] rfl trivial rfl (rv_tmp rfl)

/-! deliberation/deliberationlaw22.awake -/
noncomputable def law22_awake_m  : Option (Bool) :=
  Option.bind (degree_Budget_m (T_api_Graph.mk 3 [(T_api_Pair.mk 0 1), (T_api_Pair.mk 1 2)]) [5, 3] 1) fun t3 =>
  Option.bind (degree_Levels_m (T_api_Graph.mk 3 [(T_api_Pair.mk 0 1), (T_api_Pair.mk 1 2)]) [5, 3] 1) fun t5 =>
  Option.bind (degree_Strength_m (T_api_Graph.mk 3 [(T_api_Pair.mk 0 1), (T_api_Pair.mk 1 2)]) [(T_api_Fraction.mk 1 1), (T_api_Fraction.mk 1 1), (T_api_Fraction.mk 1 1)]) fun t7 =>
  bif t3.2 == 0 then
    bif t5.2 == 0 then
      bif t7.2 == 0 then
        bif t3.1.Weight == 5 then
          Option.bind (keep_Ints_m t3.1.Dropped [0]) fun t9 =>
          bif t9 then
            Option.bind (keep_Ints_m t5.1 [2, 2, 1]) fun t10 =>
            bif t10 then
              Option.bind (ref22_Same_m t7.1 [(T_api_Fraction.mk 1 1), (T_api_Fraction.mk 1 2), (T_api_Fraction.mk 2 3)]) fun t11 =>
              some t11
            else
              some false
          else
            some false
        else
          some false
      else
        some false
    else
      some false
  else
    some false

theorem law22_awake_ok  {r : Bool} (hm : law22_awake_m  = some r) :
    FnOk prog 14 [] [tbO (rI .u8) 0 tab_0] (fun (x : Unit) => [bv r]) (fun (x : Unit) => [tbO (rI .u8) 0 tab_0]) := by
  refine fn_ok (fn := Tryd.f14) (N := 69) (res := fun r x => [bv r]) (Ω1 := fun r x => [tbO (rI .u8) 0 tab_0]) Tryd.func14 rfl rfl hm rfl (fun E hM => ?_)
  unfold law22_awake_m
  refine ref_seq (ref_region ?_)
  refine as1 rfl rfl ?_
  refine l_nil (n_then (ref_seq (ref_region ?_)))
  refine s_rd (r_build (ps := [(0, .const (.int .i64 (0))), (1, .const (.int .i64 (1)))]) (rs := [(0, [iv .i64 0]), (1, [iv .i64 1])]) st_56 zs_56 ⟨rfl, (part_at rfl iv_at), ⟨rfl, (part_at rfl iv_at), trivial⟩⟩ rfl rfl) rfl ?_
  refine s_rd (r_build (ps := [(0, .const (.int .i64 (1))), (1, .const (.int .i64 (2)))]) (rs := [(0, [iv .i64 1]), (1, [iv .i64 2])]) st_56 zs_56 ⟨rfl, (part_at rfl iv_at), ⟨rfl, (part_at rfl iv_at), trivial⟩⟩ rfl rfl) rfl ?_
  refine s_st (s_bslice (xs := [.tmp 9, .tmp 10]) (ds := [(T_api_Pair.mk 0 1), (T_api_Pair.mk 1 2)]) Tryd.underlying25 el_56 rfl (Nat.le_of_ble_eq_true rfl) ⟨(part_agO (ψs := [iv .i64 0, iv .i64 1]) rfl ⟨.inl iv_at, .inl iv_at, trivial⟩), ⟨(part_agO (ψs := [iv .i64 1, iv .i64 2]) rfl ⟨.inl iv_at, .inl iv_at, trivial⟩), trivial⟩⟩) rfl (fun _ => ?_)
  refine s_rd (r_build (ps := [(0, .const (.int .i64 (3))), (1, .tmp 11)]) (rs := [(0, [iv .i64 3]), (1, [slv rT_api_Pair [(T_api_Pair.mk 0 1), (T_api_Pair.mk 1 2)]])]) st_27 zs_27 ⟨rfl, (part_at rfl iv_at), ⟨rfl, (part_at rfl slv_at), trivial⟩⟩ rfl rfl) rfl ?_
  refine s_st (s_alloc zt_27) rfl (fun b1 => ?_)
  refine s_st0 (s_cstore (out := [iv .i64 3, slv rT_api_Pair [(T_api_Pair.mk 0 1), (T_api_Pair.mk 1 2)]]) Tryd.sizeOf27 rfl (j := 1) rfl (part_agO (ψs := [iv .i64 3, slv rT_api_Pair [(T_api_Pair.mk 0 1), (T_api_Pair.mk 1 2)]]) rfl ⟨.inl iv_at, .inl slv_at, trivial⟩) rfl rfl rfl) (fun _ => ?_)
  refine l_nil (n_then (ref_seq (ref_region ?_)))
  refine s_rd (r_build (ps := [(0, .const (.int .i64 (1))), (1, .const (.int .i64 (1)))]) (rs := [(0, [iv .i64 1]), (1, [iv .i64 1])]) st_53 zs_53 ⟨rfl, (part_at rfl iv_at), ⟨rfl, (part_at rfl iv_at), trivial⟩⟩ rfl rfl) rfl ?_
  refine s_st (s_alloc zt_53) rfl (fun b2 => ?_)
  refine s_st0 (s_cstore (out := [iv .i64 1, iv .i64 1]) Tryd.sizeOf53 rfl (j := 2) rfl (part_agO (ψs := [iv .i64 1, iv .i64 1]) rfl ⟨.inl iv_at, .inl iv_at, trivial⟩) rfl rfl rfl) (fun _ => ?_)
  refine l_nil ?_
  refine b_of (nrm [tbO (rI .u8) 0 tab_0, oc b1 [iv .i64 3, slv rT_api_Pair [(T_api_Pair.mk 0 1), (T_api_Pair.mk 1 2)]], oc b2 [iv .i64 1, iv .i64 1]] rfl) ?_
  refine n_then (ref_seq (ref_region ?_))
  refine s_rd (r_cloadS Tryd.isAgg27 Tryd.sizeOf27 rfl (j := 1) rfl rfl rfl) rfl ?_
  refine s_st (s_bslice (xs := [.const (.int .i64 (5)), .const (.int .i64 (3))]) (ds := [5, 3]) Tryd.underlying22 el_3 rfl (Nat.le_of_ble_eq_true rfl) ⟨(part_at rfl iv_at), ⟨(part_at rfl iv_at), trivial⟩⟩) rfl (fun _ => ?_)
  refine pull fun t3 h_t3 => ?_
  refine s_st (s_callC [0] [true] (fun (_ : Unit) => [tbO (rI .u8) 0 tab_0]) (fun (_ : Unit) => []) (fun (_ : Unit) => tup [ag [iv .i64 t3.1.Weight, slv (rI .i64) t3.1.Dropped], iv .i64 t3.2]) (args := [.tmp 15, .tmp 16, .const (.int .i64 (1))]) (caps := []) Tryd.call12 rfl (degree_Budget_ok h_t3) ⟨rfl, rfl, trivial⟩ (fun _ => rfl) (fun _ => trivial) (fun _ => rfl) ⟨arg rfl, arg rfl, arg rfl, trivial⟩ (fun _ _ _ _ h => h)) rfl (fun _ => ?_)
  refine mv1 rfl rfl ?_
  refine s_rd (r_extract rfl rfl) rfl ?_
  refine s_rd (r_extract rfl rfl) rfl ?_
  refine s_st (s_alloc zt_32) rfl (fun b4 => ?_)
  refine s_st0 (s_cstore (out := [iv .i64 t3.1.Weight, slv (rI .i64) t3.1.Dropped]) Tryd.sizeOf32 rfl (j := 3) rfl (part_agO (ψs := [iv .i64 t3.1.Weight, slv (rI .i64) t3.1.Dropped]) rfl ⟨.inl iv_at, .inl slv_at, trivial⟩) rfl rfl rfl) (fun _ => ?_)
  refine as1 rfl rfl ?_
  refine l_nil ?_
  refine b_of (nrm [tbO (rI .u8) 0 tab_0, oc b1 [iv .i64 3, slv rT_api_Pair [(T_api_Pair.mk 0 1), (T_api_Pair.mk 1 2)]], oc b2 [iv .i64 1, iv .i64 1], oc b4 [iv .i64 t3.1.Weight, slv (rI .i64) t3.1.Dropped]] rfl) ?_
  refine n_then (ref_seq (ref_region ?_))
  refine s_rd (r_cloadS Tryd.isAgg27 Tryd.sizeOf27 rfl (j := 1) rfl rfl rfl) rfl ?_
  refine s_st (s_bslice (xs := [.const (.int .i64 (5)), .const (.int .i64 (3))]) (ds := [5, 3]) Tryd.underlying22 el_3 rfl (Nat.le_of_ble_eq_true rfl) ⟨(part_at rfl iv_at), ⟨(part_at rfl iv_at), trivial⟩⟩) rfl (fun _ => ?_)
  refine pull fun t5 h_t5 => ?_
  refine s_st (s_callC [0] [true] (fun (x6 : (Value × List Nat)) => [tbO (rI .u8) 0 tab_0]) (fun (x6 : (Value × List Nat)) => [oa (rI .i64) x6.1 x6.2 t5.1]) (fun (x6 : (Value × List Nat)) => tup [pv x6.1, iv .i64 t5.2]) (args := [.tmp 21, .tmp 22, .const (.int .i64 (1))]) (caps := []) Tryd.call26 rfl (degree_Levels_ok h_t5) ⟨rfl, rfl, trivial⟩ (fun _ => rfl) (fun _ => trivial) (fun _ => rfl) ⟨arg rfl, arg rfl, arg rfl, trivial⟩ (fun _ _ _ _ h => h)) rfl (fun x6 => ?_)
  refine mv1 rfl rfl ?_
  refine s_rd (r_extract rfl rfl) rfl ?_
  refine s_rd (r_extract rfl rfl) rfl ?_
  refine as1 rfl rfl ?_
  refine as1 rfl rfl ?_
  refine l_nil (n_then (ref_seq (ref_region ?_)))
  refine s_rd (r_cloadS Tryd.isAgg27 Tryd.sizeOf27 rfl (j := 1) rfl rfl rfl) rfl ?_
  refine s_rd (r_cloadS Tryd.isAgg53 Tryd.sizeOf53 rfl (j := 2) rfl rfl rfl) rfl ?_
  refine s_rd (r_cloadS Tryd.isAgg53 Tryd.sizeOf53 rfl (j := 2) rfl rfl rfl) rfl ?_
  refine s_rd (r_cloadS Tryd.isAgg53 Tryd.sizeOf53 rfl (j := 2) rfl rfl rfl) rfl ?_
  refine s_st (s_bslice (xs := [.tmp 28, .tmp 29, .tmp 30]) (ds := [(T_api_Fraction.mk 1 1), (T_api_Fraction.mk 1 1), (T_api_Fraction.mk 1 1)]) Tryd.underlying40 el_53 rfl (Nat.le_of_ble_eq_true rfl) ⟨(part_agO (ψs := [iv .i64 1, iv .i64 1]) rfl ⟨.inl iv_at, .inl iv_at, trivial⟩), ⟨(part_agO (ψs := [iv .i64 1, iv .i64 1]) rfl ⟨.inl iv_at, .inl iv_at, trivial⟩), ⟨(part_agO (ψs := [iv .i64 1, iv .i64 1]) rfl ⟨.inl iv_at, .inl iv_at, trivial⟩), trivial⟩⟩⟩) rfl (fun _ => ?_)
  refine pull fun t7 h_t7 => ?_
  refine s_st (s_callC [0] [true] (fun (x8 : (Value × List Nat)) => [tbO (rI .u8) 0 tab_0]) (fun (x8 : (Value × List Nat)) => [oa rT_api_Fraction x8.1 x8.2 t7.1]) (fun (x8 : (Value × List Nat)) => tup [pv x8.1, iv .i64 t7.2]) (args := [.tmp 27, .tmp 31]) (caps := []) Tryd.call20 rfl (degree_Strength_ok h_t7) ⟨rfl, rfl, trivial⟩ (fun _ => rfl) (fun _ => trivial) (fun _ => rfl) ⟨arg rfl, arg rfl, trivial⟩ (fun _ _ _ _ h => h)) rfl (fun x8 => ?_)
  refine mv1 rfl rfl ?_
  refine s_rd (r_extract rfl rfl) rfl ?_
  refine s_rd (r_extract rfl rfl) rfl ?_
  refine as1 rfl rfl ?_
  refine as1 rfl rfl ?_
  refine l_nil ?_
  refine b_of (nrm [tbO (rI .u8) 0 tab_0, oc b1 [iv .i64 3, slv rT_api_Pair [(T_api_Pair.mk 0 1), (T_api_Pair.mk 1 2)]], oc b2 [iv .i64 1, iv .i64 1], oc b4 [iv .i64 t3.1.Weight, slv (rI .i64) t3.1.Dropped], oa (rI .i64) x6.1 x6.2 t5.1, oa rT_api_Fraction x8.1 x8.2 t7.1] rfl) ?_
  refine n_then (ref_seq (ref_region ?_))
  refine mv1 rfl rfl ?_
  refine s_rd (r_eql rfl rfl) rfl ?_
  refine mv1 rfl rfl ?_
  refine b_split (t := 37) rfl (fun _ => ?_) (fun _ => ?_)
  · refine s_on rfl rfl rfl ?_
    refine mv1 rfl rfl ?_
    refine s_on rfl rfl rfl ?_
    refine s_rd (r_eql rfl rfl) rfl ?_
    refine s_rd (r_pickT rfl rfl) rfl ?_
    refine mv1 rfl rfl ?_
    refine b_split (t := 41) rfl (fun _ => ?_) (fun _ => ?_)
    · refine s_on rfl rfl rfl ?_
      refine mv1 rfl rfl ?_
      refine s_on rfl rfl rfl ?_
      refine s_rd (r_eql rfl rfl) rfl ?_
      refine s_rd (r_pickT rfl rfl) rfl ?_
      refine mv1 rfl rfl ?_
      refine b_split (t := 45) rfl (fun _ => ?_) (fun _ => ?_)
      · refine s_on rfl rfl rfl ?_
        refine s_rd (r_faddr (fo := 0) Tryd.underlying32 rfl rfl Tryd.sizeOf3 rfl) rfl ?_
        refine s_on rfl rfl rfl ?_
        refine s_rd (r_cload Tryd.isAgg3 rfl (j := 3) rfl rfl) rfl ?_
        refine s_on rfl rfl rfl ?_
        refine s_rd (r_eql rfl rfl) rfl ?_
        refine s_rd (r_pickT rfl rfl) rfl ?_
        refine mv1 rfl rfl ?_
        refine b_split (t := 50) rfl (fun _ => ?_) (fun _ => ?_)
        · refine s_on rfl rfl rfl ?_
          refine s_rd (r_faddr (fo := 1) Tryd.underlying32 rfl rfl Tryd.sizeOf22 rfl) rfl ?_
          refine s_on rfl rfl rfl ?_
          refine s_rd (r_cload Tryd.isAgg22 rfl (j := 3) rfl rfl) rfl ?_
          refine s_on rfl rfl rfl ?_
          refine s_st (s_bslice (xs := [.const (.int .i64 (0))]) (ds := [0]) Tryd.underlying22 el_3 rfl (Nat.le_of_ble_eq_true rfl) ⟨(part_at rfl iv_at), trivial⟩) rfl (fun _ => ?_)
          refine s_on rfl rfl rfl ?_
          refine pull fun t9 h_t9 => ?_
          refine s_st (s_call (ψ := fun (_ : Unit) => bv t9) (args := [.tmp 52, .tmp 53]) Tryd.call28 rfl (keep_Ints_ok h_t9) ⟨arg rfl, arg rfl, trivial⟩ (fun _ _ _ _ h => h)) rfl (fun _ => ?_)
          refine s_rd (r_pickT rfl rfl) rfl ?_
          refine mv1 rfl rfl ?_
          refine b_split (t := 56) rfl (fun _ => ?_) (fun _ => ?_)
          · refine s_on rfl rfl rfl ?_
            refine mv1 rfl rfl ?_
            refine s_on rfl rfl rfl ?_
            refine s_st (s_bslice (xs := [.const (.int .i64 (2)), .const (.int .i64 (2)), .const (.int .i64 (1))]) (ds := [2, 2, 1]) Tryd.underlying22 el_3 rfl (Nat.le_of_ble_eq_true rfl) ⟨(part_at rfl iv_at), ⟨(part_at rfl iv_at), ⟨(part_at rfl iv_at), trivial⟩⟩⟩) rfl (fun _ => ?_)
            refine s_on rfl rfl rfl ?_
            refine pull fun t10 h_t10 => ?_
            refine s_st (s_callB (ψ := fun (_ : Unit) => bv t10) (args := [.tmp 57, .tmp 58]) Tryd.call28 rfl (keep_Ints_ok h_t10) ⟨argO rfl (j := 4) rfl, argB rfl, trivial⟩ (fun _ _ _ _ _ h => h)) rfl (fun _ => ?_)
            refine s_rd (r_pickT rfl rfl) rfl ?_
            refine mv1 rfl rfl ?_
            refine b_split (t := 61) rfl (fun _ => ?_) (fun _ => ?_)
            · refine s_on rfl rfl rfl ?_
              refine mv1 rfl rfl ?_
              refine s_on rfl rfl rfl ?_
              refine s_rd (r_cloadS Tryd.isAgg53 Tryd.sizeOf53 rfl (j := 2) rfl rfl rfl) rfl ?_
              refine s_on rfl rfl rfl ?_
              refine s_rd (r_build (ps := [(0, .const (.int .i64 (1))), (1, .const (.int .i64 (2)))]) (rs := [(0, [iv .i64 1]), (1, [iv .i64 2])]) st_53 zs_53 ⟨rfl, (part_at rfl iv_at), ⟨rfl, (part_at rfl iv_at), trivial⟩⟩ rfl rfl) rfl ?_
              refine s_on rfl rfl rfl ?_
              refine s_rd (r_build (ps := [(0, .const (.int .i64 (2))), (1, .const (.int .i64 (3)))]) (rs := [(0, [iv .i64 2]), (1, [iv .i64 3])]) st_53 zs_53 ⟨rfl, (part_at rfl iv_at), ⟨rfl, (part_at rfl iv_at), trivial⟩⟩ rfl rfl) rfl ?_
              refine s_on rfl rfl rfl ?_
              refine s_st (s_bslice (xs := [.tmp 63, .tmp 64, .tmp 65]) (ds := [(T_api_Fraction.mk 1 1), (T_api_Fraction.mk 1 2), (T_api_Fraction.mk 2 3)]) Tryd.underlying40 el_53 rfl (Nat.le_of_ble_eq_true rfl) ⟨(part_agO (ψs := [iv .i64 1, iv .i64 1]) rfl ⟨.inl iv_at, .inl iv_at, trivial⟩), ⟨(part_agO (ψs := [iv .i64 1, iv .i64 2]) rfl ⟨.inl iv_at, .inl iv_at, trivial⟩), ⟨(part_agO (ψs := [iv .i64 2, iv .i64 3]) rfl ⟨.inl iv_at, .inl iv_at, trivial⟩), trivial⟩⟩⟩) rfl (fun _ => ?_)
              refine s_on rfl rfl rfl ?_
              refine pull fun t11 h_t11 => ?_
              refine s_st (s_callB (ψ := fun (_ : Unit) => bv t11) (args := [.tmp 62, .tmp 66]) Tryd.call22 rfl (ref22_Same_ok h_t11) ⟨argO rfl (j := 5) rfl, argB rfl, trivial⟩ (fun _ _ _ _ _ h => h)) rfl (fun _ => ?_)
              refine s_rd (r_pickT rfl rfl) rfl ?_
              refine as1 rfl rfl ?_
              refine l_nil ?_
              refine b_of (nrm [tbO (rI .u8) 0 tab_0, oc b1 [iv .i64 3, slv rT_api_Pair [(T_api_Pair.mk 0 1), (T_api_Pair.mk 1 2)]], oc b2 [iv .i64 1, iv .i64 1], oc b4 [iv .i64 t3.1.Weight, slv (rI .i64) t3.1.Dropped], oa (rI .i64) x6.1 x6.2 t5.1, oa rT_api_Fraction x8.1 x8.2 t7.1] rfl) ?_
              refine n_then (ref_ret ?_)
              exact fin1 (.inl rfl) () [0] rfl ⟨rfl, trivial⟩ rfl (rv_tmp rfl)
            refine s_off rfl rfl rfl rfl rfl ?_
            refine s_off rfl rfl rfl rfl rfl ?_
            refine s_off rfl rfl rfl rfl rfl ?_
            refine s_off rfl rfl rfl rfl rfl ?_
            refine s_off rfl rfl rfl rfl rfl ?_
            refine s_off rfl rfl rfl rfl rfl ?_
            refine s_rd (r_pickF rfl rfl) rfl ?_
            refine as1 rfl rfl ?_
            refine l_nil ?_
            refine b_of (nrm [tbO (rI .u8) 0 tab_0, oc b1 [iv .i64 3, slv rT_api_Pair [(T_api_Pair.mk 0 1), (T_api_Pair.mk 1 2)]], oc b2 [iv .i64 1, iv .i64 1], oc b4 [iv .i64 t3.1.Weight, slv (rI .i64) t3.1.Dropped], oa (rI .i64) x6.1 x6.2 t5.1, oa rT_api_Fraction x8.1 x8.2 t7.1] rfl) ?_
            refine n_then (ref_ret ?_)
            exact fin1 (.inl rfl) () [0] rfl ⟨rfl, trivial⟩ rfl (rv_tmp rfl)
          refine s_off rfl rfl rfl rfl rfl ?_
          refine s_off rfl rfl rfl rfl rfl ?_
          refine s_off rfl rfl rfl rfl rfl ?_
          refine s_rd (r_pickF rfl rfl) rfl ?_
          refine mv1 rfl rfl ?_
          refine s_off rfl rfl rfl rfl rfl ?_
          refine s_off rfl rfl rfl rfl rfl ?_
          refine s_off rfl rfl rfl rfl rfl ?_
          refine s_off rfl rfl rfl rfl rfl ?_
          refine s_off rfl rfl rfl rfl rfl ?_
          refine s_off rfl rfl rfl rfl rfl ?_
          refine s_rd (r_pickF rfl rfl) rfl ?_
          refine as1 rfl rfl ?_
          refine l_nil (n_then (ref_ret ?_))
          exact fin1 (.inl rfl) () [0] rfl ⟨rfl, trivial⟩ rfl (rv_tmp rfl)
        refine s_off rfl rfl rfl rfl rfl ?_
        refine s_off rfl rfl rfl rfl rfl ?_
        refine s_off rfl rfl rfl rfl rfl ?_
        refine s_off rfl rfl rfl rfl rfl ?_
        refine s_rd (r_pickF rfl rfl) rfl ?_
        refine mv1 rfl rfl ?_
        refine s_off rfl rfl rfl rfl rfl ?_
        refine s_off rfl rfl rfl rfl rfl ?_
        refine s_off rfl rfl rfl rfl rfl ?_
        refine s_rd (r_pickF rfl rfl) rfl ?_
        refine mv1 rfl rfl ?_
        refine s_off rfl rfl rfl rfl rfl ?_
        refine s_off rfl rfl rfl rfl rfl ?_
        refine s_off rfl rfl rfl rfl rfl ?_
        refine s_off rfl rfl rfl rfl rfl ?_
        refine s_off rfl rfl rfl rfl rfl ?_
        refine s_off rfl rfl rfl rfl rfl ?_
        refine s_rd (r_pickF rfl rfl) rfl ?_
        refine as1 rfl rfl ?_
        refine l_nil (n_then (ref_ret ?_))
        exact fin1 (.inl rfl) () [0] rfl ⟨rfl, trivial⟩ rfl (rv_tmp rfl)
      refine s_off rfl rfl rfl rfl rfl ?_
      refine s_off rfl rfl rfl rfl rfl ?_
      refine s_off rfl rfl rfl rfl rfl ?_
      refine s_rd (r_pickF rfl rfl) rfl ?_
      refine mv1 rfl rfl ?_
      refine s_off rfl rfl rfl rfl rfl ?_
      refine s_off rfl rfl rfl rfl rfl ?_
      refine s_off rfl rfl rfl rfl rfl ?_
      refine s_off rfl rfl rfl rfl rfl ?_
      refine s_rd (r_pickF rfl rfl) rfl ?_
      refine mv1 rfl rfl ?_
      refine s_off rfl rfl rfl rfl rfl ?_
      refine s_off rfl rfl rfl rfl rfl ?_
      refine s_off rfl rfl rfl rfl rfl ?_
      refine s_rd (r_pickF rfl rfl) rfl ?_
      refine mv1 rfl rfl ?_
      refine s_off rfl rfl rfl rfl rfl ?_
      refine s_off rfl rfl rfl rfl rfl ?_
      refine s_off rfl rfl rfl rfl rfl ?_
      refine s_off rfl rfl rfl rfl rfl ?_
      refine s_off rfl rfl rfl rfl rfl ?_
      refine s_off rfl rfl rfl rfl rfl ?_
      refine s_rd (r_pickF rfl rfl) rfl ?_
      refine as1 rfl rfl ?_
      refine l_nil (n_then (ref_ret ?_))
      exact fin1 (.inl rfl) () [0] rfl ⟨rfl, trivial⟩ rfl (rv_tmp rfl)
    refine s_off rfl rfl rfl rfl rfl ?_
    refine s_off rfl rfl rfl rfl rfl ?_
    refine s_rd (r_pickF rfl rfl) rfl ?_
    refine mv1 rfl rfl ?_
    refine s_off rfl rfl rfl rfl rfl ?_
    refine s_off rfl rfl rfl rfl rfl ?_
    refine s_off rfl rfl rfl rfl rfl ?_
    refine s_rd (r_pickF rfl rfl) rfl ?_
    refine mv1 rfl rfl ?_
    refine s_off rfl rfl rfl rfl rfl ?_
    refine s_off rfl rfl rfl rfl rfl ?_
    refine s_off rfl rfl rfl rfl rfl ?_
    refine s_off rfl rfl rfl rfl rfl ?_
    refine s_rd (r_pickF rfl rfl) rfl ?_
    refine mv1 rfl rfl ?_
    refine s_off rfl rfl rfl rfl rfl ?_
    refine s_off rfl rfl rfl rfl rfl ?_
    refine s_off rfl rfl rfl rfl rfl ?_
    refine s_rd (r_pickF rfl rfl) rfl ?_
    refine mv1 rfl rfl ?_
    refine s_off rfl rfl rfl rfl rfl ?_
    refine s_off rfl rfl rfl rfl rfl ?_
    refine s_off rfl rfl rfl rfl rfl ?_
    refine s_off rfl rfl rfl rfl rfl ?_
    refine s_off rfl rfl rfl rfl rfl ?_
    refine s_off rfl rfl rfl rfl rfl ?_
    refine s_rd (r_pickF rfl rfl) rfl ?_
    refine as1 rfl rfl ?_
    refine l_nil (n_then (ref_ret ?_))
    exact fin1 (.inl rfl) () [0] rfl ⟨rfl, trivial⟩ rfl (rv_tmp rfl)
  refine s_off rfl rfl rfl rfl rfl ?_
  refine s_off rfl rfl rfl rfl rfl ?_
  refine s_rd (r_pickF rfl rfl) rfl ?_
  refine mv1 rfl rfl ?_
  refine s_off rfl rfl rfl rfl rfl ?_
  refine s_off rfl rfl rfl rfl rfl ?_
  refine s_rd (r_pickF rfl rfl) rfl ?_
  refine mv1 rfl rfl ?_
  refine s_off rfl rfl rfl rfl rfl ?_
  refine s_off rfl rfl rfl rfl rfl ?_
  refine s_off rfl rfl rfl rfl rfl ?_
  refine s_rd (r_pickF rfl rfl) rfl ?_
  refine mv1 rfl rfl ?_
  refine s_off rfl rfl rfl rfl rfl ?_
  refine s_off rfl rfl rfl rfl rfl ?_
  refine s_off rfl rfl rfl rfl rfl ?_
  refine s_off rfl rfl rfl rfl rfl ?_
  refine s_rd (r_pickF rfl rfl) rfl ?_
  refine mv1 rfl rfl ?_
  refine s_off rfl rfl rfl rfl rfl ?_
  refine s_off rfl rfl rfl rfl rfl ?_
  refine s_off rfl rfl rfl rfl rfl ?_
  refine s_rd (r_pickF rfl rfl) rfl ?_
  refine mv1 rfl rfl ?_
  refine s_off rfl rfl rfl rfl rfl ?_
  refine s_off rfl rfl rfl rfl rfl ?_
  refine s_off rfl rfl rfl rfl rfl ?_
  refine s_off rfl rfl rfl rfl rfl ?_
  refine s_off rfl rfl rfl rfl rfl ?_
  refine s_off rfl rfl rfl rfl rfl ?_
  refine s_rd (r_pickF rfl rfl) rfl ?_
  refine as1 rfl rfl ?_
  refine l_nil (n_then (ref_ret ?_))
  exact fin1 (.inl rfl) () [0] rfl ⟨rfl, trivial⟩ rfl (rv_tmp rfl)

/-! deliberation/deliberationlaw22.DegreeWeaker -/
noncomputable def law22_DegreeWeaker_l1 (t3 : T_api_Graph × T_deliberationkeep_Src) (from_9 : Int × T_deliberationkeep_Src) (to_10 : Int × T_deliberationkeep_Src) (s38 : Int) : Option (Sum ((List T_api_Pair)) (Int)) :=
  bif decide (s38 ≤ (t3.1.L.length : Int)) then
    joinM (fun j45 : Bool =>
        bif j45 then
          Option.bind (slM t3.1.L 0 s38) fun t51 =>
          Option.bind (appM 16 [] t51) fun t52 =>
          Option.bind (appM 16 t52 [(T_api_Pair.mk from_9.1 to_10.1)]) fun t54 =>
          Option.bind (slM t3.1.L s38 (t3.1.L.length : Int)) fun t56 =>
          Option.bind (appM 16 t54 t56) fun t57 =>
          some (Sum.inl t57)
        else
          letM (iadd .i64 s38 1) fun i59 =>
          some (Sum.inr i59)) fun k47 =>
    bif s38 == (t3.1.L.length : Int) then
      k47 true
    else
      Option.bind (idxM t3.1.L s38) fun t42 =>
      bif decide (t42.From > from_9.1) then
        k47 true
      else
        Option.bind (idxM t3.1.L s38) fun t43 =>
        bif t43.From == from_9.1 then
          Option.bind (idxM t3.1.L s38) fun t44 =>
          k47 (decide (t44.To > to_10.1))
        else
          k47 false
  else
    some (Sum.inl [])

noncomputable def law22_DegreeWeaker_l2 (t7 : List T_api_Fraction × Int) (to_10 : Int × T_deliberationkeep_Src) (t62 : List T_api_Fraction × Int) (s73 : Int) : Option (Sum ((Sum (Bool) (Unit))) (Int)) :=
  bif decide (s73 < to_10.1) then
    Option.bind (idxM t7.1 s73) fun t76 =>
    Option.bind (idxM t62.1 s73) fun t77 =>
    bif !decide (t76 = t77) then
      some (Sum.inl (Sum.inl false))
    else
      letM (iadd .i64 s73 1) fun a_79 =>
      some (Sum.inr a_79)
  else
    some (Sum.inl (Sum.inr ()))

noncomputable def law22_DegreeWeaker_m (l_0 : (List Int)) : Option (Bool) :=
  Option.bind (keep_New_m l_0) fun s1 =>
  Option.bind (law22_acyclic_m s1 5) fun t3 =>
  Option.bind (law22_fractions_m t3.2 t3.1.N) fun base5 =>
  Option.bind (degree_Strength_m t3.1 base5.1) fun t7 =>
  Option.bind (keep_Src_N_m base5.2 t3.1.N) fun from_9 =>
  Option.bind (keep_Src_Range_m from_9.2 from_9.1 (isub .i64 t3.1.N 1)) fun to_10 =>
  bif t7.2 == 2 then
    Option.bind (law22_awake_m ) fun t12 =>
    some t12
  else
    bif from_9.1 == to_10.1 then
      Option.bind (law22_awake_m ) fun t13 =>
      some t13
    else
      Option.bind (net_Has_m t3.1 from_9.1 to_10.1) fun t11 =>
      bif t11 then
        Option.bind (law22_awake_m ) fun t15 =>
        some t15
      else
        Option.bind (loopC (law22_DegreeWeaker_l1 t3 from_9 to_10) 0) fun q60 : (List T_api_Pair) =>
        Option.bind (degree_Strength_m (T_api_Graph.mk t3.1.N q60) base5.1) fun t62 =>
        bif t62.2 == 2 then
          Option.bind (law22_awake_m ) fun t65 =>
          some t65
        else
          bif t7.2 != 0 then
            some false
          else
            bif t62.2 != 0 then
              some false
            else
              bif (t7.1.length : Int) != t3.1.N then
                some false
              else
                bif (t62.1.length : Int) != t3.1.N then
                  some false
                else
                  Option.bind (loopC (law22_DegreeWeaker_l2 t7 to_10 t62) 0) (sumK (fun a : Bool => some a) fun q80 : Unit =>
                    Option.bind (idxM t7.1 to_10.1) fun t82 =>
                    bif decide (t82.Den > 1073741824) then
                      Option.bind (law22_awake_m ) fun t84 =>
                      some t84
                    else
                      Option.bind (idxM t62.1 to_10.1) fun t83 =>
                      bif decide (t83.Den > 1073741824) then
                        Option.bind (law22_awake_m ) fun t86 =>
                        some t86
                      else
                        Option.bind (idxM t62.1 to_10.1) fun t87 =>
                        Option.bind (idxM t7.1 to_10.1) fun t88 =>
                        Option.bind (idxM t7.1 to_10.1) fun t89 =>
                        Option.bind (idxM t62.1 to_10.1) fun t90 =>
                        bif decide ((imul .i64 t87.Num t88.Den) ≤ (imul .i64 t89.Num t90.Den)) then
                          Option.bind (law22_awake_m ) fun t91 =>
                          some t91
                        else
                          some false)

theorem law22_DegreeWeaker_ok {l_0 : (List Int)} {r : Bool} (hm : law22_DegreeWeaker_m l_0 = some r) :
    FnOk prog 6 [slv (rI .i64) l_0] [tbO (rI .u8) 0 tab_0] (fun (x : Unit) => [bv r]) (fun (x : Unit) => [tbO (rI .u8) 0 tab_0]) := by
  refine fn_ok (fn := Tryd.f6) (N := 201) (res := fun r x => [bv r]) (Ω1 := fun r x => [tbO (rI .u8) 0 tab_0]) Tryd.func6 rfl rfl hm rfl (fun E hM => ?_)
  unfold law22_DegreeWeaker_m
  refine ref_seq (ref_region ?_)
  refine as1 rfl rfl ?_
  refine l_nil (n_then (ref_seq (ref_region ?_)))
  refine mv1 rfl rfl ?_
  refine pull fun s1 h_s1 => ?_
  refine s_st (s_call (ψ := fun (x2 : Nat) => pv (ptr x2 0)) (args := [.tmp 16]) Tryd.call9 rfl (keep_New_ok h_s1) ⟨arg rfl, trivial⟩ (fun _ _ _ _ h => h)) rfl (fun x2 => ?_)
  refine as1 rfl rfl ?_
  refine l_nil (n_then (ref_seq (ref_region ?_)))
  refine mv1 rfl rfl ?_
  refine pull fun t3 h_t3 => ?_
  refine s_st (s_callC [1] [true] (fun (_ : Unit) => [oc x2 [slv (rI .i64) t3.2.L, iv .i64 t3.2.At]]) (fun (_ : Unit) => []) (fun (_ : Unit) => ag [iv .i64 t3.1.N, slv rT_api_Pair t3.1.L]) (args := [.tmp 18, .const (.int .i64 (5))]) (caps := []) Tryd.call16 rfl (law22_acyclic_ok h_t3) ⟨rfl, rfl, trivial⟩ (fun _ => rfl) (fun _ => trivial) (fun _ => rfl) ⟨arg rfl, arg rfl, trivial⟩ (fun _ _ _ _ h => h)) rfl (fun _ => ?_)
  refine s_st (s_alloc zt_27) rfl (fun b4 => ?_)
  refine s_st0 (s_cstore (out := [iv .i64 t3.1.N, slv rT_api_Pair t3.1.L]) Tryd.sizeOf27 rfl (j := 2) rfl (part_agO (ψs := [iv .i64 t3.1.N, slv rT_api_Pair t3.1.L]) rfl ⟨.inl iv_at, .inl slv_at, trivial⟩) rfl rfl rfl) (fun _ => ?_)
  refine l_nil ?_
  refine b_of (nrm [tbO (rI .u8) 0 tab_0, oc x2 [slv (rI .i64) t3.2.L, iv .i64 t3.2.At], oc b4 [iv .i64 t3.1.N, slv rT_api_Pair t3.1.L]] rfl) ?_
  refine n_then (ref_seq (ref_region ?_))
  refine mv1 rfl rfl ?_
  refine s_rd (r_faddr (fo := 0) Tryd.underlying27 rfl rfl Tryd.sizeOf3 rfl) rfl ?_
  refine s_rd (r_cload Tryd.isAgg3 rfl (j := 2) rfl rfl) rfl ?_
  refine pull fun base5 h_base5 => ?_
  refine s_st (s_callC [1] [true] (fun (x6 : (Value × List Nat)) => [oc x2 [slv (rI .i64) base5.2.L, iv .i64 base5.2.At]]) (fun (x6 : (Value × List Nat)) => [oa rT_api_Fraction x6.1 x6.2 base5.1]) (fun (x6 : (Value × List Nat)) => pv x6.1) (args := [.tmp 20, .tmp 22]) (caps := []) Tryd.call18 rfl (law22_fractions_ok h_base5) ⟨rfl, rfl, trivial⟩ (fun _ => rfl) (fun _ => trivial) (fun _ => rfl) ⟨arg rfl, arg rfl, trivial⟩ (fun _ _ _ _ h => h)) rfl (fun x6 => ?_)
  refine as1 rfl rfl ?_
  refine l_nil (n_then (ref_seq (ref_region ?_)))
  refine s_rd (r_cloadS Tryd.isAgg27 Tryd.sizeOf27 rfl (j := 2) rfl rfl rfl) rfl ?_
  refine mv1 rfl rfl ?_
  refine b_of (frzL [23, 5, 26] (j := 3) rfl ⟨rfl, rfl, rfl, trivial⟩) ?_
  refine pull fun t7 h_t7 => ?_
  refine s_st (s_callC [0] [true] (fun (x8 : (Value × List Nat)) => [tbO (rI .u8) 0 tab_0]) (fun (x8 : (Value × List Nat)) => [oa rT_api_Fraction x8.1 x8.2 t7.1]) (fun (x8 : (Value × List Nat)) => tup [pv x8.1, iv .i64 t7.2]) (args := [.tmp 25, .tmp 26]) (caps := []) Tryd.call20 rfl (degree_Strength_ok h_t7) ⟨rfl, rfl, trivial⟩ (fun _ => rfl) (fun _ => trivial) (fun _ => rfl) ⟨arg rfl, arg rfl, trivial⟩ (fun _ _ _ _ h => h)) rfl (fun x8 => ?_)
  refine mv1 rfl rfl ?_
  refine s_rd (r_extract rfl rfl) rfl ?_
  refine s_rd (r_extract rfl rfl) rfl ?_
  refine as1 rfl rfl ?_
  refine as1 rfl rfl ?_
  refine l_nil (n_then (ref_seq (ref_region ?_)))
  refine mv1 rfl rfl ?_
  refine s_rd (r_faddr (fo := 0) Tryd.underlying27 rfl rfl Tryd.sizeOf3 rfl) rfl ?_
  refine s_rd (r_cload Tryd.isAgg3 rfl (j := 2) rfl rfl) rfl ?_
  refine pull fun from_9 h_from_9 => ?_
  refine s_st (s_callC [1] [true] (fun (_ : Unit) => [oc x2 [slv (rI .i64) from_9.2.L, iv .i64 from_9.2.At]]) (fun (_ : Unit) => []) (fun (_ : Unit) => iv .i64 from_9.1) (args := [.tmp 30, .tmp 32]) (caps := []) Tryd.call11 rfl (keep_Src_N_ok h_from_9) ⟨rfl, rfl, trivial⟩ (fun _ => rfl) (fun _ => trivial) (fun _ => rfl) ⟨arg rfl, arg rfl, trivial⟩ (fun _ _ _ _ h => h)) rfl (fun _ => ?_)
  refine as1 rfl rfl ?_
  refine l_nil (n_then (ref_seq (ref_region ?_)))
  refine mv1 rfl rfl ?_
  refine mv1 rfl rfl ?_
  refine s_rd (r_faddr (fo := 0) Tryd.underlying27 rfl rfl Tryd.sizeOf3 rfl) rfl ?_
  refine s_rd (r_cload Tryd.isAgg3 rfl (j := 2) rfl rfl) rfl ?_
  refine s_rd (r_sub rfl rfl) rfl ?_
  refine pull fun to_10 h_to_10 => ?_
  refine s_st (s_callC [1] [true] (fun (_ : Unit) => [oc x2 [slv (rI .i64) to_10.2.L, iv .i64 to_10.2.At]]) (fun (_ : Unit) => []) (fun (_ : Unit) => iv .i64 to_10.1) (args := [.tmp 34, .tmp 35, .tmp 38]) (caps := []) Tryd.call24 rfl (keep_Src_Range_ok h_to_10) ⟨rfl, rfl, trivial⟩ (fun _ => rfl) (fun _ => trivial) (fun _ => rfl) ⟨arg rfl, arg rfl, arg rfl, trivial⟩ (fun _ _ _ _ h => h)) rfl (fun _ => ?_)
  refine as1 rfl rfl ?_
  refine l_nil ?_
  refine b_of (nrm [tbO (rI .u8) 0 tab_0, oc x2 [slv (rI .i64) to_10.2.L, iv .i64 to_10.2.At], oc b4 [iv .i64 t3.1.N, slv rT_api_Pair t3.1.L], dead, oa rT_api_Fraction x8.1 x8.2 t7.1] rfl) ?_
  refine n_then (ref_seq (ref_seq (ref_region ?_)))
  refine mv1 rfl rfl ?_
  refine s_rd (r_eql rfl rfl) rfl ?_
  refine mv1 rfl rfl ?_
  refine b_split (t := 42) rfl (fun _ => ?_) (fun _ => ?_)
  · refine s_off rfl rfl rfl rfl rfl ?_
    refine s_off rfl rfl rfl rfl rfl ?_
    refine s_off rfl rfl rfl rfl rfl ?_
    refine s_rd (r_pickT rfl rfl) rfl ?_
    refine mv1 rfl rfl ?_
    refine s_off rfl rfl rfl rfl rfl ?_
    refine s_off rfl rfl rfl rfl rfl ?_
    refine s_off rfl rfl rfl rfl rfl ?_
    refine s_off rfl rfl rfl rfl rfl ?_
    refine s_rd (r_pickT rfl rfl) rfl ?_
    refine l_nil (n_then ?_)
    refine ref_condT rfl rfl ?_
    refine ref_seq (ref_region ?_)
    refine pull fun t12 h_t12 => ?_
    refine s_st (s_callC [0] [true] (fun (_ : Unit) => [tbO (rI .u8) 0 tab_0]) (fun (_ : Unit) => []) (fun (_ : Unit) => bv t12) (args := []) (caps := []) Tryd.call14 rfl (law22_awake_ok h_t12) ⟨rfl, rfl, trivial⟩ (fun _ => rfl) (fun _ => trivial) (fun _ => rfl) trivial (fun _ _ _ _ h => h)) rfl (fun _ => ?_)
    refine as1 rfl rfl ?_
    refine l_nil (n_then (ref_ret (r_then ?_)))
    exact fin1 (.inl rfl) () [0] rfl ⟨rfl, trivial⟩ rfl (rv_tmp rfl)
  refine s_on rfl rfl rfl ?_
  refine mv1 rfl rfl ?_
  refine s_on rfl rfl rfl ?_
  refine mv1 rfl rfl ?_
  refine s_on rfl rfl rfl ?_
  refine s_rd (r_eql rfl rfl) rfl ?_
  refine s_rd (r_pickF rfl rfl) rfl ?_
  refine mv1 rfl rfl ?_
  refine b_split (t := 47) rfl (fun _ => ?_) (fun _ => ?_)
  · refine s_off rfl rfl rfl rfl rfl ?_
    refine s_off rfl rfl rfl rfl rfl ?_
    refine s_off rfl rfl rfl rfl rfl ?_
    refine s_off rfl rfl rfl rfl rfl ?_
    refine s_rd (r_pickT rfl rfl) rfl ?_
    refine l_nil (n_then ?_)
    refine ref_condT rfl rfl ?_
    refine ref_seq (ref_region ?_)
    refine pull fun t13 h_t13 => ?_
    refine s_st (s_callC [0] [true] (fun (_ : Unit) => [tbO (rI .u8) 0 tab_0]) (fun (_ : Unit) => []) (fun (_ : Unit) => bv t13) (args := []) (caps := []) Tryd.call14 rfl (law22_awake_ok h_t13) ⟨rfl, rfl, trivial⟩ (fun _ => rfl) (fun _ => trivial) (fun _ => rfl) trivial (fun _ _ _ _ h => h)) rfl (fun _ => ?_)
    refine as1 rfl rfl ?_
    refine l_nil (n_then (ref_ret (r_then ?_)))
    exact fin1 (.inl rfl) () [0] rfl ⟨rfl, trivial⟩ rfl (rv_tmp rfl)
  refine s_on rfl rfl rfl ?_
  refine s_rd (r_cloadS Tryd.isAgg27 Tryd.sizeOf27 rfl (j := 2) rfl rfl rfl) rfl ?_
  refine s_on rfl rfl rfl ?_
  refine mv1 rfl rfl ?_
  refine s_on rfl rfl rfl ?_
  refine mv1 rfl rfl ?_
  refine s_on rfl rfl rfl ?_
  refine pull fun t11 h_t11 => ?_
  refine s_st (s_call (ψ := fun (_ : Unit) => bv t11) (args := [.tmp 48, .tmp 49, .tmp 50]) Tryd.call23 rfl (net_Has_ok h_t11) ⟨arg rfl, arg rfl, arg rfl, trivial⟩ (fun _ _ _ _ h => h)) rfl (fun _ => ?_)
  refine s_rd (r_pickF rfl rfl) rfl ?_
  refine l_nil (n_then ?_)
  refine ref_cond rfl (fun hb14 => ?_) (fun hb14 => ?_)
  · refine ref_seq (ref_region ?_)
    refine pull fun t15 h_t15 => ?_
    refine s_st (s_callC [0] [true] (fun (_ : Unit) => [tbO (rI .u8) 0 tab_0]) (fun (_ : Unit) => []) (fun (_ : Unit) => bv t15) (args := []) (caps := []) Tryd.call14 rfl (law22_awake_ok h_t15) ⟨rfl, rfl, trivial⟩ (fun _ => rfl) (fun _ => trivial) (fun _ => rfl) trivial (fun _ _ _ _ h => h)) rfl (fun _ => ?_)
    refine as1 rfl rfl ?_
    refine l_nil (n_then (ref_ret (r_then ?_)))
    exact fin1 (.inl rfl) () [0] rfl ⟨rfl, trivial⟩ rfl (rv_tmp rfl)
  refine ref_skip (n_then (ref_seq (ref_region ?_)))
  refine s_rd (r_faddr (fo := 0) Tryd.underlying27 rfl rfl Tryd.sizeOf3 rfl) rfl ?_
  refine s_rd (r_cload Tryd.isAgg3 rfl (j := 2) rfl rfl) rfl ?_
  refine s_rd (r_build (ps := [(0, .tmp 55)]) (rs := [(0, [iv .i64 t3.1.N])]) st_27 zs_27 ⟨rfl, (part_at rfl iv_at), trivial⟩ rfl rfl) rfl ?_
  refine s_st (s_alloc zt_27) rfl (fun b16 => ?_)
  refine s_st0 (s_cstore (out := [iv .i64 t3.1.N, pv (.slice none 0 0)]) Tryd.sizeOf27 rfl (j := 5) rfl (part_agO (ψs := [iv .i64 t3.1.N, pv (.slice none 0 0)]) rfl ⟨.inl iv_at, .inl (pv_at rfl), trivial⟩) rfl rfl rfl) (fun _ => ?_)
  refine l_nil (n_then (ref_seq (ref_seq (ref_region ?_))))
  refine as1 rfl rfl ?_
  refine l_nil (n_then ?_)
  refine ref_loopB (f := (law22_DegreeWeaker_l1 t3 from_9 to_10)) (Γl := (fun (s38 : Int) (x39 : Unit) => [(4, pv (ptr b4 0)), (5, slv rT_api_Fraction base5.1), (6, pv x8.1), (7, iv .i64 t7.2), (8, iv .i64 from_9.1), (9, iv .i64 to_10.1), (10, pv (ptr b16 0)), (11, iv .i64 s38)])) (Ωl := (fun (s38 : Int) (x39 : Unit) => [tbO (rI .u8) 0 tab_0, oc b4 [iv .i64 t3.1.N, slv rT_api_Pair t3.1.L], oa rT_api_Fraction x8.1 x8.2 t7.1, oc b16 [iv .i64 t3.1.N, pv (.slice none 0 0)]])) (Γb := (fun (q60 : (List T_api_Pair)) (y61 : (Value × List Nat)) => [(4, pv (ptr b4 0)), (5, slv rT_api_Fraction base5.1), (6, pv x8.1), (7, iv .i64 t7.2), (9, iv .i64 to_10.1), (10, pv (ptr b16 0))])) (Ωb := (fun (q60 : (List T_api_Pair)) (y61 : (Value × List Nat)) => [oc b4 [iv .i64 t3.1.N, slv rT_api_Pair t3.1.L], oa rT_api_Fraction x8.1 x8.2 t7.1, oc b16 [iv .i64 t3.1.N, pv y61.1], oa rT_api_Pair y61.1 y61.2 q60, tbO (rI .u8) 0 tab_0])) 0 () (weak [0, 2, 4, 5] ⟨rfl, rfl, rfl, rfl, rfl, rfl, rfl, rfl, trivial⟩ ⟨rfl, rfl, rfl, rfl, trivial⟩) (fun s38 x39 => ?_) (fun q60 y61 => ?_)
  · unfold law22_DegreeWeaker_l1
    refine ref_seq (ref_seq (ref_region ?_))
    refine mv1 rfl rfl ?_
    refine s_rd (r_faddr (fo := 1) Tryd.underlying27 rfl rfl Tryd.sizeOf25 rfl) rfl ?_
    refine s_rd (r_cload Tryd.isAgg25 rfl (j := 1) rfl rfl) rfl ?_
    refine s_rd (r_len Tryd.underlying25 rfl) rfl ?_
    refine s_rd (r_leq rfl rfl) rfl ?_
    refine l_nil (n_then ?_)
    refine ref_cond rfl (fun hb40 => ?_) (fun hb40 => ?_)
    · refine ref_skip (n_then (ref_seq (ref_block (ref_seq (ref_region ?_)))))
      refine mv1 rfl rfl ?_
      refine mv1 rfl rfl ?_
      refine s_rd (r_build (ps := [(0, .tmp 64), (1, .tmp 65)]) (rs := [(0, [iv .i64 from_9.1]), (1, [iv .i64 to_10.1])]) st_56 zs_56 ⟨rfl, (part_at rfl iv_at), ⟨rfl, (part_at rfl iv_at), trivial⟩⟩ rfl rfl) rfl ?_
      refine s_st (s_alloc zt_56) rfl (fun b41 => ?_)
      refine s_st0 (s_cstore (out := [iv .i64 from_9.1, iv .i64 to_10.1]) Tryd.sizeOf56 rfl (j := 4) rfl (part_agO (ψs := [iv .i64 from_9.1, iv .i64 to_10.1]) rfl ⟨.inl iv_at, .inl iv_at, trivial⟩) rfl rfl rfl) (fun _ => ?_)
      refine l_nil ?_
      refine b_of (nrm [tbO (rI .u8) 0 tab_0, oc b4 [iv .i64 t3.1.N, slv rT_api_Pair t3.1.L], oa rT_api_Fraction x8.1 x8.2 t7.1, oc b16 [iv .i64 t3.1.N, pv (.slice none 0 0)], oc b41 [iv .i64 from_9.1, iv .i64 to_10.1]] rfl) ?_
      refine n_then (ref_seq ?_)
      refine ref_join (fun (j45 : Bool) (x46 : Unit) => [(4, pv (ptr b4 0)), (5, slv rT_api_Fraction base5.1), (6, pv x8.1), (7, iv .i64 t7.2), (8, iv .i64 from_9.1), (9, iv .i64 to_10.1), (10, pv (ptr b16 0)), (11, iv .i64 s38), (12, pv (ptr b41 0)), (101, bv j45)]) (fun (j45 : Bool) (x46 : Unit) => [oc b4 [iv .i64 t3.1.N, slv rT_api_Pair t3.1.L], oa rT_api_Fraction x8.1 x8.2 t7.1, oc b16 [iv .i64 t3.1.N, pv (.slice none 0 0)], oc b41 [iv .i64 from_9.1, iv .i64 to_10.1], tbO (rI .u8) 0 tab_0]) (fun k47 hk47 => ?_) (fun j45 x46 => ?_)
      · refine ref_region ?_
        refine mv1 rfl rfl ?_
        refine s_rd (r_faddr (fo := 1) Tryd.underlying27 rfl rfl Tryd.sizeOf25 rfl) rfl ?_
        refine s_rd (r_cload Tryd.isAgg25 rfl (j := 1) rfl rfl) rfl ?_
        refine s_rd (r_len Tryd.underlying25 rfl) rfl ?_
        refine s_rd (r_eql rfl rfl) rfl ?_
        refine mv1 rfl rfl ?_
        refine b_split (t := 72) rfl (fun _ => ?_) (fun _ => ?_)
        · refine s_off rfl rfl rfl rfl rfl ?_
          refine s_off rfl rfl rfl rfl rfl ?_
          refine s_off rfl rfl rfl rfl rfl ?_
          refine s_off rfl rfl rfl rfl rfl ?_
          refine s_off rfl rfl rfl rfl rfl ?_
          refine s_off rfl rfl rfl rfl rfl ?_
          refine s_off rfl rfl rfl rfl rfl ?_
          refine s_off rfl rfl rfl rfl rfl ?_
          refine s_rd (r_pickT rfl rfl) rfl ?_
          refine mv1 rfl rfl ?_
          refine s_off rfl rfl rfl rfl rfl ?_
          refine s_off rfl rfl rfl rfl rfl ?_
          refine s_off rfl rfl rfl rfl rfl ?_
          refine s_off rfl rfl rfl rfl rfl ?_
          refine s_off rfl rfl rfl rfl rfl ?_
          refine s_off rfl rfl rfl rfl rfl ?_
          refine s_off rfl rfl rfl rfl rfl ?_
          refine s_off rfl rfl rfl rfl rfl ?_
          refine s_off rfl rfl rfl rfl rfl ?_
          refine s_offU rfl rfl rfl ?_
          refine s_offU rfl rfl rfl ?_
          refine s_offU rfl rfl rfl ?_
          refine s_offU rfl rfl rfl ?_
          refine s_offU rfl rfl rfl ?_
          refine s_offU rfl rfl rfl ?_
          refine s_offU rfl rfl rfl ?_
          refine s_offU rfl rfl rfl ?_
          refine s_off rfl rfl rfl rfl rfl ?_
          refine s_rd (r_pickT rfl rfl) rfl ?_
          refine l_nil ?_
          exact b_to (hk47 true ()) (weak [1, 2, 3, 4, 0] ⟨rfl, rfl, rfl, rfl, rfl, rfl, rfl, rfl, rfl, rfl, trivial⟩ ⟨rfl, rfl, rfl, rfl, rfl, trivial⟩)
        refine s_on rfl rfl rfl ?_
        refine s_rd (r_faddr (fo := 1) Tryd.underlying27 rfl rfl Tryd.sizeOf25 rfl) rfl ?_
        refine s_on rfl rfl rfl ?_
        refine s_rd (r_cload Tryd.isAgg25 rfl (j := 1) rfl rfl) rfl ?_
        refine s_on rfl rfl rfl ?_
        refine mv1 rfl rfl ?_
        refine s_on rfl rfl rfl ?_
        refine pull fun t42 h_t42 => ?_
        refine s_rd (r_index h_t42 Tryd.underlying25 el_56 rfl rfl) rfl ?_
        refine s_on rfl rfl rfl ?_
        refine s_rd (r_fea (fo := 0) (ρ := rT_api_Pair) (y := t42) (ρ' := (rI .i64)) (z := t42.From) Tryd.underlying56 rfl rfl Tryd.sizeOf3 rfl rfl rfl) rfl ?_
        refine s_on rfl rfl rfl ?_
        refine s_rd (r_load el_3 rfl) rfl ?_
        refine s_on rfl rfl rfl ?_
        refine mv1 rfl rfl ?_
        refine s_on rfl rfl rfl ?_
        refine s_rd (r_gtr rfl rfl) rfl ?_
        refine s_rd (r_pickF rfl rfl) rfl ?_
        refine mv1 rfl rfl ?_
        refine b_split (t := 82) rfl (fun _ => ?_) (fun _ => ?_)
        · refine s_off rfl rfl rfl rfl rfl ?_
          refine s_off rfl rfl rfl rfl rfl ?_
          refine s_off rfl rfl rfl rfl rfl ?_
          refine s_off rfl rfl rfl rfl rfl ?_
          refine s_off rfl rfl rfl rfl rfl ?_
          refine s_off rfl rfl rfl rfl rfl ?_
          refine s_off rfl rfl rfl rfl rfl ?_
          refine s_off rfl rfl rfl rfl rfl ?_
          refine s_off rfl rfl rfl rfl rfl ?_
          refine s_offU rfl rfl rfl ?_
          refine s_offU rfl rfl rfl ?_
          refine s_offU rfl rfl rfl ?_
          refine s_offU rfl rfl rfl ?_
          refine s_offU rfl rfl rfl ?_
          refine s_offU rfl rfl rfl ?_
          refine s_offU rfl rfl rfl ?_
          refine s_offU rfl rfl rfl ?_
          refine s_off rfl rfl rfl rfl rfl ?_
          refine s_rd (r_pickT rfl rfl) rfl ?_
          refine l_nil ?_
          exact b_to (hk47 true ()) (weak [1, 2, 3, 4, 0] ⟨rfl, rfl, rfl, rfl, rfl, rfl, rfl, rfl, rfl, rfl, trivial⟩ ⟨rfl, rfl, rfl, rfl, rfl, trivial⟩)
        refine s_on rfl rfl rfl ?_
        refine s_rd (r_faddr (fo := 1) Tryd.underlying27 rfl rfl Tryd.sizeOf25 rfl) rfl ?_
        refine s_on rfl rfl rfl ?_
        refine s_rd (r_cload Tryd.isAgg25 rfl (j := 1) rfl rfl) rfl ?_
        refine s_on rfl rfl rfl ?_
        refine mv1 rfl rfl ?_
        refine s_on rfl rfl rfl ?_
        refine pull fun t43 h_t43 => ?_
        refine s_rd (r_index h_t43 Tryd.underlying25 el_56 rfl rfl) rfl ?_
        refine s_on rfl rfl rfl ?_
        refine s_rd (r_fea (fo := 0) (ρ := rT_api_Pair) (y := t43) (ρ' := (rI .i64)) (z := t43.From) Tryd.underlying56 rfl rfl Tryd.sizeOf3 rfl rfl rfl) rfl ?_
        refine s_on rfl rfl rfl ?_
        refine s_rd (r_load el_3 rfl) rfl ?_
        refine s_on rfl rfl rfl ?_
        refine mv1 rfl rfl ?_
        refine s_on rfl rfl rfl ?_
        refine s_rd (r_eql rfl rfl) rfl ?_
        refine s_on rfl rfl rfl ?_
        refine mv1 rfl rfl ?_
        refine b_split (t := 91) rfl (fun _ => ?_) (fun _ => ?_)
        · refine s_on rfl rfl rfl ?_
          refine s_rd (r_faddr (fo := 1) Tryd.underlying27 rfl rfl Tryd.sizeOf25 rfl) rfl ?_
          refine s_on rfl rfl rfl ?_
          refine s_rd (r_cload Tryd.isAgg25 rfl (j := 1) rfl rfl) rfl ?_
          refine s_on rfl rfl rfl ?_
          refine mv1 rfl rfl ?_
          refine s_on rfl rfl rfl ?_
          refine pull fun t44 h_t44 => ?_
          refine s_rd (r_index h_t44 Tryd.underlying25 el_56 rfl rfl) rfl ?_
          refine s_on rfl rfl rfl ?_
          refine s_rd (r_fea (fo := 1) (ρ := rT_api_Pair) (y := t44) (ρ' := (rI .i64)) (z := t44.To) Tryd.underlying56 rfl rfl Tryd.sizeOf3 rfl rfl rfl) rfl ?_
          refine s_on rfl rfl rfl ?_
          refine s_rd (r_load el_3 rfl) rfl ?_
          refine s_on rfl rfl rfl ?_
          refine mv1 rfl rfl ?_
          refine s_on rfl rfl rfl ?_
          refine s_rd (r_gtr rfl rfl) rfl ?_
          refine s_on rfl rfl rfl ?_
          refine s_rd (r_pickT rfl rfl) rfl ?_
          refine s_rd (r_pickF rfl rfl) rfl ?_
          refine l_nil ?_
          exact b_to (hk47 (decide (t44.To > to_10.1)) ()) (weak [1, 2, 3, 4, 0] ⟨rfl, rfl, rfl, rfl, rfl, rfl, rfl, rfl, rfl, rfl, trivial⟩ ⟨rfl, rfl, rfl, rfl, rfl, trivial⟩)
        refine s_off rfl rfl rfl rfl rfl ?_
        refine s_off rfl rfl rfl rfl rfl ?_
        refine s_off rfl rfl rfl rfl rfl ?_
        refine s_off rfl rfl rfl rfl rfl ?_
        refine s_off rfl rfl rfl rfl rfl ?_
        refine s_off rfl rfl rfl rfl rfl ?_
        refine s_off rfl rfl rfl rfl rfl ?_
        refine s_off rfl rfl rfl rfl rfl ?_
        refine s_on rfl rfl rfl ?_
        refine s_rd (r_pickF rfl rfl) rfl ?_
        refine s_rd (r_pickF rfl rfl) rfl ?_
        refine l_nil ?_
        exact b_to (hk47 false ()) (weak [1, 2, 3, 4, 0] ⟨rfl, rfl, rfl, rfl, rfl, rfl, rfl, rfl, rfl, rfl, trivial⟩ ⟨rfl, rfl, rfl, rfl, rfl, trivial⟩)
      refine n_then ?_
      refine ref_cond rfl (fun hb48 => ?_) (fun hb48 => ?_)
      · refine ref_seq ?_
        refine pull fun t51 h_t51 => ?_
        refine pull fun t52 h_t52 => ?_
        refine pull fun t54 h_t54 => ?_
        refine pull fun t56 h_t56 => ?_
        refine pull fun t57 h_t57 => ?_
        refine ref_drawI 1 [⟨[], [], [5], [5], [], fun us u => pv u.V.1, fun us u => [oa rT_api_Pair u.V.1 u.V.2 []]⟩, ⟨[], [], [], [], [], fun us u => pv (ptr b4 1), fun us u => []⟩, ⟨[1], [], [], [0], [], fun us u => slv rT_api_Pair t3.1.L, fun us u => []⟩, ⟨[], [], [], [], [], fun us u => iv .i64 s38, fun us u => []⟩, ⟨[1, 2, 3], [], [], [], [], fun us u => slv rT_api_Pair t51, fun us u => []⟩, ⟨[0, 1, 2, 3, 4], [], [5], [5], [5], fun us u => pv u.V.1, fun us u => [oa rT_api_Pair u.V.1 u.V.2 t52]⟩, ⟨[], [], [], [3], [], fun us u => ag [iv .i64 from_9.1, iv .i64 to_10.1], fun us u => []⟩, ⟨[6], [], [], [], [], fun us u => slv rT_api_Pair [(T_api_Pair.mk from_9.1 to_10.1)], fun us u => []⟩, ⟨[0, 1, 2, 3, 4, 5, 6, 7], [], [5], [5], [5], fun us u => pv u.V.1, fun us u => [oa rT_api_Pair u.V.1 u.V.2 t54]⟩, ⟨[], [], [], [], [], fun us u => pv (ptr b4 1), fun us u => []⟩, ⟨[9], [], [], [0], [], fun us u => slv rT_api_Pair t3.1.L, fun us u => []⟩, ⟨[], [], [], [], [], fun us u => iv .i64 s38, fun us u => []⟩, ⟨[9, 10, 11], [], [], [], [], fun us u => slv rT_api_Pair t56, fun us u => []⟩, ⟨[0, 1, 2, 3, 4, 5, 6, 7, 8, 9, 10, 11, 12], [], [5], [5], [5], fun us u => pv u.V.1, fun us u => [oa rT_api_Pair u.V.1 u.V.2 t57]⟩, ⟨[0, 1, 2, 3, 4, 5, 6, 7, 8, 9, 10, 11, 12, 13], [], [], [], [], fun us u => pv (ptr b16 1), fun us u => []⟩, ⟨[0, 1, 2, 3, 4, 5, 6, 7, 8, 9, 10, 11, 12, 13, 14], [13], [2], [2, 5], [2], fun us u => pv undef, fun us u => [oc b16 [iv .i64 t3.1.N, pv (us.getD 0 .none).V.1]]⟩] (fun χ49 => [(4, pv (ptr b4 0)), (5, slv rT_api_Fraction base5.1), (6, pv x8.1), (7, iv .i64 t7.2), (9, iv .i64 to_10.1), (10, pv (ptr b16 0))]) (fun χ49 => [oc b4 [iv .i64 t3.1.N, slv rT_api_Pair t3.1.L], oa rT_api_Fraction x8.1 x8.2 t7.1, oc b16 [iv .i64 t3.1.N, pv (χ49 13).V.1], oc b41 [iv .i64 from_9.1, iv .i64 to_10.1], tbO (rI .u8) 0 tab_0, oa rT_api_Pair (χ49 13).V.1 (χ49 13).V.2 t57]) rfl (by kernel_rfl) ⟨fun χ49 Ω ⟨h5, _⟩ => St.to XU.V XU.hV (St.placeL (os := fun _ => [_]) [5] (s_bsliceO (xs := []) (ds := []) Tryd.underlying25 el_56 rfl (Nat.le_of_ble_eq_true rfl) trivial) (fun _ => rfl) (fun _ => ⟨h5, rfl, trivial⟩)) (fun _ => rfl) (fun _ => rfl), (by intro _ h; cases h; rfl), ⟨fun χ49 Ω _ => St.toR (r_faddr (fo := 1) Tryd.underlying27 rfl rfl Tryd.sizeOf25 rfl) (fun _ => rfl) (fun _ => rfl), (by intro _ h; cases h; rfl), ⟨fun χ49 Ω ⟨h0, _⟩ => St.toR (r_cload Tryd.isAgg25 rfl (j := 0) h0 rfl) (fun _ => rfl) (fun _ => rfl), (by intro _ h; cases h; rfl), ⟨fun χ49 Ω _ => St.toR (r_move rfl) (fun _ => rfl) (fun _ => rfl), (by intro _ h; cases h; rfl), ⟨fun χ49 Ω _ => St.toR (r_slice h_t51 Tryd.underlying25 el_56 rfl .dft (.of rfl)) (fun _ => rfl) (fun _ => rfl), (by intro _ h; cases h; rfl), ⟨fun χ49 Ω ⟨h5, _⟩ => St.to XU.V XU.hV (s_append h_t52 Tryd.underlying25 el_56 rfl (j := 5) h5 rfl) (fun _ => rfl) (fun _ => rfl), (by intro _ h; cases h; rfl), ⟨fun χ49 Ω ⟨h3, _⟩ => St.toR (r_cloadS Tryd.isAgg56 Tryd.sizeOf56 rfl (j := 3) h3 rfl rfl) (fun _ => rfl) (fun _ => rfl), (by intro _ h; cases h; rfl), ⟨fun χ49 Ω _ => St.to XU.U XU.hU (s_bslice (xs := [.tmp 108]) (ds := [(T_api_Pair.mk from_9.1 to_10.1)]) Tryd.underlying25 el_56 rfl (Nat.le_of_ble_eq_true rfl) ⟨(part_agO (ψs := [iv .i64 from_9.1, iv .i64 to_10.1]) rfl ⟨.inl iv_at, .inl iv_at, trivial⟩), trivial⟩) (fun _ => rfl) (fun _ => rfl), (by intro _ h; cases h; rfl), ⟨fun χ49 Ω ⟨h5, _⟩ => St.to XU.V XU.hV (s_append h_t54 Tryd.underlying25 el_56 rfl (j := 5) h5 rfl) (fun _ => rfl) (fun _ => rfl), (by intro _ h; cases h; rfl), ⟨fun χ49 Ω _ => St.toR (r_faddr (fo := 1) Tryd.underlying27 rfl rfl Tryd.sizeOf25 rfl) (fun _ => rfl) (fun _ => rfl), (by intro _ h; cases h; rfl), ⟨fun χ49 Ω ⟨h0, _⟩ => St.toR (r_cload Tryd.isAgg25 rfl (j := 0) h0 rfl) (fun _ => rfl) (fun _ => rfl), (by intro _ h; cases h; rfl), ⟨fun χ49 Ω _ => St.toR (r_move rfl) (fun _ => rfl) (fun _ => rfl), (by intro _ h; cases h; rfl), ⟨fun χ49 Ω _ => St.toR (r_slice h_t56 Tryd.underlying25 el_56 rfl (.of rfl) .dft) (fun _ => rfl) (fun _ => rfl), (by intro _ h; cases h; rfl), ⟨fun χ49 Ω ⟨h5, _⟩ => St.to XU.V XU.hV (s_append h_t57 Tryd.underlying25 el_56 rfl (j := 5) h5 rfl) (fun _ => rfl) (fun _ => rfl), (by intro _ h; cases h; rfl), ⟨fun χ49 Ω _ => St.toR (r_faddr (fo := 1) Tryd.underlying27 rfl rfl Tryd.sizeOf25 rfl) (fun _ => rfl) (fun _ => rfl), (by intro _ h; cases h; rfl), ⟨fun χ49 Ω ⟨h2, h5, _⟩ => St.to XU.U XU.hU (s_cstore (out := [iv .i64 t3.1.N, pv (χ49 13).V.1]) Tryd.sizeOf25 rfl (j := 2) h2 (part_own rfl (j := 5) h5) rfl rfl rfl) (fun _ => rfl) (fun _ => rfl), (by intro _ h; cases h), trivial⟩⟩⟩⟩⟩⟩⟩⟩⟩⟩⟩⟩⟩⟩⟩⟩ (fun _ => ⟨rfl, rfl, rfl, rfl, rfl, rfl, trivial⟩) (fun _ => rfl) (fun χ49 => ?_)
        refine n_then (ref_exit ?_)
        refine x_ne rfl ?_
        refine x_then ?_
        exact brkB (χ49 13).V (weak [0, 1, 2, 5, 4] ⟨rfl, rfl, rfl, rfl, rfl, rfl, trivial⟩ ⟨rfl, rfl, rfl, rfl, rfl, trivial⟩)
      refine ref_skip (n_block (n_then (ref_region ?_)))
      refine mv1 rfl rfl ?_
      refine s_rd (r_add rfl rfl) rfl ?_
      refine as1 rfl rfl ?_
      refine b_let (f := iv .i64) (t := 11) rfl fun i59 => ?_
      refine l_nil ?_
      exact goB () (weak [4, 0, 1, 2] ⟨rfl, rfl, rfl, rfl, rfl, rfl, rfl, rfl, trivial⟩ ⟨rfl, rfl, rfl, rfl, trivial⟩)
    refine ref_exit (x_then ?_)
    refine b_of (own_nil rT_api_Pair) ?_
    exact brkB ((.slice none 0 0), []) (weak [1, 2, 3, 4, 0] ⟨rfl, rfl, rfl, rfl, rfl, rfl, trivial⟩ ⟨rfl, rfl, rfl, rfl, rfl, trivial⟩)
  refine n_then (ref_seq (ref_region ?_))
  refine s_rd (r_cloadS Tryd.isAgg27 Tryd.sizeOf27 rfl (j := 2) rfl rfl rfl) rfl ?_
  refine mv1 rfl rfl ?_
  refine b_of (frzGL [(118, ag [iv .i64 t3.1.N, slv rT_api_Pair q60])] [(2, b16, [iv .i64 t3.1.N, slv rT_api_Pair q60])] (j := 3) rfl ⟨⟨_, rfl, .inr ⟨_, _, rfl, rfl, ⟨.inl rfl, .inr ⟨rfl, rfl⟩, trivial⟩⟩⟩, trivial⟩ ⟨⟨_, rfl, ⟨.inl rfl, .inr ⟨rfl, rfl⟩, trivial⟩⟩, trivial⟩) ?_
  refine pull fun t62 h_t62 => ?_
  refine s_st (s_callC [4] [true] (fun (x63 : (Value × List Nat)) => [tbO (rI .u8) 0 tab_0]) (fun (x63 : (Value × List Nat)) => [oa rT_api_Fraction x63.1 x63.2 t62.1]) (fun (x63 : (Value × List Nat)) => tup [pv x63.1, iv .i64 t62.2]) (args := [.tmp 118, .tmp 119]) (caps := []) Tryd.call20 rfl (degree_Strength_ok h_t62) ⟨rfl, rfl, trivial⟩ (fun _ => rfl) (fun _ => trivial) (fun _ => rfl) ⟨arg rfl, arg rfl, trivial⟩ (fun _ _ _ _ h => h)) rfl (fun x63 => ?_)
  refine mv1 rfl rfl ?_
  refine s_rd (r_extract rfl rfl) rfl ?_
  refine s_rd (r_extract rfl rfl) rfl ?_
  refine as1 rfl rfl ?_
  refine as1 rfl rfl ?_
  refine l_nil (n_then (ref_seq (ref_seq (ref_region ?_))))
  refine mv1 rfl rfl ?_
  refine s_rd (r_eql rfl rfl) rfl ?_
  refine l_nil (n_then ?_)
  refine ref_cond rfl (fun hb64 => ?_) (fun hb64 => ?_)
  · refine ref_seq (ref_region ?_)
    refine pull fun t65 h_t65 => ?_
    refine s_st (s_callC [4] [true] (fun (_ : Unit) => [tbO (rI .u8) 0 tab_0]) (fun (_ : Unit) => []) (fun (_ : Unit) => bv t65) (args := []) (caps := []) Tryd.call14 rfl (law22_awake_ok h_t65) ⟨rfl, rfl, trivial⟩ (fun _ => rfl) (fun _ => trivial) (fun _ => rfl) trivial (fun _ _ _ _ h => h)) rfl (fun _ => ?_)
    refine as1 rfl rfl ?_
    refine l_nil (n_then (ref_ret (r_then ?_)))
    exact fin1 (.inl rfl) () [4] rfl ⟨rfl, trivial⟩ rfl (rv_tmp rfl)
  refine ref_skip (n_then (ref_seq (ref_seq (ref_region ?_))))
  refine mv1 rfl rfl ?_
  refine s_rd (r_neq rfl rfl) rfl ?_
  refine mv1 rfl rfl ?_
  refine b_split (t := 128) rfl (fun _ => ?_) (fun _ => ?_)
  · refine s_off rfl rfl rfl rfl rfl ?_
    refine s_off rfl rfl rfl rfl rfl ?_
    refine s_rd (r_pickT rfl rfl) rfl ?_
    refine mv1 rfl rfl ?_
    refine s_off rfl rfl rfl rfl rfl ?_
    refine s_off rfl rfl rfl rfl rfl ?_
    refine s_off rfl rfl rfl rfl rfl ?_
    refine s_off rfl rfl rfl rfl rfl ?_
    refine s_off rfl rfl rfl rfl rfl ?_
    refine s_rd (r_pickT rfl rfl) rfl ?_
    refine mv1 rfl rfl ?_
    refine s_off rfl rfl rfl rfl rfl ?_
    refine s_off rfl rfl rfl rfl rfl ?_
    refine s_off rfl rfl rfl rfl rfl ?_
    refine s_off rfl rfl rfl rfl rfl ?_
    refine s_off rfl rfl rfl rfl rfl ?_
    refine s_rd (r_pickT rfl rfl) rfl ?_
    refine l_nil (n_then ?_)
    refine ref_condT rfl rfl ?_
    refine ref_seq (ref_region ?_)
    refine as1 rfl rfl ?_
    refine l_nil (n_then (ref_ret (r_then ?_)))
    exact fin1 (.inl rfl) () [4] rfl ⟨rfl, trivial⟩ rfl (rv_tmp rfl)
  refine s_on rfl rfl rfl ?_
  refine mv1 rfl rfl ?_
  refine s_on rfl rfl rfl ?_
  refine s_rd (r_neq rfl rfl) rfl ?_
  refine s_rd (r_pickF rfl rfl) rfl ?_
  refine mv1 rfl rfl ?_
  refine b_split (t := 132) rfl (fun _ => ?_) (fun _ => ?_)
  · refine s_off rfl rfl rfl rfl rfl ?_
    refine s_off rfl rfl rfl rfl rfl ?_
    refine s_off rfl rfl rfl rfl rfl ?_
    refine s_off rfl rfl rfl rfl rfl ?_
    refine s_off rfl rfl rfl rfl rfl ?_
    refine s_rd (r_pickT rfl rfl) rfl ?_
    refine mv1 rfl rfl ?_
    refine s_off rfl rfl rfl rfl rfl ?_
    refine s_off rfl rfl rfl rfl rfl ?_
    refine s_off rfl rfl rfl rfl rfl ?_
    refine s_off rfl rfl rfl rfl rfl ?_
    refine s_off rfl rfl rfl rfl rfl ?_
    refine s_rd (r_pickT rfl rfl) rfl ?_
    refine l_nil (n_then ?_)
    refine ref_condT rfl rfl ?_
    refine ref_seq (ref_region ?_)
    refine as1 rfl rfl ?_
    refine l_nil (n_then (ref_ret (r_then ?_)))
    exact fin1 (.inl rfl) () [4] rfl ⟨rfl, trivial⟩ rfl (rv_tmp rfl)
  refine s_on rfl rfl rfl ?_
  refine mv1 rfl rfl ?_
  refine s_on rfl rfl rfl ?_
  refine s_rd (r_olen Tryd.underlying40 rfl (j := 1) rfl) rfl ?_
  refine s_on rfl rfl rfl ?_
  refine s_rd (r_faddr (fo := 0) Tryd.underlying27 rfl rfl Tryd.sizeOf3 rfl) rfl ?_
  refine s_on rfl rfl rfl ?_
  refine s_rd (r_cload Tryd.isAgg3 rfl (j := 0) rfl rfl) rfl ?_
  refine s_on rfl rfl rfl ?_
  refine s_rd (r_neq rfl rfl) rfl ?_
  refine s_rd (r_pickF rfl rfl) rfl ?_
  refine mv1 rfl rfl ?_
  refine b_split (t := 139) rfl (fun _ => ?_) (fun _ => ?_)
  · refine s_off rfl rfl rfl rfl rfl ?_
    refine s_off rfl rfl rfl rfl rfl ?_
    refine s_off rfl rfl rfl rfl rfl ?_
    refine s_off rfl rfl rfl rfl rfl ?_
    refine s_off rfl rfl rfl rfl rfl ?_
    refine s_rd (r_pickT rfl rfl) rfl ?_
    refine l_nil (n_then ?_)
    refine ref_condT rfl rfl ?_
    refine ref_seq (ref_region ?_)
    refine as1 rfl rfl ?_
    refine l_nil (n_then (ref_ret (r_then ?_)))
    exact fin1 (.inl rfl) () [4] rfl ⟨rfl, trivial⟩ rfl (rv_tmp rfl)
  refine s_on rfl rfl rfl ?_
  refine mv1 rfl rfl ?_
  refine s_on rfl rfl rfl ?_
  refine s_rd (r_olen Tryd.underlying40 rfl (j := 5) rfl) rfl ?_
  refine s_on rfl rfl rfl ?_
  refine s_rd (r_faddr (fo := 0) Tryd.underlying27 rfl rfl Tryd.sizeOf3 rfl) rfl ?_
  refine s_on rfl rfl rfl ?_
  refine s_rd (r_cload Tryd.isAgg3 rfl (j := 0) rfl rfl) rfl ?_
  refine s_on rfl rfl rfl ?_
  refine s_rd (r_neq rfl rfl) rfl ?_
  refine s_rd (r_pickF rfl rfl) rfl ?_
  refine l_nil (n_then ?_)
  refine ref_cond rfl (fun hb66 => ?_) (fun hb66 => ?_)
  · refine ref_seq (ref_region ?_)
    refine as1 rfl rfl ?_
    refine l_nil (n_then (ref_ret (r_then ?_)))
    exact fin1 (.inl rfl) () [4] rfl ⟨rfl, trivial⟩ rfl (rv_tmp rfl)
  refine ref_skip (n_then (ref_seq (ref_seq (ref_region ?_))))
  refine as1 rfl rfl ?_
  refine l_nil (n_then ?_)
  refine ref_loopX (f := (law22_DegreeWeaker_l2 t7 to_10 t62)) (Γl := (fun (s73 : Int) (x74 : Unit) => [(6, pv x8.1), (9, iv .i64 to_10.1), (13, pv x63.1), (15, iv .i64 s73)])) (Ωl := (fun (s73 : Int) (x74 : Unit) => [tbO (rI .u8) 0 tab_0, oa rT_api_Fraction x8.1 x8.2 t7.1, oa rT_api_Fraction x63.1 x63.2 t62.1])) (Γb := (fun (q80 : Unit) (y81 : Unit) => [(6, pv x8.1), (9, iv .i64 to_10.1), (13, pv x63.1)])) (Ωb := (fun (q80 : Unit) (y81 : Unit) => [oa rT_api_Fraction x8.1 x8.2 t7.1, oa rT_api_Fraction x63.1 x63.2 t62.1, tbO (rI .u8) 0 tab_0])) (kr := (fun a : Bool => some a)) 0 () (weak [4, 1, 5] ⟨rfl, rfl, rfl, rfl, trivial⟩ ⟨rfl, rfl, rfl, trivial⟩) (fun s73 x74 => ?_) (fun q80 y81 => ?_)
  · unfold law22_DegreeWeaker_l2
    refine ref_seq (ref_seq (ref_region ?_))
    refine mv1 rfl rfl ?_
    refine mv1 rfl rfl ?_
    refine s_rd (r_lss rfl rfl) rfl ?_
    refine l_nil (n_then ?_)
    refine ref_cond rfl (fun hb75 => ?_) (fun hb75 => ?_)
    · refine ref_skip (n_then (ref_seq (ref_block (ref_seq ?_))))
      refine ref_draw [0, 1, 2, 3, 4, 5, 6, 7, 8] rfl (by kernel_rfl) (fun hok => ?_)
      refine a_rd (i := 0) hok rfl (by kernel_rfl) rfl (r_move rfl) rfl ?_
      refine a_rd (i := 1) hok rfl (by kernel_rfl) rfl (r_move rfl) rfl ?_
      refine pull fun t76 h_t76 => ?_
      refine a_rd (i := 2) hok rfl (by kernel_rfl) rfl (r_oindex h_t76 Tryd.underlying40 el_53 rfl (j := 1) rfl rfl) rfl ?_
      refine a_rd (i := 3) hok rfl (by kernel_rfl) rfl (r_oload h_t76 el_53 rfl (j := 1) rfl) rfl ?_
      refine a_rd (i := 4) hok rfl (by kernel_rfl) rfl (r_move rfl) rfl ?_
      refine a_rd (i := 5) hok rfl (by kernel_rfl) rfl (r_move rfl) rfl ?_
      refine pull fun t77 h_t77 => ?_
      refine a_rd (i := 6) hok rfl (by kernel_rfl) rfl (r_oindex h_t77 Tryd.underlying40 el_53 rfl (j := 2) rfl rfl) rfl ?_
      refine a_rd (i := 7) hok rfl (by kernel_rfl) rfl (r_oload h_t77 el_53 rfl (j := 2) rfl) rfl ?_
      refine a_rd (i := 8) hok rfl (by kernel_rfl) rfl (r_stneq (u := t76) (v := t77) eq_53 rfl rfl rfl rfl) rfl ?_
      refine a_fin hok (by kernel_rfl) ?_
      refine n_then ?_
      refine ref_cond rfl (fun hb78 => ?_) (fun hb78 => ?_)
      · refine ref_seq (ref_region ?_)
        refine as1 rfl rfl ?_
        refine l_nil (n_then (ref_ret (r_block (r_then ?_))))
        refine retX ?_
        refine r_block (r_then ?_)
        exact fin1 (.inl rfl) () [0] rfl ⟨rfl, trivial⟩ rfl (rv_tmp rfl)
      refine ref_skip (n_block (n_then (ref_region ?_)))
      refine mv1 rfl rfl ?_
      refine s_rd (r_add rfl rfl) rfl ?_
      refine as1 rfl rfl ?_
      refine b_let (f := iv .i64) (t := 15) rfl fun a_79 => ?_
      refine l_nil ?_
      exact goX () (weak [0, 1, 2] ⟨rfl, rfl, rfl, rfl, trivial⟩ ⟨rfl, rfl, rfl, trivial⟩)
    refine ref_exit (x_then ?_)
    exact brkX () (weak [1, 2, 0] ⟨rfl, rfl, rfl, trivial⟩ ⟨rfl, rfl, rfl, trivial⟩)
  refine n_then (ref_seq (ref_seq (ref_region ?_)))
  refine mv1 rfl rfl ?_
  refine mv1 rfl rfl ?_
  refine pull fun t82 h_t82 => ?_
  refine s_rd (r_oindex h_t82 Tryd.underlying40 el_53 rfl (j := 0) rfl rfl) rfl ?_
  refine s_rd (r_foea (ρ := rT_api_Fraction) (fo := 1) h_t82 Tryd.underlying53 rfl rfl Tryd.sizeOf3 rfl (j := 0) rfl) rfl ?_
  refine s_rd (r_foload (ρ := rT_api_Fraction) (y := t82) (ρ' := (rI .i64)) (z := t82.Den) h_t82 el_3 rfl (j := 0) rfl rfl rfl) rfl ?_
  refine s_rd (r_gtr rfl rfl) rfl ?_
  refine mv1 rfl rfl ?_
  refine b_split (t := 166) rfl (fun _ => ?_) (fun _ => ?_)
  · refine s_off rfl rfl rfl rfl rfl ?_
    refine s_off rfl rfl rfl rfl rfl ?_
    refine s_off rfl rfl rfl rfl rfl ?_
    refine s_off rfl rfl rfl rfl rfl ?_
    refine s_off rfl rfl rfl rfl rfl ?_
    refine s_off rfl rfl rfl rfl rfl ?_
    refine s_rd (r_pickT rfl rfl) rfl ?_
    refine l_nil (n_then ?_)
    refine ref_condT rfl rfl ?_
    refine ref_seq (ref_region ?_)
    refine pull fun t84 h_t84 => ?_
    refine s_st (s_callC [2] [true] (fun (_ : Unit) => [tbO (rI .u8) 0 tab_0]) (fun (_ : Unit) => []) (fun (_ : Unit) => bv t84) (args := []) (caps := []) Tryd.call14 rfl (law22_awake_ok h_t84) ⟨rfl, rfl, trivial⟩ (fun _ => rfl) (fun _ => trivial) (fun _ => rfl) trivial (fun _ _ _ _ h => h)) rfl (fun _ => ?_)
    refine as1 rfl rfl ?_
    refine l_nil (n_then (ref_ret (r_then ?_)))
    exact fin1 (.inl rfl) () [2] rfl ⟨rfl, trivial⟩ rfl (rv_tmp rfl)
  refine s_on rfl rfl rfl ?_
  refine mv1 rfl rfl ?_
  refine s_on rfl rfl rfl ?_
  refine mv1 rfl rfl ?_
  refine s_on rfl rfl rfl ?_
  refine pull fun t83 h_t83 => ?_
  refine s_rd (r_oindex h_t83 Tryd.underlying40 el_53 rfl (j := 1) rfl rfl) rfl ?_
  refine s_on rfl rfl rfl ?_
  refine s_rd (r_foea (ρ := rT_api_Fraction) (fo := 1) h_t83 Tryd.underlying53 rfl rfl Tryd.sizeOf3 rfl (j := 1) rfl) rfl ?_
  refine s_on rfl rfl rfl ?_
  refine s_rd (r_foload (ρ := rT_api_Fraction) (y := t83) (ρ' := (rI .i64)) (z := t83.Den) h_t83 el_3 rfl (j := 1) rfl rfl rfl) rfl ?_
  refine s_on rfl rfl rfl ?_
  refine s_rd (r_gtr rfl rfl) rfl ?_
  refine s_rd (r_pickF rfl rfl) rfl ?_
  refine l_nil (n_then ?_)
  refine ref_cond rfl (fun hb85 => ?_) (fun hb85 => ?_)
  · refine ref_seq (ref_region ?_)
    refine pull fun t86 h_t86 => ?_
    refine s_st (s_callC [2] [true] (fun (_ : Unit) => [tbO (rI .u8) 0 tab_0]) (fun (_ : Unit) => []) (fun (_ : Unit) => bv t86) (args := []) (caps := []) Tryd.call14 rfl (law22_awake_ok h_t86) ⟨rfl, rfl, trivial⟩ (fun _ => rfl) (fun _ => trivial) (fun _ => rfl) trivial (fun _ _ _ _ h => h)) rfl (fun _ => ?_)
    refine as1 rfl rfl ?_
    refine l_nil (n_then (ref_ret (r_then ?_)))
    exact fin1 (.inl rfl) () [2] rfl ⟨rfl, trivial⟩ rfl (rv_tmp rfl)
  refine ref_skip (n_then (ref_seq ?_))
  refine ref_draw [0, 1, 2, 3, 4, 5, 6, 7, 8, 9, 10, 11, 12, 13, 14, 15, 16, 17, 18, 19, 20, 21, 22, 23, 25] rfl (by kernel_rfl) (fun hok => ?_)
  refine a_rd (i := 0) hok rfl (by kernel_rfl) rfl (r_move rfl) rfl ?_
  refine a_rd (i := 1) hok rfl (by kernel_rfl) rfl (r_move rfl) rfl ?_
  refine pull fun t87 h_t87 => ?_
  refine a_rd (i := 2) hok rfl (by kernel_rfl) rfl (r_oindex h_t87 Tryd.underlying40 el_53 rfl (j := 1) rfl rfl) rfl ?_
  refine a_rd (i := 3) hok rfl (by kernel_rfl) rfl (r_foea (ρ := rT_api_Fraction) (fo := 0) h_t87 Tryd.underlying53 rfl rfl Tryd.sizeOf3 rfl (j := 1) rfl) rfl ?_
  refine a_rd (i := 4) hok rfl (by kernel_rfl) rfl (r_foload (ρ := rT_api_Fraction) (y := t87) (ρ' := (rI .i64)) (z := t87.Num) h_t87 el_3 rfl (j := 1) rfl rfl rfl) rfl ?_
  refine a_rd (i := 5) hok rfl (by kernel_rfl) rfl (r_move rfl) rfl ?_
  refine a_rd (i := 6) hok rfl (by kernel_rfl) rfl (r_move rfl) rfl ?_
  refine pull fun t88 h_t88 => ?_
  refine a_rd (i := 7) hok rfl (by kernel_rfl) rfl (r_oindex h_t88 Tryd.underlying40 el_53 rfl (j := 0) rfl rfl) rfl ?_
  refine a_rd (i := 8) hok rfl (by kernel_rfl) rfl (r_foea (ρ := rT_api_Fraction) (fo := 1) h_t88 Tryd.underlying53 rfl rfl Tryd.sizeOf3 rfl (j := 0) rfl) rfl ?_
  refine a_rd (i := 9) hok rfl (by kernel_rfl) rfl (r_foload (ρ := rT_api_Fraction) (y := t88) (ρ' := (rI .i64)) (z := t88.Den) h_t88 el_3 rfl (j := 0) rfl rfl rfl) rfl ?_
  refine a_rd (i := 10) hok rfl (by kernel_rfl) rfl (r_mul rfl rfl) rfl ?_
  refine a_rd (i := 11) hok rfl (by kernel_rfl) rfl (r_move rfl) rfl ?_
  refine a_rd (i := 12) hok rfl (by kernel_rfl) rfl (r_move rfl) rfl ?_
  refine pull fun t89 h_t89 => ?_
  refine a_rd (i := 13) hok rfl (by kernel_rfl) rfl (r_oindex h_t89 Tryd.underlying40 el_53 rfl (j := 0) rfl rfl) rfl ?_
  refine a_rd (i := 14) hok rfl (by kernel_rfl) rfl (r_foea (ρ := rT_api_Fraction) (fo := 0) h_t89 Tryd.underlying53 rfl rfl Tryd.sizeOf3 rfl (j := 0) rfl) rfl ?_
  refine a_rd (i := 15) hok rfl (by kernel_rfl) rfl (r_foload (ρ := rT_api_Fraction) (y := t89) (ρ' := (rI .i64)) (z := t89.Num) h_t89 el_3 rfl (j := 0) rfl rfl rfl) rfl ?_
  refine a_rd (i := 16) hok rfl (by kernel_rfl) rfl (r_move rfl) rfl ?_
  refine a_rd (i := 17) hok rfl (by kernel_rfl) rfl (r_move rfl) rfl ?_
  refine pull fun t90 h_t90 => ?_
  refine a_rd (i := 18) hok rfl (by kernel_rfl) rfl (r_oindex h_t90 Tryd.underlying40 el_53 rfl (j := 1) rfl rfl) rfl ?_
  refine a_rd (i := 19) hok rfl (by kernel_rfl) rfl (r_foea (ρ := rT_api_Fraction) (fo := 1) h_t90 Tryd.underlying53 rfl rfl Tryd.sizeOf3 rfl (j := 1) rfl) rfl ?_
  refine a_rd (i := 20) hok rfl (by kernel_rfl) rfl (r_foload (ρ := rT_api_Fraction) (y := t90) (ρ' := (rI .i64)) (z := t90.Den) h_t90 el_3 rfl (j := 1) rfl rfl rfl) rfl ?_
  refine a_rd (i := 21) hok rfl (by kernel_rfl) rfl (r_mul rfl rfl) rfl ?_
  refine a_rd (i := 22) hok rfl (by kernel_rfl) rfl (r_leq rfl rfl) rfl ?_
  refine a_rd (i := 23) hok rfl (by kernel_rfl) rfl (r_move rfl) rfl ?_
  refine b_split (t := 198) rfl (fun _ => ?_) (fun _ => ?_)
  · refine pull fun t91 h_t91 => ?_
    refine a_next hok 24 [] (by kernel_rfl) ?_ trivial
    refine a_stOn (i := 24) hok rfl rfl rfl rfl rfl (s_callC [2] [true] (fun (_ : Unit) => [tbO (rI .u8) 0 tab_0]) (fun (_ : Unit) => []) (fun (_ : Unit) => bv t91) (args := []) (caps := []) Tryd.call14 rfl (law22_awake_ok h_t91) ⟨rfl, rfl, trivial⟩ (fun _ => rfl) (fun _ => trivial) (fun _ => rfl) trivial (fun _ _ _ _ h => h)) (by intro _ h; cases h; rfl) (fun _ => ⟨trivial, ⟨trivial, ⟨trivial, ⟨⟨⟨rfl, rfl⟩, trivial⟩, ⟨trivial, ⟨trivial, ⟨trivial, ⟨trivial, ⟨⟨⟨rfl, rfl⟩, trivial⟩, ⟨trivial, ⟨trivial, ⟨trivial, ⟨trivial, ⟨trivial, ⟨⟨⟨rfl, rfl⟩, trivial⟩, ⟨trivial, ⟨trivial, ⟨trivial, ⟨trivial, ⟨⟨⟨rfl, rfl⟩, trivial⟩, ⟨trivial, ⟨trivial, ⟨trivial, ⟨trivial, trivial⟩⟩⟩⟩⟩⟩⟩⟩⟩⟩⟩⟩⟩⟩⟩⟩⟩⟩⟩⟩⟩⟩⟩⟩) (fun _ => ?_)
    refine a_rd (i := 25) hok rfl (by kernel_rfl) rfl (r_pickT rfl rfl) rfl ?_
    refine a_next hok 26 [] (by kernel_rfl) ?_ trivial
    refine a_st (i := 26) hok rfl rfl (St.ofRd (r_assign rfl)) (by intro _ h; cases h; rfl) (fun _ => ⟨trivial, ⟨trivial, ⟨trivial, ⟨trivial, ⟨trivial, ⟨trivial, ⟨trivial, ⟨trivial, ⟨trivial, ⟨trivial, ⟨trivial, ⟨trivial, ⟨trivial, ⟨trivial, ⟨trivial, ⟨trivial, ⟨trivial, ⟨trivial, ⟨trivial, ⟨trivial, ⟨trivial, ⟨trivial, ⟨trivial, ⟨trivial, ⟨trivial, trivial⟩⟩⟩⟩⟩⟩⟩⟩⟩⟩⟩⟩⟩⟩⟩⟩⟩⟩⟩⟩⟩⟩⟩⟩⟩) (fun _ => ?_)
    refine a_fin hok (by kernel_rfl) ?_
    refine n_then (ref_ret ?_)
    exact fin1 (.inl rfl) () [2] rfl ⟨rfl, trivial⟩ rfl (rv_tmp rfl)
  refine a_next hok 24 [] (by kernel_rfl) ?_ trivial
  refine a_stOff (i := 24) hok rfl rfl rfl rfl rfl rfl (by intro _ h; cases h; rfl) ⟨trivial, ⟨trivial, ⟨trivial, ⟨⟨⟨rfl, rfl⟩, trivial⟩, ⟨trivial, ⟨trivial, ⟨trivial, ⟨trivial, ⟨⟨⟨rfl, rfl⟩, trivial⟩, ⟨trivial, ⟨trivial, ⟨trivial, ⟨trivial, ⟨trivial, ⟨⟨⟨rfl, rfl⟩, trivial⟩, ⟨trivial, ⟨trivial, ⟨trivial, ⟨trivial, ⟨⟨⟨rfl, rfl⟩, trivial⟩, ⟨trivial, ⟨trivial, ⟨trivial, ⟨trivial, trivial⟩⟩⟩⟩⟩⟩⟩⟩⟩⟩⟩⟩⟩⟩⟩⟩⟩⟩⟩⟩⟩⟩⟩⟩ ?_
  refine a_rd (i := 25) hok rfl (by kernel_rfl) rfl (r_pickF rfl rfl) rfl ?_
  refine a_next hok 26 [] (by kernel_rfl) ?_ trivial
  refine a_st (i := 26) hok rfl rfl (St.ofRd (r_assign rfl)) (by intro _ h; cases h; rfl) (fun _ => ⟨trivial, ⟨trivial, ⟨trivial, ⟨trivial, ⟨trivial, ⟨trivial, ⟨trivial, ⟨trivial, ⟨trivial, ⟨trivial, ⟨trivial, ⟨trivial, ⟨trivial, ⟨trivial, ⟨trivial, ⟨trivial, ⟨trivial, ⟨trivial, ⟨trivial, ⟨trivial, ⟨trivial, ⟨trivial, ⟨trivial, ⟨trivial, ⟨trivial, trivial⟩⟩⟩⟩⟩⟩⟩⟩⟩⟩⟩⟩⟩⟩⟩⟩⟩⟩⟩⟩⟩⟩⟩⟩⟩) (fun _ => ?_)
  refine a_fin hok (by kernel_rfl) ?_
  refine n_then (ref_ret ?_)
  exact fin1 (.inl rfl) () [2] rfl ⟨rfl, trivial⟩ rfl (rv_tmp rfl)

/-! deliberation/deliberationnet.Light -/
noncomputable def net_Light_m (g_0 : T_api_Graph) : Option (Bool) :=
  letM (decide ((g_0.L.length : Int) ≤ 300)) fun t2 =>
  some t2

theorem net_Light_ok {g_0 : T_api_Graph} {r : Bool} (hm : net_Light_m g_0 = some r) :
    FnOk prog 15 [ag [iv .i64 g_0.N, slv rT_api_Pair g_0.L]] [] (fun (x : Unit) => [bv r]) (fun (x : Unit) => []) := by
  refine fn_ok (fn := Tryd.f15) (N := 7) (res := fun r x => [bv r]) (Ω1 := fun r x => []) Tryd.func15 rfl rfl hm rfl (fun E hM => ?_)
  unfold net_Light_m
  refine ref_seq (ref_region ?_)
  refine s_st (s_box (part_agO (ψs := [iv .i64 g_0.N, slv rT_api_Pair g_0.L]) rfl ⟨.inl iv_at, .inl slv_at, trivial⟩)) rfl (fun b1 => ?_)
  refine as1 rfl rfl ?_
  refine l_nil (n_then (ref_seq (ref_region ?_)))
  refine s_rd (r_faddr (fo := 1) Tryd.underlying27 rfl rfl Tryd.sizeOf25 rfl) rfl ?_
  refine s_rd (r_cload Tryd.isAgg25 rfl (j := 0) rfl rfl) rfl ?_
  refine s_rd (r_len Tryd.underlying25 rfl) rfl ?_
  refine s_rd (r_leq rfl rfl) rfl ?_
  refine as1 rfl rfl ?_
  refine b_let (f := bv) (t := 2) rfl fun t2 => ?_
  refine l_nil (n_then (ref_ret ?_))
  exact fin1 (.inl rfl) () [] rfl trivial rfl (rv_tmp rfl)

/-! deliberation/deliberationref10.Validate -/
noncomputable def ref10_Validate_l1 (g_0 : T_api_Graph) (s13 : Int) : Option (Sum ((Sum (Int) (Unit))) (Int)) :=
  bif decide (s13 < (g_0.L.length : Int)) then
    Option.bind (idxM g_0.L s13) fun t16 =>
    bif decide (t16.From < 0) then
      some (Sum.inl (Sum.inl 1))
    else
      bif decide (t16.From ≥ g_0.N) then
        some (Sum.inl (Sum.inl 1))
      else
        bif decide (t16.To < 0) then
          some (Sum.inl (Sum.inl 1))
        else
          bif decide (t16.To ≥ g_0.N) then
            some (Sum.inl (Sum.inl 1))
          else
            bif decide (s13 > 0) then
              Option.bind (idxM g_0.L (isub .i64 s13 1)) fun t19 =>
              bif decide (t19.From > t16.From) then
                some (Sum.inl (Sum.inl 8))
              else
                Option.bind (idxM g_0.L (isub .i64 s13 1)) fun t20 =>
                bif t20.From == t16.From then
                  Option.bind (idxM g_0.L (isub .i64 s13 1)) fun t21 =>
                  bif decide (t21.To ≥ t16.To) then
                    some (Sum.inl (Sum.inl 8))
                  else
                    letM (iadd .i64 s13 1) fun i23 =>
                    some (Sum.inr i23)
                else
                  letM (iadd .i64 s13 1) fun i24 =>
                  some (Sum.inr i24)
            else
              letM (iadd .i64 s13 1) fun i25 =>
              some (Sum.inr i25)
  else
    some (Sum.inl (Sum.inr ()))

noncomputable def ref10_Validate_m (g_0 : T_api_Graph) : Option (Int) :=
  bif decide (g_0.N < 0) then
    some 1
  else
    bif decide (g_0.N > 40) then
      some 1
    else
      Option.bind (loopC (ref10_Validate_l1 g_0) 0) (sumK (fun a : Int => some a) fun q26 : Unit =>
        some 0)

theorem ref10_Validate_ok {g_0 : T_api_Graph} {r : Int} (hm : ref10_Validate_m g_0 = some r) :
    FnOk prog 52 [ag [iv .i64 g_0.N, slv rT_api_Pair g_0.L]] [] (fun (x : Unit) => [iv .i64 r]) (fun (x : Unit) => []) := by
  refine fn_ok (fn := Tryd.f52) (N := 85) (res := fun r x => [iv .i64 r]) (Ω1 := fun r x => []) Tryd.func52 rfl rfl hm rfl (fun E hM => ?_)
  unfold ref10_Validate_m
  refine ref_seq (ref_region ?_)
  refine s_st (s_box (part_agO (ψs := [iv .i64 g_0.N, slv rT_api_Pair g_0.L]) rfl ⟨.inl iv_at, .inl slv_at, trivial⟩)) rfl (fun b1 => ?_)
  refine as1 rfl rfl ?_
  refine l_nil (n_then (ref_seq (ref_seq (ref_region ?_))))
  refine s_rd (r_faddr (fo := 0) Tryd.underlying27 rfl rfl Tryd.sizeOf3 rfl) rfl ?_
  refine s_rd (r_cload Tryd.isAgg3 rfl (j := 0) rfl rfl) rfl ?_
  refine s_rd (r_lss rfl rfl) rfl ?_
  refine mv1 rfl rfl ?_
  refine b_split (t := 8) rfl (fun _ => ?_) (fun _ => ?_)
  · refine s_off rfl rfl rfl rfl rfl ?_
    refine s_off rfl rfl rfl rfl rfl ?_
    refine s_off rfl rfl rfl rfl rfl ?_
    refine s_rd (r_pickT rfl rfl) rfl ?_
    refine l_nil (n_then ?_)
    refine ref_condT rfl rfl ?_
    refine ref_seq (ref_region ?_)
    refine as1 rfl rfl ?_
    refine l_nil (n_then (ref_ret (r_then ?_)))
    exact fin1 (.inl rfl) () [] rfl trivial rfl (rv_tmp rfl)
  refine s_on rfl rfl rfl ?_
  refine s_rd (r_faddr (fo := 0) Tryd.underlying27 rfl rfl Tryd.sizeOf3 rfl) rfl ?_
  refine s_on rfl rfl rfl ?_
  refine s_rd (r_cload Tryd.isAgg3 rfl (j := 0) rfl rfl) rfl ?_
  refine s_on rfl rfl rfl ?_
  refine s_rd (r_gtr rfl rfl) rfl ?_
  refine s_rd (r_pickF rfl rfl) rfl ?_
  refine l_nil (n_then ?_)
  refine ref_cond rfl (fun hb2 => ?_) (fun hb2 => ?_)
  · refine ref_seq (ref_region ?_)
    refine as1 rfl rfl ?_
    refine l_nil (n_then (ref_ret (r_then ?_)))
    exact fin1 (.inl rfl) () [] rfl trivial rfl (rv_tmp rfl)
  refine ref_skip (n_then (ref_seq (ref_seq (ref_region ?_))))
  refine as1 rfl rfl ?_
  refine l_nil (n_then ?_)
  refine ref_loopX (f := (ref10_Validate_l1 g_0)) (Γl := (fun (s13 : Int) (x14 : Unit) => [(1, pv (ptr b1 0)), (3, iv .i64 s13)])) (Ωl := (fun (s13 : Int) (x14 : Unit) => [oc b1 [iv .i64 g_0.N, slv rT_api_Pair g_0.L]])) (Γb := (fun (q26 : Unit) (y27 : Unit) => [])) (Ωb := (fun (q26 : Unit) (y27 : Unit) => [])) (kr := (fun a : Int => some a)) 0 () (weak [0] ⟨rfl, rfl, trivial⟩ ⟨rfl, trivial⟩) (fun s13 x14 => ?_) (fun q26 y27 => ?_)
  · unfold ref10_Validate_l1
    refine ref_seq (ref_seq (ref_region ?_))
    refine mv1 rfl rfl ?_
    refine s_rd (r_faddr (fo := 1) Tryd.underlying27 rfl rfl Tryd.sizeOf25 rfl) rfl ?_
    refine s_rd (r_cload Tryd.isAgg25 rfl (j := 0) rfl rfl) rfl ?_
    refine s_rd (r_len Tryd.underlying25 rfl) rfl ?_
    refine s_rd (r_lss rfl rfl) rfl ?_
    refine l_nil (n_then ?_)
    refine ref_cond rfl (fun hb15 => ?_) (fun hb15 => ?_)
    · refine ref_skip (n_then (ref_seq (ref_block (ref_seq (ref_region ?_)))))
      refine s_rd (r_faddr (fo := 1) Tryd.underlying27 rfl rfl Tryd.sizeOf25 rfl) rfl ?_
      refine s_rd (r_cload Tryd.isAgg25 rfl (j := 0) rfl rfl) rfl ?_
      refine mv1 rfl rfl ?_
      refine pull fun t16 h_t16 => ?_
      refine s_rd (r_index h_t16 Tryd.underlying25 el_56 rfl rfl) rfl ?_
      refine s_rd (r_load el_56 rfl) rfl ?_
      refine s_st (s_alloc zt_56) rfl (fun b17 => ?_)
      refine s_st0 (s_cstore (out := [iv .i64 t16.From, iv .i64 t16.To]) Tryd.sizeOf56 rfl (j := 1) rfl (part_agO (ψs := [iv .i64 t16.From, iv .i64 t16.To]) rfl ⟨.inl iv_at, .inl iv_at, trivial⟩) rfl rfl rfl) (fun _ => ?_)
      refine l_nil (n_then (ref_seq (ref_seq (ref_region ?_))))
      refine s_rd (r_faddr (fo := 0) Tryd.underlying56 rfl rfl Tryd.sizeOf3 rfl) rfl ?_
      refine s_rd (r_cload Tryd.isAgg3 rfl (j := 1) rfl rfl) rfl ?_
      refine s_rd (r_lss rfl rfl) rfl ?_
      refine mv1 rfl rfl ?_
      refine b_split (t := 28) rfl (fun _ => ?_) (fun _ => ?_)
      · refine s_off rfl rfl rfl rfl rfl ?_
        refine s_off rfl rfl rfl rfl rfl ?_
        refine s_off rfl rfl rfl rfl rfl ?_
        refine s_off rfl rfl rfl rfl rfl ?_
        refine s_off rfl rfl rfl rfl rfl ?_
        refine s_rd (r_pickT rfl rfl) rfl ?_
        refine mv1 rfl rfl ?_
        refine s_off rfl rfl rfl rfl rfl ?_
        refine s_off rfl rfl rfl rfl rfl ?_
        refine s_off rfl rfl rfl rfl rfl ?_
        refine s_rd (r_pickT rfl rfl) rfl ?_
        refine mv1 rfl rfl ?_
        refine s_off rfl rfl rfl rfl rfl ?_
        refine s_off rfl rfl rfl rfl rfl ?_
        refine s_off rfl rfl rfl rfl rfl ?_
        refine s_off rfl rfl rfl rfl rfl ?_
        refine s_off rfl rfl rfl rfl rfl ?_
        refine s_rd (r_pickT rfl rfl) rfl ?_
        refine l_nil (n_then ?_)
        refine ref_condT rfl rfl ?_
        refine ref_seq (ref_region ?_)
        refine as1 rfl rfl ?_
        refine l_nil (n_then (ref_ret (r_then (r_block (r_then ?_)))))
        refine retX ?_
        refine r_block (r_then ?_)
        exact fin1 (.inl rfl) () [] rfl trivial rfl (rv_tmp rfl)
      refine s_on rfl rfl rfl ?_
      refine s_rd (r_faddr (fo := 0) Tryd.underlying56 rfl rfl Tryd.sizeOf3 rfl) rfl ?_
      refine s_on rfl rfl rfl ?_
      refine s_rd (r_cload Tryd.isAgg3 rfl (j := 1) rfl rfl) rfl ?_
      refine s_on rfl rfl rfl ?_
      refine s_rd (r_faddr (fo := 0) Tryd.underlying27 rfl rfl Tryd.sizeOf3 rfl) rfl ?_
      refine s_on rfl rfl rfl ?_
      refine s_rd (r_cload Tryd.isAgg3 rfl (j := 0) rfl rfl) rfl ?_
      refine s_on rfl rfl rfl ?_
      refine s_rd (r_geq rfl rfl) rfl ?_
      refine s_rd (r_pickF rfl rfl) rfl ?_
      refine mv1 rfl rfl ?_
      refine b_split (t := 35) rfl (fun _ => ?_) (fun _ => ?_)
      · refine s_off rfl rfl rfl rfl rfl ?_
        refine s_off rfl rfl rfl rfl rfl ?_
        refine s_off rfl rfl rfl rfl rfl ?_
        refine s_rd (r_pickT rfl rfl) rfl ?_
        refine mv1 rfl rfl ?_
        refine s_off rfl rfl rfl rfl rfl ?_
        refine s_off rfl rfl rfl rfl rfl ?_
        refine s_off rfl rfl rfl rfl rfl ?_
        refine s_off rfl rfl rfl rfl rfl ?_
        refine s_off rfl rfl rfl rfl rfl ?_
        refine s_rd (r_pickT rfl rfl) rfl ?_
        refine l_nil (n_then ?_)
        refine ref_condT rfl rfl ?_
        refine ref_seq (ref_region ?_)
        refine as1 rfl rfl ?_
        refine l_nil (n_then (ref_ret (r_then (r_block (r_then ?_)))))
        refine retX ?_
        refine r_block (r_then ?_)
        exact fin1 (.inl rfl) () [] rfl trivial rfl (rv_tmp rfl)
      refine s_on rfl rfl rfl ?_
      refine s_rd (r_faddr (fo := 1) Tryd.underlying56 rfl rfl Tryd.sizeOf3 rfl) rfl ?_
      refine s_on rfl rfl rfl ?_
      refine s_rd (r_cload Tryd.isAgg3 rfl (j := 1) rfl rfl) rfl ?_
      refine s_on rfl rfl rfl ?_
      refine s_rd (r_lss rfl rfl) rfl ?_
      refine s_rd (r_pickF rfl rfl) rfl ?_
      refine mv1 rfl rfl ?_
      refine b_split (t := 40) rfl (fun _ => ?_) (fun _ => ?_)
      · refine s_off rfl rfl rfl rfl rfl ?_
        refine s_off rfl rfl rfl rfl rfl ?_
        refine s_off rfl rfl rfl rfl rfl ?_
        refine s_off rfl rfl rfl rfl rfl ?_
        refine s_off rfl rfl rfl rfl rfl ?_
        refine s_rd (r_pickT rfl rfl) rfl ?_
        refine l_nil (n_then ?_)
        refine ref_condT rfl rfl ?_
        refine ref_seq (ref_region ?_)
        refine as1 rfl rfl ?_
        refine l_nil (n_then (ref_ret (r_then (r_block (r_then ?_)))))
        refine retX ?_
        refine r_block (r_then ?_)
        exact fin1 (.inl rfl) () [] rfl trivial rfl (rv_tmp rfl)
      refine s_on rfl rfl rfl ?_
      refine s_rd (r_faddr (fo := 1) Tryd.underlying56 rfl rfl Tryd.sizeOf3 rfl) rfl ?_
      refine s_on rfl rfl rfl ?_
      refine s_rd (r_cload Tryd.isAgg3 rfl (j := 1) rfl rfl) rfl ?_
      refine s_on rfl rfl rfl ?_
      refine s_rd (r_faddr (fo := 0) Tryd.underlying27 rfl rfl Tryd.sizeOf3 rfl) rfl ?_
      refine s_on rfl rfl rfl ?_
      refine s_rd (r_cload Tryd.isAgg3 rfl (j := 0) rfl rfl) rfl ?_
      refine s_on rfl rfl rfl ?_
      refine s_rd (r_geq rfl rfl) rfl ?_
      refine s_rd (r_pickF rfl rfl) rfl ?_
      refine l_nil (n_then ?_)
      refine ref_cond rfl (fun hb18 => ?_) (fun hb18 => ?_)
      · refine ref_seq (ref_region ?_)
        refine as1 rfl rfl ?_
        refine l_nil (n_then (ref_ret (r_then (r_block (r_then ?_)))))
        refine retX ?_
        refine r_block (r_then ?_)
        exact fin1 (.inl rfl) () [] rfl trivial rfl (rv_tmp rfl)
      refine ref_skip (n_then (ref_seq ?_))
      refine ref_draw [0, 1, 2, 3, 4, 5, 6, 7, 8, 9, 10, 11, 12, 13, 14, 15, 16, 17, 18, 19, 20, 21, 22, 23, 24, 25, 26, 27, 28, 29, 30, 31, 32, 33, 34, 35, 36, 37] rfl (by kernel_rfl) (fun hok => ?_)
      refine a_rd (i := 0) hok rfl (by kernel_rfl) rfl (r_move rfl) rfl ?_
      refine a_rd (i := 1) hok rfl (by kernel_rfl) rfl (r_gtr rfl rfl) rfl ?_
      refine a_rd (i := 2) hok rfl (by kernel_rfl) rfl (r_move rfl) rfl ?_
      refine b_split (t := 49) rfl (fun _ => ?_) (fun _ => ?_)
      · refine a_rdOn (i := 3) hok rfl rfl rfl rfl (by kernel_rfl) rfl (r_faddr (fo := 1) Tryd.underlying27 rfl rfl Tryd.sizeOf25 rfl) rfl ?_
        refine a_rdOn (i := 4) hok rfl rfl rfl rfl (by kernel_rfl) rfl (r_cload Tryd.isAgg25 rfl (j := 0) rfl rfl) rfl ?_
        refine a_rdOn (i := 5) hok rfl rfl rfl rfl (by kernel_rfl) rfl (r_move rfl) rfl ?_
        refine a_rdOn (i := 6) hok rfl rfl rfl rfl (by kernel_rfl) rfl (r_sub rfl rfl) rfl ?_
        refine pull fun t19 h_t19 => ?_
        refine a_rdOn (i := 7) hok rfl rfl rfl rfl (by kernel_rfl) rfl (r_index h_t19 Tryd.underlying25 el_56 rfl rfl) rfl ?_
        refine a_rdOn (i := 8) hok rfl rfl rfl rfl (by kernel_rfl) rfl (r_fea (fo := 0) (ρ := rT_api_Pair) (y := t19) (ρ' := (rI .i64)) (z := t19.From) Tryd.underlying56 rfl rfl Tryd.sizeOf3 rfl rfl rfl) rfl ?_
        refine a_rdOn (i := 9) hok rfl rfl rfl rfl (by kernel_rfl) rfl (r_load el_3 rfl) rfl ?_
        refine a_rdOn (i := 10) hok rfl rfl rfl rfl (by kernel_rfl) rfl (r_faddr (fo := 0) Tryd.underlying56 rfl rfl Tryd.sizeOf3 rfl) rfl ?_
        refine a_rdOn (i := 11) hok rfl rfl rfl rfl (by kernel_rfl) rfl (r_cload Tryd.isAgg3 rfl (j := 1) rfl rfl) rfl ?_
        refine a_rdOn (i := 12) hok rfl rfl rfl rfl (by kernel_rfl) rfl (r_gtr rfl rfl) rfl ?_
        refine a_rdOn (i := 13) hok rfl rfl rfl rfl (by kernel_rfl) rfl (r_move rfl) rfl ?_
        refine b_split (t := 60) rfl (fun _ => ?_) (fun _ => ?_)
        · refine a_off (i := 14) hok rfl rfl rfl rfl rfl (by kernel_rfl) rfl rfl ?_
          refine a_off (i := 15) hok rfl rfl rfl rfl rfl (by kernel_rfl) rfl rfl ?_
          refine a_off (i := 16) hok rfl rfl rfl rfl rfl (by kernel_rfl) rfl rfl ?_
          refine a_off (i := 17) hok rfl rfl rfl rfl rfl (by kernel_rfl) rfl rfl ?_
          refine a_off (i := 18) hok rfl rfl rfl rfl rfl (by kernel_rfl) rfl rfl ?_
          refine a_off (i := 19) hok rfl rfl rfl rfl rfl (by kernel_rfl) rfl rfl ?_
          refine a_off (i := 20) hok rfl rfl rfl rfl rfl (by kernel_rfl) rfl rfl ?_
          refine a_off (i := 21) hok rfl rfl rfl rfl rfl (by kernel_rfl) rfl rfl ?_
          refine a_off (i := 22) hok rfl rfl rfl rfl rfl (by kernel_rfl) rfl rfl ?_
          refine a_off (i := 23) hok rfl rfl rfl rfl rfl (by kernel_rfl) rfl rfl ?_
          refine a_off (i := 24) hok rfl rfl rfl rfl rfl (by kernel_rfl) rfl rfl ?_
          refine a_offU (i := 25) hok rfl rfl rfl (by kernel_rfl) rfl rfl ?_
          refine a_offU (i := 26) hok rfl rfl rfl (by kernel_rfl) rfl rfl ?_
          refine a_offU (i := 27) hok rfl rfl rfl (by kernel_rfl) rfl rfl ?_
          refine a_offU (i := 28) hok rfl rfl rfl (by kernel_rfl) rfl rfl ?_
          refine a_offU (i := 29) hok rfl rfl rfl (by kernel_rfl) rfl rfl ?_
          refine a_offU (i := 30) hok rfl rfl rfl (by kernel_rfl) rfl rfl ?_
          refine a_offU (i := 31) hok rfl rfl rfl (by kernel_rfl) rfl rfl ?_
          refine a_offU (i := 32) hok rfl rfl rfl (by kernel_rfl) rfl rfl ?_
          refine a_offU (i := 33) hok rfl rfl rfl (by kernel_rfl) rfl rfl ?_
          refine a_offU (i := 34) hok rfl rfl rfl (by kernel_rfl) rfl rfl ?_
          refine a_off (i := 35) hok rfl rfl rfl rfl rfl (by kernel_rfl) rfl rfl ?_
          refine a_rdOn (i := 36) hok rfl rfl rfl rfl (by kernel_rfl) rfl (r_pickT rfl rfl) rfl ?_
          refine a_rd (i := 37) hok rfl (by kernel_rfl) rfl (r_pickT rfl rfl) rfl ?_
          refine a_fin hok (by kernel_rfl) ?_
          refine n_then ?_
          refine ref_condT rfl rfl ?_
          refine ref_seq (ref_region ?_)
          refine as1 rfl rfl ?_
          refine l_nil (n_then (ref_ret (r_block (r_then ?_))))
          refine retX ?_
          refine r_block (r_then ?_)
          exact fin1 (.inl rfl) () [] rfl trivial rfl (rv_tmp rfl)
        refine a_rdOn (i := 14) hok rfl rfl rfl rfl (by kernel_rfl) rfl (r_faddr (fo := 1) Tryd.underlying27 rfl rfl Tryd.sizeOf25 rfl) rfl ?_
        refine a_rdOn (i := 15) hok rfl rfl rfl rfl (by kernel_rfl) rfl (r_cload Tryd.isAgg25 rfl (j := 0) rfl rfl) rfl ?_
        refine a_rdOn (i := 16) hok rfl rfl rfl rfl (by kernel_rfl) rfl (r_move rfl) rfl ?_
        refine a_rdOn (i := 17) hok rfl rfl rfl rfl (by kernel_rfl) rfl (r_sub rfl rfl) rfl ?_
        refine pull fun t20 h_t20 => ?_
        refine a_rdOn (i := 18) hok rfl rfl rfl rfl (by kernel_rfl) rfl (r_index h_t20 Tryd.underlying25 el_56 rfl rfl) rfl ?_
        refine a_rdOn (i := 19) hok rfl rfl rfl rfl (by kernel_rfl) rfl (r_fea (fo := 0) (ρ := rT_api_Pair) (y := t20) (ρ' := (rI .i64)) (z := t20.From) Tryd.underlying56 rfl rfl Tryd.sizeOf3 rfl rfl rfl) rfl ?_
        refine a_rdOn (i := 20) hok rfl rfl rfl rfl (by kernel_rfl) rfl (r_load el_3 rfl) rfl ?_
        refine a_rdOn (i := 21) hok rfl rfl rfl rfl (by kernel_rfl) rfl (r_faddr (fo := 0) Tryd.underlying56 rfl rfl Tryd.sizeOf3 rfl) rfl ?_
        refine a_rdOn (i := 22) hok rfl rfl rfl rfl (by kernel_rfl) rfl (r_cload Tryd.isAgg3 rfl (j := 1) rfl rfl) rfl ?_
        refine a_rdOn (i := 23) hok rfl rfl rfl rfl (by kernel_rfl) rfl (r_eql rfl rfl) rfl ?_
        refine a_rdOn (i := 24) hok rfl rfl rfl rfl (by kernel_rfl) rfl (r_move rfl) rfl ?_
        refine b_split (t := 71) rfl (fun _ => ?_) (fun _ => ?_)
        · refine a_rdOn (i := 25) hok rfl rfl rfl rfl (by kernel_rfl) rfl (r_faddr (fo := 1) Tryd.underlying27 rfl rfl Tryd.sizeOf25 rfl) rfl ?_
          refine a_rdOn (i := 26) hok rfl rfl rfl rfl (by kernel_rfl) rfl (r_cload Tryd.isAgg25 rfl (j := 0) rfl rfl) rfl ?_
          refine a_rdOn (i := 27) hok rfl rfl rfl rfl (by kernel_rfl) rfl (r_move rfl) rfl ?_
          refine a_rdOn (i := 28) hok rfl rfl rfl rfl (by kernel_rfl) rfl (r_sub rfl rfl) rfl ?_
          refine pull fun t21 h_t21 => ?_
          refine a_rdOn (i := 29) hok rfl rfl rfl rfl (by kernel_rfl) rfl (r_index h_t21 Tryd.underlying25 el_56 rfl rfl) rfl ?_
          refine a_rdOn (i := 30) hok rfl rfl rfl rfl (by kernel_rfl) rfl (r_fea (fo := 1) (ρ := rT_api_Pair) (y := t21) (ρ' := (rI .i64)) (z := t21.To) Tryd.underlying56 rfl rfl Tryd.sizeOf3 rfl rfl rfl) rfl ?_
          refine a_rdOn (i := 31) hok rfl rfl rfl rfl (by kernel_rfl) rfl (r_load el_3 rfl) rfl ?_
          refine a_rdOn (i := 32) hok rfl rfl rfl rfl (by kernel_rfl) rfl (r_faddr (fo := 1) Tryd.underlying56 rfl rfl Tryd.sizeOf3 rfl) rfl ?_
          refine a_rdOn (i := 33) hok rfl rfl rfl rfl (by kernel_rfl) rfl (r_cload Tryd.isAgg3 rfl (j := 1) rfl rfl) rfl ?_
          refine a_rdOn (i := 34) hok rfl rfl rfl rfl (by kernel_rfl) rfl (r_geq rfl rfl) rfl ?_
          refine a_rdOn (i := 35) hok rfl rfl rfl rfl (by kernel_rfl) rfl (r_pickT rfl rfl) rfl ?_
          refine a_rdOn (i := 36) hok rfl rfl rfl rfl (by kernel_rfl) rfl (r_pickF rfl rfl) rfl ?_
          refine a_rd (i := 37) hok rfl (by kernel_rfl) rfl (r_pickT rfl rfl) rfl ?_
          refine a_fin hok (by kernel_rfl) ?_
          refine n_then ?_
          refine ref_cond rfl (fun hb22 => ?_) (fun hb22 => ?_)
          · refine ref_seq (ref_region ?_)
            refine as1 rfl rfl ?_
            refine l_nil (n_then (ref_ret (r_block (r_then ?_))))
            refine retX ?_
            refine r_block (r_then ?_)
            exact fin1 (.inl rfl) () [] rfl trivial rfl (rv_tmp rfl)
          refine ref_skip (n_block (n_then (ref_region ?_)))
          refine mv1 rfl rfl ?_
          refine s_rd (r_add rfl rfl) rfl ?_
          refine as1 rfl rfl ?_
          refine b_let (f := iv .i64) (t := 3) rfl fun i23 => ?_
          refine l_nil ?_
          exact goX () (weak [0] ⟨rfl, rfl, trivial⟩ ⟨rfl, trivial⟩)
        refine a_off (i := 25) hok rfl rfl rfl rfl rfl (by kernel_rfl) rfl rfl ?_
        refine a_off (i := 26) hok rfl rfl rfl rfl rfl (by kernel_rfl) rfl rfl ?_
        refine a_off (i := 27) hok rfl rfl rfl rfl rfl (by kernel_rfl) rfl rfl ?_
        refine a_off (i := 28) hok rfl rfl rfl rfl rfl (by kernel_rfl) rfl rfl ?_
        refine a_off (i := 29) hok rfl rfl rfl rfl rfl (by kernel_rfl) rfl rfl ?_
        refine a_off (i := 30) hok rfl rfl rfl rfl rfl (by kernel_rfl) rfl rfl ?_
        refine a_off (i := 31) hok rfl rfl rfl rfl rfl (by kernel_rfl) rfl rfl ?_
        refine a_off (i := 32) hok rfl rfl rfl rfl rfl (by kernel_rfl) rfl rfl ?_
        refine a_off (i := 33) hok rfl rfl rfl rfl rfl (by kernel_rfl) rfl rfl ?_
        refine a_off (i := 34) hok rfl rfl rfl rfl rfl (by kernel_rfl) rfl rfl ?_
        refine a_rdOn (i := 35) hok rfl rfl rfl rfl (by kernel_rfl) rfl (r_pickF rfl rfl) rfl ?_
        refine a_rdOn (i := 36) hok rfl rfl rfl rfl (by kernel_rfl) rfl (r_pickF rfl rfl) rfl ?_
        refine a_rd (i := 37) hok rfl (by kernel_rfl) rfl (r_pickT rfl rfl) rfl ?_
        refine a_fin hok (by kernel_rfl) ?_
        refine n_then ?_
        refine ref_condF rfl rfl ?_
        refine ref_skip (n_block (n_then (ref_region ?_)))
        refine mv1 rfl rfl ?_
        refine s_rd (r_add rfl rfl) rfl ?_
        refine as1 rfl rfl ?_
        refine b_let (f := iv .i64) (t := 3) rfl fun i24 => ?_
        refine l_nil ?_
        exact goX () (weak [0] ⟨rfl, rfl, trivial⟩ ⟨rfl, trivial⟩)
      refine a_off (i := 3) hok rfl rfl rfl rfl rfl (by kernel_rfl) rfl rfl ?_
      refine a_off (i := 4) hok rfl rfl rfl rfl rfl (by kernel_rfl) rfl rfl ?_
      refine a_off (i := 5) hok rfl rfl rfl rfl rfl (by kernel_rfl) rfl rfl ?_
      refine a_off (i := 6) hok rfl rfl rfl rfl rfl (by kernel_rfl) rfl rfl ?_
      refine a_off (i := 7) hok rfl rfl rfl rfl rfl (by kernel_rfl) rfl rfl ?_
      refine a_off (i := 8) hok rfl rfl rfl rfl rfl (by kernel_rfl) rfl rfl ?_
      refine a_off (i := 9) hok rfl rfl rfl rfl rfl (by kernel_rfl) rfl rfl ?_
      refine a_off (i := 10) hok rfl rfl rfl rfl rfl (by kernel_rfl) rfl rfl ?_
      refine a_off (i := 11) hok rfl rfl rfl rfl rfl (by kernel_rfl) rfl rfl ?_
      refine a_off (i := 12) hok rfl rfl rfl rfl rfl (by kernel_rfl) rfl rfl ?_
      refine a_off (i := 13) hok rfl rfl rfl rfl rfl (by kernel_rfl) rfl rfl ?_
      refine a_offU (i := 14) hok rfl rfl rfl (by kernel_rfl) rfl rfl ?_
      refine a_offU (i := 15) hok rfl rfl rfl (by kernel_rfl) rfl rfl ?_
      refine a_offU (i := 16) hok rfl rfl rfl (by kernel_rfl) rfl rfl ?_
      refine a_offU (i := 17) hok rfl rfl rfl (by kernel_rfl) rfl rfl ?_
      refine a_offU (i := 18) hok rfl rfl rfl (by kernel_rfl) rfl rfl ?_
      refine a_offU (i := 19) hok rfl rfl rfl (by kernel_rfl) rfl rfl ?_
      refine a_offU (i := 20) hok rfl rfl rfl (by kernel_rfl) rfl rfl ?_
      refine a_offU (i := 21) hok rfl rfl rfl (by kernel_rfl) rfl rfl ?_
      refine a_offU (i := 22) hok rfl rfl rfl (by kernel_rfl) rfl rfl ?_
      refine a_offU (i := 23) hok rfl rfl rfl (by kernel_rfl) rfl rfl ?_
      refine a_offU (i := 24) hok rfl rfl rfl (by kernel_rfl) rfl rfl ?_
      refine a_offU (i := 25) hok rfl rfl rfl (by kernel_rfl) rfl rfl ?_
      refine a_offU (i := 26) hok rfl rfl rfl (by kernel_rfl) rfl rfl ?_
      refine a_offU (i := 27) hok rfl rfl rfl (by kernel_rfl) rfl rfl ?_
      refine a_offU (i := 28) hok rfl rfl rfl (by kernel_rfl) rfl rfl ?_
      refine a_offU (i := 29) hok rfl rfl rfl (by kernel_rfl) rfl rfl ?_
      refine a_offU (i := 30) hok rfl rfl rfl (by kernel_rfl) rfl rfl ?_
      refine a_offU (i := 31) hok rfl rfl rfl (by kernel_rfl) rfl rfl ?_
      refine a_offU (i := 32) hok rfl rfl rfl (by kernel_rfl) rfl rfl ?_
      refine a_offU (i := 33) hok rfl rfl rfl (by kernel_rfl) rfl rfl ?_
      refine a_offU (i := 34) hok rfl rfl rfl (by kernel_rfl) rfl rfl ?_
      refine a_offU (i := 35) hok rfl rfl rfl (by kernel_rfl) rfl rfl ?_
      refine a_off (i := 36) hok rfl rfl rfl rfl rfl (by kernel_rfl) rfl rfl ?_
      refine a_rd (i := 37) hok rfl (by kernel_rfl) rfl (r_pickF rfl rfl) rfl ?_
      refine a_fin hok (by kernel_rfl) ?_
      refine n_then ?_
      refine ref_condF rfl rfl ?_
      refine ref_skip (n_block (n_then (ref_region ?_)))
      refine mv1 rfl rfl ?_
      refine s_rd (r_add rfl rfl) rfl ?_
      refine as1 rfl rfl ?_
      refine b_let (f := iv .i64) (t := 3) rfl fun i25 => ?_
      refine l_nil ?_
      exact goX () (weak [0] ⟨rfl, rfl, trivial⟩ ⟨rfl, trivial⟩)
    refine ref_exit (x_then ?_)
    exact brkX () (weak [] trivial trivial)
  refine n_then (ref_seq (ref_region ?_))
  refine as1 rfl rfl ?_
  refine l_nil (n_then (ref_ret ?_))
  exact fin1 (.inl rfl) () [] rfl trivial rfl (rv_tmp rfl)

/-! deliberation/deliberationnet.In -/
noncomputable def net_In_l1 (l_0 : (List Int)) (x_1 : Int) (s6 : Int) : Option (Sum ((Sum (Bool) (Unit))) (Int)) :=
  bif decide (s6 < (l_0.length : Int)) then
    Option.bind (idxM l_0 s6) fun t9 =>
    bif t9 == x_1 then
      some (Sum.inl (Sum.inl true))
    else
      some (Sum.inr (iadd .i64 s6 1))
  else
    some (Sum.inl (Sum.inr ()))

noncomputable def net_In_m (l_0 : (List Int)) (x_1 : Int) : Option (Bool) :=
  Option.bind (loopC (net_In_l1 l_0 x_1) 0) (sumK (fun a : Bool => some a) fun q11 : Unit =>
    some false)

theorem net_In_ok {l_0 : (List Int)} {x_1 : Int} {r : Bool} (hm : net_In_m l_0 x_1 = some r) :
    FnOk prog 76 [slv (rI .i64) l_0, iv .i64 x_1] [] (fun (x : Unit) => [bv r]) (fun (x : Unit) => []) := by
  refine fn_ok (fn := Tryd.f76) (N := 18) (res := fun r x => [bv r]) (Ω1 := fun r x => []) Tryd.func76 rfl rfl hm rfl (fun E hM => ?_)
  unfold net_In_m
  refine ref_seq (ref_region ?_)
  refine as1 rfl rfl ?_
  refine l_nil (n_then (ref_seq (ref_seq (ref_region ?_))))
  refine as1 rfl rfl ?_
  refine l_nil (n_then ?_)
  refine ref_loopX (f := (net_In_l1 l_0 x_1)) (Γl := (fun (s6 : Int) (x7 : Unit) => [(0, slv (rI .i64) l_0), (1, iv .i64 x_1), (5, iv .i64 s6)])) (Ωl := (fun (s6 : Int) (x7 : Unit) => [])) (Γb := (fun (q11 : Unit) (y12 : Unit) => [])) (Ωb := (fun (q11 : Unit) (y12 : Unit) => [])) (kr := (fun a : Bool => some a)) 0 () (weak [] ⟨rfl, rfl, rfl, trivial⟩ trivial) (fun s6 x7 => ?_) (fun q11 y12 => ?_)
  · unfold net_In_l1
    refine ref_seq (ref_seq (ref_region ?_))
    refine mv1 rfl rfl ?_
    refine mv1 rfl rfl ?_
    refine s_rd (r_len Tryd.underlying22 rfl) rfl ?_
    refine s_rd (r_lss rfl rfl) rfl ?_
    refine l_nil (n_then ?_)
    refine ref_cond rfl (fun hb8 => ?_) (fun hb8 => ?_)
    · refine ref_skip (n_then (ref_seq (ref_block (ref_seq (ref_region ?_)))))
      refine mv1 rfl rfl ?_
      refine mv1 rfl rfl ?_
      refine pull fun t9 h_t9 => ?_
      refine s_rd (r_index h_t9 Tryd.underlying22 el_3 rfl rfl) rfl ?_
      refine s_rd (r_load el_3 rfl) rfl ?_
      refine mv1 rfl rfl ?_
      refine s_rd (r_eql rfl rfl) rfl ?_
      refine l_nil (n_then ?_)
      refine ref_cond rfl (fun hb10 => ?_) (fun hb10 => ?_)
      · refine ref_seq (ref_region ?_)
        refine as1 rfl rfl ?_
        refine l_nil (n_then (ref_ret (r_block (r_then ?_))))
        refine retX ?_
        refine r_block (r_then ?_)
        exact fin1 (.inl rfl) () [] rfl trivial rfl (rv_tmp rfl)
      refine ref_skip (n_block (n_then (ref_region ?_)))
      refine mv1 rfl rfl ?_
      refine s_rd (r_add rfl rfl) rfl ?_
      refine as1 rfl rfl ?_
      refine l_nil ?_
      exact goX () (weak [] ⟨rfl, rfl, rfl, trivial⟩ trivial)
    refine ref_exit (x_then ?_)
    exact brkX () (weak [] trivial trivial)
  refine n_then (ref_seq (ref_region ?_))
  refine as1 rfl rfl ?_
  refine l_nil (n_then (ref_ret ?_))
  exact fin1 (.inl rfl) () [] rfl trivial rfl (rv_tmp rfl)

/-! deliberation/deliberationref22.Order -/
noncomputable def ref22_Order_l3 (g_0 : T_api_Graph) (s202 : Int × (List Int)) (s211 : Bool × Int) : Option (Sum (Bool) (Bool × Int)) :=
  bif decide (s211.2 < g_0.N) then
    bif s211.1 then
      Option.bind (net_Has_m g_0 s211.2 s202.1) fun t214 =>
      bif !t214 then
        letM (iadd .i64 s211.2 1) fun b216 =>
        some (Sum.inr (true, b216))
      else
        Option.bind (net_In_m s202.2 s211.2) fun t215 =>
        letM (iadd .i64 s211.2 1) fun b217 =>
        some (Sum.inr (t215, b217))
    else
      letM (iadd .i64 s211.2 1) fun b218 =>
      some (Sum.inr (false, b218))
  else
    some (Sum.inl s211.1)

noncomputable def ref22_Order_l2 (g_0 : T_api_Graph) (s202 : Int × (List Int)) : Option (Sum ((List Int)) (Int × (List Int))) :=
  bif decide (s202.1 < g_0.N) then
    Option.bind (net_In_m s202.2 s202.1) fun t205 =>
    Option.bind (loopC (ref22_Order_l3 g_0 s202) (!t205, 0)) fun q219 : Bool =>
    bif q219 then
      Option.bind (appM 8 s202.2 [s202.1]) fun out222 =>
      letM (iadd .i64 s202.1 1) fun a_224 =>
      some (Sum.inr (a_224, out222))
    else
      letM (iadd .i64 s202.1 1) fun a_225 =>
      some (Sum.inr (a_225, s202.2))
  else
    some (Sum.inl s202.2)

noncomputable def ref22_Order_l1 (g_0 : T_api_Graph) (s153 : Int × (List Int)) : Option (Sum ((List Int)) (Int × (List Int))) :=
  bif decide (s153.1 < g_0.N) then
    Option.bind (loopC (ref22_Order_l2 g_0) (0, s153.2)) fun q226 : (List Int) =>
    letM (iadd .i64 s153.1 1) fun round228 =>
    some (Sum.inr (round228, q226))
  else
    some (Sum.inl s153.2)

noncomputable def ref22_Order_m (g_0 : T_api_Graph) : Option (List Int) :=
  Option.bind (loopC (ref22_Order_l1 g_0) (0, [])) fun q229 : (List Int) =>
  some q229

theorem ref22_Order_ok {g_0 : T_api_Graph} {r : List Int} (hm : ref22_Order_m g_0 = some r) :
    FnOk prog 53 [ag [iv .i64 g_0.N, slv rT_api_Pair g_0.L]] [] (fun (x : (Value × List Nat)) => [pv x.1]) (fun (x : (Value × List Nat)) => [oa (rI .i64) x.1 x.2 r]) := by
  refine fn_ok (X := (Value × List Nat)) (fn := Tryd.f53) (N := 49) (res := fun r x => [pv x.1]) (Ω1 := fun r x => [oa (rI .i64) x.1 x.2 r]) Tryd.func53 rfl rfl hm rfl (fun E hM => ?_)
  unfold ref22_Order_m
  refine ref_seq (ref_region ?_)
  refine s_st (s_box (part_agO (ψs := [iv .i64 g_0.N, slv rT_api_Pair g_0.L]) rfl ⟨.inl iv_at, .inl slv_at, trivial⟩)) rfl (fun b1 => ?_)
  refine as1 rfl rfl ?_
  refine l_nil (n_then (ref_seq (ref_region ?_)))
  refine as1 rfl rfl ?_
  refine l_nil (n_then (ref_seq (ref_seq (ref_region ?_))))
  refine as1 rfl rfl ?_
  refine l_nil (n_then ?_)
  refine b_of (own_nil (rI .i64)) ?_
  refine ref_loopB (f := (ref22_Order_l1 g_0)) (Γl := (fun (s153 : Int × (List Int)) (x154 : (Value × List Nat)) => [(1, pv (ptr b1 0)), (3, pv x154.1), (4, iv .i64 s153.1)])) (Ωl := (fun (s153 : Int × (List Int)) (x154 : (Value × List Nat)) => [oc b1 [iv .i64 g_0.N, slv rT_api_Pair g_0.L], oa (rI .i64) x154.1 x154.2 s153.2])) (Γb := (fun (q229 : (List Int)) (y230 : (Value × List Nat)) => [(3, pv y230.1)])) (Ωb := (fun (q229 : (List Int)) (y230 : (Value × List Nat)) => [oa (rI .i64) y230.1 y230.2 q229])) (0, []) ((.slice none 0 0), []) (weak [0, 1] ⟨rfl, rfl, rfl, trivial⟩ ⟨rfl, rfl, trivial⟩) (fun s153 x154 => ?_) (fun q229 y230 => ?_)
  · unfold ref22_Order_l1
    refine ref_seq (ref_seq (ref_region ?_))
    refine mv1 rfl rfl ?_
    refine s_rd (r_faddr (fo := 0) Tryd.underlying27 rfl rfl Tryd.sizeOf3 rfl) rfl ?_
    refine s_rd (r_cload Tryd.isAgg3 rfl (j := 0) rfl rfl) rfl ?_
    refine s_rd (r_lss rfl rfl) rfl ?_
    refine l_nil (n_then ?_)
    refine ref_cond rfl (fun hb155 => ?_) (fun hb155 => ?_)
    · refine ref_skip (n_then (ref_seq (ref_block (ref_seq (ref_region ?_)))))
      refine as1 rfl rfl ?_
      refine l_nil (n_then ?_)
      refine ref_loopB (f := (ref22_Order_l2 g_0)) (Γl := (fun (s202 : Int × (List Int)) (x203 : (Value × List Nat)) => [(1, pv (ptr b1 0)), (3, pv x203.1), (4, iv .i64 s153.1), (5, iv .i64 s202.1)])) (Ωl := (fun (s202 : Int × (List Int)) (x203 : (Value × List Nat)) => [oc b1 [iv .i64 g_0.N, slv rT_api_Pair g_0.L], oa (rI .i64) x203.1 x203.2 s202.2])) (Γb := (fun (q226 : (List Int)) (y227 : (Value × List Nat)) => [(1, pv (ptr b1 0)), (3, pv y227.1), (4, iv .i64 s153.1)])) (Ωb := (fun (q226 : (List Int)) (y227 : (Value × List Nat)) => [oc b1 [iv .i64 g_0.N, slv rT_api_Pair g_0.L], oa (rI .i64) y227.1 y227.2 q226])) (0, s153.2) x154 (weak [0, 1] ⟨rfl, rfl, rfl, rfl, trivial⟩ ⟨rfl, rfl, trivial⟩) (fun s202 x203 => ?_) (fun q226 y227 => ?_)
      · unfold ref22_Order_l2
        refine ref_seq (ref_seq (ref_region ?_))
        refine mv1 rfl rfl ?_
        refine s_rd (r_faddr (fo := 0) Tryd.underlying27 rfl rfl Tryd.sizeOf3 rfl) rfl ?_
        refine s_rd (r_cload Tryd.isAgg3 rfl (j := 0) rfl rfl) rfl ?_
        refine s_rd (r_lss rfl rfl) rfl ?_
        refine l_nil (n_then ?_)
        refine ref_cond rfl (fun hb204 => ?_) (fun hb204 => ?_)
        · refine ref_skip (n_then (ref_seq (ref_block (ref_seq (ref_region ?_)))))
          refine mv1 rfl rfl ?_
          refine mv1 rfl rfl ?_
          refine pull fun t205 h_t205 => ?_
          refine s_st (s_callB (ψ := fun (_ : Unit) => bv t205) (args := [.tmp 20, .tmp 21]) Tryd.call76 rfl (net_In_ok h_t205) ⟨argO rfl (j := 1) rfl, argB rfl, trivial⟩ (fun _ _ _ _ _ h => h)) rfl (fun _ => ?_)
          refine s_rd (r_not rfl) rfl ?_
          refine as1 rfl rfl ?_
          refine l_nil (n_then (ref_seq (ref_seq (ref_region ?_))))
          refine as1 rfl rfl ?_
          refine l_nil (n_then ?_)
          refine ref_loopB (f := (ref22_Order_l3 g_0 s202)) (Γl := (fun (s211 : Bool × Int) (x212 : Unit) => [(1, pv (ptr b1 0)), (3, pv x203.1), (4, iv .i64 s153.1), (5, iv .i64 s202.1), (6, bv s211.1), (7, iv .i64 s211.2)])) (Ωl := (fun (s211 : Bool × Int) (x212 : Unit) => [oc b1 [iv .i64 g_0.N, slv rT_api_Pair g_0.L], oa (rI .i64) x203.1 x203.2 s202.2])) (Γb := (fun (q219 : Bool) (y220 : Unit) => [(1, pv (ptr b1 0)), (3, pv x203.1), (4, iv .i64 s153.1), (5, iv .i64 s202.1), (6, bv q219)])) (Ωb := (fun (q219 : Bool) (y220 : Unit) => [oc b1 [iv .i64 g_0.N, slv rT_api_Pair g_0.L], oa (rI .i64) x203.1 x203.2 s202.2])) (!t205, 0) () (weak [0, 1] ⟨rfl, rfl, rfl, rfl, rfl, rfl, trivial⟩ ⟨rfl, rfl, trivial⟩) (fun s211 x212 => ?_) (fun q219 y220 => ?_)
          · unfold ref22_Order_l3
            refine ref_seq (ref_seq (ref_region ?_))
            refine mv1 rfl rfl ?_
            refine s_rd (r_faddr (fo := 0) Tryd.underlying27 rfl rfl Tryd.sizeOf3 rfl) rfl ?_
            refine s_rd (r_cload Tryd.isAgg3 rfl (j := 0) rfl rfl) rfl ?_
            refine s_rd (r_lss rfl rfl) rfl ?_
            refine l_nil (n_then ?_)
            refine ref_cond rfl (fun hb213 => ?_) (fun hb213 => ?_)
            · refine ref_skip (n_then (ref_seq (ref_block (ref_region ?_))))
              refine mv1 rfl rfl ?_
              refine mv1 rfl rfl ?_
              refine b_split (t := 31) rfl (fun _ => ?_) (fun _ => ?_)
              · refine s_on rfl rfl rfl ?_
                refine s_rd (r_cloadS Tryd.isAgg27 Tryd.sizeOf27 rfl (j := 0) rfl rfl rfl) rfl ?_
                refine s_on rfl rfl rfl ?_
                refine mv1 rfl rfl ?_
                refine s_on rfl rfl rfl ?_
                refine mv1 rfl rfl ?_
                refine s_on rfl rfl rfl ?_
                refine pull fun t214 h_t214 => ?_
                refine s_st (s_call (ψ := fun (_ : Unit) => bv t214) (args := [.tmp 32, .tmp 33, .tmp 34]) Tryd.call23 rfl (net_Has_ok h_t214) ⟨arg rfl, arg rfl, arg rfl, trivial⟩ (fun _ _ _ _ h => h)) rfl (fun _ => ?_)
                refine s_on rfl rfl rfl ?_
                refine s_rd (r_not rfl) rfl ?_
                refine s_on rfl rfl rfl ?_
                refine mv1 rfl rfl ?_
                refine b_split (t := 37) rfl (fun _ => ?_) (fun _ => ?_)
                · refine s_off rfl rfl rfl rfl rfl ?_
                  refine s_off rfl rfl rfl rfl rfl ?_
                  refine s_off rfl rfl rfl rfl rfl ?_
                  refine s_on rfl rfl rfl ?_
                  refine s_rd (r_pickT rfl rfl) rfl ?_
                  refine s_rd (r_pickT rfl rfl) rfl ?_
                  refine as1 rfl rfl ?_
                  refine l_nil (n_block (n_then (ref_region ?_)))
                  refine mv1 rfl rfl ?_
                  refine s_rd (r_add rfl rfl) rfl ?_
                  refine as1 rfl rfl ?_
                  refine b_let (f := iv .i64) (t := 7) rfl fun b216 => ?_
                  refine l_nil ?_
                  exact goB () (weak [0, 1] ⟨rfl, rfl, rfl, rfl, rfl, rfl, trivial⟩ ⟨rfl, rfl, trivial⟩)
                refine s_on rfl rfl rfl ?_
                refine mv1 rfl rfl ?_
                refine s_on rfl rfl rfl ?_
                refine mv1 rfl rfl ?_
                refine s_on rfl rfl rfl ?_
                refine pull fun t215 h_t215 => ?_
                refine s_st (s_callB (ψ := fun (_ : Unit) => bv t215) (args := [.tmp 38, .tmp 39]) Tryd.call76 rfl (net_In_ok h_t215) ⟨argO rfl (j := 1) rfl, argB rfl, trivial⟩ (fun _ _ _ _ _ h => h)) rfl (fun _ => ?_)
                refine s_on rfl rfl rfl ?_
                refine s_rd (r_pickF rfl rfl) rfl ?_
                refine s_rd (r_pickT rfl rfl) rfl ?_
                refine as1 rfl rfl ?_
                refine l_nil ?_
                refine b_of (nrm [oc b1 [iv .i64 g_0.N, slv rT_api_Pair g_0.L], oa (rI .i64) x203.1 x203.2 s202.2] rfl) ?_
                refine n_block (n_then (ref_region ?_))
                refine mv1 rfl rfl ?_
                refine s_rd (r_add rfl rfl) rfl ?_
                refine as1 rfl rfl ?_
                refine b_let (f := iv .i64) (t := 7) rfl fun b217 => ?_
                refine l_nil ?_
                exact goB () (weak [0, 1] ⟨rfl, rfl, rfl, rfl, rfl, rfl, trivial⟩ ⟨rfl, rfl, trivial⟩)
              refine s_off rfl rfl rfl rfl rfl ?_
              refine s_off rfl rfl rfl rfl rfl ?_
              refine s_off rfl rfl rfl rfl rfl ?_
              refine s_off rfl rfl rfl rfl rfl ?_
              refine s_off rfl rfl rfl rfl rfl ?_
              refine s_off rfl rfl rfl rfl rfl ?_
              refine s_offU rfl rfl rfl ?_
              refine s_offU rfl rfl rfl ?_
              refine s_offU rfl rfl rfl ?_
              refine s_off rfl rfl rfl rfl rfl ?_
              refine s_rd (r_pickF rfl rfl) rfl ?_
              refine as1 rfl rfl ?_
              refine l_nil (n_block (n_then (ref_region ?_)))
              refine mv1 rfl rfl ?_
              refine s_rd (r_add rfl rfl) rfl ?_
              refine as1 rfl rfl ?_
              refine b_let (f := iv .i64) (t := 7) rfl fun b218 => ?_
              refine l_nil ?_
              exact goB () (weak [0, 1] ⟨rfl, rfl, rfl, rfl, rfl, rfl, trivial⟩ ⟨rfl, rfl, trivial⟩)
            refine ref_exit (x_then ?_)
            exact brkB () (weak [0, 1] ⟨rfl, rfl, rfl, rfl, rfl, trivial⟩ ⟨rfl, rfl, trivial⟩)
          refine n_then (ref_seq (ref_region ?_))
          refine mv1 rfl rfl ?_
          refine l_nil (n_then ?_)
          refine ref_cond rfl (fun hb221 => ?_) (fun hb221 => ?_)
          · refine ref_region ?_
            refine mv1 rfl rfl ?_
            refine mv1 rfl rfl ?_
            refine s_st (s_bslice (xs := [.tmp 45]) (ds := [s202.1]) Tryd.underlying22 el_3 rfl (Nat.le_of_ble_eq_true rfl) ⟨(part_at rfl iv_at), trivial⟩) rfl (fun _ => ?_)
            refine pull fun out222 h_out222 => ?_
            refine s_st (s_append h_out222 Tryd.underlying22 el_3 rfl (j := 1) rfl rfl) rfl (fun o223 => ?_)
            refine as1 rfl rfl ?_
            refine l_nil (n_block (n_then (ref_region ?_)))
            refine mv1 rfl rfl ?_
            refine s_rd (r_add rfl rfl) rfl ?_
            refine as1 rfl rfl ?_
            refine b_let (f := iv .i64) (t := 5) rfl fun a_224 => ?_
            refine l_nil ?_
            exact goB o223 (weak [0, 1] ⟨rfl, rfl, rfl, rfl, trivial⟩ ⟨rfl, rfl, trivial⟩)
          refine ref_skip (n_block (n_then (ref_region ?_)))
          refine mv1 rfl rfl ?_
          refine s_rd (r_add rfl rfl) rfl ?_
          refine as1 rfl rfl ?_
          refine b_let (f := iv .i64) (t := 5) rfl fun a_225 => ?_
          refine l_nil ?_
          exact goB x203 (weak [0, 1] ⟨rfl, rfl, rfl, rfl, trivial⟩ ⟨rfl, rfl, trivial⟩)
        refine ref_exit (x_then ?_)
        exact brkB x203 (weak [0, 1] ⟨rfl, rfl, rfl, trivial⟩ ⟨rfl, rfl, trivial⟩)
      refine n_block (n_then (ref_region ?_))
      refine mv1 rfl rfl ?_
      refine s_rd (r_add rfl rfl) rfl ?_
      refine as1 rfl rfl ?_
      refine b_let (f := iv .i64) (t := 4) rfl fun round228 => ?_
      refine l_nil ?_
      exact goB y227 (weak [0, 1] ⟨rfl, rfl, rfl, trivial⟩ ⟨rfl, rfl, trivial⟩)
    refine ref_exit (x_then ?_)
    exact brkB x154 (weak [1] ⟨rfl, trivial⟩ ⟨rfl, trivial⟩)
  refine n_then (ref_seq (ref_region ?_))
  refine mv1 rfl rfl ?_
  refine as1 rfl rfl ?_
  refine l_nil (n_then (ref_ret ?_))
  exact fin1 (.inl rfl) y230 [0] rfl ⟨rfl, trivial⟩ rfl (rv_tmp rfl)

/-! deliberation/deliberationref22.product -/
noncomputable def ref22_product_m (a__0 : Int) (b_1 : Int) : Option (Int × Bool) :=
  bif a__0 != 0 then
    Option.bind (iquoM .i64 4611686018427387904 a__0) fun t1 =>
    bif decide (b_1 > t1) then
      some (0, false)
    else
      letM (imul .i64 a__0 b_1) fun t3 =>
      some (t3, true)
  else
    letM (imul .i64 a__0 b_1) fun t4 =>
    some (t4, true)

theorem ref22_product_ok {a__0 : Int} {b_1 : Int} {r : Int × Bool} (hm : ref22_product_m a__0 b_1 = some r) :
    FnOk prog 56 [iv .i64 a__0, iv .i64 b_1] [] (fun (x : Unit) => [iv .i64 r.1, bv r.2]) (fun (x : Unit) => []) := by
  refine fn_ok (fn := Tryd.f56) (N := 17) (res := fun r x => [iv .i64 r.1, bv r.2]) (Ω1 := fun r x => []) Tryd.func56 rfl rfl hm rfl (fun E hM => ?_)
  unfold ref22_product_m
  refine ref_seq (ref_region ?_)
  refine as1 rfl rfl ?_
  refine as1 rfl rfl ?_
  refine l_nil (n_then (ref_seq (ref_seq (ref_region ?_))))
  refine mv1 rfl rfl ?_
  refine s_rd (r_neq rfl rfl) rfl ?_
  refine mv1 rfl rfl ?_
  refine b_split (t := 8) rfl (fun _ => ?_) (fun _ => ?_)
  · refine s_on rfl rfl rfl ?_
    refine mv1 rfl rfl ?_
    refine s_on rfl rfl rfl ?_
    refine mv1 rfl rfl ?_
    refine s_on rfl rfl rfl ?_
    refine pull fun t1 h_t1 => ?_
    refine s_rd (r_quoM h_t1 rfl rfl) rfl ?_
    refine s_on rfl rfl rfl ?_
    refine s_rd (r_gtr rfl rfl) rfl ?_
    refine s_rd (r_pickT rfl rfl) rfl ?_
    refine l_nil (n_then ?_)
    refine ref_cond rfl (fun hb2 => ?_) (fun hb2 => ?_)
    · refine ref_seq (ref_region ?_)
      refine as1 rfl rfl ?_
      refine as1 rfl rfl ?_
      refine l_nil (n_then (ref_ret (r_then ?_)))
      exact fin2 (.inl rfl) () [] rfl trivial rfl (rv_tmp rfl) (rv_tmp rfl)
    refine ref_skip (n_then (ref_seq (ref_region ?_)))
    refine mv1 rfl rfl ?_
    refine mv1 rfl rfl ?_
    refine s_rd (r_mul rfl rfl) rfl ?_
    refine as1 rfl rfl ?_
    refine b_let (f := iv .i64) (t := 4) rfl fun t3 => ?_
    refine as1 rfl rfl ?_
    refine l_nil (n_then (ref_ret ?_))
    exact fin2 (.inl rfl) () [] rfl trivial rfl (rv_tmp rfl) (rv_tmp rfl)
  refine s_off rfl rfl rfl rfl rfl ?_
  refine s_off rfl rfl rfl rfl rfl ?_
  refine s_off rfl rfl rfl rfl rfl ?_
  refine s_off rfl rfl rfl rfl rfl ?_
  refine s_rd (r_pickF rfl rfl) rfl ?_
  refine l_nil (n_then ?_)
  refine ref_condF rfl rfl ?_
  refine ref_skip (n_then (ref_seq (ref_region ?_)))
  refine mv1 rfl rfl ?_
  refine mv1 rfl rfl ?_
  refine s_rd (r_mul rfl rfl) rfl ?_
  refine as1 rfl rfl ?_
  refine b_let (f := iv .i64) (t := 4) rfl fun t4 => ?_
  refine as1 rfl rfl ?_
  refine l_nil (n_then (ref_ret ?_))
  exact fin2 (.inl rfl) () [] rfl trivial rfl (rv_tmp rfl) (rv_tmp rfl)

/-! deliberation/deliberationref22.gcd -/
noncomputable def ref22_gcd_l1  (s5 : Int × Int) : Option (Sum (Int) (Int × Int)) :=
  bif s5.2 != 0 then
    Option.bind (iremM .i64 s5.1 s5.2) fun b8 =>
    some (Sum.inr (s5.2, b8))
  else
    some (Sum.inl s5.1)

noncomputable def ref22_gcd_m (a__0 : Int) (b_1 : Int) : Option (Int) :=
  Option.bind (loopC (ref22_gcd_l1) (a__0, b_1)) fun q9 : Int =>
  some q9

theorem ref22_gcd_ok {a__0 : Int} {b_1 : Int} {r : Int} (hm : ref22_gcd_m a__0 b_1 = some r) :
    FnOk prog 81 [iv .i64 a__0, iv .i64 b_1] [] (fun (x : Unit) => [iv .i64 r]) (fun (x : Unit) => []) := by
  refine fn_ok (fn := Tryd.f81) (N := 12) (res := fun r x => [iv .i64 r]) (Ω1 := fun r x => []) Tryd.func81 rfl rfl hm rfl (fun E hM => ?_)
  unfold ref22_gcd_m
  refine ref_seq (ref_region ?_)
  refine as1 rfl rfl ?_
  refine l_nil (n_then (ref_seq ?_))
  refine ref_loopB (f := (ref22_gcd_l1)) (Γl := (fun (s5 : Int × Int) (x6 : Unit) => [(0, iv .i64 s5.1), (1, iv .i64 s5.2)])) (Ωl := (fun (s5 : Int × Int) (x6 : Unit) => [])) (Γb := (fun (q9 : Int) (y10 : Unit) => [(0, iv .i64 q9)])) (Ωb := (fun (q9 : Int) (y10 : Unit) => [])) (a__0, b_1) () (weak [] ⟨rfl, rfl, trivial⟩ trivial) (fun s5 x6 => ?_) (fun q9 y10 => ?_)
  · unfold ref22_gcd_l1
    refine ref_seq (ref_seq (ref_region ?_))
    refine mv1 rfl rfl ?_
    refine s_rd (r_neq rfl rfl) rfl ?_
    refine l_nil (n_then ?_)
    refine ref_cond rfl (fun hb7 => ?_) (fun hb7 => ?_)
    · refine ref_skip (n_then (ref_block ?_))
      refine ref_draw [0, 1, 2, 3] rfl (by kernel_rfl) (fun hok => ?_)
      refine a_rd (i := 0) hok rfl (by kernel_rfl) rfl (r_move rfl) rfl ?_
      refine a_rd (i := 1) hok rfl (by kernel_rfl) rfl (r_move rfl) rfl ?_
      refine a_rd (i := 2) hok rfl (by kernel_rfl) rfl (r_move rfl) rfl ?_
      refine pull fun b8 h_b8 => ?_
      refine a_rd (i := 3) hok rfl (by kernel_rfl) rfl (r_remM h_b8 rfl rfl) rfl ?_
      refine a_next hok 4 [] (by kernel_rfl) ?_ trivial
      refine a_st (i := 4) hok rfl rfl (St.ofRd (r_assign rfl)) (by intro _ h; cases h; rfl) (fun _ => ⟨trivial, ⟨trivial, ⟨trivial, ⟨trivial, trivial⟩⟩⟩⟩) (fun _ => ?_)
      refine a_next hok 5 [] (by kernel_rfl) ?_ trivial
      refine a_st (i := 5) hok rfl rfl (St.ofRd (r_assign rfl)) (by intro _ h; cases h; rfl) (fun _ => ⟨trivial, ⟨trivial, ⟨trivial, ⟨trivial, trivial⟩⟩⟩⟩) (fun _ => ?_)
      refine a_fin hok (by kernel_rfl) ?_
      refine n_block ?_
      exact goB () (weak [] ⟨rfl, rfl, trivial⟩ trivial)
    refine ref_exit (x_then ?_)
    exact brkB () (weak [] ⟨rfl, trivial⟩ trivial)
  refine n_then (ref_seq (ref_region ?_))
  refine mv1 rfl rfl ?_
  refine as1 rfl rfl ?_
  refine l_nil (n_then (ref_ret ?_))
  exact fin1 (.inl rfl) () [] rfl trivial rfl (rv_tmp rfl)

/-! deliberation/deliberationref22.Reduced -/
noncomputable def ref22_Reduced_m (n_0 : Int) (d_1 : Int) : Option (T_api_Fraction) :=
  Option.bind (ref22_gcd_m n_0 d_1) fun k2 =>
  Option.bind (iquoM .i64 n_0 k2) fun t3 =>
  Option.bind (iquoM .i64 d_1 k2) fun t4 =>
  some (T_api_Fraction.mk t3 t4)

theorem ref22_Reduced_ok {n_0 : Int} {d_1 : Int} {r : T_api_Fraction} (hm : ref22_Reduced_m n_0 d_1 = some r) :
    FnOk prog 55 [iv .i64 n_0, iv .i64 d_1] [] (fun (x : Unit) => [ag [iv .i64 r.Num, iv .i64 r.Den]]) (fun (x : Unit) => []) := by
  refine fn_ok (fn := Tryd.f55) (N := 16) (res := fun r x => [ag [iv .i64 r.Num, iv .i64 r.Den]]) (Ω1 := fun r x => []) Tryd.func55 rfl rfl hm rfl (fun E hM => ?_)
  unfold ref22_Reduced_m
  refine ref_seq (ref_region ?_)
  refine s_st (s_alloc zt_53) rfl (fun b1 => ?_)
  refine l_nil (n_then (ref_seq (ref_region ?_)))
  refine mv1 rfl rfl ?_
  refine mv1 rfl rfl ?_
  refine pull fun k2 h_k2 => ?_
  refine s_st (s_call (ψ := fun (_ : Unit) => iv .i64 k2) (args := [.tmp 6, .tmp 7]) Tryd.call81 rfl (ref22_gcd_ok h_k2) ⟨arg rfl, arg rfl, trivial⟩ (fun _ _ _ _ h => h)) rfl (fun _ => ?_)
  refine as1 rfl rfl ?_
  refine l_nil (n_then (ref_seq ?_))
  refine ref_draw [0, 1, 2, 3, 4, 5, 6] rfl (by kernel_rfl) (fun hok => ?_)
  refine a_rd (i := 0) hok rfl (by kernel_rfl) rfl (r_move rfl) rfl ?_
  refine a_rd (i := 1) hok rfl (by kernel_rfl) rfl (r_move rfl) rfl ?_
  refine pull fun t3 h_t3 => ?_
  refine a_rd (i := 2) hok rfl (by kernel_rfl) rfl (r_quoM h_t3 rfl rfl) rfl ?_
  refine a_rd (i := 3) hok rfl (by kernel_rfl) rfl (r_move rfl) rfl ?_
  refine a_rd (i := 4) hok rfl (by kernel_rfl) rfl (r_move rfl) rfl ?_
  refine pull fun t4 h_t4 => ?_
  refine a_rd (i := 5) hok rfl (by kernel_rfl) rfl (r_quoM h_t4 rfl rfl) rfl ?_
  refine a_rd (i := 6) hok rfl (by kernel_rfl) rfl (r_build (ps := [(0, .tmp 11), (1, .tmp 14)]) (rs := [(0, [iv .i64 t3]), (1, [iv .i64 t4])]) st_53 zs_53 ⟨rfl, (part_at rfl iv_at), ⟨rfl, (part_at rfl iv_at), trivial⟩⟩ rfl rfl) rfl ?_
  refine a_next hok 7 [] (by kernel_rfl) ?_ trivial
  refine a_st (i := 7) hok rfl rfl (s_cstore (out := [iv .i64 t3, iv .i64 t4]) Tryd.sizeOf53 rfl (j := 0) rfl (part_agO (ψs := [iv .i64 t3, iv .i64 t4]) rfl ⟨.inl iv_at, .inl iv_at, trivial⟩) rfl rfl rfl) (by intro _ h; cases h) (fun _ => ⟨trivial, ⟨trivial, ⟨trivial, ⟨trivial, ⟨trivial, ⟨trivial, ⟨trivial, trivial⟩⟩⟩⟩⟩⟩⟩) (fun _ => ?_)
  refine a_fin hok (by kernel_rfl) ?_
  refine n_then (ref_ret ?_)
  exact fin1 (.inl rfl) () [] rfl trivial rfl (rv_cell rfl (j := 0) rfl Tryd.isAgg53 Tryd.sizeOf53 rfl rfl)

/-! deliberation/deliberationref22.within -/
noncomputable def ref22_within_m (f_0 : T_api_Fraction) : Option (Bool) :=
  bif decide (f_0.Num ≤ 1099511627776) then
    letM (decide (f_0.Den ≤ 1099511627776)) fun t2 =>
    some t2
  else
    some false

theorem ref22_within_ok {f_0 : T_api_Fraction} {r : Bool} (hm : ref22_within_m f_0 = some r) :
    FnOk prog 57 [ag [iv .i64 f_0.Num, iv .i64 f_0.Den]] [] (fun (x : Unit) => [bv r]) (fun (x : Unit) => []) := by
  refine fn_ok (fn := Tryd.f57) (N := 11) (res := fun r x => [bv r]) (Ω1 := fun r x => []) Tryd.func57 rfl rfl hm rfl (fun E hM => ?_)
  unfold ref22_within_m
  refine ref_seq (ref_region ?_)
  refine s_st (s_box (part_agO (ψs := [iv .i64 f_0.Num, iv .i64 f_0.Den]) rfl ⟨.inl iv_at, .inl iv_at, trivial⟩)) rfl (fun b1 => ?_)
  refine as1 rfl rfl ?_
  refine l_nil (n_then (ref_seq (ref_region ?_)))
  refine s_rd (r_faddr (fo := 0) Tryd.underlying53 rfl rfl Tryd.sizeOf3 rfl) rfl ?_
  refine s_rd (r_cload Tryd.isAgg3 rfl (j := 0) rfl rfl) rfl ?_
  refine s_rd (r_leq rfl rfl) rfl ?_
  refine mv1 rfl rfl ?_
  refine b_split (t := 6) rfl (fun _ => ?_) (fun _ => ?_)
  · refine s_on rfl rfl rfl ?_
    refine s_rd (r_faddr (fo := 1) Tryd.underlying53 rfl rfl Tryd.sizeOf3 rfl) rfl ?_
    refine s_on rfl rfl rfl ?_
    refine s_rd (r_cload Tryd.isAgg3 rfl (j := 0) rfl rfl) rfl ?_
    refine s_on rfl rfl rfl ?_
    refine s_rd (r_leq rfl rfl) rfl ?_
    refine s_rd (r_pickT rfl rfl) rfl ?_
    refine as1 rfl rfl ?_
    refine b_let (f := bv) (t := 2) rfl fun t2 => ?_
    refine l_nil (n_then (ref_ret ?_))
    exact fin1 (.inl rfl) () [] rfl trivial rfl (rv_tmp rfl)
  refine s_off rfl rfl rfl rfl rfl ?_
  refine s_off rfl rfl rfl rfl rfl ?_
  refine s_off rfl rfl rfl rfl rfl ?_
  refine s_rd (r_pickF rfl rfl) rfl ?_
  refine as1 rfl rfl ?_
  refine l_nil (n_then (ref_ret ?_))
  exact fin1 (.inl rfl) () [] rfl trivial rfl (rv_tmp rfl)

/-! deliberation/deliberationref22.add -/
noncomputable def ref22_add_m (a__0 : T_api_Fraction) (b_1 : T_api_Fraction) : Option (T_api_Fraction × Bool) :=
  Option.bind (ref22_product_m a__0.Num b_1.Den) fun t4 =>
  Option.bind (ref22_product_m b_1.Num a__0.Den) fun t5 =>
  Option.bind (ref22_product_m a__0.Den b_1.Den) fun t6 =>
  bif !t4.2 then
    some ((T_api_Fraction.mk 0 0), false)
  else
    bif !t5.2 then
      some ((T_api_Fraction.mk 0 0), false)
    else
      bif !t6.2 then
        some ((T_api_Fraction.mk 0 0), false)
      else
        bif decide (t4.1 > (isub .i64 4611686018427387904 t5.1)) then
          some ((T_api_Fraction.mk 0 0), false)
        else
          Option.bind (ref22_Reduced_m (iadd .i64 t4.1 t5.1) t6.1) fun t8 =>
          Option.bind (ref22_within_m t8) fun t10 =>
          some (t8, t10)

theorem ref22_add_ok {a__0 : T_api_Fraction} {b_1 : T_api_Fraction} {r : T_api_Fraction × Bool} (hm : ref22_add_m a__0 b_1 = some r) :
    FnOk prog 54 [ag [iv .i64 a__0.Num, iv .i64 a__0.Den], ag [iv .i64 b_1.Num, iv .i64 b_1.Den]] [] (fun (x : Unit) => [ag [iv .i64 r.1.Num, iv .i64 r.1.Den], bv r.2]) (fun (x : Unit) => []) := by
  refine fn_ok (fn := Tryd.f54) (N := 62) (res := fun r x => [ag [iv .i64 r.1.Num, iv .i64 r.1.Den], bv r.2]) (Ω1 := fun r x => []) Tryd.func54 rfl rfl hm rfl (fun E hM => ?_)
  unfold ref22_add_m
  refine ref_seq (ref_region ?_)
  refine s_st (s_box (part_agO (ψs := [iv .i64 a__0.Num, iv .i64 a__0.Den]) rfl ⟨.inl iv_at, .inl iv_at, trivial⟩)) rfl (fun b1 => ?_)
  refine s_st (s_box (part_agO (ψs := [iv .i64 b_1.Num, iv .i64 b_1.Den]) rfl ⟨.inl iv_at, .inl iv_at, trivial⟩)) rfl (fun b2 => ?_)
  refine s_st (s_alloc zt_53) rfl (fun b3 => ?_)
  refine as1 rfl rfl ?_
  refine l_nil (n_then (ref_seq (ref_region ?_)))
  refine s_rd (r_faddr (fo := 0) Tryd.underlying53 rfl rfl Tryd.sizeOf3 rfl) rfl ?_
  refine s_rd (r_cload Tryd.isAgg3 rfl (j := 0) rfl rfl) rfl ?_
  refine s_rd (r_faddr (fo := 1) Tryd.underlying53 rfl rfl Tryd.sizeOf3 rfl) rfl ?_
  refine s_rd (r_cload Tryd.isAgg3 rfl (j := 1) rfl rfl) rfl ?_
  refine pull fun t4 h_t4 => ?_
  refine s_st (s_call (ψ := fun (_ : Unit) => tup [iv .i64 t4.1, bv t4.2]) (args := [.tmp 15, .tmp 17]) Tryd.call56 rfl (ref22_product_ok h_t4) ⟨arg rfl, arg rfl, trivial⟩ (fun _ _ _ _ h => h)) rfl (fun _ => ?_)
  refine mv1 rfl rfl ?_
  refine s_rd (r_extract rfl rfl) rfl ?_
  refine s_rd (r_extract rfl rfl) rfl ?_
  refine as1 rfl rfl ?_
  refine as1 rfl rfl ?_
  refine l_nil ?_
  refine b_of (nrm [oc b1 [iv .i64 a__0.Num, iv .i64 a__0.Den], oc b2 [iv .i64 b_1.Num, iv .i64 b_1.Den], oc b3 [iv .i64 0, iv .i64 0]] rfl) ?_
  refine n_then (ref_seq (ref_region ?_))
  refine s_rd (r_faddr (fo := 0) Tryd.underlying53 rfl rfl Tryd.sizeOf3 rfl) rfl ?_
  refine s_rd (r_cload Tryd.isAgg3 rfl (j := 1) rfl rfl) rfl ?_
  refine s_rd (r_faddr (fo := 1) Tryd.underlying53 rfl rfl Tryd.sizeOf3 rfl) rfl ?_
  refine s_rd (r_cload Tryd.isAgg3 rfl (j := 0) rfl rfl) rfl ?_
  refine pull fun t5 h_t5 => ?_
  refine s_st (s_call (ψ := fun (_ : Unit) => tup [iv .i64 t5.1, bv t5.2]) (args := [.tmp 23, .tmp 25]) Tryd.call56 rfl (ref22_product_ok h_t5) ⟨arg rfl, arg rfl, trivial⟩ (fun _ _ _ _ h => h)) rfl (fun _ => ?_)
  refine mv1 rfl rfl ?_
  refine s_rd (r_extract rfl rfl) rfl ?_
  refine s_rd (r_extract rfl rfl) rfl ?_
  refine as1 rfl rfl ?_
  refine as1 rfl rfl ?_
  refine l_nil (n_then (ref_seq (ref_region ?_)))
  refine s_rd (r_faddr (fo := 1) Tryd.underlying53 rfl rfl Tryd.sizeOf3 rfl) rfl ?_
  refine s_rd (r_cload Tryd.isAgg3 rfl (j := 0) rfl rfl) rfl ?_
  refine s_rd (r_faddr (fo := 1) Tryd.underlying53 rfl rfl Tryd.sizeOf3 rfl) rfl ?_
  refine s_rd (r_cload Tryd.isAgg3 rfl (j := 1) rfl rfl) rfl ?_
  refine pull fun t6 h_t6 => ?_
  refine s_st (s_call (ψ := fun (_ : Unit) => tup [iv .i64 t6.1, bv t6.2]) (args := [.tmp 31, .tmp 33]) Tryd.call56 rfl (ref22_product_ok h_t6) ⟨arg rfl, arg rfl, trivial⟩ (fun _ _ _ _ h => h)) rfl (fun _ => ?_)
  refine mv1 rfl rfl ?_
  refine s_rd (r_extract rfl rfl) rfl ?_
  refine s_rd (r_extract rfl rfl) rfl ?_
  refine as1 rfl rfl ?_
  refine as1 rfl rfl ?_
  refine l_nil (n_then (ref_seq (ref_seq (ref_region ?_))))
  refine mv1 rfl rfl ?_
  refine s_rd (r_not rfl) rfl ?_
  refine mv1 rfl rfl ?_
  refine b_split (t := 39) rfl (fun _ => ?_) (fun _ => ?_)
  · refine s_off rfl rfl rfl rfl rfl ?_
    refine s_off rfl rfl rfl rfl rfl ?_
    refine s_rd (r_pickT rfl rfl) rfl ?_
    refine mv1 rfl rfl ?_
    refine s_off rfl rfl rfl rfl rfl ?_
    refine s_off rfl rfl rfl rfl rfl ?_
    refine s_rd (r_pickT rfl rfl) rfl ?_
    refine mv1 rfl rfl ?_
    refine s_off rfl rfl rfl rfl rfl ?_
    refine s_off rfl rfl rfl rfl rfl ?_
    refine s_off rfl rfl rfl rfl rfl ?_
    refine s_off rfl rfl rfl rfl rfl ?_
    refine s_rd (r_pickT rfl rfl) rfl ?_
    refine l_nil (n_then ?_)
    refine ref_condT rfl rfl ?_
    refine ref_seq (ref_region ?_)
    refine s_rd (r_build (ps := []) (rs := []) st_53 zs_53 trivial rfl rfl) rfl ?_
    refine s_st0 (s_cstore (out := [iv .i64 0, iv .i64 0]) Tryd.sizeOf53 rfl (j := 2) rfl (part_agO (ψs := [iv .i64 0, iv .i64 0]) rfl ⟨.inl iv_at, .inl iv_at, trivial⟩) rfl rfl rfl) (fun _ => ?_)
    refine as1 rfl rfl ?_
    refine l_nil (n_then (ref_ret (r_then ?_)))
    exact fin2 (.inl rfl) () [] rfl trivial rfl (rv_cell rfl (j := 2) rfl Tryd.isAgg53 Tryd.sizeOf53 rfl rfl) (rv_tmp rfl)
  refine s_on rfl rfl rfl ?_
  refine mv1 rfl rfl ?_
  refine s_on rfl rfl rfl ?_
  refine s_rd (r_not rfl) rfl ?_
  refine s_rd (r_pickF rfl rfl) rfl ?_
  refine mv1 rfl rfl ?_
  refine b_split (t := 43) rfl (fun _ => ?_) (fun _ => ?_)
  · refine s_off rfl rfl rfl rfl rfl ?_
    refine s_off rfl rfl rfl rfl rfl ?_
    refine s_rd (r_pickT rfl rfl) rfl ?_
    refine mv1 rfl rfl ?_
    refine s_off rfl rfl rfl rfl rfl ?_
    refine s_off rfl rfl rfl rfl rfl ?_
    refine s_off rfl rfl rfl rfl rfl ?_
    refine s_off rfl rfl rfl rfl rfl ?_
    refine s_rd (r_pickT rfl rfl) rfl ?_
    refine l_nil (n_then ?_)
    refine ref_condT rfl rfl ?_
    refine ref_seq (ref_region ?_)
    refine s_rd (r_build (ps := []) (rs := []) st_53 zs_53 trivial rfl rfl) rfl ?_
    refine s_st0 (s_cstore (out := [iv .i64 0, iv .i64 0]) Tryd.sizeOf53 rfl (j := 2) rfl (part_agO (ψs := [iv .i64 0, iv .i64 0]) rfl ⟨.inl iv_at, .inl iv_at, trivial⟩) rfl rfl rfl) (fun _ => ?_)
    refine as1 rfl rfl ?_
    refine l_nil (n_then (ref_ret (r_then ?_)))
    exact fin2 (.inl rfl) () [] rfl trivial rfl (rv_cell rfl (j := 2) rfl Tryd.isAgg53 Tryd.sizeOf53 rfl rfl) (rv_tmp rfl)
  refine s_on rfl rfl rfl ?_
  refine mv1 rfl rfl ?_
  refine s_on rfl rfl rfl ?_
  refine s_rd (r_not rfl) rfl ?_
  refine s_rd (r_pickF rfl rfl) rfl ?_
  refine mv1 rfl rfl ?_
  refine b_split (t := 47) rfl (fun _ => ?_) (fun _ => ?_)
  · refine s_off rfl rfl rfl rfl rfl ?_
    refine s_off rfl rfl rfl rfl rfl ?_
    refine s_off rfl rfl rfl rfl rfl ?_
    refine s_off rfl rfl rfl rfl rfl ?_
    refine s_rd (r_pickT rfl rfl) rfl ?_
    refine l_nil (n_then ?_)
    refine ref_condT rfl rfl ?_
    refine ref_seq (ref_region ?_)
    refine s_rd (r_build (ps := []) (rs := []) st_53 zs_53 trivial rfl rfl) rfl ?_
    refine s_st0 (s_cstore (out := [iv .i64 0, iv .i64 0]) Tryd.sizeOf53 rfl (j := 2) rfl (part_agO (ψs := [iv .i64 0, iv .i64 0]) rfl ⟨.inl iv_at, .inl iv_at, trivial⟩) rfl rfl rfl) (fun _ => ?_)
    refine as1 rfl rfl ?_
    refine l_nil (n_then (ref_ret (r_then ?_)))
    exact fin2 (.inl rfl) () [] rfl trivial rfl (rv_cell rfl (j := 2) rfl Tryd.isAgg53 Tryd.sizeOf53 rfl rfl) (rv_tmp rfl)
  refine s_on rfl rfl rfl ?_
  refine mv1 rfl rfl ?_
  refine s_on rfl rfl rfl ?_
  refine mv1 rfl rfl ?_
  refine s_on rfl rfl rfl ?_
  refine s_rd (r_sub rfl rfl) rfl ?_
  refine s_on rfl rfl rfl ?_
  refine s_rd (r_gtr rfl rfl) rfl ?_
  refine s_rd (r_pickF rfl rfl) rfl ?_
  refine l_nil (n_then ?_)
  refine ref_cond rfl (fun hb7 => ?_) (fun hb7 => ?_)
  · refine ref_seq (ref_region ?_)
    refine s_rd (r_build (ps := []) (rs := []) st_53 zs_53 trivial rfl rfl) rfl ?_
    refine s_st0 (s_cstore (out := [iv .i64 0, iv .i64 0]) Tryd.sizeOf53 rfl (j := 2) rfl (part_agO (ψs := [iv .i64 0, iv .i64 0]) rfl ⟨.inl iv_at, .inl iv_at, trivial⟩) rfl rfl rfl) (fun _ => ?_)
    refine as1 rfl rfl ?_
    refine l_nil (n_then (ref_ret (r_then ?_)))
    exact fin2 (.inl rfl) () [] rfl trivial rfl (rv_cell rfl (j := 2) rfl Tryd.isAgg53 Tryd.sizeOf53 rfl rfl) (rv_tmp rfl)
  refine ref_skip (n_then (ref_seq (ref_region ?_)))
  refine mv1 rfl rfl ?_
  refine mv1 rfl rfl ?_
  refine s_rd (r_add rfl rfl) rfl ?_
  refine mv1 rfl rfl ?_
  refine pull fun t8 h_t8 => ?_
  refine s_st (s_call (ψ := fun (_ : Unit) => ag [iv .i64 t8.Num, iv .i64 t8.Den]) (args := [.tmp 56, .tmp 57]) Tryd.call55 rfl (ref22_Reduced_ok h_t8) ⟨arg rfl, arg rfl, trivial⟩ (fun _ _ _ _ h => h)) rfl (fun _ => ?_)
  refine s_st (s_alloc zt_53) rfl (fun b9 => ?_)
  refine s_st0 (s_cstore (out := [iv .i64 t8.Num, iv .i64 t8.Den]) Tryd.sizeOf53 rfl (j := 3) rfl (part_agO (ψs := [iv .i64 t8.Num, iv .i64 t8.Den]) rfl ⟨.inl iv_at, .inl iv_at, trivial⟩) rfl rfl rfl) (fun _ => ?_)
  refine l_nil ?_
  refine b_of (nrm [oc b1 [iv .i64 a__0.Num, iv .i64 a__0.Den], oc b2 [iv .i64 b_1.Num, iv .i64 b_1.Den], oc b3 [iv .i64 0, iv .i64 0], oc b9 [iv .i64 t8.Num, iv .i64 t8.Den]] rfl) ?_
  refine n_then (ref_seq ?_)
  refine ref_draw [0, 1] rfl (by kernel_rfl) (fun hok => ?_)
  refine a_rd (i := 0) hok rfl (by kernel_rfl) rfl (r_cloadS Tryd.isAgg53 Tryd.sizeOf53 rfl (j := 3) rfl rfl rfl) rfl ?_
  refine a_rd (i := 1) hok rfl (by kernel_rfl) rfl (r_cloadS Tryd.isAgg53 Tryd.sizeOf53 rfl (j := 3) rfl rfl rfl) rfl ?_
  refine pull fun t10 h_t10 => ?_
  refine a_next hok 2 [] (by kernel_rfl) ?_ trivial
  refine a_st (i := 2) hok rfl rfl (s_call (ψ := fun (_ : Unit) => bv t10) (args := [.tmp 60]) Tryd.call57 rfl (ref22_within_ok h_t10) ⟨arg rfl, trivial⟩ (fun _ _ _ _ h => h)) (by intro _ h; cases h; rfl) (fun _ => ⟨trivial, ⟨⟨⟨rfl, rfl⟩, trivial⟩, trivial⟩⟩) (fun _ => ?_)
  refine a_next hok 3 [] (by kernel_rfl) ?_ trivial
  refine a_st (i := 3) hok rfl rfl (s_cstore (out := [iv .i64 t8.Num, iv .i64 t8.Den]) Tryd.sizeOf53 rfl (j := 2) rfl (part_agO (ψs := [iv .i64 t8.Num, iv .i64 t8.Den]) rfl ⟨.inl iv_at, .inl iv_at, trivial⟩) rfl rfl rfl) (by intro _ h; cases h) (fun _ => ⟨⟨⟨rfl, rfl⟩, trivial⟩, ⟨trivial, trivial⟩⟩) (fun _ => ?_)
  refine a_next hok 4 [] (by kernel_rfl) ?_ trivial
  refine a_st (i := 4) hok rfl rfl (St.ofRd (r_assign rfl)) (by intro _ h; cases h; rfl) (fun _ => ⟨trivial, ⟨trivial, trivial⟩⟩) (fun _ => ?_)
  refine a_fin hok (by kernel_rfl) ?_
  refine n_then (ref_ret ?_)
  exact fin2 (.inl rfl) () [] rfl trivial rfl (rv_cell rfl (j := 2) rfl Tryd.isAgg53 Tryd.sizeOf53 rfl rfl) (rv_tmp rfl)

end Go.Dc
