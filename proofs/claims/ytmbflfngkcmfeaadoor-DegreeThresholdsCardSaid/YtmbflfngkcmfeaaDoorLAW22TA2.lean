/- Part LAW22T.A2 of a proof: lemmas. -/
import Derived.Test.YtmbflfngkcmfeaaDoorLAW22TA1
import Derived.Test.YtmbflfngkcmfeaaDoorProg
set_option linter.unusedVariables false
set_option maxRecDepth 100000
set_option maxHeartbeats 4000000
namespace Go.Dc
open Go.Proofs
open Go.Proofs.Tryd (prog)

/-! deliberation/deliberationref22.Budget -/
noncomputable def ref22_Budget_l2 (weights_1 : (List Int)) (l100 : List Int) (s108 : Int × Int) : Option (Sum (Int) (Int × Int)) :=
  bif decide (s108.2 < (l100.length : Int)) then
    Option.bind (idxM l100 s108.2) fun t111 =>
    Option.bind (idxM weights_1 t111) fun t112 =>
    letM (iadd .i64 s108.1 t112) fun sum113 =>
    letM (iadd .i64 s108.2 1) fun i114 =>
    some (Sum.inr (sum113, i114))
  else
    some (Sum.inl s108.1)

noncomputable def ref22_Budget_l1 (g_0 : T_api_Graph) (weights_1 : (List Int)) (node_2 : Int) (s96 : Bool × Int × Int × (List Int)) : Option (Sum (Int × (List Int)) (Bool × Int × Int × (List Int))) :=
  Option.bind (ishlM .u64 1 (IntKind.wrap .u64 (g_0.L.length : Int))) fun t98 =>
  bif decide (s96.2.1 < t98) then
    Option.bind (net_Members_m s96.2.1) fun l100 =>
    Option.bind (loopC (ref22_Budget_l2 weights_1 l100) (0, 0)) fun q115 : Int =>
    joinM (fun j119 : Unit =>
        Option.bind (ref22_Frees_m g_0 l100 node_2) fun t122 =>
        bif t122 then
          letM (iadd .u64 s96.2.1 1) fun bits126 =>
          some (Sum.inr (true, bits126, q115, l100))
        else
          letM (iadd .u64 s96.2.1 1) fun bits127 =>
          some (Sum.inr (s96.1, bits127, s96.2.2.1, s96.2.2.2))) fun k121 =>
    bif s96.1 then
      bif decide (q115 > s96.2.2.1) then
        letM (iadd .u64 s96.2.1 1) fun bits124 =>
        some (Sum.inr (s96.1, bits124, s96.2.2.1, s96.2.2.2))
      else
        bif q115 == s96.2.2.1 then
          Option.bind (ref22_Before_m l100 s96.2.2.2) fun t117 =>
          bif !t117 then
            letM (iadd .u64 s96.2.1 1) fun bits125 =>
            some (Sum.inr (s96.1, bits125, s96.2.2.1, s96.2.2.2))
          else
            k121 ()
        else
          k121 ()
    else
      k121 ()
  else
    some (Sum.inl (s96.2.2.1, s96.2.2.2))

noncomputable def ref22_Budget_m (g_0 : T_api_Graph) (weights_1 : (List Int)) (node_2 : Int) : Option (T_api_Budget × Int) :=
  Option.bind (ref10_Validate_m g_0) fun e3 =>
  bif e3 != 0 then
    some ((T_api_Budget.mk 0 []), e3)
  else
    bif decide ((g_0.L.length : Int) > 12) then
      some ((T_api_Budget.mk 0 []), 2)
    else
      Option.bind (ref22_Weights_m g_0 weights_1) fun t6 =>
      bif !t6 then
        some ((T_api_Budget.mk 0 []), 1)
      else
        bif decide (node_2 < 0) then
          some ((T_api_Budget.mk 0 []), 1)
        else
          bif decide (node_2 ≥ g_0.N) then
            some ((T_api_Budget.mk 0 []), 1)
          else
            Option.bind (loopC (ref22_Budget_l1 g_0 weights_1 node_2) (false, 0, 0, [])) fun q128 : Int × (List Int) =>
            some ((T_api_Budget.mk q128.1 q128.2), 0)

theorem ref22_Budget_ok {g_0 : T_api_Graph} {weights_1 : (List Int)} {node_2 : Int} {r : T_api_Budget × Int} (hm : ref22_Budget_m g_0 weights_1 node_2 = some r) :
    FnOk prog 25 [ag [iv .i64 g_0.N, slv rT_api_Pair g_0.L], slv (rI .i64) weights_1, iv .i64 node_2] [] (fun (x : Unit) => [ag [iv .i64 r.1.Weight, slv (rI .i64) r.1.Dropped], iv .i64 r.2]) (fun (x : Unit) => []) := by
  refine fn_ok (fn := Tryd.f25) (N := 95) (res := fun r x => [ag [iv .i64 r.1.Weight, slv (rI .i64) r.1.Dropped], iv .i64 r.2]) (Ω1 := fun r x => []) Tryd.func25 rfl rfl hm rfl (fun E hM => ?_)
  unfold ref22_Budget_m
  refine ref_seq (ref_region ?_)
  refine s_st (s_box (part_agO (ψs := [iv .i64 g_0.N, slv rT_api_Pair g_0.L]) rfl ⟨.inl iv_at, .inl slv_at, trivial⟩)) rfl (fun b1 => ?_)
  refine s_st (s_alloc zt_32) rfl (fun b2 => ?_)
  refine as1 rfl rfl ?_
  refine l_nil (n_then (ref_seq (ref_seq (ref_region ?_))))
  refine s_rd (r_cloadS Tryd.isAgg27 Tryd.sizeOf27 rfl (j := 0) rfl rfl rfl) rfl ?_
  refine pull fun e3 h_e3 => ?_
  refine s_st (s_call (ψ := fun (_ : Unit) => iv .i64 e3) (args := [.tmp 15]) Tryd.call52 rfl (ref10_Validate_ok h_e3) ⟨arg rfl, trivial⟩ (fun _ _ _ _ h => h)) rfl (fun _ => ?_)
  refine as1 rfl rfl ?_
  refine l_nil (n_then (ref_seq (ref_region ?_)))
  refine mv1 rfl rfl ?_
  refine s_rd (r_neq rfl rfl) rfl ?_
  refine l_nil (n_then ?_)
  refine ref_cond rfl (fun hb4 => ?_) (fun hb4 => ?_)
  · refine ref_seq (ref_region ?_)
    refine s_rd (r_build (ps := []) (rs := []) st_32 zs_32 trivial rfl rfl) rfl ?_
    refine mv1 rfl rfl ?_
    refine s_st0 (s_cstore (out := [iv .i64 0, pv (.slice none 0 0)]) Tryd.sizeOf32 rfl (j := 1) rfl (part_agO (ψs := [iv .i64 0, pv (.slice none 0 0)]) rfl ⟨.inl iv_at, .inl (pv_at rfl), trivial⟩) rfl rfl rfl) (fun _ => ?_)
    refine as1 rfl rfl ?_
    refine l_nil ?_
    refine b_of (nrm [oc b1 [iv .i64 g_0.N, slv rT_api_Pair g_0.L], oc b2 [iv .i64 0, pv (.slice none 0 0)]] rfl) ?_
    refine n_then (ref_ret (r_then ?_))
    refine b_of (ocW 1 [iv .i64 0, slv (rI .i64) []] rfl ⟨imp_rfl, nil_sl, trivial⟩) ?_
    exact fin2 (.inl rfl) () [] rfl trivial rfl (rv_cell rfl (j := 1) rfl Tryd.isAgg32 Tryd.sizeOf32 rfl rfl) (rv_tmp rfl)
  refine ref_skip (n_then (ref_seq (ref_seq (ref_region ?_))))
  refine s_rd (r_faddr (fo := 1) Tryd.underlying27 rfl rfl Tryd.sizeOf25 rfl) rfl ?_
  refine s_rd (r_cload Tryd.isAgg25 rfl (j := 0) rfl rfl) rfl ?_
  refine s_rd (r_len Tryd.underlying25 rfl) rfl ?_
  refine s_rd (r_gtr rfl rfl) rfl ?_
  refine l_nil (n_then ?_)
  refine ref_cond rfl (fun hb5 => ?_) (fun hb5 => ?_)
  · refine ref_seq (ref_region ?_)
    refine s_rd (r_build (ps := []) (rs := []) st_32 zs_32 trivial rfl rfl) rfl ?_
    refine s_st0 (s_cstore (out := [iv .i64 0, pv (.slice none 0 0)]) Tryd.sizeOf32 rfl (j := 1) rfl (part_agO (ψs := [iv .i64 0, pv (.slice none 0 0)]) rfl ⟨.inl iv_at, .inl (pv_at rfl), trivial⟩) rfl rfl rfl) (fun _ => ?_)
    refine as1 rfl rfl ?_
    refine l_nil ?_
    refine b_of (nrm [oc b1 [iv .i64 g_0.N, slv rT_api_Pair g_0.L], oc b2 [iv .i64 0, pv (.slice none 0 0)]] rfl) ?_
    refine n_then (ref_ret (r_then ?_))
    refine b_of (ocW 1 [iv .i64 0, slv (rI .i64) []] rfl ⟨imp_rfl, nil_sl, trivial⟩) ?_
    exact fin2 (.inl rfl) () [] rfl trivial rfl (rv_cell rfl (j := 1) rfl Tryd.isAgg32 Tryd.sizeOf32 rfl rfl) (rv_tmp rfl)
  refine ref_skip (n_then (ref_seq (ref_seq (ref_region ?_))))
  refine s_rd (r_cloadS Tryd.isAgg27 Tryd.sizeOf27 rfl (j := 0) rfl rfl rfl) rfl ?_
  refine mv1 rfl rfl ?_
  refine pull fun t6 h_t6 => ?_
  refine s_st (s_call (ψ := fun (_ : Unit) => bv t6) (args := [.tmp 26, .tmp 27]) Tryd.call58 rfl (ref22_Weights_ok h_t6) ⟨arg rfl, arg rfl, trivial⟩ (fun _ _ _ _ h => h)) rfl (fun _ => ?_)
  refine s_rd (r_not rfl) rfl ?_
  refine mv1 rfl rfl ?_
  refine b_split (t := 30) rfl (fun _ => ?_) (fun _ => ?_)
  · refine s_off rfl rfl rfl rfl rfl ?_
    refine s_off rfl rfl rfl rfl rfl ?_
    refine s_rd (r_pickT rfl rfl) rfl ?_
    refine mv1 rfl rfl ?_
    refine s_off rfl rfl rfl rfl rfl ?_
    refine s_off rfl rfl rfl rfl rfl ?_
    refine s_off rfl rfl rfl rfl rfl ?_
    refine s_off rfl rfl rfl rfl rfl ?_
    refine s_rd (r_pickT rfl rfl) rfl ?_
    refine l_nil ?_
    refine b_of (nrm [oc b1 [iv .i64 g_0.N, slv rT_api_Pair g_0.L], oc b2 [iv .i64 0, pv (.slice none 0 0)]] rfl) ?_
    refine n_then ?_
    refine ref_condT rfl rfl ?_
    refine ref_seq (ref_region ?_)
    refine s_rd (r_build (ps := []) (rs := []) st_32 zs_32 trivial rfl rfl) rfl ?_
    refine s_st0 (s_cstore (out := [iv .i64 0, pv (.slice none 0 0)]) Tryd.sizeOf32 rfl (j := 1) rfl (part_agO (ψs := [iv .i64 0, pv (.slice none 0 0)]) rfl ⟨.inl iv_at, .inl (pv_at rfl), trivial⟩) rfl rfl rfl) (fun _ => ?_)
    refine as1 rfl rfl ?_
    refine l_nil (n_then (ref_ret (r_then ?_)))
    refine b_of (ocW 1 [iv .i64 0, slv (rI .i64) []] rfl ⟨imp_rfl, nil_sl, trivial⟩) ?_
    exact fin2 (.inl rfl) () [] rfl trivial rfl (rv_cell rfl (j := 1) rfl Tryd.isAgg32 Tryd.sizeOf32 rfl rfl) (rv_tmp rfl)
  refine s_on rfl rfl rfl ?_
  refine mv1 rfl rfl ?_
  refine s_on rfl rfl rfl ?_
  refine s_rd (r_lss rfl rfl) rfl ?_
  refine s_rd (r_pickF rfl rfl) rfl ?_
  refine mv1 rfl rfl ?_
  refine b_split (t := 34) rfl (fun _ => ?_) (fun _ => ?_)
  · refine s_off rfl rfl rfl rfl rfl ?_
    refine s_off rfl rfl rfl rfl rfl ?_
    refine s_off rfl rfl rfl rfl rfl ?_
    refine s_off rfl rfl rfl rfl rfl ?_
    refine s_rd (r_pickT rfl rfl) rfl ?_
    refine l_nil ?_
    refine b_of (nrm [oc b1 [iv .i64 g_0.N, slv rT_api_Pair g_0.L], oc b2 [iv .i64 0, pv (.slice none 0 0)]] rfl) ?_
    refine n_then ?_
    refine ref_condT rfl rfl ?_
    refine ref_seq (ref_region ?_)
    refine s_rd (r_build (ps := []) (rs := []) st_32 zs_32 trivial rfl rfl) rfl ?_
    refine s_st0 (s_cstore (out := [iv .i64 0, pv (.slice none 0 0)]) Tryd.sizeOf32 rfl (j := 1) rfl (part_agO (ψs := [iv .i64 0, pv (.slice none 0 0)]) rfl ⟨.inl iv_at, .inl (pv_at rfl), trivial⟩) rfl rfl rfl) (fun _ => ?_)
    refine as1 rfl rfl ?_
    refine l_nil (n_then (ref_ret (r_then ?_)))
    refine b_of (ocW 1 [iv .i64 0, slv (rI .i64) []] rfl ⟨imp_rfl, nil_sl, trivial⟩) ?_
    exact fin2 (.inl rfl) () [] rfl trivial rfl (rv_cell rfl (j := 1) rfl Tryd.isAgg32 Tryd.sizeOf32 rfl rfl) (rv_tmp rfl)
  refine s_on rfl rfl rfl ?_
  refine mv1 rfl rfl ?_
  refine s_on rfl rfl rfl ?_
  refine s_rd (r_faddr (fo := 0) Tryd.underlying27 rfl rfl Tryd.sizeOf3 rfl) rfl ?_
  refine s_on rfl rfl rfl ?_
  refine s_rd (r_cload Tryd.isAgg3 rfl (j := 0) rfl rfl) rfl ?_
  refine s_on rfl rfl rfl ?_
  refine s_rd (r_geq rfl rfl) rfl ?_
  refine s_rd (r_pickF rfl rfl) rfl ?_
  refine l_nil ?_
  refine b_of (nrm [oc b1 [iv .i64 g_0.N, slv rT_api_Pair g_0.L], oc b2 [iv .i64 0, pv (.slice none 0 0)]] rfl) ?_
  refine n_then ?_
  refine ref_cond rfl (fun hb7 => ?_) (fun hb7 => ?_)
  · refine ref_seq (ref_region ?_)
    refine s_rd (r_build (ps := []) (rs := []) st_32 zs_32 trivial rfl rfl) rfl ?_
    refine s_st0 (s_cstore (out := [iv .i64 0, pv (.slice none 0 0)]) Tryd.sizeOf32 rfl (j := 1) rfl (part_agO (ψs := [iv .i64 0, pv (.slice none 0 0)]) rfl ⟨.inl iv_at, .inl (pv_at rfl), trivial⟩) rfl rfl rfl) (fun _ => ?_)
    refine as1 rfl rfl ?_
    refine l_nil (n_then (ref_ret (r_then ?_)))
    refine b_of (ocW 1 [iv .i64 0, slv (rI .i64) []] rfl ⟨imp_rfl, nil_sl, trivial⟩) ?_
    exact fin2 (.inl rfl) () [] rfl trivial rfl (rv_cell rfl (j := 1) rfl Tryd.isAgg32 Tryd.sizeOf32 rfl rfl) (rv_tmp rfl)
  refine ref_skip (n_then (ref_seq (ref_region ?_)))
  refine s_st (s_alloc zt_32) rfl (fun b8 => ?_)
  refine l_nil (n_then (ref_seq (ref_region ?_)))
  refine as1 rfl rfl ?_
  refine l_nil (n_then (ref_seq (ref_seq (ref_region ?_))))
  refine as1 rfl rfl ?_
  refine l_nil (n_then ?_)
  refine b_of (own_nil (rI .i64)) ?_
  refine ref_loopB (f := (ref22_Budget_l1 g_0 weights_1 node_2)) (Γl := (fun (s96 : Bool × Int × Int × (List Int)) (x97 : (Value × List Nat)) => [(1, slv (rI .i64) weights_1), (2, iv .i64 node_2), (3, pv (ptr b1 0)), (6, pv (ptr b2 0)), (9, pv (ptr b8 0)), (10, bv s96.1), (11, iv .u64 s96.2.1)])) (Ωl := (fun (s96 : Bool × Int × Int × (List Int)) (x97 : (Value × List Nat)) => [oc b1 [iv .i64 g_0.N, slv rT_api_Pair g_0.L], oc b2 [iv .i64 0, pv (.slice none 0 0)], oc b8 [iv .i64 s96.2.2.1, pv x97.1], oa (rI .i64) x97.1 x97.2 s96.2.2.2])) (Γb := (fun (q128 : Int × (List Int)) (y129 : (Value × List Nat)) => [(6, pv (ptr b2 0)), (9, pv (ptr b8 0))])) (Ωb := (fun (q128 : Int × (List Int)) (y129 : (Value × List Nat)) => [oc b2 [iv .i64 0, pv (.slice none 0 0)], oc b8 [iv .i64 q128.1, pv y129.1], oa (rI .i64) y129.1 y129.2 q128.2])) (false, 0, 0, []) ((.slice none 0 0), []) (weak [0, 1, 2, 3] ⟨rfl, rfl, rfl, rfl, rfl, rfl, rfl, trivial⟩ ⟨rfl, rfl, rfl, rfl, trivial⟩) (fun s96 x97 => ?_) (fun q128 y129 => ?_)
  · unfold ref22_Budget_l1
    refine ref_seq (ref_seq (ref_region ?_))
    refine mv1 rfl rfl ?_
    refine s_rd (r_faddr (fo := 1) Tryd.underlying27 rfl rfl Tryd.sizeOf25 rfl) rfl ?_
    refine s_rd (r_cload Tryd.isAgg25 rfl (j := 0) rfl rfl) rfl ?_
    refine s_rd (r_len Tryd.underlying25 rfl) rfl ?_
    refine s_rd (r_conv (k' := .u64) rfl rfl rfl) rfl ?_
    refine pull fun t98 h_t98 => ?_
    refine s_rd (r_shlM h_t98 rfl rfl) rfl ?_
    refine s_rd (r_lss rfl rfl) rfl ?_
    refine l_nil (n_then ?_)
    refine ref_cond rfl (fun hb99 => ?_) (fun hb99 => ?_)
    · refine ref_skip (n_then (ref_seq (ref_block (ref_seq (ref_region ?_)))))
      refine mv1 rfl rfl ?_
      refine pull fun l100 h_l100 => ?_
      refine s_st (s_call (ψ := fun (x101 : (Value × List Nat)) => pv x101.1) (args := [.tmp 50]) Tryd.call59 rfl (net_Members_ok h_l100) ⟨arg rfl, trivial⟩ (fun _ _ _ _ h => h)) rfl (fun x101 => ?_)
      refine as1 rfl rfl ?_
      refine l_nil (n_then (ref_seq (ref_region ?_)))
      refine as1 rfl rfl ?_
      refine l_nil (n_then (ref_seq (ref_seq (ref_region ?_))))
      refine as1 rfl rfl ?_
      refine l_nil (n_then ?_)
      refine ref_loopB (f := (ref22_Budget_l2 weights_1 l100)) (Γl := (fun (s108 : Int × Int) (x109 : Unit) => [(1, slv (rI .i64) weights_1), (2, iv .i64 node_2), (3, pv (ptr b1 0)), (6, pv (ptr b2 0)), (9, pv (ptr b8 0)), (10, bv s96.1), (11, iv .u64 s96.2.1), (12, pv x101.1), (13, iv .i64 s108.1), (14, iv .i64 s108.2)])) (Ωl := (fun (s108 : Int × Int) (x109 : Unit) => [oc b1 [iv .i64 g_0.N, slv rT_api_Pair g_0.L], oc b2 [iv .i64 0, pv (.slice none 0 0)], oc b8 [iv .i64 s96.2.2.1, pv x97.1], oa (rI .i64) x97.1 x97.2 s96.2.2.2, oa (rI .i64) x101.1 x101.2 l100])) (Γb := (fun (q115 : Int) (y116 : Unit) => [(1, slv (rI .i64) weights_1), (2, iv .i64 node_2), (3, pv (ptr b1 0)), (6, pv (ptr b2 0)), (9, pv (ptr b8 0)), (10, bv s96.1), (11, iv .u64 s96.2.1), (12, pv x101.1), (13, iv .i64 q115)])) (Ωb := (fun (q115 : Int) (y116 : Unit) => [oc b1 [iv .i64 g_0.N, slv rT_api_Pair g_0.L], oc b2 [iv .i64 0, pv (.slice none 0 0)], oc b8 [iv .i64 s96.2.2.1, pv x97.1], oa (rI .i64) x97.1 x97.2 s96.2.2.2, oa (rI .i64) x101.1 x101.2 l100])) (0, 0) () (weak [0, 1, 2, 3, 4] ⟨rfl, rfl, rfl, rfl, rfl, rfl, rfl, rfl, rfl, rfl, trivial⟩ ⟨rfl, rfl, rfl, rfl, rfl, trivial⟩) (fun s108 x109 => ?_) (fun q115 y116 => ?_)
      · unfold ref22_Budget_l2
        refine ref_seq (ref_seq (ref_region ?_))
        refine mv1 rfl rfl ?_
        refine mv1 rfl rfl ?_
        refine s_rd (r_olen Tryd.underlying22 rfl (j := 4) rfl) rfl ?_
        refine s_rd (r_lss rfl rfl) rfl ?_
        refine l_nil (n_then ?_)
        refine ref_cond rfl (fun hb110 => ?_) (fun hb110 => ?_)
        · refine ref_skip (n_then (ref_seq (ref_block (ref_region ?_))))
          refine mv1 rfl rfl ?_
          refine mv1 rfl rfl ?_
          refine mv1 rfl rfl ?_
          refine mv1 rfl rfl ?_
          refine pull fun t111 h_t111 => ?_
          refine s_rd (r_oindex h_t111 Tryd.underlying22 el_3 rfl (j := 4) rfl rfl) rfl ?_
          refine s_rd (r_oload h_t111 el_3 rfl (j := 4) rfl) rfl ?_
          refine pull fun t112 h_t112 => ?_
          refine s_rd (r_index h_t112 Tryd.underlying22 el_3 rfl rfl) rfl ?_
          refine s_rd (r_load el_3 rfl) rfl ?_
          refine s_rd (r_add rfl rfl) rfl ?_
          refine as1 rfl rfl ?_
          refine b_let (f := iv .i64) (t := 13) rfl fun sum113 => ?_
          refine l_nil (n_block (n_then (ref_region ?_)))
          refine mv1 rfl rfl ?_
          refine s_rd (r_add rfl rfl) rfl ?_
          refine as1 rfl rfl ?_
          refine b_let (f := iv .i64) (t := 14) rfl fun i114 => ?_
          refine l_nil ?_
          exact goB () (weak [0, 1, 2, 3, 4] ⟨rfl, rfl, rfl, rfl, rfl, rfl, rfl, rfl, rfl, rfl, trivial⟩ ⟨rfl, rfl, rfl, rfl, rfl, trivial⟩)
        refine ref_exit (x_then ?_)
        exact brkB () (weak [0, 1, 2, 3, 4] ⟨rfl, rfl, rfl, rfl, rfl, rfl, rfl, rfl, rfl, trivial⟩ ⟨rfl, rfl, rfl, rfl, rfl, trivial⟩)
      refine n_then (ref_seq ?_)
      refine ref_join (fun (j119 : Unit) (x120 : Unit) => [(1, slv (rI .i64) weights_1), (2, iv .i64 node_2), (3, pv (ptr b1 0)), (6, pv (ptr b2 0)), (9, pv (ptr b8 0)), (10, bv s96.1), (11, iv .u64 s96.2.1), (12, pv x101.1), (13, iv .i64 q115)]) (fun (j119 : Unit) (x120 : Unit) => [oc b1 [iv .i64 g_0.N, slv rT_api_Pair g_0.L], oc b2 [iv .i64 0, pv (.slice none 0 0)], oc b8 [iv .i64 s96.2.2.1, pv x97.1], oa (rI .i64) x97.1 x97.2 s96.2.2.2, oa (rI .i64) x101.1 x101.2 l100]) (fun k121 hk121 => ?_) (fun j119 x120 => ?_)
      · refine ref_seq (ref_region ?_)
        refine mv1 rfl rfl ?_
        refine mv1 rfl rfl ?_
        refine b_split (t := 68) rfl (fun _ => ?_) (fun _ => ?_)
        · refine s_on rfl rfl rfl ?_
          refine mv1 rfl rfl ?_
          refine s_on rfl rfl rfl ?_
          refine s_rd (r_faddr (fo := 0) Tryd.underlying32 rfl rfl Tryd.sizeOf3 rfl) rfl ?_
          refine s_on rfl rfl rfl ?_
          refine s_rd (r_cload Tryd.isAgg3 rfl (j := 2) rfl rfl) rfl ?_
          refine s_on rfl rfl rfl ?_
          refine s_rd (r_gtr rfl rfl) rfl ?_
          refine s_on rfl rfl rfl ?_
          refine mv1 rfl rfl ?_
          refine b_split (t := 73) rfl (fun _ => ?_) (fun _ => ?_)
          · refine s_off rfl rfl rfl rfl rfl ?_
            refine s_off rfl rfl rfl rfl rfl ?_
            refine s_off rfl rfl rfl rfl rfl ?_
            refine s_off rfl rfl rfl rfl rfl ?_
            refine s_off rfl rfl rfl rfl rfl ?_
            refine s_offU rfl rfl rfl ?_
            refine s_offU rfl rfl rfl ?_
            refine s_offU rfl rfl rfl ?_
            refine s_offU rfl rfl rfl ?_
            refine s_offU rfl rfl rfl ?_
            refine s_off rfl rfl rfl rfl rfl ?_
            refine s_on rfl rfl rfl ?_
            refine s_rd (r_pickT rfl rfl) rfl ?_
            refine s_rd (r_pickT rfl rfl) rfl ?_
            refine l_nil (n_then ?_)
            refine ref_condT rfl rfl ?_
            refine ref_exit (x_then (x_eq (n_then (ref_region ?_))))
            refine mv1 rfl rfl ?_
            refine s_rd (r_add rfl rfl) rfl ?_
            refine as1 rfl rfl ?_
            refine b_let (f := iv .u64) (t := 11) rfl fun bits124 => ?_
            refine l_nil ?_
            exact goB x97 (weak [0, 1, 2, 3] ⟨rfl, rfl, rfl, rfl, rfl, rfl, rfl, trivial⟩ ⟨rfl, rfl, rfl, rfl, trivial⟩)
          refine s_on rfl rfl rfl ?_
          refine mv1 rfl rfl ?_
          refine s_on rfl rfl rfl ?_
          refine s_rd (r_faddr (fo := 0) Tryd.underlying32 rfl rfl Tryd.sizeOf3 rfl) rfl ?_
          refine s_on rfl rfl rfl ?_
          refine s_rd (r_cload Tryd.isAgg3 rfl (j := 2) rfl rfl) rfl ?_
          refine s_on rfl rfl rfl ?_
          refine s_rd (r_eql rfl rfl) rfl ?_
          refine s_on rfl rfl rfl ?_
          refine mv1 rfl rfl ?_
          refine b_split (t := 78) rfl (fun _ => ?_) (fun _ => ?_)
          · refine s_on rfl rfl rfl ?_
            refine mv1 rfl rfl ?_
            refine s_on rfl rfl rfl ?_
            refine s_rd (r_faddr (fo := 1) Tryd.underlying32 rfl rfl Tryd.sizeOf22 rfl) rfl ?_
            refine s_on rfl rfl rfl ?_
            refine s_rd (r_cload Tryd.isAgg22 rfl (j := 2) rfl rfl) rfl ?_
            refine s_on rfl rfl rfl ?_
            refine pull fun t117 h_t117 => ?_
            refine s_st (s_callB (ψ := fun (_ : Unit) => bv t117) (args := [.tmp 79, .tmp 81]) Tryd.call60 rfl (ref22_Before_ok h_t117) ⟨argO rfl (j := 4) rfl, argO rfl (j := 3) rfl, trivial⟩ (fun _ _ _ _ _ h => h)) rfl (fun _ => ?_)
            refine s_on rfl rfl rfl ?_
            refine s_rd (r_not rfl) rfl ?_
            refine s_on rfl rfl rfl ?_
            refine s_rd (r_pickT rfl rfl) rfl ?_
            refine s_on rfl rfl rfl ?_
            refine s_rd (r_pickF rfl rfl) rfl ?_
            refine s_rd (r_pickT rfl rfl) rfl ?_
            refine l_nil (n_then ?_)
            refine ref_cond rfl (fun hb118 => ?_) (fun hb118 => ?_)
            · refine ref_exit (x_then (x_eq (n_then (ref_region ?_))))
              refine mv1 rfl rfl ?_
              refine s_rd (r_add rfl rfl) rfl ?_
              refine as1 rfl rfl ?_
              refine b_let (f := iv .u64) (t := 11) rfl fun bits125 => ?_
              refine l_nil ?_
              exact goB x97 (weak [0, 1, 2, 3] ⟨rfl, rfl, rfl, rfl, rfl, rfl, rfl, trivial⟩ ⟨rfl, rfl, rfl, rfl, trivial⟩)
            refine ref_skip ?_
            exact b_to (hk121 () ()) (weak [0, 1, 2, 3, 4] ⟨rfl, rfl, rfl, rfl, rfl, rfl, rfl, rfl, rfl, trivial⟩ ⟨rfl, rfl, rfl, rfl, rfl, trivial⟩)
          refine s_off rfl rfl rfl rfl rfl ?_
          refine s_off rfl rfl rfl rfl rfl ?_
          refine s_off rfl rfl rfl rfl rfl ?_
          refine s_off rfl rfl rfl rfl rfl ?_
          refine s_off rfl rfl rfl rfl rfl ?_
          refine s_on rfl rfl rfl ?_
          refine s_rd (r_pickF rfl rfl) rfl ?_
          refine s_on rfl rfl rfl ?_
          refine s_rd (r_pickF rfl rfl) rfl ?_
          refine s_rd (r_pickT rfl rfl) rfl ?_
          refine l_nil (n_then ?_)
          refine ref_condF rfl rfl ?_
          refine ref_skip ?_
          exact b_to (hk121 () ()) (weak [0, 1, 2, 3, 4] ⟨rfl, rfl, rfl, rfl, rfl, rfl, rfl, rfl, rfl, trivial⟩ ⟨rfl, rfl, rfl, rfl, rfl, trivial⟩)
        refine s_off rfl rfl rfl rfl rfl ?_
        refine s_off rfl rfl rfl rfl rfl ?_
        refine s_off rfl rfl rfl rfl rfl ?_
        refine s_off rfl rfl rfl rfl rfl ?_
        refine s_off rfl rfl rfl rfl rfl ?_
        refine s_offU rfl rfl rfl ?_
        refine s_offU rfl rfl rfl ?_
        refine s_offU rfl rfl rfl ?_
        refine s_offU rfl rfl rfl ?_
        refine s_offU rfl rfl rfl ?_
        refine s_offU rfl rfl rfl ?_
        refine s_offU rfl rfl rfl ?_
        refine s_offU rfl rfl rfl ?_
        refine s_offU rfl rfl rfl ?_
        refine s_offU rfl rfl rfl ?_
        refine s_offU rfl rfl rfl ?_
        refine s_off rfl rfl rfl rfl rfl ?_
        refine s_rd (r_pickF rfl rfl) rfl ?_
        refine l_nil (n_then ?_)
        refine ref_condF rfl rfl ?_
        refine ref_skip ?_
        exact b_to (hk121 () ()) (weak [0, 1, 2, 3, 4] ⟨rfl, rfl, rfl, rfl, rfl, rfl, rfl, rfl, rfl, trivial⟩ ⟨rfl, rfl, rfl, rfl, rfl, trivial⟩)
      refine n_then (ref_seq (ref_region ?_))
      refine s_rd (r_cloadS Tryd.isAgg27 Tryd.sizeOf27 rfl (j := 0) rfl rfl rfl) rfl ?_
      refine mv1 rfl rfl ?_
      refine mv1 rfl rfl ?_
      refine pull fun t122 h_t122 => ?_
      refine s_st (s_callB (ψ := fun (_ : Unit) => bv t122) (args := [.tmp 87, .tmp 88, .tmp 89]) Tryd.call13 rfl (ref22_Frees_ok h_t122) ⟨argB rfl, argO rfl (j := 4) rfl, argB rfl, trivial⟩ (fun _ _ _ _ _ h => h)) rfl (fun _ => ?_)
      refine l_nil (n_then ?_)
      refine ref_cond rfl (fun hb123 => ?_) (fun hb123 => ?_)
      · refine ref_region ?_
        refine mv1 rfl rfl ?_
        refine mv1 rfl rfl ?_
        refine s_rd (r_build (ps := [(0, .tmp 91), (1, .tmp 92)]) (rs := [(0, [iv .i64 q115]), (1, [pv x101.1])]) st_32 zs_32 ⟨rfl, (part_at rfl iv_at), ⟨rfl, (part_own rfl (j := 4) rfl), trivial⟩⟩ rfl rfl) rfl ?_
        refine s_st0 (s_cstore (out := [iv .i64 q115, pv x101.1]) Tryd.sizeOf32 rfl (j := 2) rfl (part_agO (ψs := [iv .i64 q115, pv x101.1]) rfl ⟨.inl iv_at, .inr ⟨_, _, _, _, _, 4, rfl, rfl⟩, trivial⟩) rfl rfl rfl) (fun _ => ?_)
        refine as1 rfl rfl ?_
        refine l_nil (n_block (n_then (ref_region ?_)))
        refine mv1 rfl rfl ?_
        refine s_rd (r_add rfl rfl) rfl ?_
        refine as1 rfl rfl ?_
        refine b_let (f := iv .u64) (t := 11) rfl fun bits126 => ?_
        refine l_nil ?_
        exact goB x101 (weak [0, 1, 2, 4] ⟨rfl, rfl, rfl, rfl, rfl, rfl, rfl, trivial⟩ ⟨rfl, rfl, rfl, rfl, trivial⟩)
      refine ref_skip (n_block (n_then (ref_region ?_)))
      refine mv1 rfl rfl ?_
      refine s_rd (r_add rfl rfl) rfl ?_
      refine as1 rfl rfl ?_
      refine b_let (f := iv .u64) (t := 11) rfl fun bits127 => ?_
      refine l_nil ?_
      exact goB x97 (weak [0, 1, 2, 3] ⟨rfl, rfl, rfl, rfl, rfl, rfl, rfl, trivial⟩ ⟨rfl, rfl, rfl, rfl, trivial⟩)
    refine ref_exit (x_then ?_)
    exact brkB x97 (weak [1, 2, 3] ⟨rfl, rfl, trivial⟩ ⟨rfl, rfl, rfl, trivial⟩)
  refine n_then (ref_seq (ref_region ?_))
  refine s_rd (r_cloadS Tryd.isAgg32 Tryd.sizeOf32 rfl (j := 1) rfl rfl rfl) rfl ?_
  refine s_st0 (s_cstore (out := [iv .i64 q128.1, pv y129.1]) Tryd.sizeOf32 rfl (j := 0) rfl (part_agO (ψs := [iv .i64 q128.1, pv y129.1]) rfl ⟨.inl iv_at, .inr ⟨_, _, _, _, _, 2, rfl, rfl⟩, trivial⟩) rfl rfl rfl) (fun _ => ?_)
  refine as1 rfl rfl ?_
  refine l_nil (n_then (ref_ret ?_))
  refine b_of (frzGL [(94, ag [iv .i64 q128.1, slv (rI .i64) q128.2])] [(0, b2, [iv .i64 q128.1, slv (rI .i64) q128.2]), (1, b8, [iv .i64 q128.1, slv (rI .i64) q128.2])] (j := 2) rfl ⟨⟨_, rfl, .inr ⟨_, _, rfl, rfl, ⟨.inl rfl, .inr ⟨rfl, rfl⟩, trivial⟩⟩⟩, trivial⟩ ⟨⟨_, rfl, ⟨.inl rfl, .inr ⟨rfl, rfl⟩, trivial⟩⟩, ⟨_, rfl, ⟨.inl rfl, .inr ⟨rfl, rfl⟩, trivial⟩⟩, trivial⟩) ?_
  refine b_of (nrm [oc b2 [iv .i64 q128.1, slv (rI .i64) q128.2], oc b8 [iv .i64 q128.1, slv (rI .i64) q128.2], dead] rfl) ?_
  exact fin2 (.inl rfl) () [] rfl trivial rfl (rv_cell rfl (j := 0) rfl Tryd.isAgg32 Tryd.sizeOf32 rfl rfl) (rv_tmp rfl)

/-! deliberation/deliberationref22.Cut -/
noncomputable def ref22_Cut_l1 (weights_1 : (List Int)) (t_2 : Int) (s23 : Int × (List Int)) : Option (Sum ((List Int)) (Int × (List Int))) :=
  bif decide (s23.1 < (weights_1.length : Int)) then
    Option.bind (idxM weights_1 s23.1) fun t26 =>
    bif decide (t26 < t_2) then
      Option.bind (appM 8 s23.2 [s23.1]) fun gone28 =>
      letM (iadd .i64 s23.1 1) fun i30 =>
      some (Sum.inr (i30, gone28))
    else
      letM (iadd .i64 s23.1 1) fun i31 =>
      some (Sum.inr (i31, s23.2))
  else
    some (Sum.inl s23.2)

noncomputable def ref22_Cut_m (g_0 : T_api_Graph) (weights_1 : (List Int)) (t_2 : Int) : Option (T_api_Graph × Int) :=
  Option.bind (ref10_Validate_m g_0) fun e3 =>
  bif e3 != 0 then
    some ((T_api_Graph.mk 0 []), e3)
  else
    Option.bind (ref22_Weights_m g_0 weights_1) fun t5 =>
    bif !t5 then
      some ((T_api_Graph.mk 0 []), 1)
    else
      Option.bind (loopC (ref22_Cut_l1 weights_1 t_2) (0, [])) fun q32 : (List Int) =>
      Option.bind (ref22_drop_m g_0 q32) fun t34 =>
      some (t34, 0)

theorem ref22_Cut_ok {g_0 : T_api_Graph} {weights_1 : (List Int)} {t_2 : Int} {r : T_api_Graph × Int} (hm : ref22_Cut_m g_0 weights_1 t_2 = some r) :
    FnOk prog 30 [ag [iv .i64 g_0.N, slv rT_api_Pair g_0.L], slv (rI .i64) weights_1, iv .i64 t_2] [] (fun (x : Unit) => [ag [iv .i64 r.1.N, slv rT_api_Pair r.1.L], iv .i64 r.2]) (fun (x : Unit) => []) := by
  refine fn_ok (fn := Tryd.f30) (N := 41) (res := fun r x => [ag [iv .i64 r.1.N, slv rT_api_Pair r.1.L], iv .i64 r.2]) (Ω1 := fun r x => []) Tryd.func30 rfl rfl hm rfl (fun E hM => ?_)
  unfold ref22_Cut_m
  refine ref_seq (ref_region ?_)
  refine s_st (s_box (part_agO (ψs := [iv .i64 g_0.N, slv rT_api_Pair g_0.L]) rfl ⟨.inl iv_at, .inl slv_at, trivial⟩)) rfl (fun b1 => ?_)
  refine s_st (s_alloc zt_27) rfl (fun b2 => ?_)
  refine as1 rfl rfl ?_
  refine l_nil (n_then (ref_seq (ref_seq (ref_region ?_))))
  refine s_rd (r_cloadS Tryd.isAgg27 Tryd.sizeOf27 rfl (j := 0) rfl rfl rfl) rfl ?_
  refine pull fun e3 h_e3 => ?_
  refine s_st (s_call (ψ := fun (_ : Unit) => iv .i64 e3) (args := [.tmp 11]) Tryd.call52 rfl (ref10_Validate_ok h_e3) ⟨arg rfl, trivial⟩ (fun _ _ _ _ h => h)) rfl (fun _ => ?_)
  refine as1 rfl rfl ?_
  refine l_nil (n_then (ref_seq (ref_region ?_)))
  refine mv1 rfl rfl ?_
  refine s_rd (r_neq rfl rfl) rfl ?_
  refine l_nil (n_then ?_)
  refine ref_cond rfl (fun hb4 => ?_) (fun hb4 => ?_)
  · refine ref_seq (ref_region ?_)
    refine s_rd (r_build (ps := []) (rs := []) st_27 zs_27 trivial rfl rfl) rfl ?_
    refine mv1 rfl rfl ?_
    refine s_st0 (s_cstore (out := [iv .i64 0, pv (.slice none 0 0)]) Tryd.sizeOf27 rfl (j := 1) rfl (part_agO (ψs := [iv .i64 0, pv (.slice none 0 0)]) rfl ⟨.inl iv_at, .inl (pv_at rfl), trivial⟩) rfl rfl rfl) (fun _ => ?_)
    refine as1 rfl rfl ?_
    refine l_nil ?_
    refine b_of (nrm [oc b1 [iv .i64 g_0.N, slv rT_api_Pair g_0.L], oc b2 [iv .i64 0, pv (.slice none 0 0)]] rfl) ?_
    refine n_then (ref_ret (r_then ?_))
    refine b_of (ocW 1 [iv .i64 0, slv rT_api_Pair []] rfl ⟨imp_rfl, nil_sl, trivial⟩) ?_
    exact fin2 (.inl rfl) () [] rfl trivial rfl (rv_cell rfl (j := 1) rfl Tryd.isAgg27 Tryd.sizeOf27 rfl rfl) (rv_tmp rfl)
  refine ref_skip (n_then (ref_seq (ref_seq (ref_region ?_))))
  refine s_rd (r_cloadS Tryd.isAgg27 Tryd.sizeOf27 rfl (j := 0) rfl rfl rfl) rfl ?_
  refine mv1 rfl rfl ?_
  refine pull fun t5 h_t5 => ?_
  refine s_st (s_call (ψ := fun (_ : Unit) => bv t5) (args := [.tmp 17, .tmp 18]) Tryd.call58 rfl (ref22_Weights_ok h_t5) ⟨arg rfl, arg rfl, trivial⟩ (fun _ _ _ _ h => h)) rfl (fun _ => ?_)
  refine s_rd (r_not rfl) rfl ?_
  refine l_nil ?_
  refine b_of (nrm [oc b1 [iv .i64 g_0.N, slv rT_api_Pair g_0.L], oc b2 [iv .i64 0, pv (.slice none 0 0)]] rfl) ?_
  refine n_then ?_
  refine ref_cond rfl (fun hb6 => ?_) (fun hb6 => ?_)
  · refine ref_seq (ref_region ?_)
    refine s_rd (r_build (ps := []) (rs := []) st_27 zs_27 trivial rfl rfl) rfl ?_
    refine s_st0 (s_cstore (out := [iv .i64 0, pv (.slice none 0 0)]) Tryd.sizeOf27 rfl (j := 1) rfl (part_agO (ψs := [iv .i64 0, pv (.slice none 0 0)]) rfl ⟨.inl iv_at, .inl (pv_at rfl), trivial⟩) rfl rfl rfl) (fun _ => ?_)
    refine as1 rfl rfl ?_
    refine l_nil (n_then (ref_ret (r_then ?_)))
    refine b_of (ocW 1 [iv .i64 0, slv rT_api_Pair []] rfl ⟨imp_rfl, nil_sl, trivial⟩) ?_
    exact fin2 (.inl rfl) () [] rfl trivial rfl (rv_cell rfl (j := 1) rfl Tryd.isAgg27 Tryd.sizeOf27 rfl rfl) (rv_tmp rfl)
  refine ref_skip (n_then (ref_seq (ref_region ?_)))
  refine as1 rfl rfl ?_
  refine l_nil (n_then (ref_seq (ref_seq (ref_region ?_))))
  refine as1 rfl rfl ?_
  refine l_nil (n_then ?_)
  refine b_of (own_nil (rI .i64)) ?_
  refine ref_loopB (f := (ref22_Cut_l1 weights_1 t_2)) (Γl := (fun (s23 : Int × (List Int)) (x24 : (Value × List Nat)) => [(1, slv (rI .i64) weights_1), (2, iv .i64 t_2), (3, pv (ptr b1 0)), (6, pv (ptr b2 0)), (9, pv x24.1), (10, iv .i64 s23.1)])) (Ωl := (fun (s23 : Int × (List Int)) (x24 : (Value × List Nat)) => [oc b1 [iv .i64 g_0.N, slv rT_api_Pair g_0.L], oc b2 [iv .i64 0, pv (.slice none 0 0)], oa (rI .i64) x24.1 x24.2 s23.2])) (Γb := (fun (q32 : (List Int)) (y33 : (Value × List Nat)) => [(3, pv (ptr b1 0)), (6, pv (ptr b2 0)), (9, pv y33.1)])) (Ωb := (fun (q32 : (List Int)) (y33 : (Value × List Nat)) => [oc b1 [iv .i64 g_0.N, slv rT_api_Pair g_0.L], oc b2 [iv .i64 0, pv (.slice none 0 0)], oa (rI .i64) y33.1 y33.2 q32])) (0, []) ((.slice none 0 0), []) (weak [0, 1, 2] ⟨rfl, rfl, rfl, rfl, rfl, rfl, trivial⟩ ⟨rfl, rfl, rfl, trivial⟩) (fun s23 x24 => ?_) (fun q32 y33 => ?_)
  · unfold ref22_Cut_l1
    refine ref_seq (ref_seq (ref_region ?_))
    refine mv1 rfl rfl ?_
    refine mv1 rfl rfl ?_
    refine s_rd (r_len Tryd.underlying22 rfl) rfl ?_
    refine s_rd (r_lss rfl rfl) rfl ?_
    refine l_nil (n_then ?_)
    refine ref_cond rfl (fun hb25 => ?_) (fun hb25 => ?_)
    · refine ref_skip (n_then (ref_seq (ref_block (ref_seq (ref_region ?_)))))
      refine mv1 rfl rfl ?_
      refine mv1 rfl rfl ?_
      refine pull fun t26 h_t26 => ?_
      refine s_rd (r_index h_t26 Tryd.underlying22 el_3 rfl rfl) rfl ?_
      refine s_rd (r_load el_3 rfl) rfl ?_
      refine mv1 rfl rfl ?_
      refine s_rd (r_lss rfl rfl) rfl ?_
      refine l_nil (n_then ?_)
      refine ref_cond rfl (fun hb27 => ?_) (fun hb27 => ?_)
      · refine ref_region ?_
        refine mv1 rfl rfl ?_
        refine mv1 rfl rfl ?_
        refine s_st (s_bslice (xs := [.tmp 35]) (ds := [s23.1]) Tryd.underlying22 el_3 rfl (Nat.le_of_ble_eq_true rfl) ⟨(part_at rfl iv_at), trivial⟩) rfl (fun _ => ?_)
        refine pull fun gone28 h_gone28 => ?_
        refine s_st (s_append h_gone28 Tryd.underlying22 el_3 rfl (j := 2) rfl rfl) rfl (fun o29 => ?_)
        refine as1 rfl rfl ?_
        refine l_nil (n_block (n_then (ref_region ?_)))
        refine mv1 rfl rfl ?_
        refine s_rd (r_add rfl rfl) rfl ?_
        refine as1 rfl rfl ?_
        refine b_let (f := iv .i64) (t := 10) rfl fun i30 => ?_
        refine l_nil ?_
        exact goB o29 (weak [0, 1, 2] ⟨rfl, rfl, rfl, rfl, rfl, rfl, trivial⟩ ⟨rfl, rfl, rfl, trivial⟩)
      refine ref_skip (n_block (n_then (ref_region ?_)))
      refine mv1 rfl rfl ?_
      refine s_rd (r_add rfl rfl) rfl ?_
      refine as1 rfl rfl ?_
      refine b_let (f := iv .i64) (t := 10) rfl fun i31 => ?_
      refine l_nil ?_
      exact goB x24 (weak [0, 1, 2] ⟨rfl, rfl, rfl, rfl, rfl, rfl, trivial⟩ ⟨rfl, rfl, rfl, trivial⟩)
    refine ref_exit (x_then ?_)
    exact brkB x24 (weak [0, 1, 2] ⟨rfl, rfl, rfl, trivial⟩ ⟨rfl, rfl, rfl, trivial⟩)
  refine n_then (ref_seq (ref_region ?_))
  refine s_rd (r_cloadS Tryd.isAgg27 Tryd.sizeOf27 rfl (j := 0) rfl rfl rfl) rfl ?_
  refine mv1 rfl rfl ?_
  refine b_of (frzL [9, 39] (j := 2) rfl ⟨rfl, rfl, trivial⟩) ?_
  refine pull fun t34 h_t34 => ?_
  refine s_st (s_call (ψ := fun (_ : Unit) => ag [iv .i64 t34.N, slv rT_api_Pair t34.L]) (args := [.tmp 38, .tmp 39]) Tryd.call44 rfl (ref22_drop_ok h_t34) ⟨arg rfl, arg rfl, trivial⟩ (fun _ _ _ _ h => h)) rfl (fun _ => ?_)
  refine s_st0 (s_cstore (out := [iv .i64 t34.N, slv rT_api_Pair t34.L]) Tryd.sizeOf27 rfl (j := 1) rfl (part_agO (ψs := [iv .i64 t34.N, slv rT_api_Pair t34.L]) rfl ⟨.inl iv_at, .inl slv_at, trivial⟩) rfl rfl rfl) (fun _ => ?_)
  refine as1 rfl rfl ?_
  refine l_nil (n_then (ref_ret ?_))
  exact fin2 (.inl rfl) () [] rfl trivial rfl (rv_cell rfl (j := 1) rfl Tryd.isAgg27 Tryd.sizeOf27 rfl rfl) (rv_tmp rfl)

/-! deliberation/deliberationref22.Levels -/
noncomputable def ref22_Levels_l2 (weights_1 : (List Int)) (s58 : Int × (List Int)) (s66 : Int × Int) : Option (Sum (Int) (Int × Int)) :=
  bif decide (s66.2 < (weights_1.length : Int)) then
    Option.bind (idxM weights_1 s66.2) fun t69 =>
    bif decide (t69 > s58.1) then
      Option.bind (idxM weights_1 s66.2) fun t71 =>
      letM (iadd .i64 s66.2 1) fun i72 =>
      some (Sum.inr (imin s66.1 t71, i72))
    else
      letM (iadd .i64 s66.2 1) fun i73 =>
      some (Sum.inr (s66.1, i73))
  else
    some (Sum.inl s66.1)

noncomputable def ref22_Levels_l1 (g_0 : T_api_Graph) (weights_1 : (List Int)) (node_2 : Int) (s58 : Int × (List Int)) : Option (Sum (List Int × Int) (Int × (List Int))) :=
  Option.bind (loopC (ref22_Levels_l2 weights_1 s58) (1001, 0)) fun q74 : Int =>
  Option.bind (ref22_Cut_m g_0 weights_1 q74) fun t76 =>
  Option.bind (net_Grounded_m t76.1) fun t78 =>
  Option.bind (idxM t78.1 node_2) fun t80 =>
  Option.bind (appM 8 s58.2 [t80]) fun out81 =>
  bif decide (q74 > 1000) then
    some (Sum.inl (out81, 0))
  else
    some (Sum.inr (q74, out81))

noncomputable def ref22_Levels_m (g_0 : T_api_Graph) (weights_1 : (List Int)) (node_2 : Int) : Option (List Int × Int) :=
  Option.bind (ref10_Validate_m g_0) fun e2 =>
  bif e2 != 0 then
    some ([], e2)
  else
    Option.bind (ref22_Weights_m g_0 weights_1) fun t4 =>
    bif !t4 then
      some ([], 1)
    else
      bif decide (node_2 < 0) then
        some ([], 1)
      else
        bif decide (node_2 ≥ g_0.N) then
          some ([], 1)
        else
          Option.bind (loopC (ref22_Levels_l1 g_0 weights_1 node_2) ((-1), [])) (fun a : List Int × Int => some a)

theorem ref22_Levels_ok {g_0 : T_api_Graph} {weights_1 : (List Int)} {node_2 : Int} {r : List Int × Int} (hm : ref22_Levels_m g_0 weights_1 node_2 = some r) :
    FnOk prog 27 [ag [iv .i64 g_0.N, slv rT_api_Pair g_0.L], slv (rI .i64) weights_1, iv .i64 node_2] [] (fun (x : (Value × List Nat)) => [pv x.1, iv .i64 r.2]) (fun (x : (Value × List Nat)) => [oa (rI .i64) x.1 x.2 r.1]) := by
  refine fn_ok (X := (Value × List Nat)) (fn := Tryd.f27) (N := 77) (res := fun r x => [pv x.1, iv .i64 r.2]) (Ω1 := fun r x => [oa (rI .i64) x.1 x.2 r.1]) Tryd.func27 rfl rfl hm rfl (fun E hM => ?_)
  unfold ref22_Levels_m
  refine ref_seq (ref_region ?_)
  refine s_st (s_box (part_agO (ψs := [iv .i64 g_0.N, slv rT_api_Pair g_0.L]) rfl ⟨.inl iv_at, .inl slv_at, trivial⟩)) rfl (fun b1 => ?_)
  refine as1 rfl rfl ?_
  refine as1 rfl rfl ?_
  refine l_nil (n_then (ref_seq (ref_seq (ref_region ?_))))
  refine s_rd (r_cloadS Tryd.isAgg27 Tryd.sizeOf27 rfl (j := 0) rfl rfl rfl) rfl ?_
  refine pull fun e2 h_e2 => ?_
  refine s_st (s_call (ψ := fun (_ : Unit) => iv .i64 e2) (args := [.tmp 17]) Tryd.call52 rfl (ref10_Validate_ok h_e2) ⟨arg rfl, trivial⟩ (fun _ _ _ _ h => h)) rfl (fun _ => ?_)
  refine as1 rfl rfl ?_
  refine l_nil (n_then (ref_seq (ref_region ?_)))
  refine mv1 rfl rfl ?_
  refine s_rd (r_neq rfl rfl) rfl ?_
  refine l_nil (n_then ?_)
  refine ref_cond rfl (fun hb3 => ?_) (fun hb3 => ?_)
  · refine ref_seq (ref_region ?_)
    refine mv1 rfl rfl ?_
    refine as1 rfl rfl ?_
    refine as1 rfl rfl ?_
    refine l_nil (n_then (ref_ret (r_then ?_)))
    refine b_of (own_nil (rI .i64)) ?_
    exact fin2 (.inl rfl) ((.slice none 0 0), []) [1] rfl ⟨rfl, trivial⟩ rfl (rv_tmp rfl) (rv_tmp rfl)
  refine ref_skip (n_then (ref_seq (ref_seq (ref_region ?_))))
  refine s_rd (r_cloadS Tryd.isAgg27 Tryd.sizeOf27 rfl (j := 0) rfl rfl rfl) rfl ?_
  refine mv1 rfl rfl ?_
  refine pull fun t4 h_t4 => ?_
  refine s_st (s_call (ψ := fun (_ : Unit) => bv t4) (args := [.tmp 22, .tmp 23]) Tryd.call58 rfl (ref22_Weights_ok h_t4) ⟨arg rfl, arg rfl, trivial⟩ (fun _ _ _ _ h => h)) rfl (fun _ => ?_)
  refine s_rd (r_not rfl) rfl ?_
  refine mv1 rfl rfl ?_
  refine b_split (t := 26) rfl (fun _ => ?_) (fun _ => ?_)
  · refine s_off rfl rfl rfl rfl rfl ?_
    refine s_off rfl rfl rfl rfl rfl ?_
    refine s_rd (r_pickT rfl rfl) rfl ?_
    refine mv1 rfl rfl ?_
    refine s_off rfl rfl rfl rfl rfl ?_
    refine s_off rfl rfl rfl rfl rfl ?_
    refine s_off rfl rfl rfl rfl rfl ?_
    refine s_off rfl rfl rfl rfl rfl ?_
    refine s_rd (r_pickT rfl rfl) rfl ?_
    refine l_nil (n_then ?_)
    refine ref_condT rfl rfl ?_
    refine ref_seq (ref_region ?_)
    refine as1 rfl rfl ?_
    refine as1 rfl rfl ?_
    refine l_nil (n_then (ref_ret (r_then ?_)))
    refine b_of (own_nil (rI .i64)) ?_
    exact fin2 (.inl rfl) ((.slice none 0 0), []) [1] rfl ⟨rfl, trivial⟩ rfl (rv_tmp rfl) (rv_tmp rfl)
  refine s_on rfl rfl rfl ?_
  refine mv1 rfl rfl ?_
  refine s_on rfl rfl rfl ?_
  refine s_rd (r_lss rfl rfl) rfl ?_
  refine s_rd (r_pickF rfl rfl) rfl ?_
  refine mv1 rfl rfl ?_
  refine b_split (t := 30) rfl (fun _ => ?_) (fun _ => ?_)
  · refine s_off rfl rfl rfl rfl rfl ?_
    refine s_off rfl rfl rfl rfl rfl ?_
    refine s_off rfl rfl rfl rfl rfl ?_
    refine s_off rfl rfl rfl rfl rfl ?_
    refine s_rd (r_pickT rfl rfl) rfl ?_
    refine l_nil (n_then ?_)
    refine ref_condT rfl rfl ?_
    refine ref_seq (ref_region ?_)
    refine as1 rfl rfl ?_
    refine as1 rfl rfl ?_
    refine l_nil (n_then (ref_ret (r_then ?_)))
    refine b_of (own_nil (rI .i64)) ?_
    exact fin2 (.inl rfl) ((.slice none 0 0), []) [1] rfl ⟨rfl, trivial⟩ rfl (rv_tmp rfl) (rv_tmp rfl)
  refine s_on rfl rfl rfl ?_
  refine mv1 rfl rfl ?_
  refine s_on rfl rfl rfl ?_
  refine s_rd (r_faddr (fo := 0) Tryd.underlying27 rfl rfl Tryd.sizeOf3 rfl) rfl ?_
  refine s_on rfl rfl rfl ?_
  refine s_rd (r_cload Tryd.isAgg3 rfl (j := 0) rfl rfl) rfl ?_
  refine s_on rfl rfl rfl ?_
  refine s_rd (r_geq rfl rfl) rfl ?_
  refine s_rd (r_pickF rfl rfl) rfl ?_
  refine l_nil (n_then ?_)
  refine ref_cond rfl (fun hb5 => ?_) (fun hb5 => ?_)
  · refine ref_seq (ref_region ?_)
    refine as1 rfl rfl ?_
    refine as1 rfl rfl ?_
    refine l_nil (n_then (ref_ret (r_then ?_)))
    refine b_of (own_nil (rI .i64)) ?_
    exact fin2 (.inl rfl) ((.slice none 0 0), []) [1] rfl ⟨rfl, trivial⟩ rfl (rv_tmp rfl) (rv_tmp rfl)
  refine ref_skip (n_then (ref_seq (ref_region ?_)))
  refine as1 rfl rfl ?_
  refine l_nil (n_then (ref_seq (ref_region ?_)))
  refine as1 rfl rfl ?_
  refine l_nil (n_then ?_)
  refine b_of (own_nil (rI .i64)) ?_
  refine ref_block (ref_loop (f := (ref22_Levels_l1 g_0 weights_1 node_2)) (Γl := (fun (s58 : Int × (List Int)) (x59 : (Value × List Nat)) => [(1, slv (rI .i64) weights_1), (2, iv .i64 node_2), (3, pv (ptr b1 0)), (9, pv x59.1), (10, iv .i64 s58.1)])) (Ωl := (fun (s58 : Int × (List Int)) (x59 : (Value × List Nat)) => [oc b1 [iv .i64 g_0.N, slv rT_api_Pair g_0.L], oa (rI .i64) x59.1 x59.2 s58.2])) (k := (fun a : List Int × Int => some a)) ((-1), []) ((.slice none 0 0), []) (weak [0, 1] ⟨rfl, rfl, rfl, rfl, rfl, trivial⟩ ⟨rfl, rfl, trivial⟩) (fun s58 x59 => ?_))
  · unfold ref22_Levels_l1
    refine ref_block (ref_seq (ref_region ?_))
    refine as1 rfl rfl ?_
    refine l_nil (n_then (ref_seq (ref_seq (ref_region ?_))))
    refine as1 rfl rfl ?_
    refine l_nil (n_then ?_)
    refine ref_loopB (f := (ref22_Levels_l2 weights_1 s58)) (Γl := (fun (s66 : Int × Int) (x67 : Unit) => [(1, slv (rI .i64) weights_1), (2, iv .i64 node_2), (3, pv (ptr b1 0)), (9, pv x59.1), (10, iv .i64 s58.1), (11, iv .i64 s66.1), (12, iv .i64 s66.2)])) (Ωl := (fun (s66 : Int × Int) (x67 : Unit) => [oc b1 [iv .i64 g_0.N, slv rT_api_Pair g_0.L], oa (rI .i64) x59.1 x59.2 s58.2])) (Γb := (fun (q74 : Int) (y75 : Unit) => [(1, slv (rI .i64) weights_1), (2, iv .i64 node_2), (3, pv (ptr b1 0)), (9, pv x59.1), (11, iv .i64 q74)])) (Ωb := (fun (q74 : Int) (y75 : Unit) => [oc b1 [iv .i64 g_0.N, slv rT_api_Pair g_0.L], oa (rI .i64) x59.1 x59.2 s58.2])) (1001, 0) () (weak [0, 1] ⟨rfl, rfl, rfl, rfl, rfl, rfl, rfl, trivial⟩ ⟨rfl, rfl, trivial⟩) (fun s66 x67 => ?_) (fun q74 y75 => ?_)
    · unfold ref22_Levels_l2
      refine ref_seq (ref_seq (ref_region ?_))
      refine mv1 rfl rfl ?_
      refine mv1 rfl rfl ?_
      refine s_rd (r_len Tryd.underlying22 rfl) rfl ?_
      refine s_rd (r_lss rfl rfl) rfl ?_
      refine l_nil (n_then ?_)
      refine ref_cond rfl (fun hb68 => ?_) (fun hb68 => ?_)
      · refine ref_skip (n_then (ref_seq (ref_block (ref_seq (ref_region ?_)))))
        refine mv1 rfl rfl ?_
        refine mv1 rfl rfl ?_
        refine pull fun t69 h_t69 => ?_
        refine s_rd (r_index h_t69 Tryd.underlying22 el_3 rfl rfl) rfl ?_
        refine s_rd (r_load el_3 rfl) rfl ?_
        refine mv1 rfl rfl ?_
        refine s_rd (r_gtr rfl rfl) rfl ?_
        refine l_nil (n_then ?_)
        refine ref_cond rfl (fun hb70 => ?_) (fun hb70 => ?_)
        · refine ref_region ?_
          refine mv1 rfl rfl ?_
          refine mv1 rfl rfl ?_
          refine mv1 rfl rfl ?_
          refine pull fun t71 h_t71 => ?_
          refine s_rd (r_index h_t71 Tryd.underlying22 el_3 rfl rfl) rfl ?_
          refine s_rd (r_load el_3 rfl) rfl ?_
          refine s_rd (r_min rfl rfl) rfl ?_
          refine as1 rfl rfl ?_
          refine l_nil (n_block (n_then (ref_region ?_)))
          refine mv1 rfl rfl ?_
          refine s_rd (r_add rfl rfl) rfl ?_
          refine as1 rfl rfl ?_
          refine b_let (f := iv .i64) (t := 12) rfl fun i72 => ?_
          refine l_nil ?_
          exact goB () (weak [0, 1] ⟨rfl, rfl, rfl, rfl, rfl, rfl, rfl, trivial⟩ ⟨rfl, rfl, trivial⟩)
        refine ref_skip (n_block (n_then (ref_region ?_)))
        refine mv1 rfl rfl ?_
        refine s_rd (r_add rfl rfl) rfl ?_
        refine as1 rfl rfl ?_
        refine b_let (f := iv .i64) (t := 12) rfl fun i73 => ?_
        refine l_nil ?_
        exact goB () (weak [0, 1] ⟨rfl, rfl, rfl, rfl, rfl, rfl, rfl, trivial⟩ ⟨rfl, rfl, trivial⟩)
      refine ref_exit (x_then ?_)
      exact brkB () (weak [0, 1] ⟨rfl, rfl, rfl, rfl, rfl, trivial⟩ ⟨rfl, rfl, trivial⟩)
    refine n_then (ref_seq (ref_region ?_))
    refine s_rd (r_cloadS Tryd.isAgg27 Tryd.sizeOf27 rfl (j := 0) rfl rfl rfl) rfl ?_
    refine mv1 rfl rfl ?_
    refine mv1 rfl rfl ?_
    refine pull fun t76 h_t76 => ?_
    refine s_st (s_call (ψ := fun (_ : Unit) => tup [ag [iv .i64 t76.1.N, slv rT_api_Pair t76.1.L], iv .i64 t76.2]) (args := [.tmp 55, .tmp 56, .tmp 57]) Tryd.call30 rfl (ref22_Cut_ok h_t76) ⟨arg rfl, arg rfl, arg rfl, trivial⟩ (fun _ _ _ _ h => h)) rfl (fun _ => ?_)
    refine mv1 rfl rfl ?_
    refine s_rd (r_extract rfl rfl) rfl ?_
    refine s_rd (r_extract rfl rfl) rfl ?_
    refine s_st (s_alloc zt_27) rfl (fun b77 => ?_)
    refine s_st0 (s_cstore (out := [iv .i64 t76.1.N, slv rT_api_Pair t76.1.L]) Tryd.sizeOf27 rfl (j := 2) rfl (part_agO (ψs := [iv .i64 t76.1.N, slv rT_api_Pair t76.1.L]) rfl ⟨.inl iv_at, .inl slv_at, trivial⟩) rfl rfl rfl) (fun _ => ?_)
    refine as1 rfl rfl ?_
    refine l_nil (n_then (ref_seq (ref_region ?_)))
    refine s_rd (r_cloadS Tryd.isAgg27 Tryd.sizeOf27 rfl (j := 2) rfl rfl rfl) rfl ?_
    refine pull fun t78 h_t78 => ?_
    refine s_st (s_call (ψ := fun (x79 : (Value × List Nat) × (Value × List Nat)) => tup [pv x79.1.1, pv x79.2.1]) (args := [.tmp 62]) Tryd.call33 rfl (net_Grounded_ok h_t78) ⟨arg rfl, trivial⟩ (fun _ _ _ _ h => h)) rfl (fun x79 => ?_)
    refine mv1 rfl rfl ?_
    refine s_rd (r_extract rfl rfl) rfl ?_
    refine s_rd (r_extract rfl rfl) rfl ?_
    refine as1 rfl rfl ?_
    refine as1 rfl rfl ?_
    refine l_nil ?_
    refine b_of (nrm [oc b1 [iv .i64 g_0.N, slv rT_api_Pair g_0.L], oa (rI .i64) x59.1 x59.2 s58.2, oc b77 [iv .i64 t76.1.N, slv rT_api_Pair t76.1.L], oa (rI .i64) x79.1.1 x79.1.2 t78.1, oa (rI .i64) x79.2.1 x79.2.2 t78.2] rfl) ?_
    refine n_then (ref_seq (ref_region ?_))
    refine mv1 rfl rfl ?_
    refine mv1 rfl rfl ?_
    refine mv1 rfl rfl ?_
    refine pull fun t80 h_t80 => ?_
    refine s_rd (r_oindex h_t80 Tryd.underlying22 el_3 rfl (j := 3) rfl rfl) rfl ?_
    refine s_rd (r_oload h_t80 el_3 rfl (j := 3) rfl) rfl ?_
    refine s_st (s_bslice (xs := [.tmp 70]) (ds := [t80]) Tryd.underlying22 el_3 rfl (Nat.le_of_ble_eq_true rfl) ⟨(part_at rfl iv_at), trivial⟩) rfl (fun _ => ?_)
    refine pull fun out81 h_out81 => ?_
    refine s_st (s_append h_out81 Tryd.underlying22 el_3 rfl (j := 1) rfl rfl) rfl (fun o82 => ?_)
    refine as1 rfl rfl ?_
    refine l_nil (n_then (ref_seq (ref_seq (ref_region ?_))))
    refine mv1 rfl rfl ?_
    refine s_rd (r_gtr rfl rfl) rfl ?_
    refine l_nil (n_then ?_)
    refine ref_cond rfl (fun hb83 => ?_) (fun hb83 => ?_)
    · refine ref_seq (ref_region ?_)
      refine mv1 rfl rfl ?_
      refine as1 rfl rfl ?_
      refine as1 rfl rfl ?_
      refine l_nil (n_then (ref_ret (r_then (r_block ?_))))
      refine r_loop ?_
      refine r_block ?_
      exact fin2 (.inl rfl) o82 [1] rfl ⟨rfl, trivial⟩ rfl (rv_tmp rfl) (rv_tmp rfl)
    refine ref_skip (n_then (ref_region ?_))
    refine mv1 rfl rfl ?_
    refine as1 rfl rfl ?_
    refine l_nil (n_block ?_)
    exact n_loop o82 (weak [0, 1] ⟨rfl, rfl, rfl, rfl, rfl, trivial⟩ ⟨rfl, rfl, trivial⟩)

/-! deliberation/deliberationnet.Pairs -/
noncomputable def net_Pairs_l1 (a__0 : (List T_api_Pair)) (b_1 : (List T_api_Pair)) (s8 : Int) : Option (Sum ((Sum (Bool) (Unit))) (Int)) :=
  bif decide (s8 < (a__0.length : Int)) then
    Option.bind (idxM a__0 s8) fun t11 =>
    Option.bind (idxM b_1 s8) fun t12 =>
    bif !decide (t11 = t12) then
      some (Sum.inl (Sum.inl false))
    else
      some (Sum.inr (iadd .i64 s8 1))
  else
    some (Sum.inl (Sum.inr ()))

noncomputable def net_Pairs_m (a__0 : (List T_api_Pair)) (b_1 : (List T_api_Pair)) : Option (Bool) :=
  bif (a__0.length : Int) != (b_1.length : Int) then
    some false
  else
    Option.bind (loopC (net_Pairs_l1 a__0 b_1) 0) (sumK (fun a : Bool => some a) fun q14 : Unit =>
      some true)

theorem net_Pairs_ok {a__0 : (List T_api_Pair)} {b_1 : (List T_api_Pair)} {r : Bool} (hm : net_Pairs_m a__0 b_1 = some r) :
    FnOk prog 68 [slv rT_api_Pair a__0, slv rT_api_Pair b_1] [] (fun (x : Unit) => [bv r]) (fun (x : Unit) => []) := by
  refine fn_ok (fn := Tryd.f68) (N := 26) (res := fun r x => [bv r]) (Ω1 := fun r x => []) Tryd.func68 rfl rfl hm rfl (fun E hM => ?_)
  unfold net_Pairs_m
  refine ref_seq (ref_region ?_)
  refine as1 rfl rfl ?_
  refine l_nil (n_then (ref_seq (ref_seq (ref_region ?_))))
  refine mv1 rfl rfl ?_
  refine s_rd (r_len Tryd.underlying25 rfl) rfl ?_
  refine mv1 rfl rfl ?_
  refine s_rd (r_len Tryd.underlying25 rfl) rfl ?_
  refine s_rd (r_neq rfl rfl) rfl ?_
  refine l_nil (n_then ?_)
  refine ref_cond rfl (fun hb1 => ?_) (fun hb1 => ?_)
  · refine ref_seq (ref_region ?_)
    refine as1 rfl rfl ?_
    refine l_nil (n_then (ref_ret (r_then ?_)))
    exact fin1 (.inl rfl) () [] rfl trivial rfl (rv_tmp rfl)
  refine ref_skip (n_then (ref_seq (ref_seq (ref_region ?_))))
  refine as1 rfl rfl ?_
  refine l_nil (n_then ?_)
  refine ref_loopX (f := (net_Pairs_l1 a__0 b_1)) (Γl := (fun (s8 : Int) (x9 : Unit) => [(0, slv rT_api_Pair a__0), (1, slv rT_api_Pair b_1), (5, iv .i64 s8)])) (Ωl := (fun (s8 : Int) (x9 : Unit) => [])) (Γb := (fun (q14 : Unit) (y15 : Unit) => [])) (Ωb := (fun (q14 : Unit) (y15 : Unit) => [])) (kr := (fun a : Bool => some a)) 0 () (weak [] ⟨rfl, rfl, rfl, trivial⟩ trivial) (fun s8 x9 => ?_) (fun q14 y15 => ?_)
  · unfold net_Pairs_l1
    refine ref_seq (ref_seq (ref_region ?_))
    refine mv1 rfl rfl ?_
    refine mv1 rfl rfl ?_
    refine s_rd (r_len Tryd.underlying25 rfl) rfl ?_
    refine s_rd (r_lss rfl rfl) rfl ?_
    refine l_nil (n_then ?_)
    refine ref_cond rfl (fun hb10 => ?_) (fun hb10 => ?_)
    · refine ref_skip (n_then (ref_seq (ref_block (ref_seq ?_))))
      refine ref_draw [0, 1, 2, 3, 4, 5, 6, 7, 8] rfl (by kernel_rfl) (fun hok => ?_)
      refine a_rd (i := 0) hok rfl (by kernel_rfl) rfl (r_move rfl) rfl ?_
      refine a_rd (i := 1) hok rfl (by kernel_rfl) rfl (r_move rfl) rfl ?_
      refine pull fun t11 h_t11 => ?_
      refine a_rd (i := 2) hok rfl (by kernel_rfl) rfl (r_index h_t11 Tryd.underlying25 el_56 rfl rfl) rfl ?_
      refine a_rd (i := 3) hok rfl (by kernel_rfl) rfl (r_load el_56 rfl) rfl ?_
      refine a_rd (i := 4) hok rfl (by kernel_rfl) rfl (r_move rfl) rfl ?_
      refine a_rd (i := 5) hok rfl (by kernel_rfl) rfl (r_move rfl) rfl ?_
      refine pull fun t12 h_t12 => ?_
      refine a_rd (i := 6) hok rfl (by kernel_rfl) rfl (r_index h_t12 Tryd.underlying25 el_56 rfl rfl) rfl ?_
      refine a_rd (i := 7) hok rfl (by kernel_rfl) rfl (r_load el_56 rfl) rfl ?_
      refine a_rd (i := 8) hok rfl (by kernel_rfl) rfl (r_stneq (u := t11) (v := t12) eq_56 rfl rfl rfl rfl) rfl ?_
      refine a_fin hok (by kernel_rfl) ?_
      refine n_then ?_
      refine ref_cond rfl (fun hb13 => ?_) (fun hb13 => ?_)
      · refine ref_seq (ref_region ?_)
        refine as1 rfl rfl ?_
        refine l_nil (n_then (ref_ret (r_block (r_then ?_))))
        refine retX ?_
        refine r_block (r_then ?_)
        exact fin1 (.inl rfl) () [] rfl trivial rfl (rv_tmp rfl)
      refine ref_skip (n_block (n_then (ref_region ?_)))
      refine mv1 rfl rfl ?_
      refine s_rd (r_add rfl rfl) rfl ?_
      refine as1 rfl rfl ?_
      refine l_nil ?_
      exact goX () (weak [] ⟨rfl, rfl, rfl, trivial⟩ trivial)
    refine ref_exit (x_then ?_)
    exact brkX () (weak [] trivial trivial)
  refine n_then (ref_seq (ref_region ?_))
  refine as1 rfl rfl ?_
  refine l_nil (n_then (ref_ret ?_))
  exact fin1 (.inl rfl) () [] rfl trivial rfl (rv_tmp rfl)

/-! deliberation/deliberationnet.Same -/
noncomputable def net_Same_m (a__0 : T_api_Graph) (b_1 : T_api_Graph) : Option (Bool) :=
  bif a__0.N == b_1.N then
    Option.bind (net_Pairs_m a__0.L b_1.L) fun t3 =>
    some t3
  else
    some false

theorem net_Same_ok {a__0 : T_api_Graph} {b_1 : T_api_Graph} {r : Bool} (hm : net_Same_m a__0 b_1 = some r) :
    FnOk prog 31 [ag [iv .i64 a__0.N, slv rT_api_Pair a__0.L], ag [iv .i64 b_1.N, slv rT_api_Pair b_1.L]] [] (fun (x : Unit) => [bv r]) (fun (x : Unit) => []) := by
  refine fn_ok (fn := Tryd.f31) (N := 17) (res := fun r x => [bv r]) (Ω1 := fun r x => []) Tryd.func31 rfl rfl hm rfl (fun E hM => ?_)
  unfold net_Same_m
  refine ref_seq (ref_region ?_)
  refine s_st (s_box (part_agO (ψs := [iv .i64 a__0.N, slv rT_api_Pair a__0.L]) rfl ⟨.inl iv_at, .inl slv_at, trivial⟩)) rfl (fun b1 => ?_)
  refine s_st (s_box (part_agO (ψs := [iv .i64 b_1.N, slv rT_api_Pair b_1.L]) rfl ⟨.inl iv_at, .inl slv_at, trivial⟩)) rfl (fun b2 => ?_)
  refine as1 rfl rfl ?_
  refine l_nil (n_then (ref_seq (ref_region ?_)))
  refine s_rd (r_faddr (fo := 0) Tryd.underlying27 rfl rfl Tryd.sizeOf3 rfl) rfl ?_
  refine s_rd (r_cload Tryd.isAgg3 rfl (j := 0) rfl rfl) rfl ?_
  refine s_rd (r_faddr (fo := 0) Tryd.underlying27 rfl rfl Tryd.sizeOf3 rfl) rfl ?_
  refine s_rd (r_cload Tryd.isAgg3 rfl (j := 1) rfl rfl) rfl ?_
  refine s_rd (r_eql rfl rfl) rfl ?_
  refine mv1 rfl rfl ?_
  refine b_split (t := 10) rfl (fun _ => ?_) (fun _ => ?_)
  · refine s_on rfl rfl rfl ?_
    refine s_rd (r_faddr (fo := 1) Tryd.underlying27 rfl rfl Tryd.sizeOf25 rfl) rfl ?_
    refine s_on rfl rfl rfl ?_
    refine s_rd (r_cload Tryd.isAgg25 rfl (j := 0) rfl rfl) rfl ?_
    refine s_on rfl rfl rfl ?_
    refine s_rd (r_faddr (fo := 1) Tryd.underlying27 rfl rfl Tryd.sizeOf25 rfl) rfl ?_
    refine s_on rfl rfl rfl ?_
    refine s_rd (r_cload Tryd.isAgg25 rfl (j := 1) rfl rfl) rfl ?_
    refine s_on rfl rfl rfl ?_
    refine pull fun t3 h_t3 => ?_
    refine s_st (s_call (ψ := fun (_ : Unit) => bv t3) (args := [.tmp 12, .tmp 14]) Tryd.call68 rfl (net_Pairs_ok h_t3) ⟨arg rfl, arg rfl, trivial⟩ (fun _ _ _ _ h => h)) rfl (fun _ => ?_)
    refine s_rd (r_pickT rfl rfl) rfl ?_
    refine as1 rfl rfl ?_
    refine l_nil (n_then (ref_ret ?_))
    exact fin1 (.inl rfl) () [] rfl trivial rfl (rv_tmp rfl)
  refine s_off rfl rfl rfl rfl rfl ?_
  refine s_off rfl rfl rfl rfl rfl ?_
  refine s_off rfl rfl rfl rfl rfl ?_
  refine s_off rfl rfl rfl rfl rfl ?_
  refine s_off rfl rfl rfl rfl rfl ?_
  refine s_rd (r_pickF rfl rfl) rfl ?_
  refine as1 rfl rfl ?_
  refine l_nil (n_then (ref_ret ?_))
  exact fin1 (.inl rfl) () [] rfl trivial rfl (rv_tmp rfl)

/-! deliberation/deliberationlaw22.DegreeAnswers -/
noncomputable def law22_DegreeAnswers_l2 (t_4 : Int) (t93 : T_anon57) (t106 : Int × T_deliberationkeep_Src) (s117 : Int) : Option (Sum ((Sum (Bool) (Unit))) (Int)) :=
  bif decide (s117 < ([t_4, t106.1].length : Int)) then
    Option.bind (idxM [t_4, t106.1] s117) fun u120 =>
    Option.bind (degree_Cut_m t93.g t93.w' u120) fun t121 =>
    Option.bind (ref22_Cut_m t93.g t93.w' u120) fun t123 =>
    bif t121.2 != t123.2 then
      some (Sum.inl (Sum.inl false))
    else
      Option.bind (net_Same_m t121.1 t123.1) fun t125 =>
      bif !t125 then
        some (Sum.inl (Sum.inl false))
      else
        some (Sum.inr (iadd .i64 s117 1))
  else
    some (Sum.inl (Sum.inr ()))

noncomputable def law22_DegreeAnswers_l1 (raw_0 : T_api_Graph) (weights_1 : (List Int)) (node_3 : Int) (t_4 : Int) (t8 : T_api_Graph × List Int × T_deliberationkeep_Src) (k11 : Int × T_deliberationkeep_Src) (s90 : Int × T_deliberationkeep_Src) : Option (Sum ((Sum (Bool) (Unit))) (Int × T_deliberationkeep_Src)) :=
  bif decide (s90.1 < ([(T_anon57.mk raw_0 weights_1 node_3), (T_anon57.mk t8.1 t8.2.1 k11.1), (T_anon57.mk t8.1 weights_1 k11.1), (T_anon57.mk t8.1 t8.2.1 node_3)].length : Int)) then
    Option.bind (idxM [(T_anon57.mk raw_0 weights_1 node_3), (T_anon57.mk t8.1 t8.2.1 k11.1), (T_anon57.mk t8.1 weights_1 k11.1), (T_anon57.mk t8.1 t8.2.1 node_3)] s90.1) fun t93 =>
    Option.bind (degree_Budget_m t93.g t93.w' t93.node) fun t95 =>
    Option.bind (ref22_Budget_m t93.g t93.w' t93.node) fun t97 =>
    Option.bind (degree_Levels_m t93.g t93.w' t93.node) fun t99 =>
    Option.bind (ref22_Levels_m t93.g t93.w' t93.node) fun t101 =>
    bif t95.2 != t97.2 then
      some (Sum.inl (Sum.inl false))
    else
      bif t99.2 != t101.2 then
        some (Sum.inl (Sum.inl false))
      else
        bif t95.1.Weight != t97.1.Weight then
          some (Sum.inl (Sum.inl false))
        else
          Option.bind (keep_Ints_m t95.1.Dropped t97.1.Dropped) fun t103 =>
          bif !t103 then
            some (Sum.inl (Sum.inl false))
          else
            Option.bind (keep_Ints_m t99.1 t101.1) fun t104 =>
            bif !t104 then
              some (Sum.inl (Sum.inl false))
            else
              Option.bind (keep_Src_N_m s90.2 6) fun t106 =>
              Option.bind (loopC (law22_DegreeAnswers_l2 t_4 t93 t106) 0) (sumK (fun a : Bool => some (Sum.inl (Sum.inl a))) fun q127 : Unit =>
                some (Sum.inr (iadd .i64 s90.1 1, t106.2)))
  else
    some (Sum.inl (Sum.inr ()))

noncomputable def law22_DegreeAnswers_m (raw_0 : T_api_Graph) (weights_1 : (List Int)) (l_2 : (List Int)) (node_3 : Int) (t_4 : Int) : Option (Bool) :=
  Option.bind (net_Light_m raw_0) fun t2 =>
  bif !t2 then
    Option.bind (law22_awake_m ) fun t3 =>
    some t3
  else
    bif decide ((weights_1.length : Int) > 310) then
      Option.bind (law22_awake_m ) fun t5 =>
      some t5
    else
      Option.bind (keep_New_m l_2) fun s6 =>
      Option.bind (law22_weighted_m s6 6 9) fun t8 =>
      Option.bind (keep_Src_N_m t8.2.2 t8.1.N) fun k11 =>
      Option.bind (loopC (law22_DegreeAnswers_l1 raw_0 weights_1 node_3 t_4 t8 k11) (0, k11.2)) (sumK (fun a : Bool => some a) fun q129 : Unit =>
        Option.bind (law22_awake_m ) fun t131 =>
        some t131)

theorem law22_DegreeAnswers_ok {raw_0 : T_api_Graph} {weights_1 : (List Int)} {l_2 : (List Int)} {node_3 : Int} {t_4 : Int} {r : Bool} (hm : law22_DegreeAnswers_m raw_0 weights_1 l_2 node_3 t_4 = some r) :
    FnOk prog 7 [ag [iv .i64 raw_0.N, slv rT_api_Pair raw_0.L], slv (rI .i64) weights_1, slv (rI .i64) l_2, iv .i64 node_3, iv .i64 t_4] [tbO (rI .u8) 0 tab_0] (fun (x : Unit) => [bv r]) (fun (x : Unit) => [tbO (rI .u8) 0 tab_0]) := by
  refine fn_ok (fn := Tryd.f7) (N := 181) (res := fun r x => [bv r]) (Ω1 := fun r x => [tbO (rI .u8) 0 tab_0]) Tryd.func7 rfl rfl hm rfl (fun E hM => ?_)
  unfold law22_DegreeAnswers_m
  refine ref_seq (ref_region ?_)
  refine s_st (s_box (part_agO (ψs := [iv .i64 raw_0.N, slv rT_api_Pair raw_0.L]) rfl ⟨.inl iv_at, .inl slv_at, trivial⟩)) rfl (fun b1 => ?_)
  refine as1 rfl rfl ?_
  refine l_nil (n_then (ref_seq (ref_seq (ref_region ?_))))
  refine s_rd (r_cloadS Tryd.isAgg27 Tryd.sizeOf27 rfl (j := 1) rfl rfl rfl) rfl ?_
  refine pull fun t2 h_t2 => ?_
  refine s_st (s_call (ψ := fun (_ : Unit) => bv t2) (args := [.tmp 31]) Tryd.call15 rfl (net_Light_ok h_t2) ⟨arg rfl, trivial⟩ (fun _ _ _ _ h => h)) rfl (fun _ => ?_)
  refine s_rd (r_not rfl) rfl ?_
  refine mv1 rfl rfl ?_
  refine b_split (t := 34) rfl (fun _ => ?_) (fun _ => ?_)
  · refine s_off rfl rfl rfl rfl rfl ?_
    refine s_off rfl rfl rfl rfl rfl ?_
    refine s_off rfl rfl rfl rfl rfl ?_
    refine s_rd (r_pickT rfl rfl) rfl ?_
    refine l_nil (n_then ?_)
    refine ref_condT rfl rfl ?_
    refine ref_seq (ref_region ?_)
    refine pull fun t3 h_t3 => ?_
    refine s_st (s_callC [0] [true] (fun (_ : Unit) => [tbO (rI .u8) 0 tab_0]) (fun (_ : Unit) => []) (fun (_ : Unit) => bv t3) (args := []) (caps := []) Tryd.call14 rfl (law22_awake_ok h_t3) ⟨rfl, rfl, trivial⟩ (fun _ => rfl) (fun _ => trivial) (fun _ => rfl) trivial (fun _ _ _ _ h => h)) rfl (fun _ => ?_)
    refine as1 rfl rfl ?_
    refine l_nil (n_then (ref_ret (r_then ?_)))
    exact fin1 (.inl rfl) () [0] rfl ⟨rfl, trivial⟩ rfl (rv_tmp rfl)
  refine s_on rfl rfl rfl ?_
  refine mv1 rfl rfl ?_
  refine s_on rfl rfl rfl ?_
  refine s_rd (r_len Tryd.underlying22 rfl) rfl ?_
  refine s_on rfl rfl rfl ?_
  refine s_rd (r_gtr rfl rfl) rfl ?_
  refine s_rd (r_pickF rfl rfl) rfl ?_
  refine l_nil (n_then ?_)
  refine ref_cond rfl (fun hb4 => ?_) (fun hb4 => ?_)
  · refine ref_seq (ref_region ?_)
    refine pull fun t5 h_t5 => ?_
    refine s_st (s_callC [0] [true] (fun (_ : Unit) => [tbO (rI .u8) 0 tab_0]) (fun (_ : Unit) => []) (fun (_ : Unit) => bv t5) (args := []) (caps := []) Tryd.call14 rfl (law22_awake_ok h_t5) ⟨rfl, rfl, trivial⟩ (fun _ => rfl) (fun _ => trivial) (fun _ => rfl) trivial (fun _ _ _ _ h => h)) rfl (fun _ => ?_)
    refine as1 rfl rfl ?_
    refine l_nil (n_then (ref_ret (r_then ?_)))
    exact fin1 (.inl rfl) () [0] rfl ⟨rfl, trivial⟩ rfl (rv_tmp rfl)
  refine ref_skip (n_then (ref_seq (ref_region ?_)))
  refine mv1 rfl rfl ?_
  refine pull fun s6 h_s6 => ?_
  refine s_st (s_call (ψ := fun (x7 : Nat) => pv (ptr x7 0)) (args := [.tmp 40]) Tryd.call9 rfl (keep_New_ok h_s6) ⟨arg rfl, trivial⟩ (fun _ _ _ _ h => h)) rfl (fun x7 => ?_)
  refine as1 rfl rfl ?_
  refine l_nil (n_then (ref_seq (ref_region ?_)))
  refine mv1 rfl rfl ?_
  refine pull fun t8 h_t8 => ?_
  refine s_st (s_callC [2] [true] (fun (x9 : (Value × List Nat)) => [oc x7 [slv (rI .i64) t8.2.2.L, iv .i64 t8.2.2.At]]) (fun (x9 : (Value × List Nat)) => [oa (rI .i64) x9.1 x9.2 t8.2.1]) (fun (x9 : (Value × List Nat)) => tup [ag [iv .i64 t8.1.N, slv rT_api_Pair t8.1.L], pv x9.1]) (args := [.tmp 43, .const (.int .i64 (6)), .const (.int .i64 (9))]) (caps := []) Tryd.call10 rfl (law22_weighted_ok h_t8) ⟨rfl, rfl, trivial⟩ (fun _ => rfl) (fun _ => trivial) (fun _ => rfl) ⟨arg rfl, arg rfl, arg rfl, trivial⟩ (fun _ _ _ _ h => h)) rfl (fun x9 => ?_)
  refine mv1 rfl rfl ?_
  refine s_rd (r_extract rfl rfl) rfl ?_
  refine s_rd (r_extract rfl rfl) rfl ?_
  refine s_st (s_alloc zt_27) rfl (fun b10 => ?_)
  refine s_st0 (s_cstore (out := [iv .i64 t8.1.N, slv rT_api_Pair t8.1.L]) Tryd.sizeOf27 rfl (j := 4) rfl (part_agO (ψs := [iv .i64 t8.1.N, slv rT_api_Pair t8.1.L]) rfl ⟨.inl iv_at, .inl slv_at, trivial⟩) rfl rfl rfl) (fun _ => ?_)
  refine as1 rfl rfl ?_
  refine l_nil ?_
  refine b_of (nrm [tbO (rI .u8) 0 tab_0, oc b1 [iv .i64 raw_0.N, slv rT_api_Pair raw_0.L], oc x7 [slv (rI .i64) t8.2.2.L, iv .i64 t8.2.2.At], oa (rI .i64) x9.1 x9.2 t8.2.1, oc b10 [iv .i64 t8.1.N, slv rT_api_Pair t8.1.L]] rfl) ?_
  refine n_then (ref_seq (ref_region ?_))
  refine mv1 rfl rfl ?_
  refine s_rd (r_faddr (fo := 0) Tryd.underlying27 rfl rfl Tryd.sizeOf3 rfl) rfl ?_
  refine s_rd (r_cload Tryd.isAgg3 rfl (j := 4) rfl rfl) rfl ?_
  refine pull fun k11 h_k11 => ?_
  refine s_st (s_callC [2] [true] (fun (_ : Unit) => [oc x7 [slv (rI .i64) k11.2.L, iv .i64 k11.2.At]]) (fun (_ : Unit) => []) (fun (_ : Unit) => iv .i64 k11.1) (args := [.tmp 47, .tmp 49]) (caps := []) Tryd.call11 rfl (keep_Src_N_ok h_k11) ⟨rfl, rfl, trivial⟩ (fun _ => rfl) (fun _ => trivial) (fun _ => rfl) ⟨arg rfl, arg rfl, trivial⟩ (fun _ _ _ _ h => h)) rfl (fun _ => ?_)
  refine as1 rfl rfl ?_
  refine l_nil (n_then (ref_seq (ref_seq (ref_region ?_))))
  refine s_rd (r_cloadS Tryd.isAgg27 Tryd.sizeOf27 rfl (j := 1) rfl rfl rfl) rfl ?_
  refine mv1 rfl rfl ?_
  refine mv1 rfl rfl ?_
  refine s_rd (r_build (ps := [(0, .tmp 51), (1, .tmp 52), (2, .tmp 53)]) (rs := [(0, [iv .i64 raw_0.N, slv rT_api_Pair raw_0.L]), (1, [slv (rI .i64) weights_1]), (2, [iv .i64 node_3])]) st_57 zs_57 ⟨rfl, (part_agO (ψs := [iv .i64 raw_0.N, slv rT_api_Pair raw_0.L]) rfl ⟨.inl iv_at, .inl slv_at, trivial⟩), ⟨rfl, (part_at rfl slv_at), ⟨rfl, (part_at rfl iv_at), trivial⟩⟩⟩ rfl rfl) rfl ?_
  refine s_rd (r_cloadS Tryd.isAgg27 Tryd.sizeOf27 rfl (j := 4) rfl rfl rfl) rfl ?_
  refine mv1 rfl rfl ?_
  refine mv1 rfl rfl ?_
  refine s_rd (r_build (ps := [(0, .tmp 55), (1, .tmp 56), (2, .tmp 57)]) (rs := [(0, [iv .i64 t8.1.N, slv rT_api_Pair t8.1.L]), (1, [pv x9.1]), (2, [iv .i64 k11.1])]) st_57 zs_57 ⟨rfl, (part_agO (ψs := [iv .i64 t8.1.N, slv rT_api_Pair t8.1.L]) rfl ⟨.inl iv_at, .inl slv_at, trivial⟩), ⟨rfl, (part_own rfl (j := 3) rfl), ⟨rfl, (part_at rfl iv_at), trivial⟩⟩⟩ rfl rfl) rfl ?_
  refine s_rd (r_cloadS Tryd.isAgg27 Tryd.sizeOf27 rfl (j := 4) rfl rfl rfl) rfl ?_
  refine mv1 rfl rfl ?_
  refine mv1 rfl rfl ?_
  refine s_rd (r_build (ps := [(0, .tmp 59), (1, .tmp 60), (2, .tmp 61)]) (rs := [(0, [iv .i64 t8.1.N, slv rT_api_Pair t8.1.L]), (1, [slv (rI .i64) weights_1]), (2, [iv .i64 k11.1])]) st_57 zs_57 ⟨rfl, (part_agO (ψs := [iv .i64 t8.1.N, slv rT_api_Pair t8.1.L]) rfl ⟨.inl iv_at, .inl slv_at, trivial⟩), ⟨rfl, (part_at rfl slv_at), ⟨rfl, (part_at rfl iv_at), trivial⟩⟩⟩ rfl rfl) rfl ?_
  refine s_rd (r_cloadS Tryd.isAgg27 Tryd.sizeOf27 rfl (j := 4) rfl rfl rfl) rfl ?_
  refine mv1 rfl rfl ?_
  refine mv1 rfl rfl ?_
  refine s_rd (r_build (ps := [(0, .tmp 63), (1, .tmp 64), (2, .tmp 65)]) (rs := [(0, [iv .i64 t8.1.N, slv rT_api_Pair t8.1.L]), (1, [pv x9.1]), (2, [iv .i64 node_3])]) st_57 zs_57 ⟨rfl, (part_agO (ψs := [iv .i64 t8.1.N, slv rT_api_Pair t8.1.L]) rfl ⟨.inl iv_at, .inl slv_at, trivial⟩), ⟨rfl, (part_own rfl (j := 3) rfl), ⟨rfl, (part_at rfl iv_at), trivial⟩⟩⟩ rfl rfl) rfl ?_
  refine b_of (frzGL [(46, slv (rI .i64) t8.2.1), (13, slv (rI .i64) t8.2.1), (56, slv (rI .i64) t8.2.1), (64, slv (rI .i64) t8.2.1), (58, ag [iv .i64 t8.1.N, slv rT_api_Pair t8.1.L, slv (rI .i64) t8.2.1, iv .i64 k11.1]), (66, ag [iv .i64 t8.1.N, slv rT_api_Pair t8.1.L, slv (rI .i64) t8.2.1, iv .i64 node_3])] [] (j := 3) rfl ⟨⟨_, rfl, .inl ⟨rfl, rfl⟩⟩, ⟨_, rfl, .inl ⟨rfl, rfl⟩⟩, ⟨_, rfl, .inl ⟨rfl, rfl⟩⟩, ⟨_, rfl, .inl ⟨rfl, rfl⟩⟩, ⟨_, rfl, .inr ⟨_, _, rfl, rfl, ⟨.inl rfl, .inl rfl, .inr ⟨rfl, rfl⟩, .inl rfl, trivial⟩⟩⟩, ⟨_, rfl, .inr ⟨_, _, rfl, rfl, ⟨.inl rfl, .inl rfl, .inr ⟨rfl, rfl⟩, .inl rfl, trivial⟩⟩⟩, trivial⟩ trivial) ?_
  refine s_st (s_bslice (xs := [.tmp 54, .tmp 58, .tmp 62, .tmp 66]) (ds := [(T_anon57.mk raw_0 weights_1 node_3), (T_anon57.mk t8.1 t8.2.1 k11.1), (T_anon57.mk t8.1 weights_1 k11.1), (T_anon57.mk t8.1 t8.2.1 node_3)]) Tryd.underlying58 el_57 rfl (Nat.le_of_ble_eq_true rfl) ⟨(part_agO (ψs := [iv .i64 raw_0.N, slv rT_api_Pair raw_0.L, slv (rI .i64) weights_1, iv .i64 node_3]) rfl ⟨.inl iv_at, .inl slv_at, .inl slv_at, .inl iv_at, trivial⟩), ⟨(part_agO (ψs := [iv .i64 t8.1.N, slv rT_api_Pair t8.1.L, slv (rI .i64) t8.2.1, iv .i64 k11.1]) rfl ⟨.inl iv_at, .inl slv_at, .inl slv_at, .inl iv_at, trivial⟩), ⟨(part_agO (ψs := [iv .i64 t8.1.N, slv rT_api_Pair t8.1.L, slv (rI .i64) weights_1, iv .i64 k11.1]) rfl ⟨.inl iv_at, .inl slv_at, .inl slv_at, .inl iv_at, trivial⟩), ⟨(part_agO (ψs := [iv .i64 t8.1.N, slv rT_api_Pair t8.1.L, slv (rI .i64) t8.2.1, iv .i64 node_3]) rfl ⟨.inl iv_at, .inl slv_at, .inl slv_at, .inl iv_at, trivial⟩), trivial⟩⟩⟩⟩) rfl (fun _ => ?_)
  refine s_rd (r_len Tryd.underlying58 rfl) rfl ?_
  refine mv1 rfl rfl ?_
  refine l_nil (n_then ?_)
  refine ref_loopX (f := (law22_DegreeAnswers_l1 raw_0 weights_1 node_3 t_4 t8 k11)) (Γl := (fun (s90 : Int × T_deliberationkeep_Src) (x91 : Unit) => [(4, iv .i64 t_4), (11, pv (ptr x7 0)), (67, slv rT_anon57 [(T_anon57.mk raw_0 weights_1 node_3), (T_anon57.mk t8.1 t8.2.1 k11.1), (T_anon57.mk t8.1 weights_1 k11.1), (T_anon57.mk t8.1 t8.2.1 node_3)]), (68, iv .i64 ([(T_anon57.mk raw_0 weights_1 node_3), (T_anon57.mk t8.1 t8.2.1 k11.1), (T_anon57.mk t8.1 weights_1 k11.1), (T_anon57.mk t8.1 t8.2.1 node_3)].length : Int)), (69, iv .i64 s90.1)])) (Ωl := (fun (s90 : Int × T_deliberationkeep_Src) (x91 : Unit) => [tbO (rI .u8) 0 tab_0, oc x7 [slv (rI .i64) s90.2.L, iv .i64 s90.2.At]])) (Γb := (fun (q129 : Unit) (y130 : Unit) => [])) (Ωb := (fun (q129 : Unit) (y130 : Unit) => [tbO (rI .u8) 0 tab_0])) (kr := (fun a : Bool => some a)) (0, k11.2) () (weak [0, 2] ⟨rfl, rfl, rfl, rfl, rfl, trivial⟩ ⟨rfl, rfl, trivial⟩) (fun s90 x91 => ?_) (fun q129 y130 => ?_)
  · unfold law22_DegreeAnswers_l1
    refine ref_seq (ref_region ?_)
    refine s_rd (r_lss rfl rfl) rfl ?_
    refine l_nil (n_then (ref_seq ?_))
    refine ref_cond rfl (fun hb92 => ?_) (fun hb92 => ?_)
    · refine ref_skip (n_then (ref_seq (ref_block (ref_seq (ref_region ?_)))))
      refine pull fun t93 h_t93 => ?_
      refine s_rd (r_index h_t93 Tryd.underlying58 el_57 rfl rfl) rfl ?_
      refine s_rd (r_load el_57 rfl) rfl ?_
      refine s_st (s_alloc zt_57) rfl (fun b94 => ?_)
      refine s_st0 (s_cstore (out := [iv .i64 t93.g.N, slv rT_api_Pair t93.g.L, slv (rI .i64) t93.w', iv .i64 t93.node]) Tryd.sizeOf57 rfl (j := 2) rfl (part_agO (ψs := [iv .i64 t93.g.N, slv rT_api_Pair t93.g.L, slv (rI .i64) t93.w', iv .i64 t93.node]) rfl ⟨.inl iv_at, .inl slv_at, .inl slv_at, .inl iv_at, trivial⟩) rfl rfl rfl) (fun _ => ?_)
      refine l_nil ?_
      refine b_of (nrm [tbO (rI .u8) 0 tab_0, oc x7 [slv (rI .i64) s90.2.L, iv .i64 s90.2.At], oc b94 [iv .i64 t93.g.N, slv rT_api_Pair t93.g.L, slv (rI .i64) t93.w', iv .i64 t93.node]] rfl) ?_
      refine n_then (ref_seq (ref_region ?_))
      refine s_rd (r_faddr (fo := 0) Tryd.underlying57 rfl rfl Tryd.sizeOf27 rfl) rfl ?_
      refine s_rd (r_cloadS Tryd.isAgg27 Tryd.sizeOf27 rfl (j := 2) rfl rfl rfl) rfl ?_
      refine s_rd (r_faddr (fo := 2) Tryd.underlying57 rfl rfl Tryd.sizeOf22 rfl) rfl ?_
      refine s_rd (r_cload Tryd.isAgg22 rfl (j := 2) rfl rfl) rfl ?_
      refine s_rd (r_faddr (fo := 3) Tryd.underlying57 rfl rfl Tryd.sizeOf3 rfl) rfl ?_
      refine s_rd (r_cload Tryd.isAgg3 rfl (j := 2) rfl rfl) rfl ?_
      refine pull fun t95 h_t95 => ?_
      refine s_st (s_callC [0] [true] (fun (_ : Unit) => [tbO (rI .u8) 0 tab_0]) (fun (_ : Unit) => []) (fun (_ : Unit) => tup [ag [iv .i64 t95.1.Weight, slv (rI .i64) t95.1.Dropped], iv .i64 t95.2]) (args := [.tmp 75, .tmp 77, .tmp 79]) (caps := []) Tryd.call12 rfl (degree_Budget_ok h_t95) ⟨rfl, rfl, trivial⟩ (fun _ => rfl) (fun _ => trivial) (fun _ => rfl) ⟨arg rfl, arg rfl, arg rfl, trivial⟩ (fun _ _ _ _ h => h)) rfl (fun _ => ?_)
      refine mv1 rfl rfl ?_
      refine s_rd (r_extract rfl rfl) rfl ?_
      refine s_rd (r_extract rfl rfl) rfl ?_
      refine s_st (s_alloc zt_32) rfl (fun b96 => ?_)
      refine s_st0 (s_cstore (out := [iv .i64 t95.1.Weight, slv (rI .i64) t95.1.Dropped]) Tryd.sizeOf32 rfl (j := 3) rfl (part_agO (ψs := [iv .i64 t95.1.Weight, slv (rI .i64) t95.1.Dropped]) rfl ⟨.inl iv_at, .inl slv_at, trivial⟩) rfl rfl rfl) (fun _ => ?_)
      refine as1 rfl rfl ?_
      refine l_nil (n_then (ref_seq (ref_region ?_)))
      refine s_rd (r_faddr (fo := 0) Tryd.underlying57 rfl rfl Tryd.sizeOf27 rfl) rfl ?_
      refine s_rd (r_cloadS Tryd.isAgg27 Tryd.sizeOf27 rfl (j := 2) rfl rfl rfl) rfl ?_
      refine s_rd (r_faddr (fo := 2) Tryd.underlying57 rfl rfl Tryd.sizeOf22 rfl) rfl ?_
      refine s_rd (r_cload Tryd.isAgg22 rfl (j := 2) rfl rfl) rfl ?_
      refine s_rd (r_faddr (fo := 3) Tryd.underlying57 rfl rfl Tryd.sizeOf3 rfl) rfl ?_
      refine s_rd (r_cload Tryd.isAgg3 rfl (j := 2) rfl rfl) rfl ?_
      refine pull fun t97 h_t97 => ?_
      refine s_st (s_call (ψ := fun (_ : Unit) => tup [ag [iv .i64 t97.1.Weight, slv (rI .i64) t97.1.Dropped], iv .i64 t97.2]) (args := [.tmp 85, .tmp 87, .tmp 89]) Tryd.call25 rfl (ref22_Budget_ok h_t97) ⟨arg rfl, arg rfl, arg rfl, trivial⟩ (fun _ _ _ _ h => h)) rfl (fun _ => ?_)
      refine mv1 rfl rfl ?_
      refine s_rd (r_extract rfl rfl) rfl ?_
      refine s_rd (r_extract rfl rfl) rfl ?_
      refine s_st (s_alloc zt_32) rfl (fun b98 => ?_)
      refine s_st0 (s_cstore (out := [iv .i64 t97.1.Weight, slv (rI .i64) t97.1.Dropped]) Tryd.sizeOf32 rfl (j := 4) rfl (part_agO (ψs := [iv .i64 t97.1.Weight, slv (rI .i64) t97.1.Dropped]) rfl ⟨.inl iv_at, .inl slv_at, trivial⟩) rfl rfl rfl) (fun _ => ?_)
      refine as1 rfl rfl ?_
      refine l_nil ?_
      refine b_of (nrm [tbO (rI .u8) 0 tab_0, oc x7 [slv (rI .i64) s90.2.L, iv .i64 s90.2.At], oc b94 [iv .i64 t93.g.N, slv rT_api_Pair t93.g.L, slv (rI .i64) t93.w', iv .i64 t93.node], oc b96 [iv .i64 t95.1.Weight, slv (rI .i64) t95.1.Dropped], oc b98 [iv .i64 t97.1.Weight, slv (rI .i64) t97.1.Dropped]] rfl) ?_
      refine n_then (ref_seq (ref_region ?_))
      refine s_rd (r_faddr (fo := 0) Tryd.underlying57 rfl rfl Tryd.sizeOf27 rfl) rfl ?_
      refine s_rd (r_cloadS Tryd.isAgg27 Tryd.sizeOf27 rfl (j := 2) rfl rfl rfl) rfl ?_
      refine s_rd (r_faddr (fo := 2) Tryd.underlying57 rfl rfl Tryd.sizeOf22 rfl) rfl ?_
      refine s_rd (r_cload Tryd.isAgg22 rfl (j := 2) rfl rfl) rfl ?_
      refine s_rd (r_faddr (fo := 3) Tryd.underlying57 rfl rfl Tryd.sizeOf3 rfl) rfl ?_
      refine s_rd (r_cload Tryd.isAgg3 rfl (j := 2) rfl rfl) rfl ?_
      refine pull fun t99 h_t99 => ?_
      refine s_st (s_callC [0] [true] (fun (x100 : (Value × List Nat)) => [tbO (rI .u8) 0 tab_0]) (fun (x100 : (Value × List Nat)) => [oa (rI .i64) x100.1 x100.2 t99.1]) (fun (x100 : (Value × List Nat)) => tup [pv x100.1, iv .i64 t99.2]) (args := [.tmp 95, .tmp 97, .tmp 99]) (caps := []) Tryd.call26 rfl (degree_Levels_ok h_t99) ⟨rfl, rfl, trivial⟩ (fun _ => rfl) (fun _ => trivial) (fun _ => rfl) ⟨arg rfl, arg rfl, arg rfl, trivial⟩ (fun _ _ _ _ h => h)) rfl (fun x100 => ?_)
      refine mv1 rfl rfl ?_
      refine s_rd (r_extract rfl rfl) rfl ?_
      refine s_rd (r_extract rfl rfl) rfl ?_
      refine as1 rfl rfl ?_
      refine as1 rfl rfl ?_
      refine l_nil (n_then (ref_seq (ref_region ?_)))
      refine s_rd (r_faddr (fo := 0) Tryd.underlying57 rfl rfl Tryd.sizeOf27 rfl) rfl ?_
      refine s_rd (r_cloadS Tryd.isAgg27 Tryd.sizeOf27 rfl (j := 2) rfl rfl rfl) rfl ?_
      refine s_rd (r_faddr (fo := 2) Tryd.underlying57 rfl rfl Tryd.sizeOf22 rfl) rfl ?_
      refine s_rd (r_cload Tryd.isAgg22 rfl (j := 2) rfl rfl) rfl ?_
      refine s_rd (r_faddr (fo := 3) Tryd.underlying57 rfl rfl Tryd.sizeOf3 rfl) rfl ?_
      refine s_rd (r_cload Tryd.isAgg3 rfl (j := 2) rfl rfl) rfl ?_
      refine pull fun t101 h_t101 => ?_
      refine s_st (s_call (ψ := fun (x102 : (Value × List Nat)) => tup [pv x102.1, iv .i64 t101.2]) (args := [.tmp 105, .tmp 107, .tmp 109]) Tryd.call27 rfl (ref22_Levels_ok h_t101) ⟨arg rfl, arg rfl, arg rfl, trivial⟩ (fun _ _ _ _ h => h)) rfl (fun x102 => ?_)
      refine mv1 rfl rfl ?_
      refine s_rd (r_extract rfl rfl) rfl ?_
      refine s_rd (r_extract rfl rfl) rfl ?_
      refine as1 rfl rfl ?_
      refine as1 rfl rfl ?_
      refine l_nil (n_then (ref_seq (ref_seq (ref_region ?_))))
      refine mv1 rfl rfl ?_
      refine mv1 rfl rfl ?_
      refine s_rd (r_neq rfl rfl) rfl ?_
      refine mv1 rfl rfl ?_
      refine b_split (t := 116) rfl (fun _ => ?_) (fun _ => ?_)
      · refine s_off rfl rfl rfl rfl rfl ?_
        refine s_off rfl rfl rfl rfl rfl ?_
        refine s_off rfl rfl rfl rfl rfl ?_
        refine s_rd (r_pickT rfl rfl) rfl ?_
        refine mv1 rfl rfl ?_
        refine s_off rfl rfl rfl rfl rfl ?_
        refine s_off rfl rfl rfl rfl rfl ?_
        refine s_off rfl rfl rfl rfl rfl ?_
        refine s_off rfl rfl rfl rfl rfl ?_
        refine s_off rfl rfl rfl rfl rfl ?_
        refine s_rd (r_pickT rfl rfl) rfl ?_
        refine mv1 rfl rfl ?_
        refine s_off rfl rfl rfl rfl rfl ?_
        refine s_off rfl rfl rfl rfl rfl ?_
        refine s_off rfl rfl rfl rfl rfl ?_
        refine s_off rfl rfl rfl rfl rfl ?_
        refine s_off rfl rfl rfl rfl rfl ?_
        refine s_off rfl rfl rfl rfl rfl ?_
        refine s_rd (r_pickT rfl rfl) rfl ?_
        refine mv1 rfl rfl ?_
        refine s_off rfl rfl rfl rfl rfl ?_
        refine s_off rfl rfl rfl rfl rfl ?_
        refine s_off rfl rfl rfl rfl rfl ?_
        refine s_off rfl rfl rfl rfl rfl ?_
        refine s_rd (r_pickT rfl rfl) rfl ?_
        refine l_nil (n_then ?_)
        refine ref_condT rfl rfl ?_
        refine ref_seq (ref_region ?_)
        refine as1 rfl rfl ?_
        refine l_nil (n_then (ref_ret (r_then (r_block (r_then ?_)))))
        refine retX ?_
        refine r_block (r_then ?_)
        exact fin1 (.inl rfl) () [0] rfl ⟨rfl, trivial⟩ rfl (rv_tmp rfl)
      refine s_on rfl rfl rfl ?_
      refine mv1 rfl rfl ?_
      refine s_on rfl rfl rfl ?_
      refine mv1 rfl rfl ?_
      refine s_on rfl rfl rfl ?_
      refine s_rd (r_neq rfl rfl) rfl ?_
      refine s_rd (r_pickF rfl rfl) rfl ?_
      refine mv1 rfl rfl ?_
      refine b_split (t := 121) rfl (fun _ => ?_) (fun _ => ?_)
      · refine s_off rfl rfl rfl rfl rfl ?_
        refine s_off rfl rfl rfl rfl rfl ?_
        refine s_off rfl rfl rfl rfl rfl ?_
        refine s_off rfl rfl rfl rfl rfl ?_
        refine s_off rfl rfl rfl rfl rfl ?_
        refine s_rd (r_pickT rfl rfl) rfl ?_
        refine mv1 rfl rfl ?_
        refine s_off rfl rfl rfl rfl rfl ?_
        refine s_off rfl rfl rfl rfl rfl ?_
        refine s_off rfl rfl rfl rfl rfl ?_
        refine s_off rfl rfl rfl rfl rfl ?_
        refine s_off rfl rfl rfl rfl rfl ?_
        refine s_off rfl rfl rfl rfl rfl ?_
        refine s_rd (r_pickT rfl rfl) rfl ?_
        refine mv1 rfl rfl ?_
        refine s_off rfl rfl rfl rfl rfl ?_
        refine s_off rfl rfl rfl rfl rfl ?_
        refine s_off rfl rfl rfl rfl rfl ?_
        refine s_off rfl rfl rfl rfl rfl ?_
        refine s_rd (r_pickT rfl rfl) rfl ?_
        refine l_nil (n_then ?_)
        refine ref_condT rfl rfl ?_
        refine ref_seq (ref_region ?_)
        refine as1 rfl rfl ?_
        refine l_nil (n_then (ref_ret (r_then (r_block (r_then ?_)))))
        refine retX ?_
        refine r_block (r_then ?_)
        exact fin1 (.inl rfl) () [0] rfl ⟨rfl, trivial⟩ rfl (rv_tmp rfl)
      refine s_on rfl rfl rfl ?_
      refine s_rd (r_faddr (fo := 0) Tryd.underlying32 rfl rfl Tryd.sizeOf3 rfl) rfl ?_
      refine s_on rfl rfl rfl ?_
      refine s_rd (r_cload Tryd.isAgg3 rfl (j := 3) rfl rfl) rfl ?_
      refine s_on rfl rfl rfl ?_
      refine s_rd (r_faddr (fo := 0) Tryd.underlying32 rfl rfl Tryd.sizeOf3 rfl) rfl ?_
      refine s_on rfl rfl rfl ?_
      refine s_rd (r_cload Tryd.isAgg3 rfl (j := 4) rfl rfl) rfl ?_
      refine s_on rfl rfl rfl ?_
      refine s_rd (r_neq rfl rfl) rfl ?_
      refine s_rd (r_pickF rfl rfl) rfl ?_
      refine mv1 rfl rfl ?_
      refine b_split (t := 128) rfl (fun _ => ?_) (fun _ => ?_)
      · refine s_off rfl rfl rfl rfl rfl ?_
        refine s_off rfl rfl rfl rfl rfl ?_
        refine s_off rfl rfl rfl rfl rfl ?_
        refine s_off rfl rfl rfl rfl rfl ?_
        refine s_off rfl rfl rfl rfl rfl ?_
        refine s_off rfl rfl rfl rfl rfl ?_
        refine s_rd (r_pickT rfl rfl) rfl ?_
        refine mv1 rfl rfl ?_
        refine s_off rfl rfl rfl rfl rfl ?_
        refine s_off rfl rfl rfl rfl rfl ?_
        refine s_off rfl rfl rfl rfl rfl ?_
        refine s_off rfl rfl rfl rfl rfl ?_
        refine s_rd (r_pickT rfl rfl) rfl ?_
        refine l_nil (n_then ?_)
        refine ref_condT rfl rfl ?_
        refine ref_seq (ref_region ?_)
        refine as1 rfl rfl ?_
        refine l_nil (n_then (ref_ret (r_then (r_block (r_then ?_)))))
        refine retX ?_
        refine r_block (r_then ?_)
        exact fin1 (.inl rfl) () [0] rfl ⟨rfl, trivial⟩ rfl (rv_tmp rfl)
      refine s_on rfl rfl rfl ?_
      refine s_rd (r_faddr (fo := 1) Tryd.underlying32 rfl rfl Tryd.sizeOf22 rfl) rfl ?_
      refine s_on rfl rfl rfl ?_
      refine s_rd (r_cload Tryd.isAgg22 rfl (j := 3) rfl rfl) rfl ?_
      refine s_on rfl rfl rfl ?_
      refine s_rd (r_faddr (fo := 1) Tryd.underlying32 rfl rfl Tryd.sizeOf22 rfl) rfl ?_
      refine s_on rfl rfl rfl ?_
      refine s_rd (r_cload Tryd.isAgg22 rfl (j := 4) rfl rfl) rfl ?_
      refine s_on rfl rfl rfl ?_
      refine pull fun t103 h_t103 => ?_
      refine s_st (s_call (ψ := fun (_ : Unit) => bv t103) (args := [.tmp 130, .tmp 132]) Tryd.call28 rfl (keep_Ints_ok h_t103) ⟨arg rfl, arg rfl, trivial⟩ (fun _ _ _ _ h => h)) rfl (fun _ => ?_)
      refine s_on rfl rfl rfl ?_
      refine s_rd (r_not rfl) rfl ?_
      refine s_rd (r_pickF rfl rfl) rfl ?_
      refine mv1 rfl rfl ?_
      refine b_split (t := 136) rfl (fun _ => ?_) (fun _ => ?_)
      · refine s_off rfl rfl rfl rfl rfl ?_
        refine s_off rfl rfl rfl rfl rfl ?_
        refine s_off rfl rfl rfl rfl rfl ?_
        refine s_off rfl rfl rfl rfl rfl ?_
        refine s_rd (r_pickT rfl rfl) rfl ?_
        refine l_nil (n_then ?_)
        refine ref_condT rfl rfl ?_
        refine ref_seq (ref_region ?_)
        refine as1 rfl rfl ?_
        refine l_nil (n_then (ref_ret (r_then (r_block (r_then ?_)))))
        refine retX ?_
        refine r_block (r_then ?_)
        exact fin1 (.inl rfl) () [0] rfl ⟨rfl, trivial⟩ rfl (rv_tmp rfl)
      refine s_on rfl rfl rfl ?_
      refine mv1 rfl rfl ?_
      refine s_on rfl rfl rfl ?_
      refine mv1 rfl rfl ?_
      refine s_on rfl rfl rfl ?_
      refine pull fun t104 h_t104 => ?_
      refine s_st (s_callB (ψ := fun (_ : Unit) => bv t104) (args := [.tmp 137, .tmp 138]) Tryd.call28 rfl (keep_Ints_ok h_t104) ⟨argO rfl (j := 5) rfl, argO rfl (j := 6) rfl, trivial⟩ (fun _ _ _ _ _ h => h)) rfl (fun _ => ?_)
      refine s_on rfl rfl rfl ?_
      refine s_rd (r_not rfl) rfl ?_
      refine s_rd (r_pickF rfl rfl) rfl ?_
      refine l_nil ?_
      refine b_of (nrm [tbO (rI .u8) 0 tab_0, oc x7 [slv (rI .i64) s90.2.L, iv .i64 s90.2.At], oc b94 [iv .i64 t93.g.N, slv rT_api_Pair t93.g.L, slv (rI .i64) t93.w', iv .i64 t93.node], oc b96 [iv .i64 t95.1.Weight, slv (rI .i64) t95.1.Dropped], oc b98 [iv .i64 t97.1.Weight, slv (rI .i64) t97.1.Dropped], oa (rI .i64) x100.1 x100.2 t99.1, oa (rI .i64) x102.1 x102.2 t101.1] rfl) ?_
      refine n_then ?_
      refine ref_cond rfl (fun hb105 => ?_) (fun hb105 => ?_)
      · refine ref_seq (ref_region ?_)
        refine as1 rfl rfl ?_
        refine l_nil (n_then (ref_ret (r_then (r_block (r_then ?_)))))
        refine retX ?_
        refine r_block (r_then ?_)
        exact fin1 (.inl rfl) () [0] rfl ⟨rfl, trivial⟩ rfl (rv_tmp rfl)
      refine ref_skip (n_then (ref_seq (ref_region ?_)))
      refine mv1 rfl rfl ?_
      refine mv1 rfl rfl ?_
      refine pull fun t106 h_t106 => ?_
      refine s_st (s_callC [1] [true] (fun (_ : Unit) => [oc x7 [slv (rI .i64) t106.2.L, iv .i64 t106.2.At]]) (fun (_ : Unit) => []) (fun (_ : Unit) => iv .i64 t106.1) (args := [.tmp 143, .const (.int .i64 (6))]) (caps := []) Tryd.call11 rfl (keep_Src_N_ok h_t106) ⟨rfl, rfl, trivial⟩ (fun _ => rfl) (fun _ => trivial) (fun _ => rfl) ⟨arg rfl, arg rfl, trivial⟩ (fun _ _ _ _ h => h)) rfl (fun _ => ?_)
      refine s_st (s_bslice (xs := [.tmp 142, .tmp 144]) (ds := [t_4, t106.1]) Tryd.underlying22 el_3 rfl (Nat.le_of_ble_eq_true rfl) ⟨(part_at rfl iv_at), ⟨(part_at rfl iv_at), trivial⟩⟩) rfl (fun _ => ?_)
      refine s_rd (r_len Tryd.underlying22 rfl) rfl ?_
      refine mv1 rfl rfl ?_
      refine l_nil (n_then ?_)
      refine ref_loopX (f := (law22_DegreeAnswers_l2 t_4 t93 t106)) (Γl := (fun (s117 : Int) (x118 : Unit) => [(4, iv .i64 t_4), (11, pv (ptr x7 0)), (16, pv (ptr b94 0)), (67, slv rT_anon57 [(T_anon57.mk raw_0 weights_1 node_3), (T_anon57.mk t8.1 t8.2.1 k11.1), (T_anon57.mk t8.1 weights_1 k11.1), (T_anon57.mk t8.1 t8.2.1 node_3)]), (68, iv .i64 ([(T_anon57.mk raw_0 weights_1 node_3), (T_anon57.mk t8.1 t8.2.1 k11.1), (T_anon57.mk t8.1 weights_1 k11.1), (T_anon57.mk t8.1 t8.2.1 node_3)].length : Int)), (69, iv .i64 s90.1), (117, iv .i64 t99.2), (118, iv .i64 t101.2), (119, bv (t99.2 != t101.2)), (122, pv (ptr b96 0)), (123, iv .i64 t95.1.Weight), (124, pv (ptr b98 0)), (125, iv .i64 t97.1.Weight), (126, bv (t95.1.Weight != t97.1.Weight)), (129, pv (ptr b96 1)), (130, slv (rI .i64) t95.1.Dropped), (131, pv (ptr b98 1)), (132, slv (rI .i64) t97.1.Dropped), (133, bv t103), (134, bv (!t103)), (137, pv x100.1), (138, pv x102.1), (139, bv t104), (140, bv (!t104)), (145, slv (rI .i64) [t_4, t106.1]), (146, iv .i64 ([t_4, t106.1].length : Int)), (147, iv .i64 s117)])) (Ωl := (fun (s117 : Int) (x118 : Unit) => [tbO (rI .u8) 0 tab_0, oc x7 [slv (rI .i64) t106.2.L, iv .i64 t106.2.At], oc b94 [iv .i64 t93.g.N, slv rT_api_Pair t93.g.L, slv (rI .i64) t93.w', iv .i64 t93.node], oc b96 [iv .i64 t95.1.Weight, slv (rI .i64) t95.1.Dropped], oc b98 [iv .i64 t97.1.Weight, slv (rI .i64) t97.1.Dropped], oa (rI .i64) x100.1 x100.2 t99.1, oa (rI .i64) x102.1 x102.2 t101.1])) (Γb := (fun (q127 : Unit) (y128 : Unit) => [(4, iv .i64 t_4), (11, pv (ptr x7 0)), (67, slv rT_anon57 [(T_anon57.mk raw_0 weights_1 node_3), (T_anon57.mk t8.1 t8.2.1 k11.1), (T_anon57.mk t8.1 weights_1 k11.1), (T_anon57.mk t8.1 t8.2.1 node_3)]), (68, iv .i64 ([(T_anon57.mk raw_0 weights_1 node_3), (T_anon57.mk t8.1 t8.2.1 k11.1), (T_anon57.mk t8.1 weights_1 k11.1), (T_anon57.mk t8.1 t8.2.1 node_3)].length : Int)), (69, iv .i64 s90.1), (117, iv .i64 t99.2), (118, iv .i64 t101.2), (119, bv (t99.2 != t101.2)), (122, pv (ptr b96 0)), (123, iv .i64 t95.1.Weight), (124, pv (ptr b98 0)), (125, iv .i64 t97.1.Weight), (126, bv (t95.1.Weight != t97.1.Weight)), (129, pv (ptr b96 1)), (130, slv (rI .i64) t95.1.Dropped), (131, pv (ptr b98 1)), (132, slv (rI .i64) t97.1.Dropped), (133, bv t103), (134, bv (!t103)), (137, pv x100.1), (138, pv x102.1), (139, bv t104), (140, bv (!t104))])) (Ωb := (fun (q127 : Unit) (y128 : Unit) => [oc x7 [slv (rI .i64) t106.2.L, iv .i64 t106.2.At], oc b96 [iv .i64 t95.1.Weight, slv (rI .i64) t95.1.Dropped], oc b98 [iv .i64 t97.1.Weight, slv (rI .i64) t97.1.Dropped], oa (rI .i64) x100.1 x100.2 t99.1, oa (rI .i64) x102.1 x102.2 t101.1, tbO (rI .u8) 0 tab_0])) (kr := (fun a : Bool => some (Sum.inl (Sum.inl a)))) 0 () (weak [0, 1, 2, 3, 4, 5, 6] ⟨rfl, rfl, rfl, rfl, rfl, rfl, rfl, rfl, rfl, rfl, rfl, rfl, rfl, rfl, rfl, rfl, rfl, rfl, rfl, rfl, rfl, rfl, rfl, rfl, rfl, rfl, rfl, trivial⟩ ⟨rfl, rfl, rfl, rfl, rfl, rfl, rfl, trivial⟩) (fun s117 x118 => ?_) (fun q127 y128 => ?_)
      · unfold law22_DegreeAnswers_l2
        refine ref_seq (ref_region ?_)
        refine s_rd (r_lss rfl rfl) rfl ?_
        refine l_nil (n_then (ref_seq ?_))
        refine ref_cond rfl (fun hb119 => ?_) (fun hb119 => ?_)
        · refine ref_skip (n_then (ref_seq (ref_block (ref_seq (ref_region ?_)))))
          refine pull fun u120 h_u120 => ?_
          refine s_rd (r_index h_u120 Tryd.underlying22 el_3 rfl rfl) rfl ?_
          refine s_rd (r_load el_3 rfl) rfl ?_
          refine as1 rfl rfl ?_
          refine l_nil (n_then (ref_seq (ref_region ?_)))
          refine s_rd (r_faddr (fo := 0) Tryd.underlying57 rfl rfl Tryd.sizeOf27 rfl) rfl ?_
          refine s_rd (r_cloadS Tryd.isAgg27 Tryd.sizeOf27 rfl (j := 2) rfl rfl rfl) rfl ?_
          refine s_rd (r_faddr (fo := 2) Tryd.underlying57 rfl rfl Tryd.sizeOf22 rfl) rfl ?_
          refine s_rd (r_cload Tryd.isAgg22 rfl (j := 2) rfl rfl) rfl ?_
          refine mv1 rfl rfl ?_
          refine pull fun t121 h_t121 => ?_
          refine s_st (s_call (ψ := fun (_ : Unit) => tup [ag [iv .i64 t121.1.N, slv rT_api_Pair t121.1.L], iv .i64 t121.2]) (args := [.tmp 153, .tmp 155, .tmp 156]) Tryd.call29 rfl (degree_Cut_ok h_t121) ⟨arg rfl, arg rfl, arg rfl, trivial⟩ (fun _ _ _ _ h => h)) rfl (fun _ => ?_)
          refine mv1 rfl rfl ?_
          refine s_rd (r_extract rfl rfl) rfl ?_
          refine s_rd (r_extract rfl rfl) rfl ?_
          refine s_st (s_alloc zt_27) rfl (fun b122 => ?_)
          refine s_st0 (s_cstore (out := [iv .i64 t121.1.N, slv rT_api_Pair t121.1.L]) Tryd.sizeOf27 rfl (j := 7) rfl (part_agO (ψs := [iv .i64 t121.1.N, slv rT_api_Pair t121.1.L]) rfl ⟨.inl iv_at, .inl slv_at, trivial⟩) rfl rfl rfl) (fun _ => ?_)
          refine as1 rfl rfl ?_
          refine l_nil ?_
          refine b_of (nrm [tbO (rI .u8) 0 tab_0, oc x7 [slv (rI .i64) t106.2.L, iv .i64 t106.2.At], oc b94 [iv .i64 t93.g.N, slv rT_api_Pair t93.g.L, slv (rI .i64) t93.w', iv .i64 t93.node], oc b96 [iv .i64 t95.1.Weight, slv (rI .i64) t95.1.Dropped], oc b98 [iv .i64 t97.1.Weight, slv (rI .i64) t97.1.Dropped], oa (rI .i64) x100.1 x100.2 t99.1, oa (rI .i64) x102.1 x102.2 t101.1, oc b122 [iv .i64 t121.1.N, slv rT_api_Pair t121.1.L]] rfl) ?_
          refine n_then (ref_seq (ref_region ?_))
          refine s_rd (r_faddr (fo := 0) Tryd.underlying57 rfl rfl Tryd.sizeOf27 rfl) rfl ?_
          refine s_rd (r_cloadS Tryd.isAgg27 Tryd.sizeOf27 rfl (j := 2) rfl rfl rfl) rfl ?_
          refine s_rd (r_faddr (fo := 2) Tryd.underlying57 rfl rfl Tryd.sizeOf22 rfl) rfl ?_
          refine s_rd (r_cload Tryd.isAgg22 rfl (j := 2) rfl rfl) rfl ?_
          refine mv1 rfl rfl ?_
          refine pull fun t123 h_t123 => ?_
          refine s_st (s_call (ψ := fun (_ : Unit) => tup [ag [iv .i64 t123.1.N, slv rT_api_Pair t123.1.L], iv .i64 t123.2]) (args := [.tmp 162, .tmp 164, .tmp 165]) Tryd.call30 rfl (ref22_Cut_ok h_t123) ⟨arg rfl, arg rfl, arg rfl, trivial⟩ (fun _ _ _ _ h => h)) rfl (fun _ => ?_)
          refine mv1 rfl rfl ?_
          refine s_rd (r_extract rfl rfl) rfl ?_
          refine s_rd (r_extract rfl rfl) rfl ?_
          refine s_st (s_alloc zt_27) rfl (fun b124 => ?_)
          refine s_st0 (s_cstore (out := [iv .i64 t123.1.N, slv rT_api_Pair t123.1.L]) Tryd.sizeOf27 rfl (j := 8) rfl (part_agO (ψs := [iv .i64 t123.1.N, slv rT_api_Pair t123.1.L]) rfl ⟨.inl iv_at, .inl slv_at, trivial⟩) rfl rfl rfl) (fun _ => ?_)
          refine as1 rfl rfl ?_
          refine l_nil (n_then (ref_seq (ref_region ?_)))
          refine mv1 rfl rfl ?_
          refine mv1 rfl rfl ?_
          refine s_rd (r_neq rfl rfl) rfl ?_
          refine mv1 rfl rfl ?_
          refine b_split (t := 172) rfl (fun _ => ?_) (fun _ => ?_)
          · refine s_off rfl rfl rfl rfl rfl ?_
            refine s_off rfl rfl rfl rfl rfl ?_
            refine s_off rfl rfl rfl rfl rfl ?_
            refine s_off rfl rfl rfl rfl rfl ?_
            refine s_rd (r_pickT rfl rfl) rfl ?_
            refine l_nil (n_then ?_)
            refine ref_condT rfl rfl ?_
            refine ref_seq (ref_region ?_)
            refine as1 rfl rfl ?_
            refine l_nil (n_then (ref_ret (r_block (r_then ?_))))
            refine retX ?_
            refine r_block (r_block (r_then ?_))
            refine retX ?_
            refine r_block (r_then ?_)
            exact fin1 (.inl rfl) () [0] rfl ⟨rfl, trivial⟩ rfl (rv_tmp rfl)
          refine s_on rfl rfl rfl ?_
          refine s_rd (r_cloadS Tryd.isAgg27 Tryd.sizeOf27 rfl (j := 7) rfl rfl rfl) rfl ?_
          refine s_on rfl rfl rfl ?_
          refine s_rd (r_cloadS Tryd.isAgg27 Tryd.sizeOf27 rfl (j := 8) rfl rfl rfl) rfl ?_
          refine s_on rfl rfl rfl ?_
          refine pull fun t125 h_t125 => ?_
          refine s_st (s_call (ψ := fun (_ : Unit) => bv t125) (args := [.tmp 173, .tmp 174]) Tryd.call31 rfl (net_Same_ok h_t125) ⟨arg rfl, arg rfl, trivial⟩ (fun _ _ _ _ h => h)) rfl (fun _ => ?_)
          refine s_on rfl rfl rfl ?_
          refine s_rd (r_not rfl) rfl ?_
          refine s_rd (r_pickF rfl rfl) rfl ?_
          refine l_nil ?_
          refine b_of (nrm [tbO (rI .u8) 0 tab_0, oc x7 [slv (rI .i64) t106.2.L, iv .i64 t106.2.At], oc b94 [iv .i64 t93.g.N, slv rT_api_Pair t93.g.L, slv (rI .i64) t93.w', iv .i64 t93.node], oc b96 [iv .i64 t95.1.Weight, slv (rI .i64) t95.1.Dropped], oc b98 [iv .i64 t97.1.Weight, slv (rI .i64) t97.1.Dropped], oa (rI .i64) x100.1 x100.2 t99.1, oa (rI .i64) x102.1 x102.2 t101.1, oc b122 [iv .i64 t121.1.N, slv rT_api_Pair t121.1.L], oc b124 [iv .i64 t123.1.N, slv rT_api_Pair t123.1.L]] rfl) ?_
          refine n_then ?_
          refine ref_cond rfl (fun hb126 => ?_) (fun hb126 => ?_)
          · refine ref_seq (ref_region ?_)
            refine as1 rfl rfl ?_
            refine l_nil (n_then (ref_ret (r_block (r_then ?_))))
            refine retX ?_
            refine r_block (r_block (r_then ?_))
            refine retX ?_
            refine r_block (r_then ?_)
            exact fin1 (.inl rfl) () [0] rfl ⟨rfl, trivial⟩ rfl (rv_tmp rfl)
          refine ref_skip (n_block (n_then (ref_region ?_)))
          refine s_rd (r_add rfl rfl) rfl ?_
          refine mv1 rfl rfl ?_
          refine l_nil ?_
          exact goX () (weak [0, 1, 2, 3, 4, 5, 6] ⟨rfl, rfl, rfl, rfl, rfl, rfl, rfl, rfl, rfl, rfl, rfl, rfl, rfl, rfl, rfl, rfl, rfl, rfl, rfl, rfl, rfl, rfl, rfl, rfl, rfl, rfl, rfl, trivial⟩ ⟨rfl, rfl, rfl, rfl, rfl, rfl, rfl, trivial⟩)
        refine ref_exit (x_then ?_)
        exact brkX () (weak [1, 3, 4, 5, 6, 0] ⟨rfl, rfl, rfl, rfl, rfl, rfl, rfl, rfl, rfl, rfl, rfl, rfl, rfl, rfl, rfl, rfl, rfl, rfl, rfl, rfl, rfl, rfl, rfl, trivial⟩ ⟨rfl, rfl, rfl, rfl, rfl, rfl, trivial⟩)
      refine n_block (n_then (ref_region ?_))
      refine s_rd (r_add rfl rfl) rfl ?_
      refine mv1 rfl rfl ?_
      refine l_nil ?_
      exact goX () (weak [5, 0] ⟨rfl, rfl, rfl, rfl, rfl, trivial⟩ ⟨rfl, rfl, trivial⟩)
    refine ref_exit (x_then ?_)
    exact brkX () (weak [0] trivial ⟨rfl, trivial⟩)
  refine n_then (ref_seq (ref_region ?_))
  refine pull fun t131 h_t131 => ?_
  refine s_st (s_callC [0] [true] (fun (_ : Unit) => [tbO (rI .u8) 0 tab_0]) (fun (_ : Unit) => []) (fun (_ : Unit) => bv t131) (args := []) (caps := []) Tryd.call14 rfl (law22_awake_ok h_t131) ⟨rfl, rfl, trivial⟩ (fun _ => rfl) (fun _ => trivial) (fun _ => rfl) trivial (fun _ _ _ _ h => h)) rfl (fun _ => ?_)
  refine as1 rfl rfl ?_
  refine l_nil (n_then (ref_ret ?_))
  exact fin1 (.inl rfl) () [0] rfl ⟨rfl, trivial⟩ rfl (rv_tmp rfl)

end Go.Dc
