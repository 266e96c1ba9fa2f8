/- Part LAW28C.A1 of a proof: lemmas. -/
import Derived.Test.YtodnndlcnignbaaLAW28CA0
import Derived.Test.YtodnndlcnignbaaProg
set_option linter.unusedVariables false
set_option maxRecDepth 100000
set_option maxHeartbeats 4000000
namespace Go.Dc
open Go.Proofs
open Go.Proofs.Try (prog)

/-! (deliberation/protocol.table).judged -/
noncomputable def protocol_table_judged_m (t_0 : T_protocol_table) (m_1 : T_api_Move) : Option (T_api_Move × Int) :=
  joinM (fun j9 : Unit =>
      Option.bind (protocol_other_m t_0.leader) fun t12 =>
      bif m_1.By != t12 then
        some (m_1, 8)
      else
        bif m_1.Kind == 4 then
          some ((T_api_Move.mk m_1.By m_1.Kind 0 0), 0)
        else
          joinM (fun j16 : Unit =>
              bif m_1.Kind == 2 then
                Option.bind (protocol_table_legal_m t_0) fun t20 =>
                Option.bind (slices_Contains_api_Move_api_Move_m t20 m_1) fun t22 =>
                bif !t22 then
                  some (m_1, 9)
                else
                  some (m_1, 0)
              else
                Option.bind (idxM t_0.d.Moves m_1.Target) fun t24 =>
                bif t24.By != m_1.By then
                  some (m_1, 6)
                else
                  bif t24.Kind != 2 then
                    some (m_1, 6)
                  else
                    Option.bind (idxM t_0.status m_1.Target) fun t26 =>
                    bif t26 == 0 then
                      some (m_1, 6)
                    else
                      some ((T_api_Move.mk m_1.By m_1.Kind 0 m_1.Target), 0)) fun k18 =>
          bif decide (m_1.Target < 0) then
            some (m_1, 1)
          else
            bif decide (m_1.Target ≥ (t_0.d.Moves.length : Int)) then
              some (m_1, 1)
            else
              bif m_1.Kind == 2 then
                bif decide (m_1.Node < 0) then
                  some (m_1, 1)
                else
                  bif decide (m_1.Node ≥ t_0.d.Graph.N) then
                    some (m_1, 1)
                  else
                    k18 ()
              else
                k18 ()) fun k11 =>
  bif m_1.Kind == 2 then
    bif m_1.Kind == 2 then
      k11 ()
    else
      some (m_1, 4)
  else
    bif m_1.Kind == 3 then
      bif m_1.Kind == 3 then
        k11 ()
      else
        some (m_1, 4)
    else
      bif m_1.Kind == 4 then
        k11 ()
      else
        some (m_1, 4)

theorem protocol_table_judged_ok {t_0 : T_protocol_table} {m_1 : T_api_Move} {r : T_api_Move × Int} (hm : protocol_table_judged_m t_0 m_1 = some r) :
    FnOk prog 74 [ag [iv .i64 t_0.d.Graph.N, slv rT_api_Pair t_0.d.Graph.L, iv .i64 t_0.d.Root, iv .i64 t_0.d.Limits.i0, iv .i64 t_0.d.Limits.i1, slv rT_api_Move t_0.d.Moves, slv (rI .i64) t_0.status, iv .i64 t_0.leader, slv rB t_0.leading], ag [iv .i64 m_1.By, iv .i64 m_1.Kind, iv .i64 m_1.Node, iv .i64 m_1.Target]] [] (fun (x : Unit) => [ag [iv .i64 r.1.By, iv .i64 r.1.Kind, iv .i64 r.1.Node, iv .i64 r.1.Target], iv .i64 r.2]) (fun (x : Unit) => []) := by
  refine fn_ok (fn := Try.f74) (N := 100) (res := fun r x => [ag [iv .i64 r.1.By, iv .i64 r.1.Kind, iv .i64 r.1.Node, iv .i64 r.1.Target], iv .i64 r.2]) (Ω1 := fun r x => []) Try.func74 rfl rfl hm rfl (fun E hM => ?_)
  unfold protocol_table_judged_m
  refine ref_seq (ref_region ?_)
  refine s_st (s_box (part_agO (ψs := [iv .i64 t_0.d.Graph.N, slv rT_api_Pair t_0.d.Graph.L, iv .i64 t_0.d.Root, iv .i64 t_0.d.Limits.i0, iv .i64 t_0.d.Limits.i1, slv rT_api_Move t_0.d.Moves, slv (rI .i64) t_0.status, iv .i64 t_0.leader, slv rB t_0.leading]) rfl ⟨.inl iv_at, .inl slv_at, .inl iv_at, .inl iv_at, .inl iv_at, .inl slv_at, .inl slv_at, .inl iv_at, .inl slv_at, trivial⟩)) rfl (fun b1 => ?_)
  refine s_st (s_box (part_agO (ψs := [iv .i64 m_1.By, iv .i64 m_1.Kind, iv .i64 m_1.Node, iv .i64 m_1.Target]) rfl ⟨.inl iv_at, .inl iv_at, .inl iv_at, .inl iv_at, trivial⟩)) rfl (fun b2 => ?_)
  refine s_st (s_alloc zt_40) rfl (fun b3 => ?_)
  refine as1 rfl rfl ?_
  refine l_nil (n_then (ref_seq (ref_region ?_)))
  refine s_rd (r_faddr (fo := 0) Try.underlying95 rfl rfl Try.sizeOf35 rfl) rfl ?_
  refine s_rd (r_faddr (fo := 5) Try.underlying35 rfl rfl Try.sizeOf23 rfl) rfl ?_
  refine s_rd (r_cload Try.isAgg23 rfl (j := 0) rfl rfl) rfl ?_
  refine as1 rfl rfl ?_
  refine l_nil (n_then (ref_seq ?_))
  refine ref_join (fun (j9 : Unit) (x10 : Unit) => [(2, pv (ptr b1 0)), (3, pv (ptr b2 0)), (4, pv (ptr b3 0)), (6, slv rT_api_Move t_0.d.Moves)]) (fun (j9 : Unit) (x10 : Unit) => [oc b1 [iv .i64 t_0.d.Graph.N, slv rT_api_Pair t_0.d.Graph.L, iv .i64 t_0.d.Root, iv .i64 t_0.d.Limits.i0, iv .i64 t_0.d.Limits.i1, slv rT_api_Move t_0.d.Moves, slv (rI .i64) t_0.status, iv .i64 t_0.leader, slv rB t_0.leading], oc b2 [iv .i64 m_1.By, iv .i64 m_1.Kind, iv .i64 m_1.Node, iv .i64 m_1.Target], oc b3 [iv .i64 0, iv .i64 0, iv .i64 0, iv .i64 0]]) (fun k11 hk11 => ?_) (fun j9 x10 => ?_)
  · refine ref_seq (ref_region ?_)
    refine s_rd (r_faddr (fo := 1) Try.underlying40 rfl rfl Try.sizeOf3 rfl) rfl ?_
    refine s_rd (r_cload Try.isAgg3 rfl (j := 1) rfl rfl) rfl ?_
    refine l_nil (n_then (ref_block (ref_seq (ref_seq (ref_region ?_)))))
    refine s_rd (r_eql rfl rfl) rfl ?_
    refine as1 rfl rfl ?_
    refine l_nil (n_then ?_)
    refine ref_cond rfl (fun hb4 => ?_) (fun hb4 => ?_)
    · refine ref_skip (n_then ?_)
      refine ref_cond rfl (fun hb6 => ?_) (fun hb6 => ?_)
      · refine ref_skip (n_block ?_)
        exact b_to (hk11 () ()) (weak [0, 1, 2] ⟨rfl, rfl, rfl, rfl, trivial⟩ ⟨rfl, rfl, rfl, trivial⟩)
      refine ref_seq (ref_region ?_)
      refine s_rd (r_cloadS Try.isAgg40 Try.sizeOf40 rfl (j := 1) rfl rfl rfl) rfl ?_
      refine s_st0 (s_cstore (out := [iv .i64 m_1.By, iv .i64 m_1.Kind, iv .i64 m_1.Node, iv .i64 m_1.Target]) Try.sizeOf40 rfl (j := 2) rfl (part_agO (ψs := [iv .i64 m_1.By, iv .i64 m_1.Kind, iv .i64 m_1.Node, iv .i64 m_1.Target]) rfl ⟨.inl iv_at, .inl iv_at, .inl iv_at, .inl iv_at, trivial⟩) rfl rfl rfl) (fun _ => ?_)
      refine as1 rfl rfl ?_
      refine l_nil ?_
      refine b_of (nrm [oc b1 [iv .i64 t_0.d.Graph.N, slv rT_api_Pair t_0.d.Graph.L, iv .i64 t_0.d.Root, iv .i64 t_0.d.Limits.i0, iv .i64 t_0.d.Limits.i1, slv rT_api_Move t_0.d.Moves, slv (rI .i64) t_0.status, iv .i64 t_0.leader, slv rB t_0.leading], oc b2 [iv .i64 m_1.By, iv .i64 m_1.Kind, iv .i64 m_1.Node, iv .i64 m_1.Target], oc b3 [iv .i64 m_1.By, iv .i64 m_1.Kind, iv .i64 m_1.Node, iv .i64 m_1.Target]] rfl) ?_
      refine n_then (ref_ret (r_block (r_then ?_)))
      exact fin2 (.inl rfl) () [] rfl trivial rfl (rv_cell rfl (j := 2) rfl Try.isAgg40 Try.sizeOf40 rfl rfl) (rv_tmp rfl)
    refine ref_seq (ref_region ?_)
    refine s_rd (r_eql rfl rfl) rfl ?_
    refine as1 rfl rfl ?_
    refine l_nil (n_then ?_)
    refine ref_cond rfl (fun hb5 => ?_) (fun hb5 => ?_)
    · refine ref_skip (n_then ?_)
      refine ref_cond rfl (fun hb7 => ?_) (fun hb7 => ?_)
      · refine ref_skip (n_block ?_)
        exact b_to (hk11 () ()) (weak [0, 1, 2] ⟨rfl, rfl, rfl, rfl, trivial⟩ ⟨rfl, rfl, rfl, trivial⟩)
      refine ref_seq (ref_region ?_)
      refine s_rd (r_cloadS Try.isAgg40 Try.sizeOf40 rfl (j := 1) rfl rfl rfl) rfl ?_
      refine s_st0 (s_cstore (out := [iv .i64 m_1.By, iv .i64 m_1.Kind, iv .i64 m_1.Node, iv .i64 m_1.Target]) Try.sizeOf40 rfl (j := 2) rfl (part_agO (ψs := [iv .i64 m_1.By, iv .i64 m_1.Kind, iv .i64 m_1.Node, iv .i64 m_1.Target]) rfl ⟨.inl iv_at, .inl iv_at, .inl iv_at, .inl iv_at, trivial⟩) rfl rfl rfl) (fun _ => ?_)
      refine as1 rfl rfl ?_
      refine l_nil ?_
      refine b_of (nrm [oc b1 [iv .i64 t_0.d.Graph.N, slv rT_api_Pair t_0.d.Graph.L, iv .i64 t_0.d.Root, iv .i64 t_0.d.Limits.i0, iv .i64 t_0.d.Limits.i1, slv rT_api_Move t_0.d.Moves, slv (rI .i64) t_0.status, iv .i64 t_0.leader, slv rB t_0.leading], oc b2 [iv .i64 m_1.By, iv .i64 m_1.Kind, iv .i64 m_1.Node, iv .i64 m_1.Target], oc b3 [iv .i64 m_1.By, iv .i64 m_1.Kind, iv .i64 m_1.Node, iv .i64 m_1.Target]] rfl) ?_
      refine n_then (ref_ret (r_block (r_then ?_)))
      exact fin2 (.inl rfl) () [] rfl trivial rfl (rv_cell rfl (j := 2) rfl Try.isAgg40 Try.sizeOf40 rfl rfl) (rv_tmp rfl)
    refine ref_region ?_
    refine s_rd (r_eql rfl rfl) rfl ?_
    refine as1 rfl rfl ?_
    refine l_nil (n_then ?_)
    refine ref_cond rfl (fun hb8 => ?_) (fun hb8 => ?_)
    · refine ref_skip (n_block ?_)
      exact b_to (hk11 () ()) (weak [0, 1, 2] ⟨rfl, rfl, rfl, rfl, trivial⟩ ⟨rfl, rfl, rfl, trivial⟩)
    refine ref_seq (ref_region ?_)
    refine s_rd (r_cloadS Try.isAgg40 Try.sizeOf40 rfl (j := 1) rfl rfl rfl) rfl ?_
    refine s_st0 (s_cstore (out := [iv .i64 m_1.By, iv .i64 m_1.Kind, iv .i64 m_1.Node, iv .i64 m_1.Target]) Try.sizeOf40 rfl (j := 2) rfl (part_agO (ψs := [iv .i64 m_1.By, iv .i64 m_1.Kind, iv .i64 m_1.Node, iv .i64 m_1.Target]) rfl ⟨.inl iv_at, .inl iv_at, .inl iv_at, .inl iv_at, trivial⟩) rfl rfl rfl) (fun _ => ?_)
    refine as1 rfl rfl ?_
    refine l_nil ?_
    refine b_of (nrm [oc b1 [iv .i64 t_0.d.Graph.N, slv rT_api_Pair t_0.d.Graph.L, iv .i64 t_0.d.Root, iv .i64 t_0.d.Limits.i0, iv .i64 t_0.d.Limits.i1, slv rT_api_Move t_0.d.Moves, slv (rI .i64) t_0.status, iv .i64 t_0.leader, slv rB t_0.leading], oc b2 [iv .i64 m_1.By, iv .i64 m_1.Kind, iv .i64 m_1.Node, iv .i64 m_1.Target], oc b3 [iv .i64 m_1.By, iv .i64 m_1.Kind, iv .i64 m_1.Node, iv .i64 m_1.Target]] rfl) ?_
    refine n_then (ref_ret (r_block (r_then ?_)))
    exact fin2 (.inl rfl) () [] rfl trivial rfl (rv_cell rfl (j := 2) rfl Try.isAgg40 Try.sizeOf40 rfl rfl) (rv_tmp rfl)
  refine n_then (ref_seq (ref_seq ?_))
  refine ref_draw [0, 1, 2, 3, 5] rfl (by kernel_rfl) (fun hok => ?_)
  refine a_rd (i := 0) hok rfl (by kernel_rfl) rfl (r_faddr (fo := 0) Try.underlying40 rfl rfl Try.sizeOf3 rfl) rfl ?_
  refine a_rd (i := 1) hok rfl (by kernel_rfl) rfl (r_cload Try.isAgg3 rfl (j := 1) rfl rfl) rfl ?_
  refine a_rd (i := 2) hok rfl (by kernel_rfl) rfl (r_faddr (fo := 7) Try.underlying95 rfl rfl Try.sizeOf3 rfl) rfl ?_
  refine a_rd (i := 3) hok rfl (by kernel_rfl) rfl (r_cload Try.isAgg3 rfl (j := 0) rfl rfl) rfl ?_
  refine pull fun t12 h_t12 => ?_
  refine a_next hok 4 [] (by kernel_rfl) ?_ trivial
  refine a_st (i := 4) hok rfl rfl (s_call (ψ := fun (_ : Unit) => iv .i64 t12) (args := [.tmp 21]) Try.call61 rfl (protocol_other_ok h_t12) ⟨arg rfl, trivial⟩ (fun _ _ _ _ h => h)) (by intro _ h; cases h; rfl) (fun _ => ⟨trivial, ⟨trivial, ⟨⟨⟨rfl, rfl⟩, trivial⟩, ⟨trivial, trivial⟩⟩⟩⟩) (fun _ => ?_)
  refine a_rd (i := 5) hok rfl (by kernel_rfl) rfl (r_neq rfl rfl) rfl ?_
  refine a_fin hok (by kernel_rfl) ?_
  refine n_then ?_
  refine ref_cond rfl (fun hb13 => ?_) (fun hb13 => ?_)
  · refine ref_seq (ref_region ?_)
    refine s_rd (r_cloadS Try.isAgg40 Try.sizeOf40 rfl (j := 1) rfl rfl rfl) rfl ?_
    refine s_st0 (s_cstore (out := [iv .i64 m_1.By, iv .i64 m_1.Kind, iv .i64 m_1.Node, iv .i64 m_1.Target]) Try.sizeOf40 rfl (j := 2) rfl (part_agO (ψs := [iv .i64 m_1.By, iv .i64 m_1.Kind, iv .i64 m_1.Node, iv .i64 m_1.Target]) rfl ⟨.inl iv_at, .inl iv_at, .inl iv_at, .inl iv_at, trivial⟩) rfl rfl rfl) (fun _ => ?_)
    refine as1 rfl rfl ?_
    refine l_nil (n_then (ref_ret (r_then ?_)))
    exact fin2 (.inl rfl) () [] rfl trivial rfl (rv_cell rfl (j := 2) rfl Try.isAgg40 Try.sizeOf40 rfl rfl) (rv_tmp rfl)
  refine ref_skip (n_then (ref_seq (ref_seq (ref_region ?_))))
  refine s_rd (r_faddr (fo := 1) Try.underlying40 rfl rfl Try.sizeOf3 rfl) rfl ?_
  refine s_rd (r_cload Try.isAgg3 rfl (j := 1) rfl rfl) rfl ?_
  refine s_rd (r_eql rfl rfl) rfl ?_
  refine l_nil (n_then ?_)
  refine ref_cond rfl (fun hb14 => ?_) (fun hb14 => ?_)
  · refine ref_seq (ref_region ?_)
    refine s_rd (r_faddr (fo := 0) Try.underlying40 rfl rfl Try.sizeOf3 rfl) rfl ?_
    refine s_rd (r_cload Try.isAgg3 rfl (j := 1) rfl rfl) rfl ?_
    refine s_rd (r_faddr (fo := 1) Try.underlying40 rfl rfl Try.sizeOf3 rfl) rfl ?_
    refine s_rd (r_cload Try.isAgg3 rfl (j := 1) rfl rfl) rfl ?_
    refine s_rd (r_build (ps := [(0, .tmp 29), (1, .tmp 31)]) (rs := [(0, [iv .i64 m_1.By]), (1, [iv .i64 m_1.Kind])]) st_40 zs_40 ⟨rfl, (part_at rfl iv_at), ⟨rfl, (part_at rfl iv_at), trivial⟩⟩ rfl rfl) rfl ?_
    refine s_st0 (s_cstore (out := [iv .i64 m_1.By, iv .i64 m_1.Kind, iv .i64 0, iv .i64 0]) Try.sizeOf40 rfl (j := 2) rfl (part_agO (ψs := [iv .i64 m_1.By, iv .i64 m_1.Kind, iv .i64 0, iv .i64 0]) rfl ⟨.inl iv_at, .inl iv_at, .inl iv_at, .inl iv_at, trivial⟩) rfl rfl rfl) (fun _ => ?_)
    refine as1 rfl rfl ?_
    refine l_nil (n_then (ref_ret (r_then ?_)))
    exact fin2 (.inl rfl) () [] rfl trivial rfl (rv_cell rfl (j := 2) rfl Try.isAgg40 Try.sizeOf40 rfl rfl) (rv_tmp rfl)
  refine ref_skip (n_then (ref_seq ?_))
  refine ref_join (fun (j16 : Unit) (x17 : Unit) => [(2, pv (ptr b1 0)), (3, pv (ptr b2 0)), (4, pv (ptr b3 0)), (6, slv rT_api_Move t_0.d.Moves)]) (fun (j16 : Unit) (x17 : Unit) => [oc b1 [iv .i64 t_0.d.Graph.N, slv rT_api_Pair t_0.d.Graph.L, iv .i64 t_0.d.Root, iv .i64 t_0.d.Limits.i0, iv .i64 t_0.d.Limits.i1, slv rT_api_Move t_0.d.Moves, slv (rI .i64) t_0.status, iv .i64 t_0.leader, slv rB t_0.leading], oc b2 [iv .i64 m_1.By, iv .i64 m_1.Kind, iv .i64 m_1.Node, iv .i64 m_1.Target], oc b3 [iv .i64 0, iv .i64 0, iv .i64 0, iv .i64 0]]) (fun k18 hk18 => ?_) (fun j16 x17 => ?_)
  · refine ref_seq (ref_region ?_)
    refine s_rd (r_faddr (fo := 3) Try.underlying40 rfl rfl Try.sizeOf3 rfl) rfl ?_
    refine s_rd (r_cload Try.isAgg3 rfl (j := 1) rfl rfl) rfl ?_
    refine s_rd (r_lss rfl rfl) rfl ?_
    refine mv1 rfl rfl ?_
    refine b_split (t := 36) rfl (fun _ => ?_) (fun _ => ?_)
    · refine s_off rfl rfl rfl rfl rfl ?_
      refine s_off rfl rfl rfl rfl rfl ?_
      refine s_off rfl rfl rfl rfl rfl ?_
      refine s_off rfl rfl rfl rfl rfl ?_
      refine s_off rfl rfl rfl rfl rfl ?_
      refine s_rd (r_pickT rfl rfl) rfl ?_
      refine mv1 rfl rfl ?_
      refine s_off rfl rfl rfl rfl rfl ?_
      refine s_off rfl rfl rfl rfl rfl ?_
      refine s_off rfl rfl rfl rfl rfl ?_
      refine s_off rfl rfl rfl rfl rfl ?_
      refine s_offU rfl rfl rfl ?_
      refine s_offU rfl rfl rfl ?_
      refine s_offU rfl rfl rfl ?_
      refine s_offU rfl rfl rfl ?_
      refine s_offU rfl rfl rfl ?_
      refine s_offU rfl rfl rfl ?_
      refine s_offU rfl rfl rfl ?_
      refine s_offU rfl rfl rfl ?_
      refine s_offU rfl rfl rfl ?_
      refine s_offU rfl rfl rfl ?_
      refine s_offU rfl rfl rfl ?_
      refine s_offU rfl rfl rfl ?_
      refine s_off rfl rfl rfl rfl rfl ?_
      refine s_rd (r_pickT rfl rfl) rfl ?_
      refine l_nil (n_then ?_)
      refine ref_condT rfl rfl ?_
      refine ref_seq (ref_region ?_)
      refine s_rd (r_cloadS Try.isAgg40 Try.sizeOf40 rfl (j := 1) rfl rfl rfl) rfl ?_
      refine s_st0 (s_cstore (out := [iv .i64 m_1.By, iv .i64 m_1.Kind, iv .i64 m_1.Node, iv .i64 m_1.Target]) Try.sizeOf40 rfl (j := 2) rfl (part_agO (ψs := [iv .i64 m_1.By, iv .i64 m_1.Kind, iv .i64 m_1.Node, iv .i64 m_1.Target]) rfl ⟨.inl iv_at, .inl iv_at, .inl iv_at, .inl iv_at, trivial⟩) rfl rfl rfl) (fun _ => ?_)
      refine as1 rfl rfl ?_
      refine l_nil (n_then (ref_ret (r_then ?_)))
      exact fin2 (.inl rfl) () [] rfl trivial rfl (rv_cell rfl (j := 2) rfl Try.isAgg40 Try.sizeOf40 rfl rfl) (rv_tmp rfl)
    refine s_on rfl rfl rfl ?_
    refine s_rd (r_faddr (fo := 3) Try.underlying40 rfl rfl Try.sizeOf3 rfl) rfl ?_
    refine s_on rfl rfl rfl ?_
    refine s_rd (r_cload Try.isAgg3 rfl (j := 1) rfl rfl) rfl ?_
    refine s_on rfl rfl rfl ?_
    refine mv1 rfl rfl ?_
    refine s_on rfl rfl rfl ?_
    refine s_rd (r_len Try.underlying23 rfl) rfl ?_
    refine s_on rfl rfl rfl ?_
    refine s_rd (r_geq rfl rfl) rfl ?_
    refine s_rd (r_pickF rfl rfl) rfl ?_
    refine mv1 rfl rfl ?_
    refine b_split (t := 43) rfl (fun _ => ?_) (fun _ => ?_)
    · refine s_off rfl rfl rfl rfl rfl ?_
      refine s_off rfl rfl rfl rfl rfl ?_
      refine s_off rfl rfl rfl rfl rfl ?_
      refine s_off rfl rfl rfl rfl rfl ?_
      refine s_offU rfl rfl rfl ?_
      refine s_offU rfl rfl rfl ?_
      refine s_offU rfl rfl rfl ?_
      refine s_offU rfl rfl rfl ?_
      refine s_offU rfl rfl rfl ?_
      refine s_offU rfl rfl rfl ?_
      refine s_offU rfl rfl rfl ?_
      refine s_offU rfl rfl rfl ?_
      refine s_offU rfl rfl rfl ?_
      refine s_offU rfl rfl rfl ?_
      refine s_offU rfl rfl rfl ?_
      refine s_offU rfl rfl rfl ?_
      refine s_off rfl rfl rfl rfl rfl ?_
      refine s_rd (r_pickT rfl rfl) rfl ?_
      refine l_nil (n_then ?_)
      refine ref_condT rfl rfl ?_
      refine ref_seq (ref_region ?_)
      refine s_rd (r_cloadS Try.isAgg40 Try.sizeOf40 rfl (j := 1) rfl rfl rfl) rfl ?_
      refine s_st0 (s_cstore (out := [iv .i64 m_1.By, iv .i64 m_1.Kind, iv .i64 m_1.Node, iv .i64 m_1.Target]) Try.sizeOf40 rfl (j := 2) rfl (part_agO (ψs := [iv .i64 m_1.By, iv .i64 m_1.Kind, iv .i64 m_1.Node, iv .i64 m_1.Target]) rfl ⟨.inl iv_at, .inl iv_at, .inl iv_at, .inl iv_at, trivial⟩) rfl rfl rfl) (fun _ => ?_)
      refine as1 rfl rfl ?_
      refine l_nil (n_then (ref_ret (r_then ?_)))
      exact fin2 (.inl rfl) () [] rfl trivial rfl (rv_cell rfl (j := 2) rfl Try.isAgg40 Try.sizeOf40 rfl rfl) (rv_tmp rfl)
    refine s_on rfl rfl rfl ?_
    refine s_rd (r_faddr (fo := 1) Try.underlying40 rfl rfl Try.sizeOf3 rfl) rfl ?_
    refine s_on rfl rfl rfl ?_
    refine s_rd (r_cload Try.isAgg3 rfl (j := 1) rfl rfl) rfl ?_
    refine s_on rfl rfl rfl ?_
    refine s_rd (r_eql rfl rfl) rfl ?_
    refine s_on rfl rfl rfl ?_
    refine mv1 rfl rfl ?_
    refine b_split (t := 47) rfl (fun _ => ?_) (fun _ => ?_)
    · refine s_on rfl rfl rfl ?_
      refine s_rd (r_faddr (fo := 2) Try.underlying40 rfl rfl Try.sizeOf3 rfl) rfl ?_
      refine s_on rfl rfl rfl ?_
      refine s_rd (r_cload Try.isAgg3 rfl (j := 1) rfl rfl) rfl ?_
      refine s_on rfl rfl rfl ?_
      refine s_rd (r_lss rfl rfl) rfl ?_
      refine s_on rfl rfl rfl ?_
      refine mv1 rfl rfl ?_
      refine b_split (t := 51) rfl (fun _ => ?_) (fun _ => ?_)
      · refine s_off rfl rfl rfl rfl rfl ?_
        refine s_off rfl rfl rfl rfl rfl ?_
        refine s_off rfl rfl rfl rfl rfl ?_
        refine s_off rfl rfl rfl rfl rfl ?_
        refine s_off rfl rfl rfl rfl rfl ?_
        refine s_off rfl rfl rfl rfl rfl ?_
        refine s_off rfl rfl rfl rfl rfl ?_
        refine s_on rfl rfl rfl ?_
        refine s_rd (r_pickT rfl rfl) rfl ?_
        refine s_on rfl rfl rfl ?_
        refine s_rd (r_pickT rfl rfl) rfl ?_
        refine s_rd (r_pickF rfl rfl) rfl ?_
        refine l_nil (n_then ?_)
        refine ref_condT rfl rfl ?_
        refine ref_seq (ref_region ?_)
        refine s_rd (r_cloadS Try.isAgg40 Try.sizeOf40 rfl (j := 1) rfl rfl rfl) rfl ?_
        refine s_st0 (s_cstore (out := [iv .i64 m_1.By, iv .i64 m_1.Kind, iv .i64 m_1.Node, iv .i64 m_1.Target]) Try.sizeOf40 rfl (j := 2) rfl (part_agO (ψs := [iv .i64 m_1.By, iv .i64 m_1.Kind, iv .i64 m_1.Node, iv .i64 m_1.Target]) rfl ⟨.inl iv_at, .inl iv_at, .inl iv_at, .inl iv_at, trivial⟩) rfl rfl rfl) (fun _ => ?_)
        refine as1 rfl rfl ?_
        refine l_nil (n_then (ref_ret (r_then ?_)))
        exact fin2 (.inl rfl) () [] rfl trivial rfl (rv_cell rfl (j := 2) rfl Try.isAgg40 Try.sizeOf40 rfl rfl) (rv_tmp rfl)
      refine s_on rfl rfl rfl ?_
      refine s_rd (r_faddr (fo := 2) Try.underlying40 rfl rfl Try.sizeOf3 rfl) rfl ?_
      refine s_on rfl rfl rfl ?_
      refine s_rd (r_cload Try.isAgg3 rfl (j := 1) rfl rfl) rfl ?_
      refine s_on rfl rfl rfl ?_
      refine s_rd (r_faddr (fo := 0) Try.underlying95 rfl rfl Try.sizeOf35 rfl) rfl ?_
      refine s_on rfl rfl rfl ?_
      refine s_rd (r_faddr (fo := 0) Try.underlying35 rfl rfl Try.sizeOf28 rfl) rfl ?_
      refine s_on rfl rfl rfl ?_
      refine s_rd (r_faddr (fo := 0) Try.underlying28 rfl rfl Try.sizeOf3 rfl) rfl ?_
      refine s_on rfl rfl rfl ?_
      refine s_rd (r_cload Try.isAgg3 rfl (j := 0) rfl rfl) rfl ?_
      refine s_on rfl rfl rfl ?_
      refine s_rd (r_geq rfl rfl) rfl ?_
      refine s_on rfl rfl rfl ?_
      refine s_rd (r_pickF rfl rfl) rfl ?_
      refine s_on rfl rfl rfl ?_
      refine s_rd (r_pickT rfl rfl) rfl ?_
      refine s_rd (r_pickF rfl rfl) rfl ?_
      refine l_nil (n_then ?_)
      refine ref_cond rfl (fun hb15 => ?_) (fun hb15 => ?_)
      · refine ref_seq (ref_region ?_)
        refine s_rd (r_cloadS Try.isAgg40 Try.sizeOf40 rfl (j := 1) rfl rfl rfl) rfl ?_
        refine s_st0 (s_cstore (out := [iv .i64 m_1.By, iv .i64 m_1.Kind, iv .i64 m_1.Node, iv .i64 m_1.Target]) Try.sizeOf40 rfl (j := 2) rfl (part_agO (ψs := [iv .i64 m_1.By, iv .i64 m_1.Kind, iv .i64 m_1.Node, iv .i64 m_1.Target]) rfl ⟨.inl iv_at, .inl iv_at, .inl iv_at, .inl iv_at, trivial⟩) rfl rfl rfl) (fun _ => ?_)
        refine as1 rfl rfl ?_
        refine l_nil (n_then (ref_ret (r_then ?_)))
        exact fin2 (.inl rfl) () [] rfl trivial rfl (rv_cell rfl (j := 2) rfl Try.isAgg40 Try.sizeOf40 rfl rfl) (rv_tmp rfl)
      refine ref_skip ?_
      exact b_to (hk18 () ()) (weak [0, 1, 2] ⟨rfl, rfl, rfl, rfl, trivial⟩ ⟨rfl, rfl, rfl, trivial⟩)
    refine s_off rfl rfl rfl rfl rfl ?_
    refine s_off rfl rfl rfl rfl rfl ?_
    refine s_off rfl rfl rfl rfl rfl ?_
    refine s_off rfl rfl rfl rfl rfl ?_
    refine s_offU rfl rfl rfl ?_
    refine s_offU rfl rfl rfl ?_
    refine s_offU rfl rfl rfl ?_
    refine s_offU rfl rfl rfl ?_
    refine s_offU rfl rfl rfl ?_
    refine s_offU rfl rfl rfl ?_
    refine s_offU rfl rfl rfl ?_
    refine s_off rfl rfl rfl rfl rfl ?_
    refine s_on rfl rfl rfl ?_
    refine s_rd (r_pickF rfl rfl) rfl ?_
    refine s_rd (r_pickF rfl rfl) rfl ?_
    refine l_nil (n_then ?_)
    refine ref_condF rfl rfl ?_
    refine ref_skip ?_
    exact b_to (hk18 () ()) (weak [0, 1, 2] ⟨rfl, rfl, rfl, rfl, trivial⟩ ⟨rfl, rfl, rfl, trivial⟩)
  refine n_then (ref_seq (ref_seq (ref_region ?_)))
  refine s_rd (r_faddr (fo := 1) Try.underlying40 rfl rfl Try.sizeOf3 rfl) rfl ?_
  refine s_rd (r_cload Try.isAgg3 rfl (j := 1) rfl rfl) rfl ?_
  refine s_rd (r_eql rfl rfl) rfl ?_
  refine l_nil (n_then ?_)
  refine ref_cond rfl (fun hb19 => ?_) (fun hb19 => ?_)
  · refine ref_seq (ref_seq ?_)
    refine ref_draw [0, 2, 4] rfl (by kernel_rfl) (fun hok => ?_)
    refine a_rd (i := 0) hok rfl (by kernel_rfl) rfl (r_cloadS Try.isAgg95 Try.sizeOf95 rfl (j := 0) rfl rfl rfl) rfl ?_
    refine a_rd (i := 2) hok rfl (by kernel_rfl) rfl (r_cloadS Try.isAgg40 Try.sizeOf40 rfl (j := 1) rfl rfl rfl) rfl ?_
    refine pull fun t20 h_t20 => ?_
    refine a_next hok 1 [] (by kernel_rfl) ?_ trivial
    refine a_st (i := 1) hok rfl rfl (s_call (ψ := fun (x21 : (Value × List Nat)) => pv x21.1) (args := [.tmp 66]) Try.call65 rfl (protocol_table_legal_ok h_t20) ⟨arg rfl, trivial⟩ (fun _ _ _ _ h => h)) (by intro _ h; cases h; rfl) (fun _ => ⟨⟨⟨rfl, rfl⟩, trivial⟩, ⟨trivial, trivial⟩⟩) (fun x21 => ?_)
    refine pull fun t22 h_t22 => ?_
    refine a_next hok 3 [] (by kernel_rfl) ?_ trivial
    refine a_st (i := 3) hok rfl rfl (s_callB (ψ := fun (_ : Unit) => bv t22) (args := [.tmp 67, .tmp 68]) Try.call67 rfl (slices_Contains_api_Move_api_Move_ok h_t22) ⟨argO rfl (j := 3) rfl, argB rfl, trivial⟩ (fun _ _ _ _ _ h => h)) (by intro _ h; cases h; rfl) (fun _ => ⟨trivial, ⟨⟨⟨rfl, rfl⟩, trivial⟩, trivial⟩⟩) (fun _ => ?_)
    refine a_rd (i := 4) hok rfl (by kernel_rfl) rfl (r_not rfl) rfl ?_
    refine a_fin hok (by kernel_rfl) ?_
    refine n_then ?_
    refine ref_cond rfl (fun hb23 => ?_) (fun hb23 => ?_)
    · refine ref_seq (ref_region ?_)
      refine s_rd (r_cloadS Try.isAgg40 Try.sizeOf40 rfl (j := 1) rfl rfl rfl) rfl ?_
      refine s_st0 (s_cstore (out := [iv .i64 m_1.By, iv .i64 m_1.Kind, iv .i64 m_1.Node, iv .i64 m_1.Target]) Try.sizeOf40 rfl (j := 2) rfl (part_agO (ψs := [iv .i64 m_1.By, iv .i64 m_1.Kind, iv .i64 m_1.Node, iv .i64 m_1.Target]) rfl ⟨.inl iv_at, .inl iv_at, .inl iv_at, .inl iv_at, trivial⟩) rfl rfl rfl) (fun _ => ?_)
      refine as1 rfl rfl ?_
      refine l_nil (n_then (ref_ret (r_then (r_then ?_))))
      exact fin2 (.inl rfl) () [] rfl trivial rfl (rv_cell rfl (j := 2) rfl Try.isAgg40 Try.sizeOf40 rfl rfl) (rv_tmp rfl)
    refine ref_skip (n_then (ref_seq (ref_region ?_)))
    refine s_rd (r_cloadS Try.isAgg40 Try.sizeOf40 rfl (j := 1) rfl rfl rfl) rfl ?_
    refine s_st0 (s_cstore (out := [iv .i64 m_1.By, iv .i64 m_1.Kind, iv .i64 m_1.Node, iv .i64 m_1.Target]) Try.sizeOf40 rfl (j := 2) rfl (part_agO (ψs := [iv .i64 m_1.By, iv .i64 m_1.Kind, iv .i64 m_1.Node, iv .i64 m_1.Target]) rfl ⟨.inl iv_at, .inl iv_at, .inl iv_at, .inl iv_at, trivial⟩) rfl rfl rfl) (fun _ => ?_)
    refine as1 rfl rfl ?_
    refine l_nil (n_then (ref_ret (r_then ?_)))
    exact fin2 (.inl rfl) () [] rfl trivial rfl (rv_cell rfl (j := 2) rfl Try.isAgg40 Try.sizeOf40 rfl rfl) (rv_tmp rfl)
  refine ref_skip (n_then (ref_seq (ref_seq (ref_region ?_))))
  refine mv1 rfl rfl ?_
  refine s_rd (r_faddr (fo := 3) Try.underlying40 rfl rfl Try.sizeOf3 rfl) rfl ?_
  refine s_rd (r_cload Try.isAgg3 rfl (j := 1) rfl rfl) rfl ?_
  refine pull fun t24 h_t24 => ?_
  refine s_rd (r_index h_t24 Try.underlying23 el_40 rfl rfl) rfl ?_
  refine s_rd (r_load el_40 rfl) rfl ?_
  refine s_st (s_alloc zt_40) rfl (fun b25 => ?_)
  refine s_st0 (s_cstore (out := [iv .i64 t24.By, iv .i64 t24.Kind, iv .i64 t24.Node, iv .i64 t24.Target]) Try.sizeOf40 rfl (j := 3) rfl (part_agO (ψs := [iv .i64 t24.By, iv .i64 t24.Kind, iv .i64 t24.Node, iv .i64 t24.Target]) rfl ⟨.inl iv_at, .inl iv_at, .inl iv_at, .inl iv_at, trivial⟩) rfl rfl rfl) (fun _ => ?_)
  refine l_nil (n_then (ref_seq (ref_region ?_)))
  refine s_rd (r_faddr (fo := 0) Try.underlying40 rfl rfl Try.sizeOf3 rfl) rfl ?_
  refine s_rd (r_cload Try.isAgg3 rfl (j := 3) rfl rfl) rfl ?_
  refine s_rd (r_faddr (fo := 0) Try.underlying40 rfl rfl Try.sizeOf3 rfl) rfl ?_
  refine s_rd (r_cload Try.isAgg3 rfl (j := 1) rfl rfl) rfl ?_
  refine s_rd (r_neq rfl rfl) rfl ?_
  refine mv1 rfl rfl ?_
  refine b_split (t := 83) rfl (fun _ => ?_) (fun _ => ?_)
  · refine s_off rfl rfl rfl rfl rfl ?_
    refine s_off rfl rfl rfl rfl rfl ?_
    refine s_off rfl rfl rfl rfl rfl ?_
    refine s_rd (r_pickT rfl rfl) rfl ?_
    refine mv1 rfl rfl ?_
    refine s_off rfl rfl rfl rfl rfl ?_
    refine s_off rfl rfl rfl rfl rfl ?_
    refine s_off rfl rfl rfl rfl rfl ?_
    refine s_off rfl rfl rfl rfl rfl ?_
    refine s_off rfl rfl rfl rfl rfl ?_
    refine s_off rfl rfl rfl rfl rfl ?_
    refine s_off rfl rfl rfl rfl rfl ?_
    refine s_rd (r_pickT rfl rfl) rfl ?_
    refine l_nil (n_then ?_)
    refine ref_condT rfl rfl ?_
    refine ref_seq (ref_region ?_)
    refine s_rd (r_cloadS Try.isAgg40 Try.sizeOf40 rfl (j := 1) rfl rfl rfl) rfl ?_
    refine s_st0 (s_cstore (out := [iv .i64 m_1.By, iv .i64 m_1.Kind, iv .i64 m_1.Node, iv .i64 m_1.Target]) Try.sizeOf40 rfl (j := 2) rfl (part_agO (ψs := [iv .i64 m_1.By, iv .i64 m_1.Kind, iv .i64 m_1.Node, iv .i64 m_1.Target]) rfl ⟨.inl iv_at, .inl iv_at, .inl iv_at, .inl iv_at, trivial⟩) rfl rfl rfl) (fun _ => ?_)
    refine as1 rfl rfl ?_
    refine l_nil (n_then (ref_ret (r_then ?_)))
    exact fin2 (.inl rfl) () [] rfl trivial rfl (rv_cell rfl (j := 2) rfl Try.isAgg40 Try.sizeOf40 rfl rfl) (rv_tmp rfl)
  refine s_on rfl rfl rfl ?_
  refine s_rd (r_faddr (fo := 1) Try.underlying40 rfl rfl Try.sizeOf3 rfl) rfl ?_
  refine s_on rfl rfl rfl ?_
  refine s_rd (r_cload Try.isAgg3 rfl (j := 3) rfl rfl) rfl ?_
  refine s_on rfl rfl rfl ?_
  refine s_rd (r_neq rfl rfl) rfl ?_
  refine s_rd (r_pickF rfl rfl) rfl ?_
  refine mv1 rfl rfl ?_
  refine b_split (t := 88) rfl (fun _ => ?_) (fun _ => ?_)
  · refine s_off rfl rfl rfl rfl rfl ?_
    refine s_off rfl rfl rfl rfl rfl ?_
    refine s_off rfl rfl rfl rfl rfl ?_
    refine s_off rfl rfl rfl rfl rfl ?_
    refine s_off rfl rfl rfl rfl rfl ?_
    refine s_off rfl rfl rfl rfl rfl ?_
    refine s_off rfl rfl rfl rfl rfl ?_
    refine s_rd (r_pickT rfl rfl) rfl ?_
    refine l_nil (n_then ?_)
    refine ref_condT rfl rfl ?_
    refine ref_seq (ref_region ?_)
    refine s_rd (r_cloadS Try.isAgg40 Try.sizeOf40 rfl (j := 1) rfl rfl rfl) rfl ?_
    refine s_st0 (s_cstore (out := [iv .i64 m_1.By, iv .i64 m_1.Kind, iv .i64 m_1.Node, iv .i64 m_1.Target]) Try.sizeOf40 rfl (j := 2) rfl (part_agO (ψs := [iv .i64 m_1.By, iv .i64 m_1.Kind, iv .i64 m_1.Node, iv .i64 m_1.Target]) rfl ⟨.inl iv_at, .inl iv_at, .inl iv_at, .inl iv_at, trivial⟩) rfl rfl rfl) (fun _ => ?_)
    refine as1 rfl rfl ?_
    refine l_nil (n_then (ref_ret (r_then ?_)))
    exact fin2 (.inl rfl) () [] rfl trivial rfl (rv_cell rfl (j := 2) rfl Try.isAgg40 Try.sizeOf40 rfl rfl) (rv_tmp rfl)
  refine s_on rfl rfl rfl ?_
  refine s_rd (r_faddr (fo := 6) Try.underlying95 rfl rfl Try.sizeOf22 rfl) rfl ?_
  refine s_on rfl rfl rfl ?_
  refine s_rd (r_cload Try.isAgg22 rfl (j := 0) rfl rfl) rfl ?_
  refine s_on rfl rfl rfl ?_
  refine s_rd (r_faddr (fo := 3) Try.underlying40 rfl rfl Try.sizeOf3 rfl) rfl ?_
  refine s_on rfl rfl rfl ?_
  refine s_rd (r_cload Try.isAgg3 rfl (j := 1) rfl rfl) rfl ?_
  refine s_on rfl rfl rfl ?_
  refine pull fun t26 h_t26 => ?_
  refine s_rd (r_index h_t26 Try.underlying22 el_3 rfl rfl) rfl ?_
  refine s_on rfl rfl rfl ?_
  refine s_rd (r_load el_3 rfl) rfl ?_
  refine s_on rfl rfl rfl ?_
  refine s_rd (r_eql rfl rfl) rfl ?_
  refine s_rd (r_pickF rfl rfl) rfl ?_
  refine l_nil (n_then ?_)
  refine ref_cond rfl (fun hb27 => ?_) (fun hb27 => ?_)
  · refine ref_seq (ref_region ?_)
    refine s_rd (r_cloadS Try.isAgg40 Try.sizeOf40 rfl (j := 1) rfl rfl rfl) rfl ?_
    refine s_st0 (s_cstore (out := [iv .i64 m_1.By, iv .i64 m_1.Kind, iv .i64 m_1.Node, iv .i64 m_1.Target]) Try.sizeOf40 rfl (j := 2) rfl (part_agO (ψs := [iv .i64 m_1.By, iv .i64 m_1.Kind, iv .i64 m_1.Node, iv .i64 m_1.Target]) rfl ⟨.inl iv_at, .inl iv_at, .inl iv_at, .inl iv_at, trivial⟩) rfl rfl rfl) (fun _ => ?_)
    refine as1 rfl rfl ?_
    refine l_nil (n_then (ref_ret (r_then ?_)))
    exact fin2 (.inl rfl) () [] rfl trivial rfl (rv_cell rfl (j := 2) rfl Try.isAgg40 Try.sizeOf40 rfl rfl) (rv_tmp rfl)
  refine ref_skip (n_then (ref_seq (ref_region ?_)))
  refine s_rd (r_faddr (fo := 2) Try.underlying40 rfl rfl Try.sizeOf3 rfl) rfl ?_
  refine s_st0 (s_cstore (out := [iv .i64 m_1.By, iv .i64 m_1.Kind, iv .i64 0, iv .i64 m_1.Target]) Try.sizeOf3 rfl (j := 1) rfl (part_at rfl iv_at) rfl rfl rfl) (fun _ => ?_)
  refine l_nil (n_then (ref_seq (ref_region ?_)))
  refine s_rd (r_cloadS Try.isAgg40 Try.sizeOf40 rfl (j := 1) rfl rfl rfl) rfl ?_
  refine s_st0 (s_cstore (out := [iv .i64 m_1.By, iv .i64 m_1.Kind, iv .i64 0, iv .i64 m_1.Target]) Try.sizeOf40 rfl (j := 2) rfl (part_agO (ψs := [iv .i64 m_1.By, iv .i64 m_1.Kind, iv .i64 0, iv .i64 m_1.Target]) rfl ⟨.inl iv_at, .inl iv_at, .inl iv_at, .inl iv_at, trivial⟩) rfl rfl rfl) (fun _ => ?_)
  refine as1 rfl rfl ?_
  refine l_nil ?_
  refine b_of (nrm [oc b1 [iv .i64 t_0.d.Graph.N, slv rT_api_Pair t_0.d.Graph.L, iv .i64 t_0.d.Root, iv .i64 t_0.d.Limits.i0, iv .i64 t_0.d.Limits.i1, slv rT_api_Move t_0.d.Moves, slv (rI .i64) t_0.status, iv .i64 t_0.leader, slv rB t_0.leading], oc b2 [iv .i64 m_1.By, iv .i64 m_1.Kind, iv .i64 0, iv .i64 m_1.Target], oc b3 [iv .i64 m_1.By, iv .i64 m_1.Kind, iv .i64 0, iv .i64 m_1.Target], oc b25 [iv .i64 t24.By, iv .i64 t24.Kind, iv .i64 t24.Node, iv .i64 t24.Target]] rfl) ?_
  refine n_then (ref_ret ?_)
  exact fin2 (.inl rfl) () [] rfl trivial rfl (rv_cell rfl (j := 2) rfl Try.isAgg40 Try.sizeOf40 rfl rfl) (rv_tmp rfl)

/-! deliberation/protocol.Apply -/
noncomputable def protocol_Apply_m (d_0 : T_api_Dialogue) (m_1 : T_api_Move) : Option (T_api_Dialogue × Int) :=
  Option.bind (protocol_Turn_m d_0) fun t4 =>
  bif t4 == 0 then
    some ((T_api_Dialogue.mk (T_api_Graph.mk 0 []) 0 (T_arr2_3.mk 0 0) []), 7)
  else
    Option.bind (protocol_of_m d_0) fun t7 =>
    Option.bind (protocol_table_judged_m t7 m_1) fun t8 =>
    bif t8.2 != 0 then
      some ((T_api_Dialogue.mk (T_api_Graph.mk 0 []) 0 (T_arr2_3.mk 0 0) []), t8.2)
    else
      Option.bind (slices_Clone_api_Pair_api_Pair_m d_0.Graph.L) fun t12 =>
      Option.bind (slices_Clone_api_Move_api_Move_m d_0.Moves) fun t15 =>
      Option.bind (appM 32 t15 [t8.1]) fun t17 =>
      some ((T_api_Dialogue.mk (T_api_Graph.mk d_0.Graph.N t12) d_0.Root d_0.Limits t17), 0)

theorem protocol_Apply_ok {d_0 : T_api_Dialogue} {m_1 : T_api_Move} {r : T_api_Dialogue × Int} (hm : protocol_Apply_m d_0 m_1 = some r) :
    FnOk prog 47 [ag [iv .i64 d_0.Graph.N, slv rT_api_Pair d_0.Graph.L, iv .i64 d_0.Root, iv .i64 d_0.Limits.i0, iv .i64 d_0.Limits.i1, slv rT_api_Move d_0.Moves], ag [iv .i64 m_1.By, iv .i64 m_1.Kind, iv .i64 m_1.Node, iv .i64 m_1.Target]] [] (fun (x : Unit) => [ag [iv .i64 r.1.Graph.N, slv rT_api_Pair r.1.Graph.L, iv .i64 r.1.Root, iv .i64 r.1.Limits.i0, iv .i64 r.1.Limits.i1, slv rT_api_Move r.1.Moves], iv .i64 r.2]) (fun (x : Unit) => []) := by
  refine fn_ok (fn := Try.f47) (N := 39) (res := fun r x => [ag [iv .i64 r.1.Graph.N, slv rT_api_Pair r.1.Graph.L, iv .i64 r.1.Root, iv .i64 r.1.Limits.i0, iv .i64 r.1.Limits.i1, slv rT_api_Move r.1.Moves], iv .i64 r.2]) (Ω1 := fun r x => []) Try.func47 rfl rfl hm rfl (fun E hM => ?_)
  unfold protocol_Apply_m
  refine ref_seq (ref_region ?_)
  refine s_st (s_box (part_agO (ψs := [iv .i64 d_0.Graph.N, slv rT_api_Pair d_0.Graph.L, iv .i64 d_0.Root, iv .i64 d_0.Limits.i0, iv .i64 d_0.Limits.i1, slv rT_api_Move d_0.Moves]) rfl ⟨.inl iv_at, .inl slv_at, .inl iv_at, .inl iv_at, .inl iv_at, .inl slv_at, trivial⟩)) rfl (fun b1 => ?_)
  refine s_st (s_box (part_agO (ψs := [iv .i64 m_1.By, iv .i64 m_1.Kind, iv .i64 m_1.Node, iv .i64 m_1.Target]) rfl ⟨.inl iv_at, .inl iv_at, .inl iv_at, .inl iv_at, trivial⟩)) rfl (fun b2 => ?_)
  refine s_st (s_alloc zt_35) rfl (fun b3 => ?_)
  refine as1 rfl rfl ?_
  refine l_nil (n_then (ref_seq (ref_seq (ref_region ?_))))
  refine s_rd (r_cloadS Try.isAgg35 Try.sizeOf35 rfl (j := 0) rfl rfl rfl) rfl ?_
  refine pull fun t4 h_t4 => ?_
  refine s_st (s_call (ψ := fun (_ : Unit) => iv .i64 t4) (args := [.tmp 9]) Try.call32 rfl (protocol_Turn_ok h_t4) ⟨arg rfl, trivial⟩ (fun _ _ _ _ h => h)) rfl (fun _ => ?_)
  refine s_rd (r_eql rfl rfl) rfl ?_
  refine l_nil ?_
  refine b_of (nrm [oc b1 [iv .i64 d_0.Graph.N, slv rT_api_Pair d_0.Graph.L, iv .i64 d_0.Root, iv .i64 d_0.Limits.i0, iv .i64 d_0.Limits.i1, slv rT_api_Move d_0.Moves], oc b2 [iv .i64 m_1.By, iv .i64 m_1.Kind, iv .i64 m_1.Node, iv .i64 m_1.Target], oc b3 [iv .i64 0, pv (.slice none 0 0), iv .i64 0, iv .i64 0, iv .i64 0, pv (.slice none 0 0)]] rfl) ?_
  refine n_then ?_
  refine ref_cond rfl (fun hb5 => ?_) (fun hb5 => ?_)
  · refine ref_seq (ref_region ?_)
    refine s_rd (r_build (ps := []) (rs := []) st_35 zs_35 trivial rfl rfl) rfl ?_
    refine s_st0 (s_cstore (out := [iv .i64 0, pv (.slice none 0 0), iv .i64 0, iv .i64 0, iv .i64 0, pv (.slice none 0 0)]) Try.sizeOf35 rfl (j := 2) rfl (part_agO (ψs := [iv .i64 0, pv (.slice none 0 0), iv .i64 0, iv .i64 0, iv .i64 0, pv (.slice none 0 0)]) rfl ⟨.inl iv_at, .inl (pv_at rfl), .inl iv_at, .inl iv_at, .inl iv_at, .inl (pv_at rfl), trivial⟩) rfl rfl rfl) (fun _ => ?_)
    refine as1 rfl rfl ?_
    refine l_nil (n_then (ref_ret (r_then ?_)))
    refine b_of (ocW 2 [iv .i64 0, slv rT_api_Pair [], iv .i64 0, iv .i64 0, iv .i64 0, slv rT_api_Move []] rfl ⟨imp_rfl, nil_sl, imp_rfl, imp_rfl, imp_rfl, nil_sl, trivial⟩) ?_
    exact fin2 (.inl rfl) () [] rfl trivial rfl (rv_cell rfl (j := 2) rfl Try.isAgg35 Try.sizeOf35 rfl rfl) (rv_tmp rfl)
  refine ref_skip (n_then (ref_seq ?_))
  refine pull fun t7 h_t7 => ?_
  refine pull fun t8 h_t8 => ?_
  refine ref_drawI 1 [⟨[], [], [], [0], [], fun us u => ag [iv .i64 d_0.Graph.N, slv rT_api_Pair d_0.Graph.L, iv .i64 d_0.Root, iv .i64 d_0.Limits.i0, iv .i64 d_0.Limits.i1, slv rT_api_Move d_0.Moves], fun us u => []⟩, ⟨[0], [], [], [], [], fun us u => ag [iv .i64 t7.d.Graph.N, slv rT_api_Pair t7.d.Graph.L, iv .i64 t7.d.Root, iv .i64 t7.d.Limits.i0, iv .i64 t7.d.Limits.i1, slv rT_api_Move t7.d.Moves, slv (rI .i64) t7.status, iv .i64 t7.leader, slv rB t7.leading], fun us u => []⟩, ⟨[], [], [], [1], [], fun us u => ag [iv .i64 m_1.By, iv .i64 m_1.Kind, iv .i64 m_1.Node, iv .i64 m_1.Target], fun us u => []⟩, ⟨[0, 1, 2], [], [], [], [], fun us u => tup [ag [iv .i64 t8.1.By, iv .i64 t8.1.Kind, iv .i64 t8.1.Node, iv .i64 t8.1.Target], iv .i64 t8.2], fun us u => []⟩, ⟨[0, 1, 2, 3], [], [], [], [], fun us u => tup [ag [iv .i64 t8.1.By, iv .i64 t8.1.Kind, iv .i64 t8.1.Node, iv .i64 t8.1.Target], iv .i64 t8.2], fun us u => []⟩, ⟨[0, 1, 2, 3, 4], [], [], [], [], fun us u => ag [iv .i64 t8.1.By, iv .i64 t8.1.Kind, iv .i64 t8.1.Node, iv .i64 t8.1.Target], fun us u => []⟩, ⟨[0, 1, 2, 3, 4], [], [], [], [], fun us u => iv .i64 t8.2, fun us u => []⟩, ⟨[], [], [3], [3], [], fun us u => pv (ptr u.Nn 0), fun us u => [oc u.Nn [iv .i64 0, iv .i64 0, iv .i64 0, iv .i64 0]]⟩, ⟨[0, 1, 2, 3, 4, 5, 7], [7], [3], [3], [3], fun us u => pv undef, fun us u => [oc (us.getD 0 .none).Nn [iv .i64 t8.1.By, iv .i64 t8.1.Kind, iv .i64 t8.1.Node, iv .i64 t8.1.Target]]⟩, ⟨[0, 1, 2, 3, 4, 5, 6, 7, 8], [], [], [], [], fun us u => iv .i64 t8.2, fun us u => []⟩] (fun χ6 => [(2, pv (ptr b1 0)), (4, pv (ptr b3 0)), (6, pv (ptr (χ6 7).Nn 0)), (7, iv .i64 t8.2)]) (fun χ6 => [oc b1 [iv .i64 d_0.Graph.N, slv rT_api_Pair d_0.Graph.L, iv .i64 d_0.Root, iv .i64 d_0.Limits.i0, iv .i64 d_0.Limits.i1, slv rT_api_Move d_0.Moves], oc b2 [iv .i64 m_1.By, iv .i64 m_1.Kind, iv .i64 m_1.Node, iv .i64 m_1.Target], oc b3 [iv .i64 0, pv (.slice none 0 0), iv .i64 0, iv .i64 0, iv .i64 0, pv (.slice none 0 0)], oc (χ6 7).Nn [iv .i64 t8.1.By, iv .i64 t8.1.Kind, iv .i64 t8.1.Node, iv .i64 t8.1.Target]]) rfl (by kernel_rfl) ⟨fun χ6 Ω ⟨h0, _⟩ => St.toR (r_cloadS Try.isAgg35 Try.sizeOf35 rfl (j := 0) h0 rfl rfl) (fun _ => rfl) (fun _ => rfl), (by intro _ h; cases h; rfl), ⟨fun χ6 Ω _ => St.to XU.U XU.hU (St.placeL [] (s_call (ψ := fun (_ : Unit) => ag [iv .i64 t7.d.Graph.N, slv rT_api_Pair t7.d.Graph.L, iv .i64 t7.d.Root, iv .i64 t7.d.Limits.i0, iv .i64 t7.d.Limits.i1, slv rT_api_Move t7.d.Moves, slv (rI .i64) t7.status, iv .i64 t7.leader, slv rB t7.leading]) (args := [.tmp 14]) Try.call62 rfl (protocol_of_ok h_t7) ⟨arg rfl, trivial⟩ (fun _ _ _ _ h => h)) (fun _ => rfl) (fun _ => trivial)) (fun _ => rfl) (fun _ => rfl), (by intro _ h; cases h; rfl), ⟨fun χ6 Ω ⟨h1, _⟩ => St.toR (r_cloadS Try.isAgg40 Try.sizeOf40 rfl (j := 1) h1 rfl rfl) (fun _ => rfl) (fun _ => rfl), (by intro _ h; cases h; rfl), ⟨fun χ6 Ω _ => St.to XU.U XU.hU (St.placeL [] (s_call (ψ := fun (_ : Unit) => tup [ag [iv .i64 t8.1.By, iv .i64 t8.1.Kind, iv .i64 t8.1.Node, iv .i64 t8.1.Target], iv .i64 t8.2]) (args := [.tmp 15, .tmp 16]) Try.call74 rfl (protocol_table_judged_ok h_t8) ⟨arg rfl, arg rfl, trivial⟩ (fun _ _ _ _ h => h)) (fun _ => rfl) (fun _ => trivial)) (fun _ => rfl) (fun _ => rfl), (by intro _ h; cases h; rfl), ⟨fun χ6 Ω _ => St.toR (r_move rfl) (fun _ => rfl) (fun _ => rfl), (by intro _ h; cases h; rfl), ⟨fun χ6 Ω _ => St.toR (r_extract rfl rfl) (fun _ => rfl) (fun _ => rfl), (by intro _ h; cases h; rfl), ⟨fun χ6 Ω _ => St.toR (r_extract rfl rfl) (fun _ => rfl) (fun _ => rfl), (by intro _ h; cases h; rfl), ⟨fun χ6 Ω ⟨h3, _⟩ => St.to XU.Nn XU.hN (St.placeL (os := fun _ => [_]) [3] (s_alloc zt_40) (fun _ => rfl) (fun _ => ⟨h3, rfl, trivial⟩)) (fun _ => rfl) (fun _ => rfl), (by intro _ h; cases h; rfl), ⟨fun χ6 Ω ⟨h3, _⟩ => St.to XU.U XU.hU (s_cstore (out := [iv .i64 t8.1.By, iv .i64 t8.1.Kind, iv .i64 t8.1.Node, iv .i64 t8.1.Target]) Try.sizeOf40 rfl (j := 3) h3 (part_agO (ψs := [iv .i64 t8.1.By, iv .i64 t8.1.Kind, iv .i64 t8.1.Node, iv .i64 t8.1.Target]) rfl ⟨.inl iv_at, .inl iv_at, .inl iv_at, .inl iv_at, trivial⟩) rfl rfl rfl) (fun _ => rfl) (fun _ => rfl), (by intro _ h; cases h), ⟨fun χ6 Ω _ => St.toR (r_assign rfl) (fun _ => rfl) (fun _ => rfl), (by intro _ h; cases h; rfl), trivial⟩⟩⟩⟩⟩⟩⟩⟩⟩⟩ (fun _ => ⟨rfl, rfl, rfl, rfl, trivial⟩) (fun _ => rfl) (fun χ6 => ?_)
  refine n_then (ref_seq (ref_seq (ref_region ?_)))
  refine mv1 rfl rfl ?_
  refine s_rd (r_neq rfl rfl) rfl ?_
  refine l_nil (n_then ?_)
  refine ref_cond rfl (fun hb10 => ?_) (fun hb10 => ?_)
  · refine ref_seq (ref_region ?_)
    refine s_rd (r_build (ps := []) (rs := []) st_35 zs_35 trivial rfl rfl) rfl ?_
    refine mv1 rfl rfl ?_
    refine s_st0 (s_cstore (out := [iv .i64 0, pv (.slice none 0 0), iv .i64 0, iv .i64 0, iv .i64 0, pv (.slice none 0 0)]) Try.sizeOf35 rfl (j := 2) rfl (part_agO (ψs := [iv .i64 0, pv (.slice none 0 0), iv .i64 0, iv .i64 0, iv .i64 0, pv (.slice none 0 0)]) rfl ⟨.inl iv_at, .inl (pv_at rfl), .inl iv_at, .inl iv_at, .inl iv_at, .inl (pv_at rfl), trivial⟩) rfl rfl rfl) (fun _ => ?_)
    refine as1 rfl rfl ?_
    refine l_nil (n_then (ref_ret (r_then ?_)))
    refine b_of (ocW 2 [iv .i64 0, slv rT_api_Pair [], iv .i64 0, iv .i64 0, iv .i64 0, slv rT_api_Move []] rfl ⟨imp_rfl, nil_sl, imp_rfl, imp_rfl, imp_rfl, nil_sl, trivial⟩) ?_
    exact fin2 (.inl rfl) () [] rfl trivial rfl (rv_cell rfl (j := 2) rfl Try.isAgg35 Try.sizeOf35 rfl rfl) (rv_tmp rfl)
  refine ref_skip (n_then (ref_seq (ref_region ?_)))
  refine s_rd (r_cloadS Try.isAgg35 Try.sizeOf35 rfl (j := 0) rfl rfl rfl) rfl ?_
  refine s_st (s_alloc zt_35) rfl (fun b11 => ?_)
  refine s_st0 (s_cstore (out := [iv .i64 d_0.Graph.N, slv rT_api_Pair d_0.Graph.L, iv .i64 d_0.Root, iv .i64 d_0.Limits.i0, iv .i64 d_0.Limits.i1, slv rT_api_Move d_0.Moves]) Try.sizeOf35 rfl (j := 4) rfl (part_agO (ψs := [iv .i64 d_0.Graph.N, slv rT_api_Pair d_0.Graph.L, iv .i64 d_0.Root, iv .i64 d_0.Limits.i0, iv .i64 d_0.Limits.i1, slv rT_api_Move d_0.Moves]) rfl ⟨.inl iv_at, .inl slv_at, .inl iv_at, .inl iv_at, .inl iv_at, .inl slv_at, trivial⟩) rfl rfl rfl) (fun _ => ?_)
  refine l_nil (n_then (ref_seq (ref_region ?_)))
  refine s_rd (r_faddr (fo := 0) Try.underlying35 rfl rfl Try.sizeOf28 rfl) rfl ?_
  refine s_rd (r_faddr (fo := 1) Try.underlying28 rfl rfl Try.sizeOf26 rfl) rfl ?_
  refine s_rd (r_cload Try.isAgg26 rfl (j := 0) rfl rfl) rfl ?_
  refine pull fun t12 h_t12 => ?_
  refine s_st (s_call (ψ := fun (x13 : (Value × List Nat)) => pv x13.1) (args := [.tmp 27]) Try.call45 rfl (slices_Clone_api_Pair_api_Pair_ok h_t12) ⟨arg rfl, trivial⟩ (fun _ _ _ _ h => h)) rfl (fun x13 => ?_)
  refine s_rd (r_faddr (fo := 0) Try.underlying35 rfl rfl Try.sizeOf28 rfl) rfl ?_
  refine s_rd (r_faddr (fo := 1) Try.underlying28 rfl rfl Try.sizeOf26 rfl) rfl ?_
  refine s_st0 (s_cstore (out := [iv .i64 d_0.Graph.N, pv x13.1, iv .i64 d_0.Root, iv .i64 d_0.Limits.i0, iv .i64 d_0.Limits.i1, slv rT_api_Move d_0.Moves]) Try.sizeOf26 rfl (j := 4) rfl (part_own rfl (j := 5) rfl) rfl rfl rfl) (fun _ => ?_)
  refine l_nil ?_
  refine b_of (nrm [oc b1 [iv .i64 d_0.Graph.N, slv rT_api_Pair d_0.Graph.L, iv .i64 d_0.Root, iv .i64 d_0.Limits.i0, iv .i64 d_0.Limits.i1, slv rT_api_Move d_0.Moves], oc b2 [iv .i64 m_1.By, iv .i64 m_1.Kind, iv .i64 m_1.Node, iv .i64 m_1.Target], oc b3 [iv .i64 0, pv (.slice none 0 0), iv .i64 0, iv .i64 0, iv .i64 0, pv (.slice none 0 0)], oc (χ6 7).Nn [iv .i64 t8.1.By, iv .i64 t8.1.Kind, iv .i64 t8.1.Node, iv .i64 t8.1.Target], oc b11 [iv .i64 d_0.Graph.N, pv x13.1, iv .i64 d_0.Root, iv .i64 d_0.Limits.i0, iv .i64 d_0.Limits.i1, slv rT_api_Move d_0.Moves], oa rT_api_Pair x13.1 x13.2 t12] rfl) ?_
  refine n_then (ref_seq ?_)
  refine pull fun t15 h_t15 => ?_
  refine pull fun t17 h_t17 => ?_
  refine ref_drawI 1 [⟨[], [], [], [], [], fun us u => pv (ptr b1 5), fun us u => []⟩, ⟨[0], [], [], [0], [], fun us u => slv rT_api_Move d_0.Moves, fun us u => []⟩, ⟨[0, 1], [], [6], [6], [], fun us u => pv u.V.1, fun us u => [oa rT_api_Move u.V.1 u.V.2 t15]⟩, ⟨[], [], [], [3], [], fun us u => ag [iv .i64 t8.1.By, iv .i64 t8.1.Kind, iv .i64 t8.1.Node, iv .i64 t8.1.Target], fun us u => []⟩, ⟨[3], [], [], [], [], fun us u => slv rT_api_Move [t8.1], fun us u => []⟩, ⟨[0, 1, 2, 3, 4], [], [6], [6], [6], fun us u => pv u.V.1, fun us u => [oa rT_api_Move u.V.1 u.V.2 t17]⟩, ⟨[0, 1, 2, 3, 4, 5], [], [], [], [], fun us u => pv (ptr b11 5), fun us u => []⟩, ⟨[0, 1, 2, 3, 4, 5, 6], [5], [4], [4, 6], [4], fun us u => pv undef, fun us u => [oc b11 [iv .i64 d_0.Graph.N, pv x13.1, iv .i64 d_0.Root, iv .i64 d_0.Limits.i0, iv .i64 d_0.Limits.i1, pv (us.getD 0 .none).V.1]]⟩] (fun χ14 => [(4, pv (ptr b3 0)), (8, pv (ptr b11 0))]) (fun χ14 => [oc b1 [iv .i64 d_0.Graph.N, slv rT_api_Pair d_0.Graph.L, iv .i64 d_0.Root, iv .i64 d_0.Limits.i0, iv .i64 d_0.Limits.i1, slv rT_api_Move d_0.Moves], oc b2 [iv .i64 m_1.By, iv .i64 m_1.Kind, iv .i64 m_1.Node, iv .i64 m_1.Target], oc b3 [iv .i64 0, pv (.slice none 0 0), iv .i64 0, iv .i64 0, iv .i64 0, pv (.slice none 0 0)], oc (χ6 7).Nn [iv .i64 t8.1.By, iv .i64 t8.1.Kind, iv .i64 t8.1.Node, iv .i64 t8.1.Target], oc b11 [iv .i64 d_0.Graph.N, pv x13.1, iv .i64 d_0.Root, iv .i64 d_0.Limits.i0, iv .i64 d_0.Limits.i1, pv (χ14 5).V.1], oa rT_api_Pair x13.1 x13.2 t12, oa rT_api_Move (χ14 5).V.1 (χ14 5).V.2 t17]) rfl (by kernel_rfl) ⟨fun χ14 Ω _ => St.toR (r_faddr (fo := 5) Try.underlying35 rfl rfl Try.sizeOf23 rfl) (fun _ => rfl) (fun _ => rfl), (by intro _ h; cases h; rfl), ⟨fun χ14 Ω ⟨h0, _⟩ => St.toR (r_cload Try.isAgg23 rfl (j := 0) h0 rfl) (fun _ => rfl) (fun _ => rfl), (by intro _ h; cases h; rfl), ⟨fun χ14 Ω ⟨h6, _⟩ => St.to XU.V XU.hV (St.placeL [6] (s_call (ψ := fun (x16 : (Value × List Nat)) => pv x16.1) (args := [.tmp 32]) Try.call46 rfl (slices_Clone_api_Move_api_Move_ok h_t15) ⟨arg rfl, trivial⟩ (fun _ _ _ _ h => h)) (fun _ => rfl) (fun _ => ⟨h6, rfl, trivial⟩)) (fun _ => rfl) (fun _ => rfl), (by intro _ h; cases h; rfl), ⟨fun χ14 Ω ⟨h3, _⟩ => St.toR (r_cloadS Try.isAgg40 Try.sizeOf40 rfl (j := 3) h3 rfl rfl) (fun _ => rfl) (fun _ => rfl), (by intro _ h; cases h; rfl), ⟨fun χ14 Ω _ => St.to XU.U XU.hU (s_bslice (xs := [.tmp 34]) (ds := [t8.1]) Try.underlying23 el_40 rfl (Nat.le_of_ble_eq_true rfl) ⟨(part_agO (ψs := [iv .i64 t8.1.By, iv .i64 t8.1.Kind, iv .i64 t8.1.Node, iv .i64 t8.1.Target]) rfl ⟨.inl iv_at, .inl iv_at, .inl iv_at, .inl iv_at, trivial⟩), trivial⟩) (fun _ => rfl) (fun _ => rfl), (by intro _ h; cases h; rfl), ⟨fun χ14 Ω ⟨h6, _⟩ => St.to XU.V XU.hV (s_append h_t17 Try.underlying23 el_40 rfl (j := 6) h6 rfl) (fun _ => rfl) (fun _ => rfl), (by intro _ h; cases h; rfl), ⟨fun χ14 Ω _ => St.toR (r_faddr (fo := 5) Try.underlying35 rfl rfl Try.sizeOf23 rfl) (fun _ => rfl) (fun _ => rfl), (by intro _ h; cases h; rfl), ⟨fun χ14 Ω ⟨h4, h6, _⟩ => St.to XU.U XU.hU (s_cstore (out := [iv .i64 d_0.Graph.N, pv x13.1, iv .i64 d_0.Root, iv .i64 d_0.Limits.i0, iv .i64 d_0.Limits.i1, pv (χ14 5).V.1]) Try.sizeOf23 rfl (j := 4) h4 (part_own rfl (j := 6) h6) rfl rfl rfl) (fun _ => rfl) (fun _ => rfl), (by intro _ h; cases h), trivial⟩⟩⟩⟩⟩⟩⟩⟩ (fun _ => ⟨rfl, rfl, trivial⟩) (fun _ => rfl) (fun χ14 => ?_)
  refine n_then (ref_seq (ref_region ?_))
  refine s_rd (r_cloadS Try.isAgg35 Try.sizeOf35 rfl (j := 4) rfl rfl rfl) rfl ?_
  refine s_st0 (s_cstore (out := [iv .i64 d_0.Graph.N, pv x13.1, iv .i64 d_0.Root, iv .i64 d_0.Limits.i0, iv .i64 d_0.Limits.i1, pv (χ14 5).V.1]) Try.sizeOf35 rfl (j := 2) rfl (part_agO (ψs := [iv .i64 d_0.Graph.N, pv x13.1, iv .i64 d_0.Root, iv .i64 d_0.Limits.i0, iv .i64 d_0.Limits.i1, pv (χ14 5).V.1]) rfl ⟨.inl iv_at, .inr ⟨_, _, _, _, _, 5, rfl, rfl⟩, .inl iv_at, .inl iv_at, .inl iv_at, .inr ⟨_, _, _, _, _, 6, rfl, rfl⟩, trivial⟩) rfl rfl rfl) (fun _ => ?_)
  refine as1 rfl rfl ?_
  refine l_nil (n_then (ref_ret ?_))
  refine b_of (frzGL [(38, ag [iv .i64 d_0.Graph.N, slv rT_api_Pair t12, iv .i64 d_0.Root, iv .i64 d_0.Limits.i0, iv .i64 d_0.Limits.i1, pv (χ14 5).V.1])] [(2, b3, [iv .i64 d_0.Graph.N, slv rT_api_Pair t12, iv .i64 d_0.Root, iv .i64 d_0.Limits.i0, iv .i64 d_0.Limits.i1, pv (χ14 5).V.1]), (4, b11, [iv .i64 d_0.Graph.N, slv rT_api_Pair t12, iv .i64 d_0.Root, iv .i64 d_0.Limits.i0, iv .i64 d_0.Limits.i1, pv (χ14 5).V.1])] (j := 5) rfl ⟨⟨_, rfl, .inr ⟨_, _, rfl, rfl, ⟨.inl rfl, .inr ⟨rfl, rfl⟩, .inl rfl, .inl rfl, .inl rfl, .inl rfl, trivial⟩⟩⟩, trivial⟩ ⟨⟨_, rfl, ⟨.inl rfl, .inr ⟨rfl, rfl⟩, .inl rfl, .inl rfl, .inl rfl, .inl rfl, trivial⟩⟩, ⟨_, rfl, ⟨.inl rfl, .inr ⟨rfl, rfl⟩, .inl rfl, .inl rfl, .inl rfl, .inl rfl, trivial⟩⟩, trivial⟩) ?_
  refine b_of (frzGL [(38, ag [iv .i64 d_0.Graph.N, slv rT_api_Pair t12, iv .i64 d_0.Root, iv .i64 d_0.Limits.i0, iv .i64 d_0.Limits.i1, slv rT_api_Move t17])] [(2, b3, [iv .i64 d_0.Graph.N, slv rT_api_Pair t12, iv .i64 d_0.Root, iv .i64 d_0.Limits.i0, iv .i64 d_0.Limits.i1, slv rT_api_Move t17]), (4, b11, [iv .i64 d_0.Graph.N, slv rT_api_Pair t12, iv .i64 d_0.Root, iv .i64 d_0.Limits.i0, iv .i64 d_0.Limits.i1, slv rT_api_Move t17])] (j := 6) rfl ⟨⟨_, rfl, .inr ⟨_, _, rfl, rfl, ⟨.inl rfl, .inl rfl, .inl rfl, .inl rfl, .inl rfl, .inr ⟨rfl, rfl⟩, trivial⟩⟩⟩, trivial⟩ ⟨⟨_, rfl, ⟨.inl rfl, .inl rfl, .inl rfl, .inl rfl, .inl rfl, .inr ⟨rfl, rfl⟩, trivial⟩⟩, ⟨_, rfl, ⟨.inl rfl, .inl rfl, .inl rfl, .inl rfl, .inl rfl, .inr ⟨rfl, rfl⟩, trivial⟩⟩, trivial⟩) ?_
  exact fin2 (.inl rfl) () [] rfl trivial rfl (rv_cell rfl (j := 2) rfl Try.isAgg35 Try.sizeOf35 rfl rfl) (rv_tmp rfl)

/-! deliberation/participant.scripted -/
noncomputable def participant_scripted_l1 (d_0 : T_api_Dialogue) (behind4 : Int) (s11 : Int × Int) : Option (Sum (Int) (Int × Int)) :=
  bif decide (s11.2 < (d_0.Moves.length : Int)) then
    Option.bind (idxM d_0.Moves s11.2) fun t14 =>
    bif t14.By == behind4 then
      bif t14.Kind != 1 then
        letM (iadd .i64 s11.1 1) fun k17 =>
        some (Sum.inr (k17, iadd .i64 s11.2 1))
      else
        some (Sum.inr (s11.1, iadd .i64 s11.2 1))
    else
      some (Sum.inr (s11.1, iadd .i64 s11.2 1))
  else
    some (Sum.inl s11.1)

noncomputable def participant_scripted_m (d_0 : T_api_Dialogue) (p_1 : T_api_Player) (attacks_2 : (List T_api_Move)) : Option (T_api_Move × Bool) :=
  Option.bind (protocol_Turn_m d_0) fun behind4 =>
  Option.bind (loopC (participant_scripted_l1 d_0 behind4) (0, 0)) fun q18 : Int =>
  bif decide (q18 ≥ (p_1.Script.length : Int)) then
    some ((T_api_Move.mk 0 0 0 0), false)
  else
    Option.bind (idxM p_1.Script q18) fun t21 =>
    bif t21.Kind == 2 then
      Option.bind (slices_Contains_api_Move_api_Move_m attacks_2 (T_api_Move.mk behind4 t21.Kind t21.Node t21.Target)) fun t24 =>
      some ((T_api_Move.mk behind4 t21.Kind t21.Node t21.Target), t24)
    else
      Option.bind (protocol_Apply_m d_0 (T_api_Move.mk behind4 t21.Kind t21.Node t21.Target)) fun t25 =>
      bif t25.2 != 0 then
        some ((T_api_Move.mk 0 0 0 0), false)
      else
        Option.bind (idxM t25.1.Moves (isub .i64 (t25.1.Moves.length : Int) 1)) fun t28 =>
        some (t28, true)

theorem participant_scripted_ok {d_0 : T_api_Dialogue} {p_1 : T_api_Player} {attacks_2 : (List T_api_Move)} {r : T_api_Move × Bool} (hm : participant_scripted_m d_0 p_1 attacks_2 = some r) :
    FnOk prog 38 [ag [iv .i64 d_0.Graph.N, slv rT_api_Pair d_0.Graph.L, iv .i64 d_0.Root, iv .i64 d_0.Limits.i0, iv .i64 d_0.Limits.i1, slv rT_api_Move d_0.Moves], ag [slv (rI .i64) p_1.Pool, slv (rI .i64) p_1.Withheld, slv rT_api_Move p_1.Script, iv .i64 p_1.Style], slv rT_api_Move attacks_2] [] (fun (x : Unit) => [ag [iv .i64 r.1.By, iv .i64 r.1.Kind, iv .i64 r.1.Node, iv .i64 r.1.Target], bv r.2]) (fun (x : Unit) => []) := by
  refine fn_ok (fn := Try.f38) (N := 73) (res := fun r x => [ag [iv .i64 r.1.By, iv .i64 r.1.Kind, iv .i64 r.1.Node, iv .i64 r.1.Target], bv r.2]) (Ω1 := fun r x => []) Try.func38 rfl rfl hm rfl (fun E hM => ?_)
  unfold participant_scripted_m
  refine ref_seq (ref_region ?_)
  refine s_st (s_box (part_agO (ψs := [iv .i64 d_0.Graph.N, slv rT_api_Pair d_0.Graph.L, iv .i64 d_0.Root, iv .i64 d_0.Limits.i0, iv .i64 d_0.Limits.i1, slv rT_api_Move d_0.Moves]) rfl ⟨.inl iv_at, .inl slv_at, .inl iv_at, .inl iv_at, .inl iv_at, .inl slv_at, trivial⟩)) rfl (fun b1 => ?_)
  refine s_st (s_box (part_agO (ψs := [slv (rI .i64) p_1.Pool, slv (rI .i64) p_1.Withheld, slv rT_api_Move p_1.Script, iv .i64 p_1.Style]) rfl ⟨.inl slv_at, .inl slv_at, .inl slv_at, .inl iv_at, trivial⟩)) rfl (fun b2 => ?_)
  refine s_st (s_alloc zt_40) rfl (fun b3 => ?_)
  refine as1 rfl rfl ?_
  refine l_nil (n_then (ref_seq (ref_region ?_)))
  refine s_rd (r_cloadS Try.isAgg35 Try.sizeOf35 rfl (j := 0) rfl rfl rfl) rfl ?_
  refine pull fun behind4 h_behind4 => ?_
  refine s_st (s_call (ψ := fun (_ : Unit) => iv .i64 behind4) (args := [.tmp 15]) Try.call32 rfl (protocol_Turn_ok h_behind4) ⟨arg rfl, trivial⟩ (fun _ _ _ _ h => h)) rfl (fun _ => ?_)
  refine as1 rfl rfl ?_
  refine l_nil ?_
  refine b_of (nrm [oc b1 [iv .i64 d_0.Graph.N, slv rT_api_Pair d_0.Graph.L, iv .i64 d_0.Root, iv .i64 d_0.Limits.i0, iv .i64 d_0.Limits.i1, slv rT_api_Move d_0.Moves], oc b2 [slv (rI .i64) p_1.Pool, slv (rI .i64) p_1.Withheld, slv rT_api_Move p_1.Script, iv .i64 p_1.Style], oc b3 [iv .i64 0, iv .i64 0, iv .i64 0, iv .i64 0]] rfl) ?_
  refine n_then (ref_seq (ref_region ?_))
  refine as1 rfl rfl ?_
  refine l_nil (n_then (ref_seq (ref_seq (ref_region ?_))))
  refine s_rd (r_faddr (fo := 5) Try.underlying35 rfl rfl Try.sizeOf23 rfl) rfl ?_
  refine s_rd (r_cload Try.isAgg23 rfl (j := 0) rfl rfl) rfl ?_
  refine s_rd (r_len Try.underlying23 rfl) rfl ?_
  refine mv1 rfl rfl ?_
  refine l_nil (n_then ?_)
  refine ref_loopB (f := (participant_scripted_l1 d_0 behind4)) (Γl := (fun (s11 : Int × Int) (x12 : Unit) => [(2, slv rT_api_Move attacks_2), (3, pv (ptr b1 0)), (4, pv (ptr b2 0)), (6, pv (ptr b3 0)), (8, iv .i64 behind4), (9, iv .i64 s11.1), (18, slv rT_api_Move d_0.Moves), (19, iv .i64 (d_0.Moves.length : Int)), (20, iv .i64 s11.2)])) (Ωl := (fun (s11 : Int × Int) (x12 : Unit) => [oc b1 [iv .i64 d_0.Graph.N, slv rT_api_Pair d_0.Graph.L, iv .i64 d_0.Root, iv .i64 d_0.Limits.i0, iv .i64 d_0.Limits.i1, slv rT_api_Move d_0.Moves], oc b2 [slv (rI .i64) p_1.Pool, slv (rI .i64) p_1.Withheld, slv rT_api_Move p_1.Script, iv .i64 p_1.Style], oc b3 [iv .i64 0, iv .i64 0, iv .i64 0, iv .i64 0]])) (Γb := (fun (q18 : Int) (y19 : Unit) => [(2, slv rT_api_Move attacks_2), (3, pv (ptr b1 0)), (4, pv (ptr b2 0)), (6, pv (ptr b3 0)), (8, iv .i64 behind4), (9, iv .i64 q18)])) (Ωb := (fun (q18 : Int) (y19 : Unit) => [oc b1 [iv .i64 d_0.Graph.N, slv rT_api_Pair d_0.Graph.L, iv .i64 d_0.Root, iv .i64 d_0.Limits.i0, iv .i64 d_0.Limits.i1, slv rT_api_Move d_0.Moves], oc b2 [slv (rI .i64) p_1.Pool, slv (rI .i64) p_1.Withheld, slv rT_api_Move p_1.Script, iv .i64 p_1.Style], oc b3 [iv .i64 0, iv .i64 0, iv .i64 0, iv .i64 0]])) (0, 0) () (weak [0, 1, 2] ⟨rfl, rfl, rfl, rfl, rfl, rfl, rfl, rfl, rfl, trivial⟩ ⟨rfl, rfl, rfl, trivial⟩) (fun s11 x12 => ?_) (fun q18 y19 => ?_)
  · unfold participant_scripted_l1
    refine ref_seq (ref_region ?_)
    refine s_rd (r_lss rfl rfl) rfl ?_
    refine l_nil (n_then (ref_seq ?_))
    refine ref_cond rfl (fun hb13 => ?_) (fun hb13 => ?_)
    · refine ref_skip (n_then (ref_seq (ref_block (ref_seq (ref_region ?_)))))
      refine pull fun t14 h_t14 => ?_
      refine s_rd (r_index h_t14 Try.underlying23 el_40 rfl rfl) rfl ?_
      refine s_rd (r_load el_40 rfl) rfl ?_
      refine s_st (s_alloc zt_40) rfl (fun b15 => ?_)
      refine s_st0 (s_cstore (out := [iv .i64 t14.By, iv .i64 t14.Kind, iv .i64 t14.Node, iv .i64 t14.Target]) Try.sizeOf40 rfl (j := 3) rfl (part_agO (ψs := [iv .i64 t14.By, iv .i64 t14.Kind, iv .i64 t14.Node, iv .i64 t14.Target]) rfl ⟨.inl iv_at, .inl iv_at, .inl iv_at, .inl iv_at, trivial⟩) rfl rfl rfl) (fun _ => ?_)
      refine l_nil (n_then (ref_seq (ref_region ?_)))
      refine s_rd (r_faddr (fo := 0) Try.underlying40 rfl rfl Try.sizeOf3 rfl) rfl ?_
      refine s_rd (r_cload Try.isAgg3 rfl (j := 3) rfl rfl) rfl ?_
      refine mv1 rfl rfl ?_
      refine s_rd (r_eql rfl rfl) rfl ?_
      refine mv1 rfl rfl ?_
      refine b_split (t := 28) rfl (fun _ => ?_) (fun _ => ?_)
      · refine s_on rfl rfl rfl ?_
        refine s_rd (r_faddr (fo := 1) Try.underlying40 rfl rfl Try.sizeOf3 rfl) rfl ?_
        refine s_on rfl rfl rfl ?_
        refine s_rd (r_cload Try.isAgg3 rfl (j := 3) rfl rfl) rfl ?_
        refine s_on rfl rfl rfl ?_
        refine s_rd (r_neq rfl rfl) rfl ?_
        refine s_rd (r_pickT rfl rfl) rfl ?_
        refine l_nil (n_then ?_)
        refine ref_cond rfl (fun hb16 => ?_) (fun hb16 => ?_)
        · refine ref_region ?_
          refine mv1 rfl rfl ?_
          refine s_rd (r_add rfl rfl) rfl ?_
          refine as1 rfl rfl ?_
          refine b_let (f := iv .i64) (t := 9) rfl fun k17 => ?_
          refine l_nil (n_block (n_then (ref_region ?_)))
          refine s_rd (r_add rfl rfl) rfl ?_
          refine mv1 rfl rfl ?_
          refine l_nil ?_
          exact goB () (weak [0, 1, 2] ⟨rfl, rfl, rfl, rfl, rfl, rfl, rfl, rfl, rfl, trivial⟩ ⟨rfl, rfl, rfl, trivial⟩)
        refine ref_skip (n_block (n_then (ref_region ?_)))
        refine s_rd (r_add rfl rfl) rfl ?_
        refine mv1 rfl rfl ?_
        refine l_nil ?_
        exact goB () (weak [0, 1, 2] ⟨rfl, rfl, rfl, rfl, rfl, rfl, rfl, rfl, rfl, trivial⟩ ⟨rfl, rfl, rfl, trivial⟩)
      refine s_off rfl rfl rfl rfl rfl ?_
      refine s_off rfl rfl rfl rfl rfl ?_
      refine s_off rfl rfl rfl rfl rfl ?_
      refine s_rd (r_pickF rfl rfl) rfl ?_
      refine l_nil (n_then ?_)
      refine ref_condF rfl rfl ?_
      refine ref_skip (n_block (n_then (ref_region ?_)))
      refine s_rd (r_add rfl rfl) rfl ?_
      refine mv1 rfl rfl ?_
      refine l_nil ?_
      exact goB () (weak [0, 1, 2] ⟨rfl, rfl, rfl, rfl, rfl, rfl, rfl, rfl, rfl, trivial⟩ ⟨rfl, rfl, rfl, trivial⟩)
    refine ref_exit (x_then ?_)
    exact brkB () (weak [0, 1, 2] ⟨rfl, rfl, rfl, rfl, rfl, rfl, trivial⟩ ⟨rfl, rfl, rfl, trivial⟩)
  refine n_then (ref_seq (ref_seq (ref_region ?_)))
  refine mv1 rfl rfl ?_
  refine s_rd (r_faddr (fo := 2) Try.underlying25 rfl rfl Try.sizeOf23 rfl) rfl ?_
  refine s_rd (r_cload Try.isAgg23 rfl (j := 1) rfl rfl) rfl ?_
  refine s_rd (r_len Try.underlying23 rfl) rfl ?_
  refine s_rd (r_geq rfl rfl) rfl ?_
  refine l_nil (n_then ?_)
  refine ref_cond rfl (fun hb20 => ?_) (fun hb20 => ?_)
  · refine ref_seq (ref_region ?_)
    refine s_rd (r_build (ps := []) (rs := []) st_40 zs_40 trivial rfl rfl) rfl ?_
    refine s_st0 (s_cstore (out := [iv .i64 0, iv .i64 0, iv .i64 0, iv .i64 0]) Try.sizeOf40 rfl (j := 2) rfl (part_agO (ψs := [iv .i64 0, iv .i64 0, iv .i64 0, iv .i64 0]) rfl ⟨.inl iv_at, .inl iv_at, .inl iv_at, .inl iv_at, trivial⟩) rfl rfl rfl) (fun _ => ?_)
    refine as1 rfl rfl ?_
    refine l_nil (n_then (ref_ret (r_then ?_)))
    exact fin2 (.inl rfl) () [] rfl trivial rfl (rv_cell rfl (j := 2) rfl Try.isAgg40 Try.sizeOf40 rfl rfl) (rv_tmp rfl)
  refine ref_skip (n_then (ref_seq (ref_region ?_)))
  refine s_rd (r_faddr (fo := 2) Try.underlying25 rfl rfl Try.sizeOf23 rfl) rfl ?_
  refine s_rd (r_cload Try.isAgg23 rfl (j := 1) rfl rfl) rfl ?_
  refine mv1 rfl rfl ?_
  refine pull fun t21 h_t21 => ?_
  refine s_rd (r_index h_t21 Try.underlying23 el_40 rfl rfl) rfl ?_
  refine s_rd (r_load el_40 rfl) rfl ?_
  refine s_st (s_alloc zt_40) rfl (fun b22 => ?_)
  refine s_st0 (s_cstore (out := [iv .i64 t21.By, iv .i64 t21.Kind, iv .i64 t21.Node, iv .i64 t21.Target]) Try.sizeOf40 rfl (j := 3) rfl (part_agO (ψs := [iv .i64 t21.By, iv .i64 t21.Kind, iv .i64 t21.Node, iv .i64 t21.Target]) rfl ⟨.inl iv_at, .inl iv_at, .inl iv_at, .inl iv_at, trivial⟩) rfl rfl rfl) (fun _ => ?_)
  refine l_nil (n_then (ref_seq (ref_region ?_)))
  refine mv1 rfl rfl ?_
  refine s_rd (r_faddr (fo := 0) Try.underlying40 rfl rfl Try.sizeOf3 rfl) rfl ?_
  refine s_st0 (s_cstore (out := [iv .i64 behind4, iv .i64 t21.Kind, iv .i64 t21.Node, iv .i64 t21.Target]) Try.sizeOf3 rfl (j := 3) rfl (part_at rfl iv_at) rfl rfl rfl) (fun _ => ?_)
  refine l_nil (n_then (ref_seq (ref_seq (ref_region ?_))))
  refine s_rd (r_faddr (fo := 1) Try.underlying40 rfl rfl Try.sizeOf3 rfl) rfl ?_
  refine s_rd (r_cload Try.isAgg3 rfl (j := 3) rfl rfl) rfl ?_
  refine s_rd (r_eql rfl rfl) rfl ?_
  refine l_nil (n_then ?_)
  refine ref_cond rfl (fun hb23 => ?_) (fun hb23 => ?_)
  · refine ref_seq ?_
    refine ref_draw [0, 1, 2] rfl (by kernel_rfl) (fun hok => ?_)
    refine a_rd (i := 0) hok rfl (by kernel_rfl) rfl (r_cloadS Try.isAgg40 Try.sizeOf40 rfl (j := 3) rfl rfl rfl) rfl ?_
    refine a_rd (i := 1) hok rfl (by kernel_rfl) rfl (r_move rfl) rfl ?_
    refine a_rd (i := 2) hok rfl (by kernel_rfl) rfl (r_cloadS Try.isAgg40 Try.sizeOf40 rfl (j := 3) rfl rfl rfl) rfl ?_
    refine pull fun t24 h_t24 => ?_
    refine a_next hok 3 [] (by kernel_rfl) ?_ trivial
    refine a_st (i := 3) hok rfl rfl (s_call (ψ := fun (_ : Unit) => bv t24) (args := [.tmp 53, .tmp 54]) Try.call67 rfl (slices_Contains_api_Move_api_Move_ok h_t24) ⟨arg rfl, arg rfl, trivial⟩ (fun _ _ _ _ h => h)) (by intro _ h; cases h; rfl) (fun _ => ⟨trivial, ⟨trivial, ⟨⟨⟨rfl, rfl⟩, trivial⟩, trivial⟩⟩⟩) (fun _ => ?_)
    refine a_next hok 4 [] (by kernel_rfl) ?_ trivial
    refine a_st (i := 4) hok rfl rfl (s_cstore (out := [iv .i64 behind4, iv .i64 t21.Kind, iv .i64 t21.Node, iv .i64 t21.Target]) Try.sizeOf40 rfl (j := 2) rfl (part_agO (ψs := [iv .i64 behind4, iv .i64 t21.Kind, iv .i64 t21.Node, iv .i64 t21.Target]) rfl ⟨.inl iv_at, .inl iv_at, .inl iv_at, .inl iv_at, trivial⟩) rfl rfl rfl) (by intro _ h; cases h) (fun _ => ⟨⟨⟨rfl, rfl⟩, trivial⟩, ⟨trivial, ⟨trivial, trivial⟩⟩⟩) (fun _ => ?_)
    refine a_next hok 5 [] (by kernel_rfl) ?_ trivial
    refine a_st (i := 5) hok rfl rfl (St.ofRd (r_assign rfl)) (by intro _ h; cases h; rfl) (fun _ => ⟨trivial, ⟨trivial, ⟨trivial, trivial⟩⟩⟩) (fun _ => ?_)
    refine a_fin hok (by kernel_rfl) ?_
    refine b_of (nrm [oc b1 [iv .i64 d_0.Graph.N, slv rT_api_Pair d_0.Graph.L, iv .i64 d_0.Root, iv .i64 d_0.Limits.i0, iv .i64 d_0.Limits.i1, slv rT_api_Move d_0.Moves], oc b2 [slv (rI .i64) p_1.Pool, slv (rI .i64) p_1.Withheld, slv rT_api_Move p_1.Script, iv .i64 p_1.Style], oc b3 [iv .i64 behind4, iv .i64 t21.Kind, iv .i64 t21.Node, iv .i64 t21.Target], oc b22 [iv .i64 behind4, iv .i64 t21.Kind, iv .i64 t21.Node, iv .i64 t21.Target]] rfl) ?_
    refine n_then (ref_ret (r_then ?_))
    exact fin2 (.inl rfl) () [] rfl trivial rfl (rv_cell rfl (j := 2) rfl Try.isAgg40 Try.sizeOf40 rfl rfl) (rv_tmp rfl)
  refine ref_skip (n_then (ref_seq (ref_region ?_)))
  refine s_rd (r_cloadS Try.isAgg35 Try.sizeOf35 rfl (j := 0) rfl rfl rfl) rfl ?_
  refine s_rd (r_cloadS Try.isAgg40 Try.sizeOf40 rfl (j := 3) rfl rfl rfl) rfl ?_
  refine pull fun t25 h_t25 => ?_
  refine s_st (s_call (ψ := fun (_ : Unit) => tup [ag [iv .i64 t25.1.Graph.N, slv rT_api_Pair t25.1.Graph.L, iv .i64 t25.1.Root, iv .i64 t25.1.Limits.i0, iv .i64 t25.1.Limits.i1, slv rT_api_Move t25.1.Moves], iv .i64 t25.2]) (args := [.tmp 57, .tmp 58]) Try.call47 rfl (protocol_Apply_ok h_t25) ⟨arg rfl, arg rfl, trivial⟩ (fun _ _ _ _ h => h)) rfl (fun _ => ?_)
  refine mv1 rfl rfl ?_
  refine s_rd (r_extract rfl rfl) rfl ?_
  refine s_rd (r_extract rfl rfl) rfl ?_
  refine s_st (s_alloc zt_35) rfl (fun b26 => ?_)
  refine s_st0 (s_cstore (out := [iv .i64 t25.1.Graph.N, slv rT_api_Pair t25.1.Graph.L, iv .i64 t25.1.Root, iv .i64 t25.1.Limits.i0, iv .i64 t25.1.Limits.i1, slv rT_api_Move t25.1.Moves]) Try.sizeOf35 rfl (j := 4) rfl (part_agO (ψs := [iv .i64 t25.1.Graph.N, slv rT_api_Pair t25.1.Graph.L, iv .i64 t25.1.Root, iv .i64 t25.1.Limits.i0, iv .i64 t25.1.Limits.i1, slv rT_api_Move t25.1.Moves]) rfl ⟨.inl iv_at, .inl slv_at, .inl iv_at, .inl iv_at, .inl iv_at, .inl slv_at, trivial⟩) rfl rfl rfl) (fun _ => ?_)
  refine as1 rfl rfl ?_
  refine l_nil ?_
  refine b_of (nrm [oc b1 [iv .i64 d_0.Graph.N, slv rT_api_Pair d_0.Graph.L, iv .i64 d_0.Root, iv .i64 d_0.Limits.i0, iv .i64 d_0.Limits.i1, slv rT_api_Move d_0.Moves], oc b2 [slv (rI .i64) p_1.Pool, slv (rI .i64) p_1.Withheld, slv rT_api_Move p_1.Script, iv .i64 p_1.Style], oc b3 [iv .i64 0, iv .i64 0, iv .i64 0, iv .i64 0], oc b22 [iv .i64 behind4, iv .i64 t21.Kind, iv .i64 t21.Node, iv .i64 t21.Target], oc b26 [iv .i64 t25.1.Graph.N, slv rT_api_Pair t25.1.Graph.L, iv .i64 t25.1.Root, iv .i64 t25.1.Limits.i0, iv .i64 t25.1.Limits.i1, slv rT_api_Move t25.1.Moves]] rfl) ?_
  refine n_then (ref_seq (ref_seq (ref_region ?_)))
  refine mv1 rfl rfl ?_
  refine s_rd (r_neq rfl rfl) rfl ?_
  refine l_nil (n_then ?_)
  refine ref_cond rfl (fun hb27 => ?_) (fun hb27 => ?_)
  · refine ref_seq (ref_region ?_)
    refine s_rd (r_build (ps := []) (rs := []) st_40 zs_40 trivial rfl rfl) rfl ?_
    refine s_st0 (s_cstore (out := [iv .i64 0, iv .i64 0, iv .i64 0, iv .i64 0]) Try.sizeOf40 rfl (j := 2) rfl (part_agO (ψs := [iv .i64 0, iv .i64 0, iv .i64 0, iv .i64 0]) rfl ⟨.inl iv_at, .inl iv_at, .inl iv_at, .inl iv_at, trivial⟩) rfl rfl rfl) (fun _ => ?_)
    refine as1 rfl rfl ?_
    refine l_nil (n_then (ref_ret (r_then ?_)))
    exact fin2 (.inl rfl) () [] rfl trivial rfl (rv_cell rfl (j := 2) rfl Try.isAgg40 Try.sizeOf40 rfl rfl) (rv_tmp rfl)
  refine ref_skip (n_then (ref_seq (ref_region ?_)))
  refine s_rd (r_faddr (fo := 5) Try.underlying35 rfl rfl Try.sizeOf23 rfl) rfl ?_
  refine s_rd (r_cload Try.isAgg23 rfl (j := 4) rfl rfl) rfl ?_
  refine s_rd (r_faddr (fo := 5) Try.underlying35 rfl rfl Try.sizeOf23 rfl) rfl ?_
  refine s_rd (r_cload Try.isAgg23 rfl (j := 4) rfl rfl) rfl ?_
  refine s_rd (r_len Try.underlying23 rfl) rfl ?_
  refine s_rd (r_sub rfl rfl) rfl ?_
  refine pull fun t28 h_t28 => ?_
  refine s_rd (r_index h_t28 Try.underlying23 el_40 rfl rfl) rfl ?_
  refine s_rd (r_load el_40 rfl) rfl ?_
  refine s_st0 (s_cstore (out := [iv .i64 t28.By, iv .i64 t28.Kind, iv .i64 t28.Node, iv .i64 t28.Target]) Try.sizeOf40 rfl (j := 2) rfl (part_agO (ψs := [iv .i64 t28.By, iv .i64 t28.Kind, iv .i64 t28.Node, iv .i64 t28.Target]) rfl ⟨.inl iv_at, .inl iv_at, .inl iv_at, .inl iv_at, trivial⟩) rfl rfl rfl) (fun _ => ?_)
  refine as1 rfl rfl ?_
  refine l_nil (n_then (ref_ret ?_))
  exact fin2 (.inl rfl) () [] rfl trivial rfl (rv_cell rfl (j := 2) rfl Try.isAgg40 Try.sizeOf40 rfl rfl) (rv_tmp rfl)

/-! deliberation/participant.style$2 -/
noncomputable def participant_style_2_m (a__0 : T_api_Move) (b_1 : T_api_Move) : Option (Int) :=
  Option.bind (cmp_Compare_int_m b_1.Target a__0.Target) fun t3 =>
  some t3

theorem participant_style_2_ok {a__0 : T_api_Move} {b_1 : T_api_Move} {r : Int} (hm : participant_style_2_m a__0 b_1 = some r) :
    FnOk prog 69 [ag [iv .i64 a__0.By, iv .i64 a__0.Kind, iv .i64 a__0.Node, iv .i64 a__0.Target], ag [iv .i64 b_1.By, iv .i64 b_1.Kind, iv .i64 b_1.Node, iv .i64 b_1.Target]] [] (fun (x : Unit) => [iv .i64 r]) (fun (x : Unit) => []) := by
  refine fn_ok (fn := Try.f69) (N := 10) (res := fun r x => [iv .i64 r]) (Ω1 := fun r x => []) Try.func69 rfl rfl hm rfl (fun E hM => ?_)
  unfold participant_style_2_m
  refine ref_seq (ref_region ?_)
  refine s_st (s_box (part_agO (ψs := [iv .i64 a__0.By, iv .i64 a__0.Kind, iv .i64 a__0.Node, iv .i64 a__0.Target]) rfl ⟨.inl iv_at, .inl iv_at, .inl iv_at, .inl iv_at, trivial⟩)) rfl (fun b1 => ?_)
  refine s_st (s_box (part_agO (ψs := [iv .i64 b_1.By, iv .i64 b_1.Kind, iv .i64 b_1.Node, iv .i64 b_1.Target]) rfl ⟨.inl iv_at, .inl iv_at, .inl iv_at, .inl iv_at, trivial⟩)) rfl (fun b2 => ?_)
  refine as1 rfl rfl ?_
  refine l_nil (n_then (ref_seq (ref_region ?_)))
  refine s_rd (r_faddr (fo := 3) Try.underlying40 rfl rfl Try.sizeOf3 rfl) rfl ?_
  refine s_rd (r_cload Try.isAgg3 rfl (j := 1) rfl rfl) rfl ?_
  refine s_rd (r_faddr (fo := 3) Try.underlying40 rfl rfl Try.sizeOf3 rfl) rfl ?_
  refine s_rd (r_cload Try.isAgg3 rfl (j := 0) rfl rfl) rfl ?_
  refine pull fun t3 h_t3 => ?_
  refine s_st (s_call (ψ := fun (_ : Unit) => iv .i64 t3) (args := [.tmp 6, .tmp 8]) Try.call70 rfl (cmp_Compare_int_ok h_t3) ⟨arg rfl, arg rfl, trivial⟩ (fun _ _ _ _ h => h)) rfl (fun _ => ?_)
  refine as1 rfl rfl ?_
  refine l_nil (n_then (ref_ret ?_))
  exact fin1 (.inl rfl) () [] rfl trivial rfl (rv_tmp rfl)

/-! deliberation/participant.style$4 -/
noncomputable def participant_style_4_m (a__0 : T_api_Move) (b_1 : T_api_Move) : Option (Int) :=
  some 0

theorem participant_style_4_ok {a__0 : T_api_Move} {b_1 : T_api_Move} {r : Int} (hm : participant_style_4_m a__0 b_1 = some r) :
    FnOk prog 72 [ag [iv .i64 a__0.By, iv .i64 a__0.Kind, iv .i64 a__0.Node, iv .i64 a__0.Target], ag [iv .i64 b_1.By, iv .i64 b_1.Kind, iv .i64 b_1.Node, iv .i64 b_1.Target]] [] (fun (x : Unit) => [iv .i64 r]) (fun (x : Unit) => []) := by
  refine fn_ok (fn := Try.f72) (N := 5) (res := fun r x => [iv .i64 r]) (Ω1 := fun r x => []) Try.func72 rfl rfl hm rfl (fun E hM => ?_)
  unfold participant_style_4_m
  refine ref_seq (ref_region ?_)
  refine s_st (s_box (part_agO (ψs := [iv .i64 a__0.By, iv .i64 a__0.Kind, iv .i64 a__0.Node, iv .i64 a__0.Target]) rfl ⟨.inl iv_at, .inl iv_at, .inl iv_at, .inl iv_at, trivial⟩)) rfl (fun b1 => ?_)
  refine s_st (s_box (part_agO (ψs := [iv .i64 b_1.By, iv .i64 b_1.Kind, iv .i64 b_1.Node, iv .i64 b_1.Target]) rfl ⟨.inl iv_at, .inl iv_at, .inl iv_at, .inl iv_at, trivial⟩)) rfl (fun b2 => ?_)
  refine as1 rfl rfl ?_
  refine l_nil (n_then (ref_seq (ref_region ?_)))
  refine as1 rfl rfl ?_
  refine l_nil (n_then (ref_ret ?_))
  exact fin1 (.inl rfl) () [] rfl trivial rfl (rv_tmp rfl)

/-! deliberation/participant.style -/
noncomputable def participant_style_m (d_0 : T_api_Dialogue) (kind_1 : Int) : Option (T_api_Dialogue × Bool × Bool) :=
  bif kind_1 == 2 then
    some (d_0, true, false)
  else
    bif kind_1 == 3 then
      some (d_0, false, true)
    else
      some (d_0, false, false)

theorem participant_style_ok {d_0 : T_api_Dialogue} {kind_1 : Int} {r : T_api_Dialogue × Bool × Bool} (hm : participant_style_m d_0 kind_1 = some r) :
    FnOk prog 40 [ag [iv .i64 d_0.Graph.N, slv rT_api_Pair d_0.Graph.L, iv .i64 d_0.Root, iv .i64 d_0.Limits.i0, iv .i64 d_0.Limits.i1, slv rT_api_Move d_0.Moves], iv .i64 kind_1] [] (fun (x : Nat × Nat) => [pv (bif r.2.1 then (.func (.func 69) #[] #[]) else (bif r.2.2 then (.func (.func 71) #[] #[(ptr x.1 0)]) else (.func (.func 72) #[] #[])))]) (fun (x : Nat × Nat) => [oc x.1 [pv (.func (.func 68) #[] #[(ptr x.2 0)])], oc x.2 [iv .i64 r.1.Graph.N, slv rT_api_Pair r.1.Graph.L, iv .i64 r.1.Root, iv .i64 r.1.Limits.i0, iv .i64 r.1.Limits.i1, slv rT_api_Move r.1.Moves]]) := by
  refine fn_ok (X := Nat × Nat) (fn := Try.f40) (N := 13) (res := fun r x => [pv (bif r.2.1 then (.func (.func 69) #[] #[]) else (bif r.2.2 then (.func (.func 71) #[] #[(ptr x.1 0)]) else (.func (.func 72) #[] #[])))]) (Ω1 := fun r x => [oc x.1 [pv (.func (.func 68) #[] #[(ptr x.2 0)])], oc x.2 [iv .i64 r.1.Graph.N, slv rT_api_Pair r.1.Graph.L, iv .i64 r.1.Root, iv .i64 r.1.Limits.i0, iv .i64 r.1.Limits.i1, slv rT_api_Move r.1.Moves]]) Try.func40 rfl rfl hm rfl (fun E hM => ?_)
  unfold participant_style_m
  refine ref_seq (ref_region ?_)
  refine s_st (s_box (part_agO (ψs := [iv .i64 d_0.Graph.N, slv rT_api_Pair d_0.Graph.L, iv .i64 d_0.Root, iv .i64 d_0.Limits.i0, iv .i64 d_0.Limits.i1, slv rT_api_Move d_0.Moves]) rfl ⟨.inl iv_at, .inl slv_at, .inl iv_at, .inl iv_at, .inl iv_at, .inl slv_at, trivial⟩)) rfl (fun b1 => ?_)
  refine as1 rfl rfl ?_
  refine l_nil (n_then (ref_seq (ref_region ?_)))
  refine s_rd (r_mkfn (xs := [.tmp 2]) (vs := [(ptr b1 0)]) ⟨rfl, trivial⟩) rfl ?_
  refine s_st (s_alloc zt_55) rfl (fun b2 => ?_)
  refine s_st0 (s_cstore (out := [pv (.func (.func 68) #[] #[(ptr b1 0)])]) Try.sizeOf55 rfl (j := 1) rfl (part_at (φ := pv (.func (.func 68) #[] #[(ptr b1 0)])) rfl (pv_at rfl)) rfl rfl rfl) (fun _ => ?_)
  refine l_nil (n_then (ref_seq (ref_seq (ref_region ?_))))
  refine mv1 rfl rfl ?_
  refine l_nil (n_then (ref_block (ref_seq (ref_region ?_))))
  refine s_rd (r_eql rfl rfl) rfl ?_
  refine as1 rfl rfl ?_
  refine l_nil (n_then ?_)
  refine ref_cond rfl (fun hb3 => ?_) (fun hb3 => ?_)
  · refine ref_seq (ref_region ?_)
    refine as1 rfl rfl ?_
    refine l_nil (n_then (ref_ret (r_block (r_then ?_))))
    exact fin1 (.inl rfl) (b2, b1) [1, 0] rfl ⟨rfl, rfl, trivial⟩ rfl (rv_tmp rfl)
  refine ref_seq (ref_region ?_)
  refine s_rd (r_eql rfl rfl) rfl ?_
  refine as1 rfl rfl ?_
  refine l_nil (n_then ?_)
  refine ref_cond rfl (fun hb4 => ?_) (fun hb4 => ?_)
  · refine ref_seq (ref_region ?_)
    refine s_rd (r_mkfn (xs := [.tmp 5]) (vs := [(ptr b2 0)]) ⟨rfl, trivial⟩) rfl ?_
    refine as1 rfl rfl ?_
    refine l_nil (n_then (ref_ret (r_block (r_then ?_))))
    exact fin1 (.inl rfl) (b2, b1) [1, 0] rfl ⟨rfl, rfl, trivial⟩ rfl (rv_tmp rfl)
  refine ref_skip (n_block (n_then (ref_seq (ref_region ?_))))
  refine as1 rfl rfl ?_
  refine l_nil (n_then (ref_ret ?_))
  exact fin1 (.inl rfl) (b2, b1) [1, 0] rfl ⟨rfl, rfl, trivial⟩ rfl (rv_tmp rfl)

/-! slices.Index[[]int,int] -/
noncomputable def slices_Index_int_int_l1 (s_0 : (List Int)) (v_1 : Int) (s6 : Int) : Option (Sum ((Sum (Int) (Unit))) (Int)) :=
  bif decide (s6 < (s_0.length : Int)) then
    Option.bind (idxM s_0 s6) fun t9 =>
    bif v_1 == t9 then
      some (Sum.inl (Sum.inl s6))
    else
      some (Sum.inr (iadd .i64 s6 1))
  else
    some (Sum.inl (Sum.inr ()))

noncomputable def slices_Index_int_int_m (s_0 : (List Int)) (v_1 : Int) : Option (Int) :=
  Option.bind (loopC (slices_Index_int_int_l1 s_0 v_1) 0) (sumK (fun a : Int => some a) fun q11 : Unit =>
    some (-1))

theorem slices_Index_int_int_ok {s_0 : (List Int)} {v_1 : Int} {r : Int} (hm : slices_Index_int_int_m s_0 v_1 = some r) :
    FnOk prog 66 [slv (rI .i64) s_0, iv .i64 v_1] [] (fun (x : Unit) => [iv .i64 r]) (fun (x : Unit) => []) := by
  refine fn_ok (fn := Try.f66) (N := 19) (res := fun r x => [iv .i64 r]) (Ω1 := fun r x => []) Try.func66 rfl rfl hm rfl (fun E hM => ?_)
  unfold slices_Index_int_int_m
  refine ref_seq (ref_region ?_)
  refine as1 rfl rfl ?_
  refine l_nil (n_then (ref_seq (ref_seq (ref_region ?_))))
  refine mv1 rfl rfl ?_
  refine s_rd (r_len Try.underlying22 rfl) rfl ?_
  refine mv1 rfl rfl ?_
  refine l_nil (n_then ?_)
  refine ref_loopX (f := (slices_Index_int_int_l1 s_0 v_1)) (Γl := (fun (s6 : Int) (x7 : Unit) => [(0, slv (rI .i64) s_0), (1, iv .i64 v_1), (7, iv .i64 (s_0.length : Int)), (8, iv .i64 s6)])) (Ωl := (fun (s6 : Int) (x7 : Unit) => [])) (Γb := (fun (q11 : Unit) (y12 : Unit) => [])) (Ωb := (fun (q11 : Unit) (y12 : Unit) => [])) (kr := (fun a : Int => some a)) 0 () (weak [] ⟨rfl, rfl, rfl, rfl, trivial⟩ trivial) (fun s6 x7 => ?_) (fun q11 y12 => ?_)
  · unfold slices_Index_int_int_l1
    refine ref_seq (ref_region ?_)
    refine s_rd (r_lss rfl rfl) rfl ?_
    refine l_nil (n_then (ref_seq ?_))
    refine ref_cond rfl (fun hb8 => ?_) (fun hb8 => ?_)
    · refine ref_skip (n_then (ref_seq (ref_block (ref_seq (ref_region ?_)))))
      refine mv1 rfl rfl ?_
      refine as1 rfl rfl ?_
      refine l_nil (n_then (ref_seq (ref_region ?_)))
      refine mv1 rfl rfl ?_
      refine mv1 rfl rfl ?_
      refine mv1 rfl rfl ?_
      refine pull fun t9 h_t9 => ?_
      refine s_rd (r_index h_t9 Try.underlying22 el_3 rfl rfl) rfl ?_
      refine s_rd (r_load el_3 rfl) rfl ?_
      refine s_rd (r_eql rfl rfl) rfl ?_
      refine l_nil (n_then ?_)
      refine ref_cond rfl (fun hb10 => ?_) (fun hb10 => ?_)
      · refine ref_seq (ref_region ?_)
        refine mv1 rfl rfl ?_
        refine as1 rfl rfl ?_
        refine l_nil (n_then (ref_ret (r_block (r_then ?_))))
        refine retX ?_
        refine r_block (r_then ?_)
        exact fin1 (.inl rfl) () [] rfl trivial rfl (rv_tmp rfl)
      refine ref_skip (n_block (n_then (ref_region ?_)))
      refine s_rd (r_add rfl rfl) rfl ?_
      refine mv1 rfl rfl ?_
      refine l_nil ?_
      exact goX () (weak [] ⟨rfl, rfl, rfl, rfl, trivial⟩ trivial)
    refine ref_exit (x_then ?_)
    exact brkX () (weak [] trivial trivial)
  refine n_then (ref_seq (ref_region ?_))
  refine as1 rfl rfl ?_
  refine l_nil (n_then (ref_ret ?_))
  exact fin1 (.inl rfl) () [] rfl trivial rfl (rv_tmp rfl)

/-! slices.Contains[[]int,int] -/
noncomputable def slices_Contains_int_int_m (s_0 : (List Int)) (v_1 : Int) : Option (Bool) :=
  Option.bind (slices_Index_int_int_m s_0 v_1) fun t1 =>
  letM (decide (t1 ≥ 0)) fun t2 =>
  some t2

theorem slices_Contains_int_int_ok {s_0 : (List Int)} {v_1 : Int} {r : Bool} (hm : slices_Contains_int_int_m s_0 v_1 = some r) :
    FnOk prog 37 [slv (rI .i64) s_0, iv .i64 v_1] [] (fun (x : Unit) => [bv r]) (fun (x : Unit) => []) := by
  refine fn_ok (fn := Try.f37) (N := 9) (res := fun r x => [bv r]) (Ω1 := fun r x => []) Try.func37 rfl rfl hm rfl (fun E hM => ?_)
  unfold slices_Contains_int_int_m
  refine ref_seq (ref_region ?_)
  refine as1 rfl rfl ?_
  refine l_nil (n_then (ref_seq (ref_region ?_)))
  refine mv1 rfl rfl ?_
  refine mv1 rfl rfl ?_
  refine pull fun t1 h_t1 => ?_
  refine s_st (s_call (ψ := fun (_ : Unit) => iv .i64 t1) (args := [.tmp 5, .tmp 6]) Try.call66 rfl (slices_Index_int_int_ok h_t1) ⟨arg rfl, arg rfl, trivial⟩ (fun _ _ _ _ h => h)) rfl (fun _ => ?_)
  refine s_rd (r_geq rfl rfl) rfl ?_
  refine as1 rfl rfl ?_
  refine b_let (f := bv) (t := 4) rfl fun t2 => ?_
  refine l_nil (n_then (ref_ret ?_))
  exact fin1 (.inl rfl) () [] rfl trivial rfl (rv_tmp rfl)

/-! deliberation/participant.Choose$1 -/
noncomputable def participant_Choose_1_m (m_0 : T_api_Move) (p_1 : T_api_Player) : Option (Bool) :=
  Option.bind (slices_Contains_int_int_m p_1.Pool m_0.Node) fun t2 =>
  bif !t2 then
    some true
  else
    Option.bind (slices_Contains_int_int_m p_1.Withheld m_0.Node) fun t3 =>
    some t3

theorem participant_Choose_1_ok {m_0 : T_api_Move} {p_1 : T_api_Player} {b_1 : Nat} {r : Bool} (hm : participant_Choose_1_m m_0 p_1 = some r) :
    FnOk prog 36 [ag [iv .i64 m_0.By, iv .i64 m_0.Kind, iv .i64 m_0.Node, iv .i64 m_0.Target], pv (ptr b_1 0)] [oc b_1 [slv (rI .i64) p_1.Pool, slv (rI .i64) p_1.Withheld, slv rT_api_Move p_1.Script, iv .i64 p_1.Style]] (fun (x : Unit) => [bv r]) (fun (x : Unit) => [oc b_1 [slv (rI .i64) p_1.Pool, slv (rI .i64) p_1.Withheld, slv rT_api_Move p_1.Script, iv .i64 p_1.Style]]) := by
  refine fn_ok (fn := Try.f36) (N := 17) (res := fun r x => [bv r]) (Ω1 := fun r x => [oc b_1 [slv (rI .i64) p_1.Pool, slv (rI .i64) p_1.Withheld, slv rT_api_Move p_1.Script, iv .i64 p_1.Style]]) Try.func36 rfl rfl hm rfl (fun E hM => ?_)
  unfold participant_Choose_1_m
  refine ref_seq (ref_region ?_)
  refine s_st (s_box (part_agO (ψs := [iv .i64 m_0.By, iv .i64 m_0.Kind, iv .i64 m_0.Node, iv .i64 m_0.Target]) rfl ⟨.inl iv_at, .inl iv_at, .inl iv_at, .inl iv_at, trivial⟩)) rfl (fun b1 => ?_)
  refine as1 rfl rfl ?_
  refine l_nil (n_then (ref_seq (ref_region ?_)))
  refine s_rd (r_faddr (fo := 0) Try.underlying25 rfl rfl Try.sizeOf22 rfl) rfl ?_
  refine s_rd (r_cload Try.isAgg22 rfl (j := 0) rfl rfl) rfl ?_
  refine s_rd (r_faddr (fo := 2) Try.underlying40 rfl rfl Try.sizeOf3 rfl) rfl ?_
  refine s_rd (r_cload Try.isAgg3 rfl (j := 1) rfl rfl) rfl ?_
  refine pull fun t2 h_t2 => ?_
  refine s_st (s_call (ψ := fun (_ : Unit) => bv t2) (args := [.tmp 5, .tmp 7]) Try.call37 rfl (slices_Contains_int_int_ok h_t2) ⟨arg rfl, arg rfl, trivial⟩ (fun _ _ _ _ h => h)) rfl (fun _ => ?_)
  refine s_rd (r_not rfl) rfl ?_
  refine mv1 rfl rfl ?_
  refine b_split (t := 10) rfl (fun _ => ?_) (fun _ => ?_)
  · refine s_off rfl rfl rfl rfl rfl ?_
    refine s_off rfl rfl rfl rfl rfl ?_
    refine s_off rfl rfl rfl rfl rfl ?_
    refine s_off rfl rfl rfl rfl rfl ?_
    refine s_off rfl rfl rfl rfl rfl ?_
    refine s_rd (r_pickT rfl rfl) rfl ?_
    refine as1 rfl rfl ?_
    refine l_nil (n_then (ref_ret ?_))
    exact fin1 (.inl rfl) () [0] rfl ⟨rfl, trivial⟩ rfl (rv_tmp rfl)
  refine s_on rfl rfl rfl ?_
  refine s_rd (r_faddr (fo := 1) Try.underlying25 rfl rfl Try.sizeOf22 rfl) rfl ?_
  refine s_on rfl rfl rfl ?_
  refine s_rd (r_cload Try.isAgg22 rfl (j := 0) rfl rfl) rfl ?_
  refine s_on rfl rfl rfl ?_
  refine s_rd (r_faddr (fo := 2) Try.underlying40 rfl rfl Try.sizeOf3 rfl) rfl ?_
  refine s_on rfl rfl rfl ?_
  refine s_rd (r_cload Try.isAgg3 rfl (j := 1) rfl rfl) rfl ?_
  refine s_on rfl rfl rfl ?_
  refine pull fun t3 h_t3 => ?_
  refine s_st (s_call (ψ := fun (_ : Unit) => bv t3) (args := [.tmp 12, .tmp 14]) Try.call37 rfl (slices_Contains_int_int_ok h_t3) ⟨arg rfl, arg rfl, trivial⟩ (fun _ _ _ _ h => h)) rfl (fun _ => ?_)
  refine s_rd (r_pickF rfl rfl) rfl ?_
  refine as1 rfl rfl ?_
  refine l_nil (n_then (ref_ret ?_))
  exact fin1 (.inl rfl) () [0] rfl ⟨rfl, trivial⟩ rfl (rv_tmp rfl)

/-! slices.IndexFunc[[]deliberation/api.Move,deliberation/api.Move] -/
noncomputable def slices_IndexFunc_api_Move_api_Move_l1 (s_0 : (List T_api_Move)) (e_1 : T_api_Player) (s7 : Int) : Option (Sum ((Sum (Int) (Unit))) (Int)) :=
  bif decide (s7 < (s_0.length : Int)) then
    Option.bind (idxM s_0 s7) fun t10 =>
    Option.bind (participant_Choose_1_m t10 e_1) fun t11 =>
    bif t11 then
      some (Sum.inl (Sum.inl s7))
    else
      some (Sum.inr (iadd .i64 s7 1))
  else
    some (Sum.inl (Sum.inr ()))

noncomputable def slices_IndexFunc_api_Move_api_Move_m (s_0 : (List T_api_Move)) (e_1 : T_api_Player) : Option (Int) :=
  Option.bind (loopC (slices_IndexFunc_api_Move_api_Move_l1 s_0 e_1) 0) (sumK (fun a : Int => some a) fun q13 : Unit =>
    some (-1))

theorem slices_IndexFunc_api_Move_api_Move_ok {s_0 : (List T_api_Move)} {e_1 : T_api_Player} {h_0 : Value × List Nat} {be_1 : Nat} {r : Int} (hm : slices_IndexFunc_api_Move_api_Move_m s_0 e_1 = some r) :
    FnOk prog 64 [pv h_0.1, pv (.func (.func 36) #[] #[(ptr be_1 0)])] [oa rT_api_Move h_0.1 h_0.2 s_0, oc be_1 [slv (rI .i64) e_1.Pool, slv (rI .i64) e_1.Withheld, slv rT_api_Move e_1.Script, iv .i64 e_1.Style]] (fun (x : Unit) => [iv .i64 r]) (fun (x : Unit) => [oa rT_api_Move h_0.1 h_0.2 s_0, oc be_1 [slv (rI .i64) e_1.Pool, slv (rI .i64) e_1.Withheld, slv rT_api_Move e_1.Script, iv .i64 e_1.Style]]) := by
  refine fn_ok (fn := Try.f64) (N := 19) (res := fun r x => [iv .i64 r]) (Ω1 := fun r x => [oa rT_api_Move h_0.1 h_0.2 s_0, oc be_1 [slv (rI .i64) e_1.Pool, slv (rI .i64) e_1.Withheld, slv rT_api_Move e_1.Script, iv .i64 e_1.Style]]) Try.func64 rfl rfl hm rfl (fun E hM => ?_)
  unfold slices_IndexFunc_api_Move_api_Move_m
  refine ref_seq (ref_region ?_)
  refine as1 rfl rfl ?_
  refine l_nil (n_then (ref_seq (ref_seq (ref_region ?_))))
  refine mv1 rfl rfl ?_
  refine s_rd (r_olen Try.underlying23 rfl (j := 0) rfl) rfl ?_
  refine mv1 rfl rfl ?_
  refine l_nil (n_then ?_)
  refine ref_loopX (f := (slices_IndexFunc_api_Move_api_Move_l1 s_0 e_1)) (Γl := (fun (s7 : Int) (x8 : Unit) => [(0, pv h_0.1), (1, pv (.func (.func 36) #[] #[(ptr be_1 0)])), (7, iv .i64 (s_0.length : Int)), (8, iv .i64 s7)])) (Ωl := (fun (s7 : Int) (x8 : Unit) => [oa rT_api_Move h_0.1 h_0.2 s_0, oc be_1 [slv (rI .i64) e_1.Pool, slv (rI .i64) e_1.Withheld, slv rT_api_Move e_1.Script, iv .i64 e_1.Style]])) (Γb := (fun (q13 : Unit) (y14 : Unit) => [(0, pv h_0.1), (1, pv (.func (.func 36) #[] #[(ptr be_1 0)]))])) (Ωb := (fun (q13 : Unit) (y14 : Unit) => [oa rT_api_Move h_0.1 h_0.2 s_0, oc be_1 [slv (rI .i64) e_1.Pool, slv (rI .i64) e_1.Withheld, slv rT_api_Move e_1.Script, iv .i64 e_1.Style]])) (kr := (fun a : Int => some a)) 0 () (weak [0, 1] ⟨rfl, rfl, rfl, rfl, trivial⟩ ⟨rfl, rfl, trivial⟩) (fun s7 x8 => ?_) (fun q13 y14 => ?_)
  · unfold slices_IndexFunc_api_Move_api_Move_l1
    refine ref_seq (ref_region ?_)
    refine s_rd (r_lss rfl rfl) rfl ?_
    refine l_nil (n_then (ref_seq ?_))
    refine ref_cond rfl (fun hb9 => ?_) (fun hb9 => ?_)
    · refine ref_skip (n_then (ref_seq (ref_block (ref_seq (ref_region ?_)))))
      refine mv1 rfl rfl ?_
      refine as1 rfl rfl ?_
      refine l_nil (n_then (ref_seq (ref_region ?_)))
      refine mv1 rfl rfl ?_
      refine mv1 rfl rfl ?_
      refine mv1 rfl rfl ?_
      refine pull fun t10 h_t10 => ?_
      refine s_rd (r_oindex h_t10 Try.underlying23 el_40 rfl (j := 0) rfl rfl) rfl ?_
      refine s_rd (r_oload h_t10 el_40 rfl (j := 0) rfl) rfl ?_
      refine pull fun t11 h_t11 => ?_
      refine s_st (s_callC [1] [true] (fun (_ : Unit) => [oc be_1 [slv (rI .i64) e_1.Pool, slv (rI .i64) e_1.Withheld, slv rT_api_Move e_1.Script, iv .i64 e_1.Style]]) (fun (_ : Unit) => []) (fun (_ : Unit) => bv t11) (args := [.tmp 15]) (caps := [(ptr be_1 0)]) Try.call36 rfl (participant_Choose_1_ok h_t11) ⟨rfl, rfl, trivial⟩ (fun _ => rfl) (fun _ => trivial) (fun _ => rfl) ⟨arg rfl, arg rfl, trivial⟩ (fun _ _ _ _ h => h)) rfl (fun _ => ?_)
      refine l_nil (n_then ?_)
      refine ref_cond rfl (fun hb12 => ?_) (fun hb12 => ?_)
      · refine ref_seq (ref_region ?_)
        refine mv1 rfl rfl ?_
        refine as1 rfl rfl ?_
        refine l_nil (n_then (ref_ret (r_block (r_then ?_))))
        refine retX ?_
        refine r_block (r_then ?_)
        exact fin1 (.inl rfl) () [0, 1] rfl ⟨rfl, rfl, trivial⟩ rfl (rv_tmp rfl)
      refine ref_skip (n_block (n_then (ref_region ?_)))
      refine s_rd (r_add rfl rfl) rfl ?_
      refine mv1 rfl rfl ?_
      refine l_nil ?_
      exact goX () (weak [0, 1] ⟨rfl, rfl, rfl, rfl, trivial⟩ ⟨rfl, rfl, trivial⟩)
    refine ref_exit (x_then ?_)
    exact brkX () (weak [0, 1] ⟨rfl, rfl, trivial⟩ ⟨rfl, rfl, trivial⟩)
  refine n_then (ref_seq (ref_region ?_))
  refine as1 rfl rfl ?_
  refine l_nil (n_then (ref_ret ?_))
  exact fin1 (.inl rfl) () [0, 1] rfl ⟨rfl, rfl, trivial⟩ rfl (rv_tmp rfl)

/-! slices.DeleteFunc[[]deliberation/api.Move,deliberation/api.Move] -/
noncomputable def slices_DeleteFunc_api_Move_api_Move_l1 (e_1 : T_api_Player) (s24 : Int × Int × (List T_api_Move)) : Option (Sum ((List T_api_Move) × Int) (Int × Int × (List T_api_Move))) :=
  bif decide (s24.2.1 < (s24.2.2.length : Int)) then
    Option.bind (idxM s24.2.2 s24.2.1) fun t27 =>
    Option.bind (participant_Choose_1_m t27 e_1) fun t29 =>
    bif !t29 then
      Option.bind (idxM s24.2.2 s24.1) fun t31 =>
      letM (iadd .i64 s24.1 1) fun i32x =>
      letM (iadd .i64 s24.2.1 1) fun j33 =>
      some (Sum.inr (i32x, j33, s24.2.2.set (Int.toNat s24.1) t27))
    else
      letM (iadd .i64 s24.2.1 1) fun j34 =>
      some (Sum.inr (s24.1, j34, s24.2.2))
  else
    some (Sum.inl (s24.2.2, s24.1))

noncomputable def slices_DeleteFunc_api_Move_api_Move_m (s_0 : (List T_api_Move)) (e_1 : T_api_Player) : Option (List T_api_Move) :=
  Option.bind (slices_IndexFunc_api_Move_api_Move_m s_0 e_1) fun i1 =>
  bif i1 == (-1) then
    some s_0
  else
    Option.bind (loopC (slices_DeleteFunc_api_Move_api_Move_l1 e_1) (i1, iadd .i64 i1 1, s_0)) fun q35 : (List T_api_Move) × Int =>
    Option.bind (slM q35.1 q35.2 (q35.1.length : Int)) fun t37 =>
    Option.bind (slM (q35.1.take (Int.toNat q35.2) ++ List.replicate (Int.toNat (q35.1.length : Int) - Int.toNat q35.2) (T_api_Move.mk 0 0 0 0) ++ q35.1.drop (Int.toNat (q35.1.length : Int))) 0 q35.2) fun t38 =>
    some t38

theorem slices_DeleteFunc_api_Move_api_Move_ok {s_0 : (List T_api_Move)} {e_1 : T_api_Player} {h_0 : Value × List Nat} {be_1 : Nat} {r : List T_api_Move} (hm : slices_DeleteFunc_api_Move_api_Move_m s_0 e_1 = some r) :
    FnOk prog 34 [pv h_0.1, pv (.func (.func 36) #[] #[(ptr be_1 0)])] [oa rT_api_Move h_0.1 h_0.2 s_0, oc be_1 [slv (rI .i64) e_1.Pool, slv (rI .i64) e_1.Withheld, slv rT_api_Move e_1.Script, iv .i64 e_1.Style]] (fun (x : Unit) => [slv rT_api_Move r]) (fun (x : Unit) => [oc be_1 [slv (rI .i64) e_1.Pool, slv (rI .i64) e_1.Withheld, slv rT_api_Move e_1.Script, iv .i64 e_1.Style]]) := by
  refine fn_ok (fn := Try.f34) (N := 42) (res := fun r x => [slv rT_api_Move r]) (Ω1 := fun r x => [oc be_1 [slv (rI .i64) e_1.Pool, slv (rI .i64) e_1.Withheld, slv rT_api_Move e_1.Script, iv .i64 e_1.Style]]) Try.func34 rfl rfl hm rfl (fun E hM => ?_)
  unfold slices_DeleteFunc_api_Move_api_Move_m
  refine ref_seq (ref_region ?_)
  refine as1 rfl rfl ?_
  refine l_nil (n_then (ref_seq (ref_region ?_)))
  refine mv1 rfl rfl ?_
  refine mv1 rfl rfl ?_
  refine pull fun i1 h_i1 => ?_
  refine s_st (s_callC [0, 1] [true, true] (fun (_ : Unit) => [oa rT_api_Move h_0.1 h_0.2 s_0, oc be_1 [slv (rI .i64) e_1.Pool, slv (rI .i64) e_1.Withheld, slv rT_api_Move e_1.Script, iv .i64 e_1.Style]]) (fun (_ : Unit) => []) (fun (_ : Unit) => iv .i64 i1) (args := [.tmp 8, .tmp 9]) (caps := []) Try.call64 rfl (slices_IndexFunc_api_Move_api_Move_ok h_i1) ⟨rfl, rfl, ⟨rfl, rfl, trivial⟩⟩ (fun _ => rfl) (fun _ => trivial) (fun _ => rfl) ⟨arg rfl, arg rfl, trivial⟩ (fun _ _ _ _ h => h)) rfl (fun _ => ?_)
  refine as1 rfl rfl ?_
  refine l_nil (n_then (ref_seq (ref_seq (ref_region ?_))))
  refine mv1 rfl rfl ?_
  refine s_rd (r_eql rfl rfl) rfl ?_
  refine l_nil (n_then ?_)
  refine ref_cond rfl (fun hb2 => ?_) (fun hb2 => ?_)
  · refine ref_seq (ref_region ?_)
    refine mv1 rfl rfl ?_
    refine as1 rfl rfl ?_
    refine l_nil (n_then (ref_ret (r_then ?_)))
    refine b_of (frzL [0, 4, 8, 13] (j := 0) rfl ⟨rfl, rfl, rfl, rfl, trivial⟩) ?_
    exact fin1 (.inl rfl) () [1] rfl ⟨rfl, trivial⟩ rfl (rv_tmp rfl)
  refine ref_skip (n_then (ref_seq (ref_seq (ref_region ?_))))
  refine mv1 rfl rfl ?_
  refine s_rd (r_add rfl rfl) rfl ?_
  refine as1 rfl rfl ?_
  refine l_nil (n_then ?_)
  refine ref_loopB (f := (slices_DeleteFunc_api_Move_api_Move_l1 e_1)) (Γl := (fun (s24 : Int × Int × (List T_api_Move)) (x25 : Unit) => [(0, pv h_0.1), (1, pv (.func (.func 36) #[] #[(ptr be_1 0)])), (5, iv .i64 s24.1), (6, iv .i64 s24.2.1)])) (Ωl := (fun (s24 : Int × Int × (List T_api_Move)) (x25 : Unit) => [oa rT_api_Move h_0.1 h_0.2 s24.2.2, oc be_1 [slv (rI .i64) e_1.Pool, slv (rI .i64) e_1.Withheld, slv rT_api_Move e_1.Script, iv .i64 e_1.Style]])) (Γb := (fun (q35 : (List T_api_Move) × Int) (y36 : Unit) => [(0, pv h_0.1), (1, pv (.func (.func 36) #[] #[(ptr be_1 0)])), (5, iv .i64 q35.2)])) (Ωb := (fun (q35 : (List T_api_Move) × Int) (y36 : Unit) => [oa rT_api_Move h_0.1 h_0.2 q35.1, oc be_1 [slv (rI .i64) e_1.Pool, slv (rI .i64) e_1.Withheld, slv rT_api_Move e_1.Script, iv .i64 e_1.Style]])) (i1, iadd .i64 i1 1, s_0) () (weak [0, 1] ⟨rfl, rfl, rfl, rfl, trivial⟩ ⟨rfl, rfl, trivial⟩) (fun s24 x25 => ?_) (fun q35 y36 => ?_)
  · unfold slices_DeleteFunc_api_Move_api_Move_l1
    refine ref_seq (ref_seq (ref_region ?_))
    refine mv1 rfl rfl ?_
    refine mv1 rfl rfl ?_
    refine s_rd (r_olen Try.underlying23 rfl (j := 0) rfl) rfl ?_
    refine s_rd (r_lss rfl rfl) rfl ?_
    refine l_nil (n_then ?_)
    refine ref_cond rfl (fun hb26 => ?_) (fun hb26 => ?_)
    · refine ref_skip (n_then (ref_seq (ref_block (ref_seq (ref_region ?_)))))
      refine mv1 rfl rfl ?_
      refine mv1 rfl rfl ?_
      refine pull fun t27 h_t27 => ?_
      refine s_rd (r_oindex h_t27 Try.underlying23 el_40 rfl (j := 0) rfl rfl) rfl ?_
      refine s_rd (r_oload h_t27 el_40 rfl (j := 0) rfl) rfl ?_
      refine s_st (s_alloc zt_40) rfl (fun b28 => ?_)
      refine s_st0 (s_cstore (out := [iv .i64 t27.By, iv .i64 t27.Kind, iv .i64 t27.Node, iv .i64 t27.Target]) Try.sizeOf40 rfl (j := 2) rfl (part_agO (ψs := [iv .i64 t27.By, iv .i64 t27.Kind, iv .i64 t27.Node, iv .i64 t27.Target]) rfl ⟨.inl iv_at, .inl iv_at, .inl iv_at, .inl iv_at, trivial⟩) rfl rfl rfl) (fun _ => ?_)
      refine l_nil (n_then (ref_seq (ref_region ?_)))
      refine mv1 rfl rfl ?_
      refine s_rd (r_cloadS Try.isAgg40 Try.sizeOf40 rfl (j := 2) rfl rfl rfl) rfl ?_
      refine pull fun t29 h_t29 => ?_
      refine s_st (s_callC [1] [true] (fun (_ : Unit) => [oc be_1 [slv (rI .i64) e_1.Pool, slv (rI .i64) e_1.Withheld, slv rT_api_Move e_1.Script, iv .i64 e_1.Style]]) (fun (_ : Unit) => []) (fun (_ : Unit) => bv t29) (args := [.tmp 27]) (caps := [(ptr be_1 0)]) Try.call36 rfl (participant_Choose_1_ok h_t29) ⟨rfl, rfl, trivial⟩ (fun _ => rfl) (fun _ => trivial) (fun _ => rfl) ⟨arg rfl, arg rfl, trivial⟩ (fun _ _ _ _ h => h)) rfl (fun _ => ?_)
      refine s_rd (r_not rfl) rfl ?_
      refine l_nil ?_
      refine b_of (nrm [oa rT_api_Move h_0.1 h_0.2 s24.2.2, oc be_1 [slv (rI .i64) e_1.Pool, slv (rI .i64) e_1.Withheld, slv rT_api_Move e_1.Script, iv .i64 e_1.Style], oc b28 [iv .i64 t27.By, iv .i64 t27.Kind, iv .i64 t27.Node, iv .i64 t27.Target]] rfl) ?_
      refine n_then ?_
      refine ref_cond rfl (fun hb30 => ?_) (fun hb30 => ?_)
      · refine ref_seq (ref_region ?_)
        refine mv1 rfl rfl ?_
        refine mv1 rfl rfl ?_
        refine s_rd (r_cloadS Try.isAgg40 Try.sizeOf40 rfl (j := 2) rfl rfl rfl) rfl ?_
        refine pull fun t31 h_t31 => ?_
        refine s_rd (r_oindex h_t31 Try.underlying23 el_40 rfl (j := 0) rfl rfl) rfl ?_
        refine s_st0 (s_ostore (u := t27) h_t31 el_40 rfl (j := 0) rfl (part_agO (ψs := [iv .i64 t27.By, iv .i64 t27.Kind, iv .i64 t27.Node, iv .i64 t27.Target]) rfl ⟨.inl iv_at, .inl iv_at, .inl iv_at, .inl iv_at, trivial⟩)) (fun _ => ?_)
        refine l_nil (n_then (ref_region ?_))
        refine mv1 rfl rfl ?_
        refine s_rd (r_add rfl rfl) rfl ?_
        refine as1 rfl rfl ?_
        refine b_let (f := iv .i64) (t := 5) rfl fun i32x => ?_
        refine l_nil (n_block (n_then (ref_region ?_)))
        refine mv1 rfl rfl ?_
        refine s_rd (r_add rfl rfl) rfl ?_
        refine as1 rfl rfl ?_
        refine b_let (f := iv .i64) (t := 6) rfl fun j33 => ?_
        refine l_nil ?_
        exact goB () (weak [0, 1] ⟨rfl, rfl, rfl, rfl, trivial⟩ ⟨rfl, rfl, trivial⟩)
      refine ref_skip (n_block (n_then (ref_region ?_)))
      refine mv1 rfl rfl ?_
      refine s_rd (r_add rfl rfl) rfl ?_
      refine as1 rfl rfl ?_
      refine b_let (f := iv .i64) (t := 6) rfl fun j34 => ?_
      refine l_nil ?_
      exact goB () (weak [0, 1] ⟨rfl, rfl, rfl, rfl, trivial⟩ ⟨rfl, rfl, trivial⟩)
    refine ref_exit (x_then ?_)
    exact brkB () (weak [0, 1] ⟨rfl, rfl, rfl, trivial⟩ ⟨rfl, rfl, trivial⟩)
  refine n_then (ref_seq (ref_region ?_))
  refine mv1 rfl rfl ?_
  refine mv1 rfl rfl ?_
  refine pull fun t37 h_t37 => ?_
  refine s_rd (r_osub h_t37 Try.underlying23 el_40 rfl (j := 0) rfl (.of rfl) .dft) rfl ?_
  refine s_st0 (s_clear h_t37 Try.underlying23 el_40 ze_40 rfl (j := 0) rfl) (fun _ => ?_)
  refine l_nil (n_then (ref_seq (ref_region ?_)))
  refine mv1 rfl rfl ?_
  refine mv1 rfl rfl ?_
  refine b_of (frzL [0, 36, 39] (j := 0) rfl ⟨rfl, rfl, rfl, trivial⟩) ?_
  refine pull fun t38 h_t38 => ?_
  refine s_rd (r_slice h_t38 Try.underlying23 el_40 rfl .dft (.of rfl)) rfl ?_
  refine as1 rfl rfl ?_
  refine l_nil (n_then (ref_ret ?_))
  exact fin1 (.inl rfl) () [1] rfl ⟨rfl, trivial⟩ rfl (rv_tmp rfl)

/-! slices.MinFunc[[]deliberation/api.Move,deliberation/api.Move] -/
noncomputable def slices_MinFunc_api_Move_api_Move_l1 (x_0 : (List T_api_Move)) (s21 : Int × T_api_Move) : Option (Sum (T_api_Move) (Int × T_api_Move)) :=
  bif decide (s21.1 < (x_0.length : Int)) then
    Option.bind (idxM x_0 s21.1) fun t24 =>
    Option.bind (participant_style_2_m t24 s21.2) fun t25 =>
    bif decide (t25 < 0) then
      Option.bind (idxM x_0 s21.1) fun t27 =>
      letM (iadd .i64 s21.1 1) fun i28 =>
      some (Sum.inr (i28, t27))
    else
      letM (iadd .i64 s21.1 1) fun i29 =>
      some (Sum.inr (i29, s21.2))
  else
    some (Sum.inl s21.2)

noncomputable def slices_MinFunc_api_Move_api_Move_m (x_0 : (List T_api_Move)) : Option (T_api_Move) :=
  bif decide ((x_0.length : Int) < 1) then
    none
  else
    Option.bind (idxM x_0 0) fun t3 =>
    Option.bind (loopC (slices_MinFunc_api_Move_api_Move_l1 x_0) (1, t3)) fun q30 : T_api_Move =>
    some q30

theorem slices_MinFunc_api_Move_api_Move_ok {x_0 : (List T_api_Move)} {r : T_api_Move} (hm : slices_MinFunc_api_Move_api_Move_m x_0 = some r) :
    FnOk prog 39 [slv rT_api_Move x_0, pv (.func (.func 69) #[] #[])] [] (fun (x : Unit) => [ag [iv .i64 r.By, iv .i64 r.Kind, iv .i64 r.Node, iv .i64 r.Target]]) (fun (x : Unit) => []) := by
  refine fn_ok (fn := Try.f39) (N := 33) (res := fun r x => [ag [iv .i64 r.By, iv .i64 r.Kind, iv .i64 r.Node, iv .i64 r.Target]]) (Ω1 := fun r x => []) Try.func39 rfl rfl hm rfl (fun E hM => ?_)
  unfold slices_MinFunc_api_Move_api_Move_m
  refine ref_seq (ref_region ?_)
  refine s_st (s_alloc zt_40) rfl (fun b1 => ?_)
  refine l_nil (n_then (ref_seq (ref_seq (ref_region ?_))))
  refine mv1 rfl rfl ?_
  refine s_rd (r_len Try.underlying23 rfl) rfl ?_
  refine s_rd (r_lss rfl rfl) rfl ?_
  refine l_nil (n_then ?_)
  refine ref_cond rfl (fun hb2 => ?_) (fun hb2 => ?_)
  · refine ref_region ?_
    exact pnone
  refine ref_skip (n_then (ref_seq (ref_region ?_)))
  refine mv1 rfl rfl ?_
  refine pull fun t3 h_t3 => ?_
  refine s_rd (r_index h_t3 Try.underlying23 el_40 rfl rfl) rfl ?_
  refine s_rd (r_load el_40 rfl) rfl ?_
  refine s_st (s_alloc zt_40) rfl (fun b4 => ?_)
  refine s_st0 (s_cstore (out := [iv .i64 t3.By, iv .i64 t3.Kind, iv .i64 t3.Node, iv .i64 t3.Target]) Try.sizeOf40 rfl (j := 1) rfl (part_agO (ψs := [iv .i64 t3.By, iv .i64 t3.Kind, iv .i64 t3.Node, iv .i64 t3.Target]) rfl ⟨.inl iv_at, .inl iv_at, .inl iv_at, .inl iv_at, trivial⟩) rfl rfl rfl) (fun _ => ?_)
  refine l_nil (n_then (ref_seq (ref_seq (ref_region ?_))))
  refine as1 rfl rfl ?_
  refine l_nil (n_then ?_)
  refine ref_loopB (f := (slices_MinFunc_api_Move_api_Move_l1 x_0)) (Γl := (fun (s21 : Int × T_api_Move) (x22 : Unit) => [(0, slv rT_api_Move x_0), (1, pv (.func (.func 69) #[] #[])), (4, pv (ptr b1 0)), (5, pv (ptr b4 0)), (6, iv .i64 s21.1)])) (Ωl := (fun (s21 : Int × T_api_Move) (x22 : Unit) => [oc b1 [iv .i64 0, iv .i64 0, iv .i64 0, iv .i64 0], oc b4 [iv .i64 s21.2.By, iv .i64 s21.2.Kind, iv .i64 s21.2.Node, iv .i64 s21.2.Target]])) (Γb := (fun (q30 : T_api_Move) (y31 : Unit) => [(1, pv (.func (.func 69) #[] #[])), (4, pv (ptr b1 0)), (5, pv (ptr b4 0))])) (Ωb := (fun (q30 : T_api_Move) (y31 : Unit) => [oc b1 [iv .i64 0, iv .i64 0, iv .i64 0, iv .i64 0], oc b4 [iv .i64 q30.By, iv .i64 q30.Kind, iv .i64 q30.Node, iv .i64 q30.Target]])) (1, t3) () (weak [0, 1] ⟨rfl, rfl, rfl, rfl, rfl, trivial⟩ ⟨rfl, rfl, trivial⟩) (fun s21 x22 => ?_) (fun q30 y31 => ?_)
  · unfold slices_MinFunc_api_Move_api_Move_l1
    refine ref_seq (ref_seq (ref_region ?_))
    refine mv1 rfl rfl ?_
    refine mv1 rfl rfl ?_
    refine s_rd (r_len Try.underlying23 rfl) rfl ?_
    refine s_rd (r_lss rfl rfl) rfl ?_
    refine l_nil (n_then ?_)
    refine ref_cond rfl (fun hb23 => ?_) (fun hb23 => ?_)
    · refine ref_skip (n_then (ref_seq (ref_block (ref_seq ?_))))
      refine ref_draw [0, 1, 2, 3, 4, 5, 7] rfl (by kernel_rfl) (fun hok => ?_)
      refine a_rd (i := 0) hok rfl (by kernel_rfl) rfl (r_move rfl) rfl ?_
      refine a_rd (i := 1) hok rfl (by kernel_rfl) rfl (r_move rfl) rfl ?_
      refine a_rd (i := 2) hok rfl (by kernel_rfl) rfl (r_move rfl) rfl ?_
      refine pull fun t24 h_t24 => ?_
      refine a_rd (i := 3) hok rfl (by kernel_rfl) rfl (r_index h_t24 Try.underlying23 el_40 rfl rfl) rfl ?_
      refine a_rd (i := 4) hok rfl (by kernel_rfl) rfl (r_load el_40 rfl) rfl ?_
      refine a_rd (i := 5) hok rfl (by kernel_rfl) rfl (r_cloadS Try.isAgg40 Try.sizeOf40 rfl (j := 1) rfl rfl rfl) rfl ?_
      refine pull fun t25 h_t25 => ?_
      refine a_next hok 6 [] (by kernel_rfl) ?_ trivial
      refine a_st (i := 6) hok rfl rfl (s_call (ψ := fun (_ : Unit) => iv .i64 t25) (args := [.tmp 24, .tmp 25]) Try.call69 rfl (participant_style_2_ok h_t25) ⟨arg rfl, arg rfl, trivial⟩ (fun _ _ _ _ h => h)) (by intro _ h; cases h; rfl) (fun _ => ⟨trivial, ⟨trivial, ⟨trivial, ⟨trivial, ⟨trivial, ⟨trivial, trivial⟩⟩⟩⟩⟩⟩) (fun _ => ?_)
      refine a_rd (i := 7) hok rfl (by kernel_rfl) rfl (r_lss rfl rfl) rfl ?_
      refine a_fin hok (by kernel_rfl) ?_
      refine b_of (nrm [oc b1 [iv .i64 0, iv .i64 0, iv .i64 0, iv .i64 0], oc b4 [iv .i64 s21.2.By, iv .i64 s21.2.Kind, iv .i64 s21.2.Node, iv .i64 s21.2.Target]] rfl) ?_
      refine n_then ?_
      refine ref_cond rfl (fun hb26 => ?_) (fun hb26 => ?_)
      · refine ref_region ?_
        refine mv1 rfl rfl ?_
        refine mv1 rfl rfl ?_
        refine pull fun t27 h_t27 => ?_
        refine s_rd (r_index h_t27 Try.underlying23 el_40 rfl rfl) rfl ?_
        refine s_rd (r_load el_40 rfl) rfl ?_
        refine s_st0 (s_cstore (out := [iv .i64 t27.By, iv .i64 t27.Kind, iv .i64 t27.Node, iv .i64 t27.Target]) Try.sizeOf40 rfl (j := 1) rfl (part_agO (ψs := [iv .i64 t27.By, iv .i64 t27.Kind, iv .i64 t27.Node, iv .i64 t27.Target]) rfl ⟨.inl iv_at, .inl iv_at, .inl iv_at, .inl iv_at, trivial⟩) rfl rfl rfl) (fun _ => ?_)
        refine l_nil (n_block (n_then (ref_region ?_)))
        refine mv1 rfl rfl ?_
        refine s_rd (r_add rfl rfl) rfl ?_
        refine as1 rfl rfl ?_
        refine b_let (f := iv .i64) (t := 6) rfl fun i28 => ?_
        refine l_nil ?_
        exact goB () (weak [0, 1] ⟨rfl, rfl, rfl, rfl, rfl, trivial⟩ ⟨rfl, rfl, trivial⟩)
      refine ref_skip (n_block (n_then (ref_region ?_)))
      refine mv1 rfl rfl ?_
      refine s_rd (r_add rfl rfl) rfl ?_
      refine as1 rfl rfl ?_
      refine b_let (f := iv .i64) (t := 6) rfl fun i29 => ?_
      refine l_nil ?_
      exact goB () (weak [0, 1] ⟨rfl, rfl, rfl, rfl, rfl, trivial⟩ ⟨rfl, rfl, trivial⟩)
    refine ref_exit (x_then ?_)
    exact brkB () (weak [0, 1] ⟨rfl, rfl, rfl, trivial⟩ ⟨rfl, rfl, trivial⟩)
  refine n_then (ref_seq (ref_region ?_))
  refine s_rd (r_cloadS Try.isAgg40 Try.sizeOf40 rfl (j := 1) rfl rfl rfl) rfl ?_
  refine s_st0 (s_cstore (out := [iv .i64 q30.By, iv .i64 q30.Kind, iv .i64 q30.Node, iv .i64 q30.Target]) Try.sizeOf40 rfl (j := 0) rfl (part_agO (ψs := [iv .i64 q30.By, iv .i64 q30.Kind, iv .i64 q30.Node, iv .i64 q30.Target]) rfl ⟨.inl iv_at, .inl iv_at, .inl iv_at, .inl iv_at, trivial⟩) rfl rfl rfl) (fun _ => ?_)
  refine l_nil (n_then (ref_ret ?_))
  exact fin1 (.inl rfl) () [] rfl trivial rfl (rv_cell rfl (j := 0) rfl Try.isAgg40 Try.sizeOf40 rfl rfl)

/-! deliberation/participant.style$1 -/
noncomputable def participant_style_1_l1 (node_0 : Int) (p_1 : T_api_Dialogue) (s7 : Int × Int) : Option (Sum (Int) (Int × Int)) :=
  bif decide (s7.2 < (p_1.Graph.L.length : Int)) then
    Option.bind (idxM p_1.Graph.L s7.2) fun t10 =>
    bif t10.To == node_0 then
      letM (iadd .i64 s7.1 1) fun n13 =>
      some (Sum.inr (n13, iadd .i64 s7.2 1))
    else
      some (Sum.inr (s7.1, iadd .i64 s7.2 1))
  else
    some (Sum.inl s7.1)

noncomputable def participant_style_1_m (node_0 : Int) (p_1 : T_api_Dialogue) : Option (Int) :=
  Option.bind (loopC (participant_style_1_l1 node_0 p_1) (0, 0)) fun q14 : Int =>
  some q14

theorem participant_style_1_ok {node_0 : Int} {p_1 : T_api_Dialogue} {b_1 : Nat} {r : Int} (hm : participant_style_1_m node_0 p_1 = some r) :
    FnOk prog 68 [iv .i64 node_0, pv (ptr b_1 0)] [oc b_1 [iv .i64 p_1.Graph.N, slv rT_api_Pair p_1.Graph.L, iv .i64 p_1.Root, iv .i64 p_1.Limits.i0, iv .i64 p_1.Limits.i1, slv rT_api_Move p_1.Moves]] (fun (x : Unit) => [iv .i64 r]) (fun (x : Unit) => [oc b_1 [iv .i64 p_1.Graph.N, slv rT_api_Pair p_1.Graph.L, iv .i64 p_1.Root, iv .i64 p_1.Limits.i0, iv .i64 p_1.Limits.i1, slv rT_api_Move p_1.Moves]]) := by
  refine fn_ok (fn := Try.f68) (N := 23) (res := fun r x => [iv .i64 r]) (Ω1 := fun r x => [oc b_1 [iv .i64 p_1.Graph.N, slv rT_api_Pair p_1.Graph.L, iv .i64 p_1.Root, iv .i64 p_1.Limits.i0, iv .i64 p_1.Limits.i1, slv rT_api_Move p_1.Moves]]) Try.func68 rfl rfl hm rfl (fun E hM => ?_)
  unfold participant_style_1_m
  refine ref_seq (ref_region ?_)
  refine as1 rfl rfl ?_
  refine l_nil (n_then (ref_seq (ref_region ?_)))
  refine as1 rfl rfl ?_
  refine l_nil (n_then (ref_seq (ref_seq (ref_region ?_))))
  refine s_rd (r_faddr (fo := 0) Try.underlying35 rfl rfl Try.sizeOf28 rfl) rfl ?_
  refine s_rd (r_faddr (fo := 1) Try.underlying28 rfl rfl Try.sizeOf26 rfl) rfl ?_
  refine s_rd (r_cload Try.isAgg26 rfl (j := 0) rfl rfl) rfl ?_
  refine s_rd (r_len Try.underlying26 rfl) rfl ?_
  refine mv1 rfl rfl ?_
  refine l_nil (n_then ?_)
  refine ref_loopB (f := (participant_style_1_l1 node_0 p_1)) (Γl := (fun (s7 : Int × Int) (x8 : Unit) => [(0, iv .i64 node_0), (1, pv (ptr b_1 0)), (4, iv .i64 s7.1), (9, slv rT_api_Pair p_1.Graph.L), (10, iv .i64 (p_1.Graph.L.length : Int)), (11, iv .i64 s7.2)])) (Ωl := (fun (s7 : Int × Int) (x8 : Unit) => [oc b_1 [iv .i64 p_1.Graph.N, slv rT_api_Pair p_1.Graph.L, iv .i64 p_1.Root, iv .i64 p_1.Limits.i0, iv .i64 p_1.Limits.i1, slv rT_api_Move p_1.Moves]])) (Γb := (fun (q14 : Int) (y15 : Unit) => [(1, pv (ptr b_1 0)), (4, iv .i64 q14)])) (Ωb := (fun (q14 : Int) (y15 : Unit) => [oc b_1 [iv .i64 p_1.Graph.N, slv rT_api_Pair p_1.Graph.L, iv .i64 p_1.Root, iv .i64 p_1.Limits.i0, iv .i64 p_1.Limits.i1, slv rT_api_Move p_1.Moves]])) (0, 0) () (weak [0] ⟨rfl, rfl, rfl, rfl, rfl, rfl, trivial⟩ ⟨rfl, trivial⟩) (fun s7 x8 => ?_) (fun q14 y15 => ?_)
  · unfold participant_style_1_l1
    refine ref_seq (ref_region ?_)
    refine s_rd (r_lss rfl rfl) rfl ?_
    refine l_nil (n_then (ref_seq ?_))
    refine ref_cond rfl (fun hb9 => ?_) (fun hb9 => ?_)
    · refine ref_skip (n_then (ref_seq (ref_block (ref_seq (ref_region ?_)))))
      refine pull fun t10 h_t10 => ?_
      refine s_rd (r_index h_t10 Try.underlying26 el_67 rfl rfl) rfl ?_
      refine s_rd (r_load el_67 rfl) rfl ?_
      refine s_st (s_alloc zt_67) rfl (fun b11 => ?_)
      refine s_st0 (s_cstore (out := [iv .i64 t10.From, iv .i64 t10.To]) Try.sizeOf67 rfl (j := 1) rfl (part_agO (ψs := [iv .i64 t10.From, iv .i64 t10.To]) rfl ⟨.inl iv_at, .inl iv_at, trivial⟩) rfl rfl rfl) (fun _ => ?_)
      refine l_nil (n_then (ref_seq (ref_region ?_)))
      refine s_rd (r_faddr (fo := 1) Try.underlying67 rfl rfl Try.sizeOf3 rfl) rfl ?_
      refine s_rd (r_cload Try.isAgg3 rfl (j := 1) rfl rfl) rfl ?_
      refine mv1 rfl rfl ?_
      refine s_rd (r_eql rfl rfl) rfl ?_
      refine l_nil (n_then ?_)
      refine ref_cond rfl (fun hb12 => ?_) (fun hb12 => ?_)
      · refine ref_region ?_
        refine mv1 rfl rfl ?_
        refine s_rd (r_add rfl rfl) rfl ?_
        refine as1 rfl rfl ?_
        refine b_let (f := iv .i64) (t := 4) rfl fun n13 => ?_
        refine l_nil (n_block (n_then (ref_region ?_)))
        refine s_rd (r_add rfl rfl) rfl ?_
        refine mv1 rfl rfl ?_
        refine l_nil ?_
        exact goB () (weak [0] ⟨rfl, rfl, rfl, rfl, rfl, rfl, trivial⟩ ⟨rfl, trivial⟩)
      refine ref_skip (n_block (n_then (ref_region ?_)))
      refine s_rd (r_add rfl rfl) rfl ?_
      refine mv1 rfl rfl ?_
      refine l_nil ?_
      exact goB () (weak [0] ⟨rfl, rfl, rfl, rfl, rfl, rfl, trivial⟩ ⟨rfl, trivial⟩)
    refine ref_exit (x_then ?_)
    exact brkB () (weak [0] ⟨rfl, rfl, trivial⟩ ⟨rfl, trivial⟩)
  refine n_then (ref_seq (ref_region ?_))
  refine mv1 rfl rfl ?_
  refine as1 rfl rfl ?_
  refine l_nil (n_then (ref_ret ?_))
  exact fin1 (.inl rfl) () [0] rfl ⟨rfl, trivial⟩ rfl (rv_tmp rfl)

/-! deliberation/participant.style$3 -/
noncomputable def participant_style_3_m (a__0 : T_api_Move) (b_1 : T_api_Move) (e_1 : T_api_Dialogue) : Option (Int) :=
  Option.bind (participant_style_1_m a__0.Node e_1) fun t3 =>
  Option.bind (participant_style_1_m b_1.Node e_1) fun t4 =>
  Option.bind (cmp_Compare_int_m t3 t4) fun t5 =>
  some t5

theorem participant_style_3_ok {a__0 : T_api_Move} {b_1 : T_api_Move} {e_1 : T_api_Dialogue} {b_2 : Nat} {be_1 : Nat} {r : Int} (hm : participant_style_3_m a__0 b_1 e_1 = some r) :
    FnOk prog 71 [ag [iv .i64 a__0.By, iv .i64 a__0.Kind, iv .i64 a__0.Node, iv .i64 a__0.Target], ag [iv .i64 b_1.By, iv .i64 b_1.Kind, iv .i64 b_1.Node, iv .i64 b_1.Target], pv (ptr b_2 0)] [oc b_2 [pv (.func (.func 68) #[] #[(ptr be_1 0)])], oc be_1 [iv .i64 e_1.Graph.N, slv rT_api_Pair e_1.Graph.L, iv .i64 e_1.Root, iv .i64 e_1.Limits.i0, iv .i64 e_1.Limits.i1, slv rT_api_Move e_1.Moves]] (fun (x : Unit) => [iv .i64 r]) (fun (x : Unit) => [oc b_2 [pv (.func (.func 68) #[] #[(ptr be_1 0)])], oc be_1 [iv .i64 e_1.Graph.N, slv rT_api_Pair e_1.Graph.L, iv .i64 e_1.Root, iv .i64 e_1.Limits.i0, iv .i64 e_1.Limits.i1, slv rT_api_Move e_1.Moves]]) := by
  refine fn_ok (fn := Try.f71) (N := 15) (res := fun r x => [iv .i64 r]) (Ω1 := fun r x => [oc b_2 [pv (.func (.func 68) #[] #[(ptr be_1 0)])], oc be_1 [iv .i64 e_1.Graph.N, slv rT_api_Pair e_1.Graph.L, iv .i64 e_1.Root, iv .i64 e_1.Limits.i0, iv .i64 e_1.Limits.i1, slv rT_api_Move e_1.Moves]]) Try.func71 rfl rfl hm rfl (fun E hM => ?_)
  unfold participant_style_3_m
  refine ref_seq (ref_region ?_)
  refine s_st (s_box (part_agO (ψs := [iv .i64 a__0.By, iv .i64 a__0.Kind, iv .i64 a__0.Node, iv .i64 a__0.Target]) rfl ⟨.inl iv_at, .inl iv_at, .inl iv_at, .inl iv_at, trivial⟩)) rfl (fun b1 => ?_)
  refine s_st (s_box (part_agO (ψs := [iv .i64 b_1.By, iv .i64 b_1.Kind, iv .i64 b_1.Node, iv .i64 b_1.Target]) rfl ⟨.inl iv_at, .inl iv_at, .inl iv_at, .inl iv_at, trivial⟩)) rfl (fun b2 => ?_)
  refine as1 rfl rfl ?_
  refine l_nil (n_then (ref_seq ?_))
  refine ref_draw [0, 1, 2, 4, 5, 6] rfl (by kernel_rfl) (fun hok => ?_)
  refine a_rd (i := 0) hok rfl (by kernel_rfl) rfl (r_cload Try.isAgg55 rfl (j := 0) rfl rfl) rfl ?_
  refine a_rd (i := 1) hok rfl (by kernel_rfl) rfl (r_faddr (fo := 2) Try.underlying40 rfl rfl Try.sizeOf3 rfl) rfl ?_
  refine a_rd (i := 2) hok rfl (by kernel_rfl) rfl (r_cload Try.isAgg3 rfl (j := 2) rfl rfl) rfl ?_
  refine a_rd (i := 4) hok rfl (by kernel_rfl) rfl (r_cload Try.isAgg55 rfl (j := 0) rfl rfl) rfl ?_
  refine a_rd (i := 5) hok rfl (by kernel_rfl) rfl (r_faddr (fo := 2) Try.underlying40 rfl rfl Try.sizeOf3 rfl) rfl ?_
  refine a_rd (i := 6) hok rfl (by kernel_rfl) rfl (r_cload Try.isAgg3 rfl (j := 3) rfl rfl) rfl ?_
  refine pull fun t3 h_t3 => ?_
  refine a_next hok 3 [] (by kernel_rfl) ?_ trivial
  refine a_st (i := 3) hok rfl rfl (s_callC [1] [true] (fun (_ : Unit) => [oc be_1 [iv .i64 e_1.Graph.N, slv rT_api_Pair e_1.Graph.L, iv .i64 e_1.Root, iv .i64 e_1.Limits.i0, iv .i64 e_1.Limits.i1, slv rT_api_Move e_1.Moves]]) (fun (_ : Unit) => []) (fun (_ : Unit) => iv .i64 t3) (args := [.tmp 8]) (caps := [(ptr be_1 0)]) Try.call68 rfl (participant_style_1_ok h_t3) ⟨rfl, rfl, trivial⟩ (fun _ => rfl) (fun _ => trivial) (fun _ => rfl) ⟨arg rfl, arg rfl, trivial⟩ (fun _ _ _ _ h => h)) (by intro _ h; cases h; rfl) (fun _ => ⟨⟨⟨rfl, rfl⟩, trivial⟩, ⟨trivial, ⟨⟨⟨rfl, rfl⟩, trivial⟩, ⟨trivial, ⟨trivial, ⟨trivial, trivial⟩⟩⟩⟩⟩⟩) (fun _ => ?_)
  refine pull fun t4 h_t4 => ?_
  refine a_next hok 7 [] (by kernel_rfl) ?_ trivial
  refine a_st (i := 7) hok rfl rfl (s_callC [1] [true] (fun (_ : Unit) => [oc be_1 [iv .i64 e_1.Graph.N, slv rT_api_Pair e_1.Graph.L, iv .i64 e_1.Root, iv .i64 e_1.Limits.i0, iv .i64 e_1.Limits.i1, slv rT_api_Move e_1.Moves]]) (fun (_ : Unit) => []) (fun (_ : Unit) => iv .i64 t4) (args := [.tmp 12]) (caps := [(ptr be_1 0)]) Try.call68 rfl (participant_style_1_ok h_t4) ⟨rfl, rfl, trivial⟩ (fun _ => rfl) (fun _ => trivial) (fun _ => rfl) ⟨arg rfl, arg rfl, trivial⟩ (fun _ _ _ _ h => h)) (by intro _ h; cases h; rfl) (fun _ => ⟨trivial, ⟨trivial, ⟨trivial, ⟨⟨⟨rfl, rfl⟩, trivial⟩, ⟨trivial, ⟨⟨⟨rfl, rfl⟩, trivial⟩, trivial⟩⟩⟩⟩⟩⟩) (fun _ => ?_)
  refine pull fun t5 h_t5 => ?_
  refine a_next hok 8 [] (by kernel_rfl) ?_ trivial
  refine a_st (i := 8) hok rfl rfl (s_call (ψ := fun (_ : Unit) => iv .i64 t5) (args := [.tmp 9, .tmp 13]) Try.call70 rfl (cmp_Compare_int_ok h_t5) ⟨arg rfl, arg rfl, trivial⟩ (fun _ _ _ _ h => h)) (by intro _ h; cases h; rfl) (fun _ => ⟨⟨⟨rfl, rfl⟩, trivial⟩, ⟨trivial, ⟨⟨⟨rfl, rfl⟩, trivial⟩, ⟨⟨⟨rfl, rfl⟩, trivial⟩, ⟨trivial, ⟨⟨⟨rfl, rfl⟩, trivial⟩, trivial⟩⟩⟩⟩⟩⟩) (fun _ => ?_)
  refine a_next hok 9 [] (by kernel_rfl) ?_ trivial
  refine a_st (i := 9) hok rfl rfl (St.ofRd (r_assign rfl)) (by intro _ h; cases h; rfl) (fun _ => ⟨trivial, ⟨trivial, ⟨trivial, ⟨trivial, ⟨trivial, ⟨trivial, trivial⟩⟩⟩⟩⟩⟩) (fun _ => ?_)
  refine a_fin hok (by kernel_rfl) ?_
  refine b_of (nrm [oc b_2 [pv (.func (.func 68) #[] #[(ptr be_1 0)])], oc be_1 [iv .i64 e_1.Graph.N, slv rT_api_Pair e_1.Graph.L, iv .i64 e_1.Root, iv .i64 e_1.Limits.i0, iv .i64 e_1.Limits.i1, slv rT_api_Move e_1.Moves], oc b1 [iv .i64 a__0.By, iv .i64 a__0.Kind, iv .i64 a__0.Node, iv .i64 a__0.Target], oc b2 [iv .i64 b_1.By, iv .i64 b_1.Kind, iv .i64 b_1.Node, iv .i64 b_1.Target]] rfl) ?_
  refine n_then (ref_ret ?_)
  exact fin1 (.inl rfl) () [0, 1] rfl ⟨rfl, rfl, trivial⟩ rfl (rv_tmp rfl)

/-! slices.MinFunc[[]deliberation/api.Move,deliberation/api.Move] -/
noncomputable def slices_MinFunc_api_Move_api_Move_1_l1 (x_0 : (List T_api_Move)) (e_1 : T_api_Dialogue) (s21 : Int × T_api_Move) : Option (Sum (T_api_Move) (Int × T_api_Move)) :=
  bif decide (s21.1 < (x_0.length : Int)) then
    Option.bind (idxM x_0 s21.1) fun t24 =>
    Option.bind (participant_style_3_m t24 s21.2 e_1) fun t25 =>
    bif decide (t25 < 0) then
      Option.bind (idxM x_0 s21.1) fun t27 =>
      letM (iadd .i64 s21.1 1) fun i28 =>
      some (Sum.inr (i28, t27))
    else
      letM (iadd .i64 s21.1 1) fun i29 =>
      some (Sum.inr (i29, s21.2))
  else
    some (Sum.inl s21.2)

noncomputable def slices_MinFunc_api_Move_api_Move_1_m (x_0 : (List T_api_Move)) (e_1 : T_api_Dialogue) : Option (T_api_Move) :=
  bif decide ((x_0.length : Int) < 1) then
    none
  else
    Option.bind (idxM x_0 0) fun t3 =>
    Option.bind (loopC (slices_MinFunc_api_Move_api_Move_1_l1 x_0 e_1) (1, t3)) fun q30 : T_api_Move =>
    some q30

theorem slices_MinFunc_api_Move_api_Move_1_ok {x_0 : (List T_api_Move)} {e_1 : T_api_Dialogue} {be_0 : Nat} {be_1 : Nat} {r : T_api_Move} (hm : slices_MinFunc_api_Move_api_Move_1_m x_0 e_1 = some r) :
    FnOk prog 39 [slv rT_api_Move x_0, pv (.func (.func 71) #[] #[(ptr be_0 0)])] [oc be_0 [pv (.func (.func 68) #[] #[(ptr be_1 0)])], oc be_1 [iv .i64 e_1.Graph.N, slv rT_api_Pair e_1.Graph.L, iv .i64 e_1.Root, iv .i64 e_1.Limits.i0, iv .i64 e_1.Limits.i1, slv rT_api_Move e_1.Moves]] (fun (x : Unit) => [ag [iv .i64 r.By, iv .i64 r.Kind, iv .i64 r.Node, iv .i64 r.Target]]) (fun (x : Unit) => [oc be_0 [pv (.func (.func 68) #[] #[(ptr be_1 0)])], oc be_1 [iv .i64 e_1.Graph.N, slv rT_api_Pair e_1.Graph.L, iv .i64 e_1.Root, iv .i64 e_1.Limits.i0, iv .i64 e_1.Limits.i1, slv rT_api_Move e_1.Moves]]) := by
  refine fn_ok (fn := Try.f39) (N := 33) (res := fun r x => [ag [iv .i64 r.By, iv .i64 r.Kind, iv .i64 r.Node, iv .i64 r.Target]]) (Ω1 := fun r x => [oc be_0 [pv (.func (.func 68) #[] #[(ptr be_1 0)])], oc be_1 [iv .i64 e_1.Graph.N, slv rT_api_Pair e_1.Graph.L, iv .i64 e_1.Root, iv .i64 e_1.Limits.i0, iv .i64 e_1.Limits.i1, slv rT_api_Move e_1.Moves]]) Try.func39 rfl rfl hm rfl (fun E hM => ?_)
  unfold slices_MinFunc_api_Move_api_Move_1_m
  refine ref_seq (ref_region ?_)
  refine s_st (s_alloc zt_40) rfl (fun b1 => ?_)
  refine l_nil (n_then (ref_seq (ref_seq (ref_region ?_))))
  refine mv1 rfl rfl ?_
  refine s_rd (r_len Try.underlying23 rfl) rfl ?_
  refine s_rd (r_lss rfl rfl) rfl ?_
  refine l_nil (n_then ?_)
  refine ref_cond rfl (fun hb2 => ?_) (fun hb2 => ?_)
  · refine ref_region ?_
    exact pnone
  refine ref_skip (n_then (ref_seq (ref_region ?_)))
  refine mv1 rfl rfl ?_
  refine pull fun t3 h_t3 => ?_
  refine s_rd (r_index h_t3 Try.underlying23 el_40 rfl rfl) rfl ?_
  refine s_rd (r_load el_40 rfl) rfl ?_
  refine s_st (s_alloc zt_40) rfl (fun b4 => ?_)
  refine s_st0 (s_cstore (out := [iv .i64 t3.By, iv .i64 t3.Kind, iv .i64 t3.Node, iv .i64 t3.Target]) Try.sizeOf40 rfl (j := 3) rfl (part_agO (ψs := [iv .i64 t3.By, iv .i64 t3.Kind, iv .i64 t3.Node, iv .i64 t3.Target]) rfl ⟨.inl iv_at, .inl iv_at, .inl iv_at, .inl iv_at, trivial⟩) rfl rfl rfl) (fun _ => ?_)
  refine l_nil (n_then (ref_seq (ref_seq (ref_region ?_))))
  refine as1 rfl rfl ?_
  refine l_nil (n_then ?_)
  refine ref_loopB (f := (slices_MinFunc_api_Move_api_Move_1_l1 x_0 e_1)) (Γl := (fun (s21 : Int × T_api_Move) (x22 : Unit) => [(0, slv rT_api_Move x_0), (1, pv (.func (.func 71) #[] #[(ptr be_0 0)])), (4, pv (ptr b1 0)), (5, pv (ptr b4 0)), (6, iv .i64 s21.1)])) (Ωl := (fun (s21 : Int × T_api_Move) (x22 : Unit) => [oc be_0 [pv (.func (.func 68) #[] #[(ptr be_1 0)])], oc be_1 [iv .i64 e_1.Graph.N, slv rT_api_Pair e_1.Graph.L, iv .i64 e_1.Root, iv .i64 e_1.Limits.i0, iv .i64 e_1.Limits.i1, slv rT_api_Move e_1.Moves], oc b1 [iv .i64 0, iv .i64 0, iv .i64 0, iv .i64 0], oc b4 [iv .i64 s21.2.By, iv .i64 s21.2.Kind, iv .i64 s21.2.Node, iv .i64 s21.2.Target]])) (Γb := (fun (q30 : T_api_Move) (y31 : Unit) => [(1, pv (.func (.func 71) #[] #[(ptr be_0 0)])), (4, pv (ptr b1 0)), (5, pv (ptr b4 0))])) (Ωb := (fun (q30 : T_api_Move) (y31 : Unit) => [oc be_0 [pv (.func (.func 68) #[] #[(ptr be_1 0)])], oc be_1 [iv .i64 e_1.Graph.N, slv rT_api_Pair e_1.Graph.L, iv .i64 e_1.Root, iv .i64 e_1.Limits.i0, iv .i64 e_1.Limits.i1, slv rT_api_Move e_1.Moves], oc b1 [iv .i64 0, iv .i64 0, iv .i64 0, iv .i64 0], oc b4 [iv .i64 q30.By, iv .i64 q30.Kind, iv .i64 q30.Node, iv .i64 q30.Target]])) (1, t3) () (weak [0, 1, 2, 3] ⟨rfl, rfl, rfl, rfl, rfl, trivial⟩ ⟨rfl, rfl, rfl, rfl, trivial⟩) (fun s21 x22 => ?_) (fun q30 y31 => ?_)
  · unfold slices_MinFunc_api_Move_api_Move_1_l1
    refine ref_seq (ref_seq (ref_region ?_))
    refine mv1 rfl rfl ?_
    refine mv1 rfl rfl ?_
    refine s_rd (r_len Try.underlying23 rfl) rfl ?_
    refine s_rd (r_lss rfl rfl) rfl ?_
    refine l_nil (n_then ?_)
    refine ref_cond rfl (fun hb23 => ?_) (fun hb23 => ?_)
    · refine ref_skip (n_then (ref_seq (ref_block (ref_seq ?_))))
      refine ref_draw [0, 1, 2, 3, 4, 5, 7] rfl (by kernel_rfl) (fun hok => ?_)
      refine a_rd (i := 0) hok rfl (by kernel_rfl) rfl (r_move rfl) rfl ?_
      refine a_rd (i := 1) hok rfl (by kernel_rfl) rfl (r_move rfl) rfl ?_
      refine a_rd (i := 2) hok rfl (by kernel_rfl) rfl (r_move rfl) rfl ?_
      refine pull fun t24 h_t24 => ?_
      refine a_rd (i := 3) hok rfl (by kernel_rfl) rfl (r_index h_t24 Try.underlying23 el_40 rfl rfl) rfl ?_
      refine a_rd (i := 4) hok rfl (by kernel_rfl) rfl (r_load el_40 rfl) rfl ?_
      refine a_rd (i := 5) hok rfl (by kernel_rfl) rfl (r_cloadS Try.isAgg40 Try.sizeOf40 rfl (j := 3) rfl rfl rfl) rfl ?_
      refine pull fun t25 h_t25 => ?_
      refine a_next hok 6 [] (by kernel_rfl) ?_ trivial
      refine a_st (i := 6) hok rfl rfl (s_callC [0, 1] [true, true] (fun (_ : Unit) => [oc be_0 [pv (.func (.func 68) #[] #[(ptr be_1 0)])], oc be_1 [iv .i64 e_1.Graph.N, slv rT_api_Pair e_1.Graph.L, iv .i64 e_1.Root, iv .i64 e_1.Limits.i0, iv .i64 e_1.Limits.i1, slv rT_api_Move e_1.Moves]]) (fun (_ : Unit) => []) (fun (_ : Unit) => iv .i64 t25) (args := [.tmp 24, .tmp 25]) (caps := [(ptr be_0 0)]) Try.call71 rfl (participant_style_3_ok h_t25) ⟨rfl, rfl, ⟨rfl, rfl, trivial⟩⟩ (fun _ => rfl) (fun _ => trivial) (fun _ => rfl) ⟨arg rfl, arg rfl, arg rfl, trivial⟩ (fun _ _ _ _ h => h)) (by intro _ h; cases h; rfl) (fun _ => ⟨trivial, ⟨trivial, ⟨trivial, ⟨trivial, ⟨trivial, ⟨trivial, trivial⟩⟩⟩⟩⟩⟩) (fun _ => ?_)
      refine a_rd (i := 7) hok rfl (by kernel_rfl) rfl (r_lss rfl rfl) rfl ?_
      refine a_fin hok (by kernel_rfl) ?_
      refine b_of (nrm [oc be_0 [pv (.func (.func 68) #[] #[(ptr be_1 0)])], oc be_1 [iv .i64 e_1.Graph.N, slv rT_api_Pair e_1.Graph.L, iv .i64 e_1.Root, iv .i64 e_1.Limits.i0, iv .i64 e_1.Limits.i1, slv rT_api_Move e_1.Moves], oc b1 [iv .i64 0, iv .i64 0, iv .i64 0, iv .i64 0], oc b4 [iv .i64 s21.2.By, iv .i64 s21.2.Kind, iv .i64 s21.2.Node, iv .i64 s21.2.Target]] rfl) ?_
      refine n_then ?_
      refine ref_cond rfl (fun hb26 => ?_) (fun hb26 => ?_)
      · refine ref_region ?_
        refine mv1 rfl rfl ?_
        refine mv1 rfl rfl ?_
        refine pull fun t27 h_t27 => ?_
        refine s_rd (r_index h_t27 Try.underlying23 el_40 rfl rfl) rfl ?_
        refine s_rd (r_load el_40 rfl) rfl ?_
        refine s_st0 (s_cstore (out := [iv .i64 t27.By, iv .i64 t27.Kind, iv .i64 t27.Node, iv .i64 t27.Target]) Try.sizeOf40 rfl (j := 3) rfl (part_agO (ψs := [iv .i64 t27.By, iv .i64 t27.Kind, iv .i64 t27.Node, iv .i64 t27.Target]) rfl ⟨.inl iv_at, .inl iv_at, .inl iv_at, .inl iv_at, trivial⟩) rfl rfl rfl) (fun _ => ?_)
        refine l_nil (n_block (n_then (ref_region ?_)))
        refine mv1 rfl rfl ?_
        refine s_rd (r_add rfl rfl) rfl ?_
        refine as1 rfl rfl ?_
        refine b_let (f := iv .i64) (t := 6) rfl fun i28 => ?_
        refine l_nil ?_
        exact goB () (weak [0, 1, 2, 3] ⟨rfl, rfl, rfl, rfl, rfl, trivial⟩ ⟨rfl, rfl, rfl, rfl, trivial⟩)
      refine ref_skip (n_block (n_then (ref_region ?_)))
      refine mv1 rfl rfl ?_
      refine s_rd (r_add rfl rfl) rfl ?_
      refine as1 rfl rfl ?_
      refine b_let (f := iv .i64) (t := 6) rfl fun i29 => ?_
      refine l_nil ?_
      exact goB () (weak [0, 1, 2, 3] ⟨rfl, rfl, rfl, rfl, rfl, trivial⟩ ⟨rfl, rfl, rfl, rfl, trivial⟩)
    refine ref_exit (x_then ?_)
    exact brkB () (weak [0, 1, 2, 3] ⟨rfl, rfl, rfl, trivial⟩ ⟨rfl, rfl, rfl, rfl, trivial⟩)
  refine n_then (ref_seq (ref_region ?_))
  refine s_rd (r_cloadS Try.isAgg40 Try.sizeOf40 rfl (j := 3) rfl rfl rfl) rfl ?_
  refine s_st0 (s_cstore (out := [iv .i64 q30.By, iv .i64 q30.Kind, iv .i64 q30.Node, iv .i64 q30.Target]) Try.sizeOf40 rfl (j := 2) rfl (part_agO (ψs := [iv .i64 q30.By, iv .i64 q30.Kind, iv .i64 q30.Node, iv .i64 q30.Target]) rfl ⟨.inl iv_at, .inl iv_at, .inl iv_at, .inl iv_at, trivial⟩) rfl rfl rfl) (fun _ => ?_)
  refine l_nil (n_then (ref_ret ?_))
  exact fin1 (.inl rfl) () [0, 1] rfl ⟨rfl, rfl, trivial⟩ rfl (rv_cell rfl (j := 2) rfl Try.isAgg40 Try.sizeOf40 rfl rfl)

/-! slices.MinFunc[[]deliberation/api.Move,deliberation/api.Move] -/
noncomputable def slices_MinFunc_api_Move_api_Move_2_l1 (x_0 : (List T_api_Move)) (s21 : Int × T_api_Move) : Option (Sum (T_api_Move) (Int × T_api_Move)) :=
  bif decide (s21.1 < (x_0.length : Int)) then
    Option.bind (idxM x_0 s21.1) fun t24 =>
    Option.bind (participant_style_4_m t24 s21.2) fun t25 =>
    bif decide (t25 < 0) then
      Option.bind (idxM x_0 s21.1) fun t27 =>
      letM (iadd .i64 s21.1 1) fun i28 =>
      some (Sum.inr (i28, t27))
    else
      letM (iadd .i64 s21.1 1) fun i29 =>
      some (Sum.inr (i29, s21.2))
  else
    some (Sum.inl s21.2)

noncomputable def slices_MinFunc_api_Move_api_Move_2_m (x_0 : (List T_api_Move)) : Option (T_api_Move) :=
  bif decide ((x_0.length : Int) < 1) then
    none
  else
    Option.bind (idxM x_0 0) fun t3 =>
    Option.bind (loopC (slices_MinFunc_api_Move_api_Move_2_l1 x_0) (1, t3)) fun q30 : T_api_Move =>
    some q30

theorem slices_MinFunc_api_Move_api_Move_2_ok {x_0 : (List T_api_Move)} {r : T_api_Move} (hm : slices_MinFunc_api_Move_api_Move_2_m x_0 = some r) :
    FnOk prog 39 [slv rT_api_Move x_0, pv (.func (.func 72) #[] #[])] [] (fun (x : Unit) => [ag [iv .i64 r.By, iv .i64 r.Kind, iv .i64 r.Node, iv .i64 r.Target]]) (fun (x : Unit) => []) := by
  refine fn_ok (fn := Try.f39) (N := 33) (res := fun r x => [ag [iv .i64 r.By, iv .i64 r.Kind, iv .i64 r.Node, iv .i64 r.Target]]) (Ω1 := fun r x => []) Try.func39 rfl rfl hm rfl (fun E hM => ?_)
  unfold slices_MinFunc_api_Move_api_Move_2_m
  refine ref_seq (ref_region ?_)
  refine s_st (s_alloc zt_40) rfl (fun b1 => ?_)
  refine l_nil (n_then (ref_seq (ref_seq (ref_region ?_))))
  refine mv1 rfl rfl ?_
  refine s_rd (r_len Try.underlying23 rfl) rfl ?_
  refine s_rd (r_lss rfl rfl) rfl ?_
  refine l_nil (n_then ?_)
  refine ref_cond rfl (fun hb2 => ?_) (fun hb2 => ?_)
  · refine ref_region ?_
    exact pnone
  refine ref_skip (n_then (ref_seq (ref_region ?_)))
  refine mv1 rfl rfl ?_
  refine pull fun t3 h_t3 => ?_
  refine s_rd (r_index h_t3 Try.underlying23 el_40 rfl rfl) rfl ?_
  refine s_rd (r_load el_40 rfl) rfl ?_
  refine s_st (s_alloc zt_40) rfl (fun b4 => ?_)
  refine s_st0 (s_cstore (out := [iv .i64 t3.By, iv .i64 t3.Kind, iv .i64 t3.Node, iv .i64 t3.Target]) Try.sizeOf40 rfl (j := 1) rfl (part_agO (ψs := [iv .i64 t3.By, iv .i64 t3.Kind, iv .i64 t3.Node, iv .i64 t3.Target]) rfl ⟨.inl iv_at, .inl iv_at, .inl iv_at, .inl iv_at, trivial⟩) rfl rfl rfl) (fun _ => ?_)
  refine l_nil (n_then (ref_seq (ref_seq (ref_region ?_))))
  refine as1 rfl rfl ?_
  refine l_nil (n_then ?_)
  refine ref_loopB (f := (slices_MinFunc_api_Move_api_Move_2_l1 x_0)) (Γl := (fun (s21 : Int × T_api_Move) (x22 : Unit) => [(0, slv rT_api_Move x_0), (1, pv (.func (.func 72) #[] #[])), (4, pv (ptr b1 0)), (5, pv (ptr b4 0)), (6, iv .i64 s21.1)])) (Ωl := (fun (s21 : Int × T_api_Move) (x22 : Unit) => [oc b1 [iv .i64 0, iv .i64 0, iv .i64 0, iv .i64 0], oc b4 [iv .i64 s21.2.By, iv .i64 s21.2.Kind, iv .i64 s21.2.Node, iv .i64 s21.2.Target]])) (Γb := (fun (q30 : T_api_Move) (y31 : Unit) => [(1, pv (.func (.func 72) #[] #[])), (4, pv (ptr b1 0)), (5, pv (ptr b4 0))])) (Ωb := (fun (q30 : T_api_Move) (y31 : Unit) => [oc b1 [iv .i64 0, iv .i64 0, iv .i64 0, iv .i64 0], oc b4 [iv .i64 q30.By, iv .i64 q30.Kind, iv .i64 q30.Node, iv .i64 q30.Target]])) (1, t3) () (weak [0, 1] ⟨rfl, rfl, rfl, rfl, rfl, trivial⟩ ⟨rfl, rfl, trivial⟩) (fun s21 x22 => ?_) (fun q30 y31 => ?_)
  · unfold slices_MinFunc_api_Move_api_Move_2_l1
    refine ref_seq (ref_seq (ref_region ?_))
    refine mv1 rfl rfl ?_
    refine mv1 rfl rfl ?_
    refine s_rd (r_len Try.underlying23 rfl) rfl ?_
    refine s_rd (r_lss rfl rfl) rfl ?_
    refine l_nil (n_then ?_)
    refine ref_cond rfl (fun hb23 => ?_) (fun hb23 => ?_)
    · refine ref_skip (n_then (ref_seq (ref_block (ref_seq ?_))))
      refine ref_draw [0, 1, 2, 3, 4, 5, 7] rfl (by kernel_rfl) (fun hok => ?_)
      refine a_rd (i := 0) hok rfl (by kernel_rfl) rfl (r_move rfl) rfl ?_
      refine a_rd (i := 1) hok rfl (by kernel_rfl) rfl (r_move rfl) rfl ?_
      refine a_rd (i := 2) hok rfl (by kernel_rfl) rfl (r_move rfl) rfl ?_
      refine pull fun t24 h_t24 => ?_
      refine a_rd (i := 3) hok rfl (by kernel_rfl) rfl (r_index h_t24 Try.underlying23 el_40 rfl rfl) rfl ?_
      refine a_rd (i := 4) hok rfl (by kernel_rfl) rfl (r_load el_40 rfl) rfl ?_
      refine a_rd (i := 5) hok rfl (by kernel_rfl) rfl (r_cloadS Try.isAgg40 Try.sizeOf40 rfl (j := 1) rfl rfl rfl) rfl ?_
      refine pull fun t25 h_t25 => ?_
      refine a_next hok 6 [] (by kernel_rfl) ?_ trivial
      refine a_st (i := 6) hok rfl rfl (s_call (ψ := fun (_ : Unit) => iv .i64 t25) (args := [.tmp 24, .tmp 25]) Try.call72 rfl (participant_style_4_ok h_t25) ⟨arg rfl, arg rfl, trivial⟩ (fun _ _ _ _ h => h)) (by intro _ h; cases h; rfl) (fun _ => ⟨trivial, ⟨trivial, ⟨trivial, ⟨trivial, ⟨trivial, ⟨trivial, trivial⟩⟩⟩⟩⟩⟩) (fun _ => ?_)
      refine a_rd (i := 7) hok rfl (by kernel_rfl) rfl (r_lss rfl rfl) rfl ?_
      refine a_fin hok (by kernel_rfl) ?_
      refine b_of (nrm [oc b1 [iv .i64 0, iv .i64 0, iv .i64 0, iv .i64 0], oc b4 [iv .i64 s21.2.By, iv .i64 s21.2.Kind, iv .i64 s21.2.Node, iv .i64 s21.2.Target]] rfl) ?_
      refine n_then ?_
      refine ref_cond rfl (fun hb26 => ?_) (fun hb26 => ?_)
      · refine ref_region ?_
        refine mv1 rfl rfl ?_
        refine mv1 rfl rfl ?_
        refine pull fun t27 h_t27 => ?_
        refine s_rd (r_index h_t27 Try.underlying23 el_40 rfl rfl) rfl ?_
        refine s_rd (r_load el_40 rfl) rfl ?_
        refine s_st0 (s_cstore (out := [iv .i64 t27.By, iv .i64 t27.Kind, iv .i64 t27.Node, iv .i64 t27.Target]) Try.sizeOf40 rfl (j := 1) rfl (part_agO (ψs := [iv .i64 t27.By, iv .i64 t27.Kind, iv .i64 t27.Node, iv .i64 t27.Target]) rfl ⟨.inl iv_at, .inl iv_at, .inl iv_at, .inl iv_at, trivial⟩) rfl rfl rfl) (fun _ => ?_)
        refine l_nil (n_block (n_then (ref_region ?_)))
        refine mv1 rfl rfl ?_
        refine s_rd (r_add rfl rfl) rfl ?_
        refine as1 rfl rfl ?_
        refine b_let (f := iv .i64) (t := 6) rfl fun i28 => ?_
        refine l_nil ?_
        exact goB () (weak [0, 1] ⟨rfl, rfl, rfl, rfl, rfl, trivial⟩ ⟨rfl, rfl, trivial⟩)
      refine ref_skip (n_block (n_then (ref_region ?_)))
      refine mv1 rfl rfl ?_
      refine s_rd (r_add rfl rfl) rfl ?_
      refine as1 rfl rfl ?_
      refine b_let (f := iv .i64) (t := 6) rfl fun i29 => ?_
      refine l_nil ?_
      exact goB () (weak [0, 1] ⟨rfl, rfl, rfl, rfl, rfl, trivial⟩ ⟨rfl, rfl, trivial⟩)
    refine ref_exit (x_then ?_)
    exact brkB () (weak [0, 1] ⟨rfl, rfl, rfl, trivial⟩ ⟨rfl, rfl, trivial⟩)
  refine n_then (ref_seq (ref_region ?_))
  refine s_rd (r_cloadS Try.isAgg40 Try.sizeOf40 rfl (j := 1) rfl rfl rfl) rfl ?_
  refine s_st0 (s_cstore (out := [iv .i64 q30.By, iv .i64 q30.Kind, iv .i64 q30.Node, iv .i64 q30.Target]) Try.sizeOf40 rfl (j := 0) rfl (part_agO (ψs := [iv .i64 q30.By, iv .i64 q30.Kind, iv .i64 q30.Node, iv .i64 q30.Target]) rfl ⟨.inl iv_at, .inl iv_at, .inl iv_at, .inl iv_at, trivial⟩) rfl rfl rfl) (fun _ => ?_)
  refine l_nil (n_then (ref_ret ?_))
  exact fin1 (.inl rfl) () [] rfl trivial rfl (rv_cell rfl (j := 0) rfl Try.isAgg40 Try.sizeOf40 rfl rfl)

/-! deliberation/participant.Choose -/
noncomputable def participant_Choose_m (d_0 : T_api_Dialogue) (p_1 : T_api_Player) : Option (T_api_Move × Int) :=
  Option.bind (protocol_Turn_m d_0) fun behind4 =>
  bif behind4 == 0 then
    some ((T_api_Move.mk 0 0 0 0), 7)
  else
    Option.bind (participant_valid_m d_0 p_1) fun e6 =>
    bif e6 != 0 then
      some ((T_api_Move.mk 0 0 0 0), e6)
    else
      Option.bind (protocol_Legal_m d_0) fun t8 =>
      Option.bind (slices_DeleteFunc_api_Move_api_Move_m t8 p_1) fun attacks10 =>
      Option.bind (participant_scripted_m d_0 p_1 attacks10) fun t11 =>
      bif t11.2 then
        some (t11.1, 0)
      else
        bif (attacks10.length : Int) == 0 then
          some ((T_api_Move.mk behind4 4 0 0), 0)
        else
          Option.bind (participant_style_m d_0 p_1.Style) fun t15 =>
          bif t15.2.1 then
            Option.bind (slices_MinFunc_api_Move_api_Move_m attacks10) fun t17 =>
            some (t17, 0)
          else
            bif t15.2.2 then
              Option.bind (slices_MinFunc_api_Move_api_Move_1_m attacks10 t15.1) fun t18 =>
              some (t18, 0)
            else
              Option.bind (slices_MinFunc_api_Move_api_Move_2_m attacks10) fun t19 =>
              some (t19, 0)

theorem participant_Choose_ok {d_0 : T_api_Dialogue} {p_1 : T_api_Player} {r : T_api_Move × Int} (hm : participant_Choose_m d_0 p_1 = some r) :
    FnOk prog 12 [ag [iv .i64 d_0.Graph.N, slv rT_api_Pair d_0.Graph.L, iv .i64 d_0.Root, iv .i64 d_0.Limits.i0, iv .i64 d_0.Limits.i1, slv rT_api_Move d_0.Moves], ag [slv (rI .i64) p_1.Pool, slv (rI .i64) p_1.Withheld, slv rT_api_Move p_1.Script, iv .i64 p_1.Style]] [] (fun (x : Unit) => [ag [iv .i64 r.1.By, iv .i64 r.1.Kind, iv .i64 r.1.Node, iv .i64 r.1.Target], iv .i64 r.2]) (fun (x : Unit) => []) := by
  refine fn_ok (fn := Try.f12) (N := 47) (res := fun r x => [ag [iv .i64 r.1.By, iv .i64 r.1.Kind, iv .i64 r.1.Node, iv .i64 r.1.Target], iv .i64 r.2]) (Ω1 := fun r x => []) Try.func12 rfl rfl hm rfl (fun E hM => ?_)
  unfold participant_Choose_m
  refine ref_seq (ref_region ?_)
  refine s_st (s_box (part_agO (ψs := [iv .i64 d_0.Graph.N, slv rT_api_Pair d_0.Graph.L, iv .i64 d_0.Root, iv .i64 d_0.Limits.i0, iv .i64 d_0.Limits.i1, slv rT_api_Move d_0.Moves]) rfl ⟨.inl iv_at, .inl slv_at, .inl iv_at, .inl iv_at, .inl iv_at, .inl slv_at, trivial⟩)) rfl (fun b1 => ?_)
  refine s_st (s_box (part_agO (ψs := [slv (rI .i64) p_1.Pool, slv (rI .i64) p_1.Withheld, slv rT_api_Move p_1.Script, iv .i64 p_1.Style]) rfl ⟨.inl slv_at, .inl slv_at, .inl slv_at, .inl iv_at, trivial⟩)) rfl (fun b2 => ?_)
  refine s_st (s_alloc zt_40) rfl (fun b3 => ?_)
  refine as1 rfl rfl ?_
  refine l_nil (n_then (ref_seq (ref_region ?_)))
  refine s_rd (r_cloadS Try.isAgg35 Try.sizeOf35 rfl (j := 0) rfl rfl rfl) rfl ?_
  refine pull fun behind4 h_behind4 => ?_
  refine s_st (s_call (ψ := fun (_ : Unit) => iv .i64 behind4) (args := [.tmp 11]) Try.call32 rfl (protocol_Turn_ok h_behind4) ⟨arg rfl, trivial⟩ (fun _ _ _ _ h => h)) rfl (fun _ => ?_)
  refine as1 rfl rfl ?_
  refine l_nil ?_
  refine b_of (nrm [oc b1 [iv .i64 d_0.Graph.N, slv rT_api_Pair d_0.Graph.L, iv .i64 d_0.Root, iv .i64 d_0.Limits.i0, iv .i64 d_0.Limits.i1, slv rT_api_Move d_0.Moves], oc b2 [slv (rI .i64) p_1.Pool, slv (rI .i64) p_1.Withheld, slv rT_api_Move p_1.Script, iv .i64 p_1.Style], oc b3 [iv .i64 0, iv .i64 0, iv .i64 0, iv .i64 0]] rfl) ?_
  refine n_then (ref_seq (ref_seq (ref_region ?_)))
  refine mv1 rfl rfl ?_
  refine s_rd (r_eql rfl rfl) rfl ?_
  refine l_nil (n_then ?_)
  refine ref_cond rfl (fun hb5 => ?_) (fun hb5 => ?_)
  · refine ref_seq (ref_region ?_)
    refine s_rd (r_build (ps := []) (rs := []) st_40 zs_40 trivial rfl rfl) rfl ?_
    refine s_st0 (s_cstore (out := [iv .i64 0, iv .i64 0, iv .i64 0, iv .i64 0]) Try.sizeOf40 rfl (j := 2) rfl (part_agO (ψs := [iv .i64 0, iv .i64 0, iv .i64 0, iv .i64 0]) rfl ⟨.inl iv_at, .inl iv_at, .inl iv_at, .inl iv_at, trivial⟩) rfl rfl rfl) (fun _ => ?_)
    refine as1 rfl rfl ?_
    refine l_nil (n_then (ref_ret (r_then ?_)))
    exact fin2 (.inl rfl) () [] rfl trivial rfl (rv_cell rfl (j := 2) rfl Try.isAgg40 Try.sizeOf40 rfl rfl) (rv_tmp rfl)
  refine ref_skip (n_then (ref_seq (ref_seq (ref_region ?_))))
  refine s_rd (r_cloadS Try.isAgg35 Try.sizeOf35 rfl (j := 0) rfl rfl rfl) rfl ?_
  refine s_rd (r_cloadS Try.isAgg25 Try.sizeOf25 rfl (j := 1) rfl rfl rfl) rfl ?_
  refine pull fun e6 h_e6 => ?_
  refine s_st (s_call (ψ := fun (_ : Unit) => iv .i64 e6) (args := [.tmp 16, .tmp 17]) Try.call33 rfl (participant_valid_ok h_e6) ⟨arg rfl, arg rfl, trivial⟩ (fun _ _ _ _ h => h)) rfl (fun _ => ?_)
  refine as1 rfl rfl ?_
  refine l_nil (n_then (ref_seq (ref_region ?_)))
  refine mv1 rfl rfl ?_
  refine s_rd (r_neq rfl rfl) rfl ?_
  refine l_nil (n_then ?_)
  refine ref_cond rfl (fun hb7 => ?_) (fun hb7 => ?_)
  · refine ref_seq (ref_region ?_)
    refine s_rd (r_build (ps := []) (rs := []) st_40 zs_40 trivial rfl rfl) rfl ?_
    refine mv1 rfl rfl ?_
    refine s_st0 (s_cstore (out := [iv .i64 0, iv .i64 0, iv .i64 0, iv .i64 0]) Try.sizeOf40 rfl (j := 2) rfl (part_agO (ψs := [iv .i64 0, iv .i64 0, iv .i64 0, iv .i64 0]) rfl ⟨.inl iv_at, .inl iv_at, .inl iv_at, .inl iv_at, trivial⟩) rfl rfl rfl) (fun _ => ?_)
    refine as1 rfl rfl ?_
    refine l_nil (n_then (ref_ret (r_then ?_)))
    exact fin2 (.inl rfl) () [] rfl trivial rfl (rv_cell rfl (j := 2) rfl Try.isAgg40 Try.sizeOf40 rfl rfl) (rv_tmp rfl)
  refine ref_skip (n_then (ref_seq (ref_region ?_)))
  refine s_rd (r_cloadS Try.isAgg35 Try.sizeOf35 rfl (j := 0) rfl rfl rfl) rfl ?_
  refine pull fun t8 h_t8 => ?_
  refine s_st (s_call (ψ := fun (x9 : (Value × List Nat)) => pv x9.1) (args := [.tmp 23]) Try.call35 rfl (protocol_Legal_ok h_t8) ⟨arg rfl, trivial⟩ (fun _ _ _ _ h => h)) rfl (fun x9 => ?_)
  refine s_rd (r_mkfn (xs := [.tmp 3]) (vs := [(ptr b2 0)]) ⟨rfl, trivial⟩) rfl ?_
  refine pull fun attacks10 h_attacks10 => ?_
  refine s_st (s_callC [3, 1] [false, true] (fun (_ : Unit) => [dead, oc b2 [slv (rI .i64) p_1.Pool, slv (rI .i64) p_1.Withheld, slv rT_api_Move p_1.Script, iv .i64 p_1.Style]]) (fun (_ : Unit) => []) (fun (_ : Unit) => slv rT_api_Move attacks10) (args := [.tmp 24, .tmp 25]) (caps := []) Try.call34 rfl (slices_DeleteFunc_api_Move_api_Move_ok h_attacks10) ⟨rfl, rfl, ⟨rfl, rfl, trivial⟩⟩ (fun _ => rfl) (fun _ => ⟨rfl, trivial⟩) (fun _ => rfl) ⟨arg rfl, arg rfl, trivial⟩ (fun _ _ _ _ h => h)) rfl (fun _ => ?_)
  refine as1 rfl rfl ?_
  refine l_nil (n_then (ref_seq (ref_seq (ref_region ?_))))
  refine s_rd (r_cloadS Try.isAgg35 Try.sizeOf35 rfl (j := 0) rfl rfl rfl) rfl ?_
  refine s_rd (r_cloadS Try.isAgg25 Try.sizeOf25 rfl (j := 1) rfl rfl rfl) rfl ?_
  refine mv1 rfl rfl ?_
  refine pull fun t11 h_t11 => ?_
  refine s_st (s_call (ψ := fun (_ : Unit) => tup [ag [iv .i64 t11.1.By, iv .i64 t11.1.Kind, iv .i64 t11.1.Node, iv .i64 t11.1.Target], bv t11.2]) (args := [.tmp 28, .tmp 29, .tmp 30]) Try.call38 rfl (participant_scripted_ok h_t11) ⟨arg rfl, arg rfl, arg rfl, trivial⟩ (fun _ _ _ _ h => h)) rfl (fun _ => ?_)
  refine mv1 rfl rfl ?_
  refine s_rd (r_extract rfl rfl) rfl ?_
  refine s_rd (r_extract rfl rfl) rfl ?_
  refine s_st (s_alloc zt_40) rfl (fun b12 => ?_)
  refine s_st0 (s_cstore (out := [iv .i64 t11.1.By, iv .i64 t11.1.Kind, iv .i64 t11.1.Node, iv .i64 t11.1.Target]) Try.sizeOf40 rfl (j := 4) rfl (part_agO (ψs := [iv .i64 t11.1.By, iv .i64 t11.1.Kind, iv .i64 t11.1.Node, iv .i64 t11.1.Target]) rfl ⟨.inl iv_at, .inl iv_at, .inl iv_at, .inl iv_at, trivial⟩) rfl rfl rfl) (fun _ => ?_)
  refine as1 rfl rfl ?_
  refine l_nil ?_
  refine b_of (nrm [oc b1 [iv .i64 d_0.Graph.N, slv rT_api_Pair d_0.Graph.L, iv .i64 d_0.Root, iv .i64 d_0.Limits.i0, iv .i64 d_0.Limits.i1, slv rT_api_Move d_0.Moves], oc b2 [slv (rI .i64) p_1.Pool, slv (rI .i64) p_1.Withheld, slv rT_api_Move p_1.Script, iv .i64 p_1.Style], oc b3 [iv .i64 0, iv .i64 0, iv .i64 0, iv .i64 0], dead, oc b12 [iv .i64 t11.1.By, iv .i64 t11.1.Kind, iv .i64 t11.1.Node, iv .i64 t11.1.Target]] rfl) ?_
  refine n_then (ref_seq (ref_region ?_))
  refine mv1 rfl rfl ?_
  refine l_nil (n_then ?_)
  refine ref_cond rfl (fun hb13 => ?_) (fun hb13 => ?_)
  · refine ref_seq (ref_region ?_)
    refine s_rd (r_cloadS Try.isAgg40 Try.sizeOf40 rfl (j := 4) rfl rfl rfl) rfl ?_
    refine s_st0 (s_cstore (out := [iv .i64 t11.1.By, iv .i64 t11.1.Kind, iv .i64 t11.1.Node, iv .i64 t11.1.Target]) Try.sizeOf40 rfl (j := 2) rfl (part_agO (ψs := [iv .i64 t11.1.By, iv .i64 t11.1.Kind, iv .i64 t11.1.Node, iv .i64 t11.1.Target]) rfl ⟨.inl iv_at, .inl iv_at, .inl iv_at, .inl iv_at, trivial⟩) rfl rfl rfl) (fun _ => ?_)
    refine as1 rfl rfl ?_
    refine l_nil (n_then (ref_ret (r_then ?_)))
    exact fin2 (.inl rfl) () [] rfl trivial rfl (rv_cell rfl (j := 2) rfl Try.isAgg40 Try.sizeOf40 rfl rfl) (rv_tmp rfl)
  refine ref_skip (n_then (ref_seq (ref_seq (ref_region ?_))))
  refine mv1 rfl rfl ?_
  refine s_rd (r_len Try.underlying23 rfl) rfl ?_
  refine s_rd (r_eql rfl rfl) rfl ?_
  refine l_nil (n_then ?_)
  refine ref_cond rfl (fun hb14 => ?_) (fun hb14 => ?_)
  · refine ref_seq (ref_region ?_)
    refine mv1 rfl rfl ?_
    refine s_rd (r_build (ps := [(0, .tmp 39), (1, .const (.int .i64 (4)))]) (rs := [(0, [iv .i64 behind4]), (1, [iv .i64 4])]) st_40 zs_40 ⟨rfl, (part_at rfl iv_at), ⟨rfl, (part_at rfl iv_at), trivial⟩⟩ rfl rfl) rfl ?_
    refine s_st0 (s_cstore (out := [iv .i64 behind4, iv .i64 4, iv .i64 0, iv .i64 0]) Try.sizeOf40 rfl (j := 2) rfl (part_agO (ψs := [iv .i64 behind4, iv .i64 4, iv .i64 0, iv .i64 0]) rfl ⟨.inl iv_at, .inl iv_at, .inl iv_at, .inl iv_at, trivial⟩) rfl rfl rfl) (fun _ => ?_)
    refine as1 rfl rfl ?_
    refine l_nil (n_then (ref_ret (r_then ?_)))
    exact fin2 (.inl rfl) () [] rfl trivial rfl (rv_cell rfl (j := 2) rfl Try.isAgg40 Try.sizeOf40 rfl rfl) (rv_tmp rfl)
  refine ref_skip (n_then (ref_seq (ref_region ?_)))
  refine mv1 rfl rfl ?_
  refine s_rd (r_cloadS Try.isAgg35 Try.sizeOf35 rfl (j := 0) rfl rfl rfl) rfl ?_
  refine s_rd (r_faddr (fo := 3) Try.underlying25 rfl rfl Try.sizeOf3 rfl) rfl ?_
  refine s_rd (r_cload Try.isAgg3 rfl (j := 1) rfl rfl) rfl ?_
  refine pull fun t15 h_t15 => ?_
  refine s_st (s_call (ψ := fun (x16 : Nat × Nat) => pv (bif t15.2.1 then (.func (.func 69) #[] #[]) else (bif t15.2.2 then (.func (.func 71) #[] #[(ptr x16.1 0)]) else (.func (.func 72) #[] #[])))) (args := [.tmp 42, .tmp 44]) Try.call40 rfl (participant_style_ok h_t15) ⟨arg rfl, arg rfl, trivial⟩ (fun _ _ _ _ h => h)) rfl (fun x16 => ?_)
  refine b_case (t := 45) rfl (fun _ => ?_) (fun _ => ?_)
  · refine pull fun t17 h_t17 => ?_
    refine s_st (s_call (ψ := fun (_ : Unit) => ag [iv .i64 t17.By, iv .i64 t17.Kind, iv .i64 t17.Node, iv .i64 t17.Target]) (args := [.tmp 41, .tmp 45]) Try.call39 rfl (slices_MinFunc_api_Move_api_Move_ok h_t17) ⟨arg rfl, arg rfl, trivial⟩ (fun _ _ _ _ h => h)) rfl (fun _ => ?_)
    refine s_st0 (s_cstore (out := [iv .i64 t17.By, iv .i64 t17.Kind, iv .i64 t17.Node, iv .i64 t17.Target]) Try.sizeOf40 rfl (j := 2) rfl (part_agO (ψs := [iv .i64 t17.By, iv .i64 t17.Kind, iv .i64 t17.Node, iv .i64 t17.Target]) rfl ⟨.inl iv_at, .inl iv_at, .inl iv_at, .inl iv_at, trivial⟩) rfl rfl rfl) (fun _ => ?_)
    refine as1 rfl rfl ?_
    refine l_nil (n_then (ref_ret ?_))
    exact fin2 (.inl rfl) () [] rfl trivial rfl (rv_cell rfl (j := 2) rfl Try.isAgg40 Try.sizeOf40 rfl rfl) (rv_tmp rfl)
  refine b_case (t := 45) rfl (fun _ => ?_) (fun _ => ?_)
  · refine pull fun t18 h_t18 => ?_
    refine s_st (s_callC [5, 6] [true, true] (fun (_ : Unit) => [oc x16.1 [pv (.func (.func 68) #[] #[(ptr x16.2 0)])], oc x16.2 [iv .i64 t15.1.Graph.N, slv rT_api_Pair t15.1.Graph.L, iv .i64 t15.1.Root, iv .i64 t15.1.Limits.i0, iv .i64 t15.1.Limits.i1, slv rT_api_Move t15.1.Moves]]) (fun (_ : Unit) => []) (fun (_ : Unit) => ag [iv .i64 t18.By, iv .i64 t18.Kind, iv .i64 t18.Node, iv .i64 t18.Target]) (args := [.tmp 41, .tmp 45]) (caps := []) Try.call39 rfl (slices_MinFunc_api_Move_api_Move_1_ok h_t18) ⟨rfl, rfl, ⟨rfl, rfl, trivial⟩⟩ (fun _ => rfl) (fun _ => trivial) (fun _ => rfl) ⟨arg rfl, arg rfl, trivial⟩ (fun _ _ _ _ h => h)) rfl (fun _ => ?_)
    refine s_st0 (s_cstore (out := [iv .i64 t18.By, iv .i64 t18.Kind, iv .i64 t18.Node, iv .i64 t18.Target]) Try.sizeOf40 rfl (j := 2) rfl (part_agO (ψs := [iv .i64 t18.By, iv .i64 t18.Kind, iv .i64 t18.Node, iv .i64 t18.Target]) rfl ⟨.inl iv_at, .inl iv_at, .inl iv_at, .inl iv_at, trivial⟩) rfl rfl rfl) (fun _ => ?_)
    refine as1 rfl rfl ?_
    refine l_nil (n_then (ref_ret ?_))
    exact fin2 (.inl rfl) () [] rfl trivial rfl (rv_cell rfl (j := 2) rfl Try.isAgg40 Try.sizeOf40 rfl rfl) (rv_tmp rfl)
  refine pull fun t19 h_t19 => ?_
  refine s_st (s_call (ψ := fun (_ : Unit) => ag [iv .i64 t19.By, iv .i64 t19.Kind, iv .i64 t19.Node, iv .i64 t19.Target]) (args := [.tmp 41, .tmp 45]) Try.call39 rfl (slices_MinFunc_api_Move_api_Move_2_ok h_t19) ⟨arg rfl, arg rfl, trivial⟩ (fun _ _ _ _ h => h)) rfl (fun _ => ?_)
  refine s_st0 (s_cstore (out := [iv .i64 t19.By, iv .i64 t19.Kind, iv .i64 t19.Node, iv .i64 t19.Target]) Try.sizeOf40 rfl (j := 2) rfl (part_agO (ψs := [iv .i64 t19.By, iv .i64 t19.Kind, iv .i64 t19.Node, iv .i64 t19.Target]) rfl ⟨.inl iv_at, .inl iv_at, .inl iv_at, .inl iv_at, trivial⟩) rfl rfl rfl) (fun _ => ?_)
  refine as1 rfl rfl ?_
  refine l_nil (n_then (ref_ret ?_))
  exact fin2 (.inl rfl) () [] rfl trivial rfl (rv_cell rfl (j := 2) rfl Try.isAgg40 Try.sizeOf40 rfl rfl) (rv_tmp rfl)

/-! deliberation/participant.Run -/
noncomputable def participant_Run_l1 (d_0 : T_api_Dialogue) (proponent_1 : T_api_Player) (opponent_2 : T_api_Player) (s13 : Int) : Option (Sum ((Sum (T_api_Dialogue × Int) (Unit))) (Int)) :=
  bif decide (s13 < 2) then
    Option.bind (idxM [proponent_1, opponent_2] s13) fun t16 =>
    Option.bind (participant_valid_m d_0 t16) fun e18 =>
    bif e18 != 0 then
      some (Sum.inl (Sum.inl ((T_api_Dialogue.mk (T_api_Graph.mk 0 []) 0 (T_arr2_3.mk 0 0) []), e18)))
    else
      some (Sum.inr (iadd .i64 s13 1))
  else
    some (Sum.inl (Sum.inr ()))

noncomputable def participant_Run_l2 (proponent_1 : T_api_Player) (opponent_2 : T_api_Player) (s48 : T_api_Dialogue) : Option (Sum (T_api_Dialogue × Int) (T_api_Dialogue)) :=
  Option.bind (protocol_Turn_m s48) fun turn50 =>
  bif turn50 == 0 then
    some (Sum.inl (s48, 0))
  else
    Option.bind (idxM [proponent_1, opponent_2] (isub .i64 turn50 1)) fun t53 =>
    Option.bind (participant_Choose_m s48 t53) fun t54 =>
    bif t54.2 != 0 then
      some (Sum.inl ((T_api_Dialogue.mk (T_api_Graph.mk 0 []) 0 (T_arr2_3.mk 0 0) []), t54.2))
    else
      Option.bind (protocol_Apply_m s48 t54.1) fun t57 =>
      bif t57.2 != 0 then
        some (Sum.inl ((T_api_Dialogue.mk (T_api_Graph.mk 0 []) 0 (T_arr2_3.mk 0 0) []), t57.2))
      else
        some (Sum.inr t57.1)

noncomputable def participant_Run_m (d_0 : T_api_Dialogue) (proponent_1 : T_api_Player) (opponent_2 : T_api_Player) : Option (T_api_Dialogue × Int) :=
  Option.bind (loopC (participant_Run_l1 d_0 proponent_1 opponent_2) 0) (sumK (fun a : T_api_Dialogue × Int => some a) fun q20 : Unit =>
    Option.bind (slices_Clone_api_Pair_api_Pair_m d_0.Graph.L) fun t22 =>
    Option.bind (slices_Clone_api_Move_api_Move_m d_0.Moves) fun t24 =>
    Option.bind (loopC (participant_Run_l2 proponent_1 opponent_2) (T_api_Dialogue.mk (T_api_Graph.mk d_0.Graph.N t22) d_0.Root d_0.Limits t24)) (fun a : T_api_Dialogue × Int => some a))

theorem participant_Run_ok {d_0 : T_api_Dialogue} {proponent_1 : T_api_Player} {opponent_2 : T_api_Player} {r : T_api_Dialogue × Int} (hm : participant_Run_m d_0 proponent_1 opponent_2 = some r) :
    FnOk prog 14 [ag [iv .i64 d_0.Graph.N, slv rT_api_Pair d_0.Graph.L, iv .i64 d_0.Root, iv .i64 d_0.Limits.i0, iv .i64 d_0.Limits.i1, slv rT_api_Move d_0.Moves], ag [slv (rI .i64) proponent_1.Pool, slv (rI .i64) proponent_1.Withheld, slv rT_api_Move proponent_1.Script, iv .i64 proponent_1.Style], ag [slv (rI .i64) opponent_2.Pool, slv (rI .i64) opponent_2.Withheld, slv rT_api_Move opponent_2.Script, iv .i64 opponent_2.Style]] [] (fun (x : Unit) => [ag [iv .i64 r.1.Graph.N, slv rT_api_Pair r.1.Graph.L, iv .i64 r.1.Root, iv .i64 r.1.Limits.i0, iv .i64 r.1.Limits.i1, slv rT_api_Move r.1.Moves], iv .i64 r.2]) (fun (x : Unit) => []) := by
  refine fn_ok (fn := Try.f14) (N := 68) (res := fun r x => [ag [iv .i64 r.1.Graph.N, slv rT_api_Pair r.1.Graph.L, iv .i64 r.1.Root, iv .i64 r.1.Limits.i0, iv .i64 r.1.Limits.i1, slv rT_api_Move r.1.Moves], iv .i64 r.2]) (Ω1 := fun r x => []) Try.func14 rfl rfl hm rfl (fun E hM => ?_)
  unfold participant_Run_m
  refine ref_seq (ref_region ?_)
  refine s_st (s_box (part_agO (ψs := [iv .i64 d_0.Graph.N, slv rT_api_Pair d_0.Graph.L, iv .i64 d_0.Root, iv .i64 d_0.Limits.i0, iv .i64 d_0.Limits.i1, slv rT_api_Move d_0.Moves]) rfl ⟨.inl iv_at, .inl slv_at, .inl iv_at, .inl iv_at, .inl iv_at, .inl slv_at, trivial⟩)) rfl (fun b1 => ?_)
  refine s_st (s_box (part_agO (ψs := [slv (rI .i64) proponent_1.Pool, slv (rI .i64) proponent_1.Withheld, slv rT_api_Move proponent_1.Script, iv .i64 proponent_1.Style]) rfl ⟨.inl slv_at, .inl slv_at, .inl slv_at, .inl iv_at, trivial⟩)) rfl (fun b2 => ?_)
  refine s_st (s_box (part_agO (ψs := [slv (rI .i64) opponent_2.Pool, slv (rI .i64) opponent_2.Withheld, slv rT_api_Move opponent_2.Script, iv .i64 opponent_2.Style]) rfl ⟨.inl slv_at, .inl slv_at, .inl slv_at, .inl iv_at, trivial⟩)) rfl (fun b3 => ?_)
  refine s_st (s_alloc zt_35) rfl (fun b4 => ?_)
  refine as1 rfl rfl ?_
  refine l_nil ?_
  refine b_of (nrm [oc b1 [iv .i64 d_0.Graph.N, slv rT_api_Pair d_0.Graph.L, iv .i64 d_0.Root, iv .i64 d_0.Limits.i0, iv .i64 d_0.Limits.i1, slv rT_api_Move d_0.Moves], oc b2 [slv (rI .i64) proponent_1.Pool, slv (rI .i64) proponent_1.Withheld, slv rT_api_Move proponent_1.Script, iv .i64 proponent_1.Style], oc b3 [slv (rI .i64) opponent_2.Pool, slv (rI .i64) opponent_2.Withheld, slv rT_api_Move opponent_2.Script, iv .i64 opponent_2.Style], oc b4 [iv .i64 0, pv (.slice none 0 0), iv .i64 0, iv .i64 0, iv .i64 0, pv (.slice none 0 0)]] rfl) ?_
  refine n_then (ref_seq (ref_region ?_))
  refine s_rd (r_cloadS Try.isAgg25 Try.sizeOf25 rfl (j := 1) rfl rfl rfl) rfl ?_
  refine s_rd (r_cloadS Try.isAgg25 Try.sizeOf25 rfl (j := 2) rfl rfl rfl) rfl ?_
  refine s_rd (r_buildA (ps := [(0, .tmp 15), (1, .tmp 16)]) (rs := [(0, [slv (rI .i64) proponent_1.Pool, slv (rI .i64) proponent_1.Withheld, slv rT_api_Move proponent_1.Script, iv .i64 proponent_1.Style]), (1, [slv (rI .i64) opponent_2.Pool, slv (rI .i64) opponent_2.Withheld, slv rT_api_Move opponent_2.Script, iv .i64 opponent_2.Style])]) (sz := 4) Try.underlying44 Try.sizeOf25 ⟨_, _, Try.type44, rfl⟩ zs_44 ⟨rfl, (part_agO (ψs := [slv (rI .i64) proponent_1.Pool, slv (rI .i64) proponent_1.Withheld, slv rT_api_Move proponent_1.Script, iv .i64 proponent_1.Style]) rfl ⟨.inl slv_at, .inl slv_at, .inl slv_at, .inl iv_at, trivial⟩), ⟨rfl, (part_agO (ψs := [slv (rI .i64) opponent_2.Pool, slv (rI .i64) opponent_2.Withheld, slv rT_api_Move opponent_2.Script, iv .i64 opponent_2.Style]) rfl ⟨.inl slv_at, .inl slv_at, .inl slv_at, .inl iv_at, trivial⟩), trivial⟩⟩ rfl rfl) rfl ?_
  refine s_st (s_alloc zt_44) rfl (fun b5 => ?_)
  refine s_st0 (s_cstore (out := [slv (rI .i64) proponent_1.Pool, slv (rI .i64) proponent_1.Withheld, slv rT_api_Move proponent_1.Script, iv .i64 proponent_1.Style, slv (rI .i64) opponent_2.Pool, slv (rI .i64) opponent_2.Withheld, slv rT_api_Move opponent_2.Script, iv .i64 opponent_2.Style]) Try.sizeOf44 rfl (j := 4) rfl (part_agO (ψs := [slv (rI .i64) proponent_1.Pool, slv (rI .i64) proponent_1.Withheld, slv rT_api_Move proponent_1.Script, iv .i64 proponent_1.Style, slv (rI .i64) opponent_2.Pool, slv (rI .i64) opponent_2.Withheld, slv rT_api_Move opponent_2.Script, iv .i64 opponent_2.Style]) rfl ⟨.inl slv_at, .inl slv_at, .inl slv_at, .inl iv_at, .inl slv_at, .inl slv_at, .inl slv_at, .inl iv_at, trivial⟩) rfl rfl rfl) (fun _ => ?_)
  refine l_nil (n_then (ref_seq (ref_seq (ref_region ?_))))
  refine s_rd (r_cloadS Try.isAgg44 Try.sizeOf44 rfl (j := 4) rfl rfl rfl) rfl ?_
  refine mv1 rfl rfl ?_
  refine l_nil (n_then ?_)
  refine ref_loopX (f := (participant_Run_l1 d_0 proponent_1 opponent_2)) (Γl := (fun (s13 : Int) (x14 : Unit) => [(3, pv (ptr b1 0)), (6, pv (ptr b4 0)), (8, pv (ptr b5 0)), (18, ag [slv (rI .i64) proponent_1.Pool, slv (rI .i64) proponent_1.Withheld, slv rT_api_Move proponent_1.Script, iv .i64 proponent_1.Style, slv (rI .i64) opponent_2.Pool, slv (rI .i64) opponent_2.Withheld, slv rT_api_Move opponent_2.Script, iv .i64 opponent_2.Style]), (19, iv .i64 s13)])) (Ωl := (fun (s13 : Int) (x14 : Unit) => [oc b1 [iv .i64 d_0.Graph.N, slv rT_api_Pair d_0.Graph.L, iv .i64 d_0.Root, iv .i64 d_0.Limits.i0, iv .i64 d_0.Limits.i1, slv rT_api_Move d_0.Moves], oc b4 [iv .i64 0, pv (.slice none 0 0), iv .i64 0, iv .i64 0, iv .i64 0, pv (.slice none 0 0)], oc b5 [slv (rI .i64) proponent_1.Pool, slv (rI .i64) proponent_1.Withheld, slv rT_api_Move proponent_1.Script, iv .i64 proponent_1.Style, slv (rI .i64) opponent_2.Pool, slv (rI .i64) opponent_2.Withheld, slv rT_api_Move opponent_2.Script, iv .i64 opponent_2.Style]])) (Γb := (fun (q20 : Unit) (y21 : Unit) => [(3, pv (ptr b1 0)), (6, pv (ptr b4 0)), (8, pv (ptr b5 0))])) (Ωb := (fun (q20 : Unit) (y21 : Unit) => [oc b1 [iv .i64 d_0.Graph.N, slv rT_api_Pair d_0.Graph.L, iv .i64 d_0.Root, iv .i64 d_0.Limits.i0, iv .i64 d_0.Limits.i1, slv rT_api_Move d_0.Moves], oc b4 [iv .i64 0, pv (.slice none 0 0), iv .i64 0, iv .i64 0, iv .i64 0, pv (.slice none 0 0)], oc b5 [slv (rI .i64) proponent_1.Pool, slv (rI .i64) proponent_1.Withheld, slv rT_api_Move proponent_1.Script, iv .i64 proponent_1.Style, slv (rI .i64) opponent_2.Pool, slv (rI .i64) opponent_2.Withheld, slv rT_api_Move opponent_2.Script, iv .i64 opponent_2.Style]])) (kr := (fun a : T_api_Dialogue × Int => some a)) 0 () (weak [0, 3, 4] ⟨rfl, rfl, rfl, rfl, rfl, trivial⟩ ⟨rfl, rfl, rfl, trivial⟩) (fun s13 x14 => ?_) (fun q20 y21 => ?_)
  · unfold participant_Run_l1
    refine ref_seq (ref_region ?_)
    refine s_rd (r_lss rfl rfl) rfl ?_
    refine l_nil (n_then (ref_seq ?_))
    refine ref_cond rfl (fun hb15 => ?_) (fun hb15 => ?_)
    · refine ref_skip (n_then (ref_seq (ref_block (ref_seq (ref_region ?_)))))
      refine pull fun t16 h_t16 => ?_
      refine s_rd (r_aindex (ρ := rT_api_Player) h_t16 Try.underlying44 el_25 rfl rfl rfl rfl rfl) rfl ?_
      refine s_st (s_alloc zt_25) rfl (fun b17 => ?_)
      refine s_st0 (s_cstore (out := [slv (rI .i64) t16.Pool, slv (rI .i64) t16.Withheld, slv rT_api_Move t16.Script, iv .i64 t16.Style]) Try.sizeOf25 rfl (j := 3) rfl (part_agO (ψs := [slv (rI .i64) t16.Pool, slv (rI .i64) t16.Withheld, slv rT_api_Move t16.Script, iv .i64 t16.Style]) rfl ⟨.inl slv_at, .inl slv_at, .inl slv_at, .inl iv_at, trivial⟩) rfl rfl rfl) (fun _ => ?_)
      refine l_nil ?_
      refine b_of (nrm [oc b1 [iv .i64 d_0.Graph.N, slv rT_api_Pair d_0.Graph.L, iv .i64 d_0.Root, iv .i64 d_0.Limits.i0, iv .i64 d_0.Limits.i1, slv rT_api_Move d_0.Moves], oc b4 [iv .i64 0, pv (.slice none 0 0), iv .i64 0, iv .i64 0, iv .i64 0, pv (.slice none 0 0)], oc b5 [slv (rI .i64) proponent_1.Pool, slv (rI .i64) proponent_1.Withheld, slv rT_api_Move proponent_1.Script, iv .i64 proponent_1.Style, slv (rI .i64) opponent_2.Pool, slv (rI .i64) opponent_2.Withheld, slv rT_api_Move opponent_2.Script, iv .i64 opponent_2.Style], oc b17 [slv (rI .i64) t16.Pool, slv (rI .i64) t16.Withheld, slv rT_api_Move t16.Script, iv .i64 t16.Style]] rfl) ?_
      refine n_then (ref_seq (ref_region ?_))
      refine s_rd (r_cloadS Try.isAgg35 Try.sizeOf35 rfl (j := 0) rfl rfl rfl) rfl ?_
      refine s_rd (r_cloadS Try.isAgg25 Try.sizeOf25 rfl (j := 3) rfl rfl rfl) rfl ?_
      refine pull fun e18 h_e18 => ?_
      refine s_st (s_call (ψ := fun (_ : Unit) => iv .i64 e18) (args := [.tmp 22, .tmp 23]) Try.call33 rfl (participant_valid_ok h_e18) ⟨arg rfl, arg rfl, trivial⟩ (fun _ _ _ _ h => h)) rfl (fun _ => ?_)
      refine as1 rfl rfl ?_
      refine l_nil (n_then (ref_seq (ref_region ?_)))
      refine mv1 rfl rfl ?_
      refine s_rd (r_neq rfl rfl) rfl ?_
      refine l_nil (n_then ?_)
      refine ref_cond rfl (fun hb19 => ?_) (fun hb19 => ?_)
      · refine ref_seq (ref_region ?_)
        refine s_rd (r_build (ps := []) (rs := []) st_35 zs_35 trivial rfl rfl) rfl ?_
        refine mv1 rfl rfl ?_
        refine s_st0 (s_cstore (out := [iv .i64 0, pv (.slice none 0 0), iv .i64 0, iv .i64 0, iv .i64 0, pv (.slice none 0 0)]) Try.sizeOf35 rfl (j := 1) rfl (part_agO (ψs := [iv .i64 0, pv (.slice none 0 0), iv .i64 0, iv .i64 0, iv .i64 0, pv (.slice none 0 0)]) rfl ⟨.inl iv_at, .inl (pv_at rfl), .inl iv_at, .inl iv_at, .inl iv_at, .inl (pv_at rfl), trivial⟩) rfl rfl rfl) (fun _ => ?_)
        refine as1 rfl rfl ?_
        refine l_nil (n_then (ref_ret (r_block (r_then ?_))))
        refine retX ?_
        refine r_block (r_then ?_)
        refine b_of (ocW 1 [iv .i64 0, slv rT_api_Pair [], iv .i64 0, iv .i64 0, iv .i64 0, slv rT_api_Move []] rfl ⟨imp_rfl, nil_sl, imp_rfl, imp_rfl, imp_rfl, nil_sl, trivial⟩) ?_
        exact fin2 (.inl rfl) () [] rfl trivial rfl (rv_cell rfl (j := 1) rfl Try.isAgg35 Try.sizeOf35 rfl rfl) (rv_tmp rfl)
      refine ref_skip (n_block (n_then (ref_region ?_)))
      refine s_rd (r_add rfl rfl) rfl ?_
      refine mv1 rfl rfl ?_
      refine l_nil ?_
      exact goX () (weak [0, 1, 2] ⟨rfl, rfl, rfl, rfl, rfl, trivial⟩ ⟨rfl, rfl, rfl, trivial⟩)
    refine ref_exit (x_then ?_)
    exact brkX () (weak [0, 1, 2] ⟨rfl, rfl, rfl, trivial⟩ ⟨rfl, rfl, rfl, trivial⟩)
  refine n_then (ref_seq ?_)
  refine ref_draw [0, 1, 2, 4, 5, 7, 8, 10] rfl (by kernel_rfl) (fun hok => ?_)
  refine a_rd (i := 0) hok rfl (by kernel_rfl) rfl (r_faddr (fo := 0) Try.underlying35 rfl rfl Try.sizeOf28 rfl) rfl ?_
  refine a_rd (i := 1) hok rfl (by kernel_rfl) rfl (r_faddr (fo := 1) Try.underlying28 rfl rfl Try.sizeOf26 rfl) rfl ?_
  refine a_rd (i := 2) hok rfl (by kernel_rfl) rfl (r_cload Try.isAgg26 rfl (j := 0) rfl rfl) rfl ?_
  refine a_rd (i := 4) hok rfl (by kernel_rfl) rfl (r_faddr (fo := 5) Try.underlying35 rfl rfl Try.sizeOf23 rfl) rfl ?_
  refine a_rd (i := 5) hok rfl (by kernel_rfl) rfl (r_cload Try.isAgg23 rfl (j := 0) rfl rfl) rfl ?_
  refine pull fun t22 h_t22 => ?_
  refine a_next hok 3 [] (by kernel_rfl) ?_ trivial
  refine a_st (i := 3) hok rfl rfl (s_call (ψ := fun (x23 : (Value × List Nat)) => pv x23.1) (args := [.tmp 32]) Try.call45 rfl (slices_Clone_api_Pair_api_Pair_ok h_t22) ⟨arg rfl, trivial⟩ (fun _ _ _ _ h => h)) (by intro _ h; cases h; rfl) (fun _ => ⟨⟨⟨rfl, rfl⟩, trivial⟩, ⟨trivial, ⟨trivial, ⟨trivial, ⟨trivial, trivial⟩⟩⟩⟩⟩) (fun x23 => ?_)
  refine a_rd (i := 7) hok rfl (by kernel_rfl) rfl (r_faddr (fo := 0) Try.underlying35 rfl rfl Try.sizeOf28 rfl) rfl ?_
  refine a_rd (i := 8) hok rfl (by kernel_rfl) rfl (r_faddr (fo := 1) Try.underlying28 rfl rfl Try.sizeOf26 rfl) rfl ?_
  refine pull fun t24 h_t24 => ?_
  refine a_next hok 6 [] (by kernel_rfl) ?_ trivial
  refine a_st (i := 6) hok rfl rfl (s_call (ψ := fun (x25 : (Value × List Nat)) => pv x25.1) (args := [.tmp 35]) Try.call46 rfl (slices_Clone_api_Move_api_Move_ok h_t24) ⟨arg rfl, trivial⟩ (fun _ _ _ _ h => h)) (by intro _ h; cases h; rfl) (fun _ => ⟨trivial, ⟨trivial, ⟨trivial, ⟨trivial, ⟨⟨⟨rfl, rfl⟩, trivial⟩, ⟨trivial, ⟨trivial, trivial⟩⟩⟩⟩⟩⟩⟩) (fun x25 => ?_)
  refine a_next hok 9 [] (by kernel_rfl) ?_ trivial
  refine a_st (i := 9) hok rfl rfl (s_cstore (out := [iv .i64 d_0.Graph.N, pv x23.1, iv .i64 d_0.Root, iv .i64 d_0.Limits.i0, iv .i64 d_0.Limits.i1, slv rT_api_Move d_0.Moves]) Try.sizeOf26 rfl (j := 0) rfl (part_own rfl (j := 3) rfl) rfl rfl rfl) (by intro _ h; cases h) (fun _ => ⟨trivial, ⟨trivial, ⟨trivial, ⟨trivial, ⟨trivial, ⟨trivial, ⟨trivial, trivial⟩⟩⟩⟩⟩⟩⟩) (fun _ => ?_)
  refine a_rd (i := 10) hok rfl (by kernel_rfl) rfl (r_faddr (fo := 5) Try.underlying35 rfl rfl Try.sizeOf23 rfl) rfl ?_
  refine a_next hok 11 [] (by kernel_rfl) ?_ trivial
  refine a_st (i := 11) hok rfl rfl (s_cstore (out := [iv .i64 d_0.Graph.N, pv x23.1, iv .i64 d_0.Root, iv .i64 d_0.Limits.i0, iv .i64 d_0.Limits.i1, pv x25.1]) Try.sizeOf23 rfl (j := 0) rfl (part_own rfl (j := 4) rfl) rfl rfl rfl) (by intro _ h; cases h) (fun _ => ⟨trivial, ⟨trivial, ⟨trivial, ⟨trivial, ⟨trivial, ⟨trivial, ⟨trivial, ⟨trivial, trivial⟩⟩⟩⟩⟩⟩⟩⟩) (fun _ => ?_)
  refine a_fin hok (by kernel_rfl) ?_
  refine b_of (nrm [oc b1 [iv .i64 d_0.Graph.N, pv x23.1, iv .i64 d_0.Root, iv .i64 d_0.Limits.i0, iv .i64 d_0.Limits.i1, pv x25.1], oc b4 [iv .i64 0, pv (.slice none 0 0), iv .i64 0, iv .i64 0, iv .i64 0, pv (.slice none 0 0)], oc b5 [slv (rI .i64) proponent_1.Pool, slv (rI .i64) proponent_1.Withheld, slv rT_api_Move proponent_1.Script, iv .i64 proponent_1.Style, slv (rI .i64) opponent_2.Pool, slv (rI .i64) opponent_2.Withheld, slv rT_api_Move opponent_2.Script, iv .i64 opponent_2.Style], oa rT_api_Pair x23.1 x23.2 t22, oa rT_api_Move x25.1 x25.2 t24] rfl) ?_
  refine n_then ?_
  refine b_of (frzGL [(33, slv rT_api_Pair t22)] [(0, b1, [iv .i64 d_0.Graph.N, slv rT_api_Pair t22, iv .i64 d_0.Root, iv .i64 d_0.Limits.i0, iv .i64 d_0.Limits.i1, pv x25.1])] (j := 3) rfl ⟨⟨_, rfl, .inl ⟨rfl, rfl⟩⟩, trivial⟩ ⟨⟨_, rfl, ⟨.inl rfl, .inr ⟨rfl, rfl⟩, .inl rfl, .inl rfl, .inl rfl, .inl rfl, trivial⟩⟩, trivial⟩) ?_
  refine b_of (frzGL [(36, slv rT_api_Move t24)] [(0, b1, [iv .i64 d_0.Graph.N, slv rT_api_Pair t22, iv .i64 d_0.Root, iv .i64 d_0.Limits.i0, iv .i64 d_0.Limits.i1, slv rT_api_Move t24])] (j := 4) rfl ⟨⟨_, rfl, .inl ⟨rfl, rfl⟩⟩, trivial⟩ ⟨⟨_, rfl, ⟨.inl rfl, .inl rfl, .inl rfl, .inl rfl, .inl rfl, .inr ⟨rfl, rfl⟩, trivial⟩⟩, trivial⟩) ?_
  refine ref_block (ref_loop (f := (participant_Run_l2 proponent_1 opponent_2)) (Γl := (fun (s48 : T_api_Dialogue) (x49 : Unit) => [(3, pv (ptr b1 0)), (6, pv (ptr b4 0)), (8, pv (ptr b5 0))])) (Ωl := (fun (s48 : T_api_Dialogue) (x49 : Unit) => [oc b1 [iv .i64 s48.Graph.N, slv rT_api_Pair s48.Graph.L, iv .i64 s48.Root, iv .i64 s48.Limits.i0, iv .i64 s48.Limits.i1, slv rT_api_Move s48.Moves], oc b4 [iv .i64 0, pv (.slice none 0 0), iv .i64 0, iv .i64 0, iv .i64 0, pv (.slice none 0 0)], oc b5 [slv (rI .i64) proponent_1.Pool, slv (rI .i64) proponent_1.Withheld, slv rT_api_Move proponent_1.Script, iv .i64 proponent_1.Style, slv (rI .i64) opponent_2.Pool, slv (rI .i64) opponent_2.Withheld, slv rT_api_Move opponent_2.Script, iv .i64 opponent_2.Style]])) (k := (fun a : T_api_Dialogue × Int => some a)) (T_api_Dialogue.mk (T_api_Graph.mk d_0.Graph.N t22) d_0.Root d_0.Limits t24) () (weak [0, 1, 2] ⟨rfl, rfl, rfl, trivial⟩ ⟨rfl, rfl, rfl, trivial⟩) (fun s48 x49 => ?_))
  · unfold participant_Run_l2
    refine ref_block (ref_seq (ref_region ?_))
    refine s_rd (r_cloadS Try.isAgg35 Try.sizeOf35 rfl (j := 0) rfl rfl rfl) rfl ?_
    refine pull fun turn50 h_turn50 => ?_
    refine s_st (s_call (ψ := fun (_ : Unit) => iv .i64 turn50) (args := [.tmp 40]) Try.call32 rfl (protocol_Turn_ok h_turn50) ⟨arg rfl, trivial⟩ (fun _ _ _ _ h => h)) rfl (fun _ => ?_)
    refine as1 rfl rfl ?_
    refine l_nil (n_then (ref_seq (ref_seq (ref_region ?_))))
    refine mv1 rfl rfl ?_
    refine s_rd (r_eql rfl rfl) rfl ?_
    refine l_nil (n_then ?_)
    refine ref_cond rfl (fun hb51 => ?_) (fun hb51 => ?_)
    · refine ref_seq (ref_region ?_)
      refine s_rd (r_cloadS Try.isAgg35 Try.sizeOf35 rfl (j := 0) rfl rfl rfl) rfl ?_
      refine s_st0 (s_cstore (out := [iv .i64 s48.Graph.N, slv rT_api_Pair s48.Graph.L, iv .i64 s48.Root, iv .i64 s48.Limits.i0, iv .i64 s48.Limits.i1, slv rT_api_Move s48.Moves]) Try.sizeOf35 rfl (j := 1) rfl (part_agO (ψs := [iv .i64 s48.Graph.N, slv rT_api_Pair s48.Graph.L, iv .i64 s48.Root, iv .i64 s48.Limits.i0, iv .i64 s48.Limits.i1, slv rT_api_Move s48.Moves]) rfl ⟨.inl iv_at, .inl slv_at, .inl iv_at, .inl iv_at, .inl iv_at, .inl slv_at, trivial⟩) rfl rfl rfl) (fun _ => ?_)
      refine as1 rfl rfl ?_
      refine l_nil (n_then (ref_ret (r_then (r_block ?_))))
      refine r_loop ?_
      refine r_block ?_
      exact fin2 (.inl rfl) () [] rfl trivial rfl (rv_cell rfl (j := 1) rfl Try.isAgg35 Try.sizeOf35 rfl rfl) (rv_tmp rfl)
    refine ref_skip (n_then (ref_seq ?_))
    refine pull fun t53 h_t53 => ?_
    refine pull fun t54 h_t54 => ?_
    refine ref_drawI 1 [⟨[], [], [], [0], [], fun us u => ag [iv .i64 s48.Graph.N, slv rT_api_Pair s48.Graph.L, iv .i64 s48.Root, iv .i64 s48.Limits.i0, iv .i64 s48.Limits.i1, slv rT_api_Move s48.Moves], fun us u => []⟩, ⟨[], [], [], [], [], fun us u => iv .i64 turn50, fun us u => []⟩, ⟨[1], [], [], [], [], fun us u => iv .i64 (isub .i64 turn50 1), fun us u => []⟩, ⟨[1, 2], [], [], [], [], fun us u => pv (ptr b5 (0 + Int.toNat (isub .i64 turn50 1) * (rT_api_Player).size)), fun us u => []⟩, ⟨[1, 2, 3], [], [], [2], [], fun us u => ag [slv (rI .i64) t53.Pool, slv (rI .i64) t53.Withheld, slv rT_api_Move t53.Script, iv .i64 t53.Style], fun us u => []⟩, ⟨[0, 1, 2, 3, 4], [], [], [], [], fun us u => tup [ag [iv .i64 t54.1.By, iv .i64 t54.1.Kind, iv .i64 t54.1.Node, iv .i64 t54.1.Target], iv .i64 t54.2], fun us u => []⟩, ⟨[0, 1, 2, 3, 4, 5], [], [], [], [], fun us u => tup [ag [iv .i64 t54.1.By, iv .i64 t54.1.Kind, iv .i64 t54.1.Node, iv .i64 t54.1.Target], iv .i64 t54.2], fun us u => []⟩, ⟨[0, 1, 2, 3, 4, 5, 6], [], [], [], [], fun us u => ag [iv .i64 t54.1.By, iv .i64 t54.1.Kind, iv .i64 t54.1.Node, iv .i64 t54.1.Target], fun us u => []⟩, ⟨[0, 1, 2, 3, 4, 5, 6], [], [], [], [], fun us u => iv .i64 t54.2, fun us u => []⟩, ⟨[], [], [3], [3], [], fun us u => pv (ptr u.Nn 0), fun us u => [oc u.Nn [iv .i64 0, iv .i64 0, iv .i64 0, iv .i64 0]]⟩, ⟨[0, 1, 2, 3, 4, 5, 6, 7, 9], [9], [3], [3], [3], fun us u => pv undef, fun us u => [oc (us.getD 0 .none).Nn [iv .i64 t54.1.By, iv .i64 t54.1.Kind, iv .i64 t54.1.Node, iv .i64 t54.1.Target]]⟩, ⟨[0, 1, 2, 3, 4, 5, 6, 7, 8, 9, 10], [], [], [], [], fun us u => iv .i64 t54.2, fun us u => []⟩] (fun χ52 => [(3, pv (ptr b1 0)), (6, pv (ptr b4 0)), (8, pv (ptr b5 0)), (13, pv (ptr (χ52 9).Nn 0)), (14, iv .i64 t54.2)]) (fun χ52 => [oc b1 [iv .i64 s48.Graph.N, slv rT_api_Pair s48.Graph.L, iv .i64 s48.Root, iv .i64 s48.Limits.i0, iv .i64 s48.Limits.i1, slv rT_api_Move s48.Moves], oc b4 [iv .i64 0, pv (.slice none 0 0), iv .i64 0, iv .i64 0, iv .i64 0, pv (.slice none 0 0)], oc b5 [slv (rI .i64) proponent_1.Pool, slv (rI .i64) proponent_1.Withheld, slv rT_api_Move proponent_1.Script, iv .i64 proponent_1.Style, slv (rI .i64) opponent_2.Pool, slv (rI .i64) opponent_2.Withheld, slv rT_api_Move opponent_2.Script, iv .i64 opponent_2.Style], oc (χ52 9).Nn [iv .i64 t54.1.By, iv .i64 t54.1.Kind, iv .i64 t54.1.Node, iv .i64 t54.1.Target]]) rfl (by kernel_rfl) ⟨fun χ52 Ω ⟨h0, _⟩ => St.toR (r_cloadS Try.isAgg35 Try.sizeOf35 rfl (j := 0) h0 rfl rfl) (fun _ => rfl) (fun _ => rfl), (by intro _ h; cases h; rfl), ⟨fun χ52 Ω _ => St.toR (r_move rfl) (fun _ => rfl) (fun _ => rfl), (by intro _ h; cases h; rfl), ⟨fun χ52 Ω _ => St.toR (r_sub rfl rfl) (fun _ => rfl) (fun _ => rfl), (by intro _ h; cases h; rfl), ⟨fun χ52 Ω _ => St.toR (r_aaddrS (ρ := rT_api_Player) h_t53 rfl rfl Try.underlying44 Try.sizeOf25 rfl rfl) (fun _ => rfl) (fun _ => rfl), (by intro _ h; cases h; rfl), ⟨fun χ52 Ω ⟨h2, _⟩ => St.toR (r_acloadS (ρ := rT_api_Player) (off := 0) h_t53 el_25 rfl (j := 2) h2 rfl rfl) (fun _ => rfl) (fun _ => rfl), (by intro _ h; cases h; rfl), ⟨fun χ52 Ω _ => St.to XU.U XU.hU (St.placeL [] (s_call (ψ := fun (_ : Unit) => tup [ag [iv .i64 t54.1.By, iv .i64 t54.1.Kind, iv .i64 t54.1.Node, iv .i64 t54.1.Target], iv .i64 t54.2]) (args := [.tmp 46, .tmp 50]) Try.call12 rfl (participant_Choose_ok h_t54) ⟨arg rfl, arg rfl, trivial⟩ (fun _ _ _ _ h => h)) (fun _ => rfl) (fun _ => trivial)) (fun _ => rfl) (fun _ => rfl), (by intro _ h; cases h; rfl), ⟨fun χ52 Ω _ => St.toR (r_move rfl) (fun _ => rfl) (fun _ => rfl), (by intro _ h; cases h; rfl), ⟨fun χ52 Ω _ => St.toR (r_extract rfl rfl) (fun _ => rfl) (fun _ => rfl), (by intro _ h; cases h; rfl), ⟨fun χ52 Ω _ => St.toR (r_extract rfl rfl) (fun _ => rfl) (fun _ => rfl), (by intro _ h; cases h; rfl), ⟨fun χ52 Ω ⟨h3, _⟩ => St.to XU.Nn XU.hN (St.placeL (os := fun _ => [_]) [3] (s_alloc zt_40) (fun _ => rfl) (fun _ => ⟨h3, rfl, trivial⟩)) (fun _ => rfl) (fun _ => rfl), (by intro _ h; cases h; rfl), ⟨fun χ52 Ω ⟨h3, _⟩ => St.to XU.U XU.hU (s_cstore (out := [iv .i64 t54.1.By, iv .i64 t54.1.Kind, iv .i64 t54.1.Node, iv .i64 t54.1.Target]) Try.sizeOf40 rfl (j := 3) h3 (part_agO (ψs := [iv .i64 t54.1.By, iv .i64 t54.1.Kind, iv .i64 t54.1.Node, iv .i64 t54.1.Target]) rfl ⟨.inl iv_at, .inl iv_at, .inl iv_at, .inl iv_at, trivial⟩) rfl rfl rfl) (fun _ => rfl) (fun _ => rfl), (by intro _ h; cases h), ⟨fun χ52 Ω _ => St.toR (r_assign rfl) (fun _ => rfl) (fun _ => rfl), (by intro _ h; cases h; rfl), trivial⟩⟩⟩⟩⟩⟩⟩⟩⟩⟩⟩⟩ (fun _ => ⟨rfl, rfl, rfl, rfl, rfl, trivial⟩) (fun _ => rfl) (fun χ52 => ?_)
    refine n_then (ref_seq (ref_seq (ref_region ?_)))
    refine mv1 rfl rfl ?_
    refine s_rd (r_neq rfl rfl) rfl ?_
    refine l_nil (n_then ?_)
    refine ref_cond rfl (fun hb56 => ?_) (fun hb56 => ?_)
    · refine ref_seq (ref_region ?_)
      refine s_rd (r_build (ps := []) (rs := []) st_35 zs_35 trivial rfl rfl) rfl ?_
      refine mv1 rfl rfl ?_
      refine s_st0 (s_cstore (out := [iv .i64 0, pv (.slice none 0 0), iv .i64 0, iv .i64 0, iv .i64 0, pv (.slice none 0 0)]) Try.sizeOf35 rfl (j := 1) rfl (part_agO (ψs := [iv .i64 0, pv (.slice none 0 0), iv .i64 0, iv .i64 0, iv .i64 0, pv (.slice none 0 0)]) rfl ⟨.inl iv_at, .inl (pv_at rfl), .inl iv_at, .inl iv_at, .inl iv_at, .inl (pv_at rfl), trivial⟩) rfl rfl rfl) (fun _ => ?_)
      refine as1 rfl rfl ?_
      refine l_nil (n_then (ref_ret (r_then (r_block ?_))))
      refine r_loop ?_
      refine r_block ?_
      refine b_of (ocW 1 [iv .i64 0, slv rT_api_Pair [], iv .i64 0, iv .i64 0, iv .i64 0, slv rT_api_Move []] rfl ⟨imp_rfl, nil_sl, imp_rfl, imp_rfl, imp_rfl, nil_sl, trivial⟩) ?_
      exact fin2 (.inl rfl) () [] rfl trivial rfl (rv_cell rfl (j := 1) rfl Try.isAgg35 Try.sizeOf35 rfl rfl) (rv_tmp rfl)
    refine ref_skip (n_then (ref_seq (ref_region ?_)))
    refine s_rd (r_cloadS Try.isAgg35 Try.sizeOf35 rfl (j := 0) rfl rfl rfl) rfl ?_
    refine s_rd (r_cloadS Try.isAgg40 Try.sizeOf40 rfl (j := 3) rfl rfl rfl) rfl ?_
    refine pull fun t57 h_t57 => ?_
    refine s_st (s_call (ψ := fun (_ : Unit) => tup [ag [iv .i64 t57.1.Graph.N, slv rT_api_Pair t57.1.Graph.L, iv .i64 t57.1.Root, iv .i64 t57.1.Limits.i0, iv .i64 t57.1.Limits.i1, slv rT_api_Move t57.1.Moves], iv .i64 t57.2]) (args := [.tmp 59, .tmp 60]) Try.call47 rfl (protocol_Apply_ok h_t57) ⟨arg rfl, arg rfl, trivial⟩ (fun _ _ _ _ h => h)) rfl (fun _ => ?_)
    refine mv1 rfl rfl ?_
    refine s_rd (r_extract rfl rfl) rfl ?_
    refine s_rd (r_extract rfl rfl) rfl ?_
    refine s_st0 (s_cstore (out := [iv .i64 t57.1.Graph.N, slv rT_api_Pair t57.1.Graph.L, iv .i64 t57.1.Root, iv .i64 t57.1.Limits.i0, iv .i64 t57.1.Limits.i1, slv rT_api_Move t57.1.Moves]) Try.sizeOf35 rfl (j := 0) rfl (part_agO (ψs := [iv .i64 t57.1.Graph.N, slv rT_api_Pair t57.1.Graph.L, iv .i64 t57.1.Root, iv .i64 t57.1.Limits.i0, iv .i64 t57.1.Limits.i1, slv rT_api_Move t57.1.Moves]) rfl ⟨.inl iv_at, .inl slv_at, .inl iv_at, .inl iv_at, .inl iv_at, .inl slv_at, trivial⟩) rfl rfl rfl) (fun _ => ?_)
    refine as1 rfl rfl ?_
    refine l_nil (n_then (ref_seq (ref_region ?_)))
    refine mv1 rfl rfl ?_
    refine s_rd (r_neq rfl rfl) rfl ?_
    refine l_nil (n_then ?_)
    refine ref_cond rfl (fun hb58 => ?_) (fun hb58 => ?_)
    · refine ref_seq (ref_region ?_)
      refine s_rd (r_build (ps := []) (rs := []) st_35 zs_35 trivial rfl rfl) rfl ?_
      refine mv1 rfl rfl ?_
      refine s_st0 (s_cstore (out := [iv .i64 0, pv (.slice none 0 0), iv .i64 0, iv .i64 0, iv .i64 0, pv (.slice none 0 0)]) Try.sizeOf35 rfl (j := 1) rfl (part_agO (ψs := [iv .i64 0, pv (.slice none 0 0), iv .i64 0, iv .i64 0, iv .i64 0, pv (.slice none 0 0)]) rfl ⟨.inl iv_at, .inl (pv_at rfl), .inl iv_at, .inl iv_at, .inl iv_at, .inl (pv_at rfl), trivial⟩) rfl rfl rfl) (fun _ => ?_)
      refine as1 rfl rfl ?_
      refine l_nil (n_then (ref_ret (r_block ?_)))
      refine r_loop ?_
      refine r_block ?_
      refine b_of (ocW 1 [iv .i64 0, slv rT_api_Pair [], iv .i64 0, iv .i64 0, iv .i64 0, slv rT_api_Move []] rfl ⟨imp_rfl, nil_sl, imp_rfl, imp_rfl, imp_rfl, nil_sl, trivial⟩) ?_
      exact fin2 (.inl rfl) () [] rfl trivial rfl (rv_cell rfl (j := 1) rfl Try.isAgg35 Try.sizeOf35 rfl rfl) (rv_tmp rfl)
    refine ref_skip (n_block ?_)
    exact n_loop () (weak [0, 1, 2] ⟨rfl, rfl, rfl, trivial⟩ ⟨rfl, rfl, rfl, trivial⟩)

/-! deliberation/deliberationref27.gone -/
noncomputable def ref27_gone_l2 (d_0 : T_api_Dialogue) (s45 : Int × (List Bool)) (s68 : Int × (List Bool)) : Option (Sum ((List Bool)) (Int × (List Bool))) :=
  bif decide (s68.1 < (d_0.Moves.length : Int)) then
    Option.bind (idxM s68.2 s45.1) fun t71 =>
    bif t71 then
      Option.bind (idxM s68.2 s45.1) fun t72 =>
      letM (iadd .i64 s68.1 1) fun k77 =>
      some (Sum.inr (k77, s68.2.set (Int.toNat s45.1) true))
    else
      Option.bind (idxM d_0.Moves s68.1) fun t73 =>
      bif t73.Kind == 3 then
        Option.bind (idxM d_0.Moves s68.1) fun t74 =>
        Option.bind (idxM s68.2 s45.1) fun t75 =>
        letM (iadd .i64 s68.1 1) fun k78 =>
        some (Sum.inr (k78, s68.2.set (Int.toNat s45.1) (t74.Target == s45.1)))
      else
        Option.bind (idxM s68.2 s45.1) fun t76 =>
        letM (iadd .i64 s68.1 1) fun k79 =>
        some (Sum.inr (k79, s68.2.set (Int.toNat s45.1) false))
  else
    some (Sum.inl s68.2)

noncomputable def ref27_gone_l1 (d_0 : T_api_Dialogue) (s45 : Int × (List Bool)) : Option (Sum ((List Bool)) (Int × (List Bool))) :=
  bif decide (s45.1 < (d_0.Moves.length : Int)) then
    Option.bind (idxM d_0.Moves s45.1) fun t48 =>
    joinM (fun j52 : (List Bool) =>
        letM (iadd .i64 s45.1 1) fun k55 =>
        Option.bind (loopC (ref27_gone_l2 d_0 s45) (k55, j52)) fun q80 : (List Bool) =>
        bif t48.Kind == 2 then
          Option.bind (idxM q80 s45.1) fun t83 =>
          bif t83 then
            Option.bind (idxM q80 s45.1) fun t84 =>
            letM (iadd .i64 s45.1 1) fun i87 =>
            some (Sum.inr (i87, q80.set (Int.toNat s45.1) true))
          else
            Option.bind (idxM q80 t48.Target) fun t85 =>
            Option.bind (idxM q80 s45.1) fun t86 =>
            letM (iadd .i64 s45.1 1) fun i88 =>
            some (Sum.inr (i88, q80.set (Int.toNat s45.1) t85))
        else
          letM (iadd .i64 s45.1 1) fun i89 =>
          some (Sum.inr (i89, q80))) fun k54 =>
    bif t48.Kind == 3 then
      Option.bind (idxM s45.2 s45.1) fun t50 =>
      k54 (s45.2.set (Int.toNat s45.1) true)
    else
      Option.bind (idxM s45.2 s45.1) fun t51 =>
      k54 (s45.2.set (Int.toNat s45.1) (t48.Kind == 4))
  else
    some (Sum.inl s45.2)

noncomputable def ref27_gone_m (d_0 : T_api_Dialogue) : Option (List Bool) :=
  Option.bind (mkM 1 false (d_0.Moves.length : Int)) fun out2 =>
  Option.bind (loopC (ref27_gone_l1 d_0) (0, out2)) fun q90 : (List Bool) =>
  some q90

theorem ref27_gone_ok {d_0 : T_api_Dialogue} {r : List Bool} (hm : ref27_gone_m d_0 = some r) :
    FnOk prog 77 [ag [iv .i64 d_0.Graph.N, slv rT_api_Pair d_0.Graph.L, iv .i64 d_0.Root, iv .i64 d_0.Limits.i0, iv .i64 d_0.Limits.i1, slv rT_api_Move d_0.Moves]] [] (fun (x : (Value × List Nat)) => [pv x.1]) (fun (x : (Value × List Nat)) => [oa rB x.1 x.2 r]) := by
  refine fn_ok (X := (Value × List Nat)) (fn := Try.f77) (N := 87) (res := fun r x => [pv x.1]) (Ω1 := fun r x => [oa rB x.1 x.2 r]) Try.func77 rfl rfl hm rfl (fun E hM => ?_)
  unfold ref27_gone_m
  refine ref_seq (ref_region ?_)
  refine s_st (s_box (part_agO (ψs := [iv .i64 d_0.Graph.N, slv rT_api_Pair d_0.Graph.L, iv .i64 d_0.Root, iv .i64 d_0.Limits.i0, iv .i64 d_0.Limits.i1, slv rT_api_Move d_0.Moves]) rfl ⟨.inl iv_at, .inl slv_at, .inl iv_at, .inl iv_at, .inl iv_at, .inl slv_at, trivial⟩)) rfl (fun b1 => ?_)
  refine as1 rfl rfl ?_
  refine l_nil (n_then (ref_seq (ref_region ?_)))
  refine s_rd (r_faddr (fo := 5) Try.underlying35 rfl rfl Try.sizeOf23 rfl) rfl ?_
  refine s_rd (r_cload Try.isAgg23 rfl (j := 0) rfl rfl) rfl ?_
  refine s_rd (r_len Try.underlying23 rfl) rfl ?_
  refine pull fun out2 h_out2 => ?_
  refine s_st (s_make h_out2 Try.underlying93 el_4 ze_4 rfl rfl) rfl (fun o3 => ?_)
  refine as1 rfl rfl ?_
  refine l_nil (n_then (ref_seq (ref_seq (ref_region ?_))))
  refine as1 rfl rfl ?_
  refine l_nil (n_then ?_)
  refine ref_loopB (f := (ref27_gone_l1 d_0)) (Γl := (fun (s45 : Int × (List Bool)) (x46 : Unit) => [(1, pv (ptr b1 0)), (3, pv o3.1), (4, iv .i64 s45.1)])) (Ωl := (fun (s45 : Int × (List Bool)) (x46 : Unit) => [oc b1 [iv .i64 d_0.Graph.N, slv rT_api_Pair d_0.Graph.L, iv .i64 d_0.Root, iv .i64 d_0.Limits.i0, iv .i64 d_0.Limits.i1, slv rT_api_Move d_0.Moves], oa rB o3.1 o3.2 s45.2])) (Γb := (fun (q90 : (List Bool)) (y91 : Unit) => [(3, pv o3.1)])) (Ωb := (fun (q90 : (List Bool)) (y91 : Unit) => [oa rB o3.1 o3.2 q90])) (0, out2) () (weak [0, 1] ⟨rfl, rfl, rfl, trivial⟩ ⟨rfl, rfl, trivial⟩) (fun s45 x46 => ?_) (fun q90 y91 => ?_)
  · unfold ref27_gone_l1
    refine ref_seq (ref_seq (ref_region ?_))
    refine mv1 rfl rfl ?_
    refine s_rd (r_faddr (fo := 5) Try.underlying35 rfl rfl Try.sizeOf23 rfl) rfl ?_
    refine s_rd (r_cload Try.isAgg23 rfl (j := 0) rfl rfl) rfl ?_
    refine s_rd (r_len Try.underlying23 rfl) rfl ?_
    refine s_rd (r_lss rfl rfl) rfl ?_
    refine l_nil (n_then ?_)
    refine ref_cond rfl (fun hb47 => ?_) (fun hb47 => ?_)
    · refine ref_skip (n_then (ref_seq (ref_block (ref_seq (ref_region ?_)))))
      refine s_rd (r_faddr (fo := 5) Try.underlying35 rfl rfl Try.sizeOf23 rfl) rfl ?_
      refine s_rd (r_cload Try.isAgg23 rfl (j := 0) rfl rfl) rfl ?_
      refine mv1 rfl rfl ?_
      refine pull fun t48 h_t48 => ?_
      refine s_rd (r_index h_t48 Try.underlying23 el_40 rfl rfl) rfl ?_
      refine s_rd (r_load el_40 rfl) rfl ?_
      refine s_st (s_alloc zt_40) rfl (fun b49 => ?_)
      refine s_st0 (s_cstore (out := [iv .i64 t48.By, iv .i64 t48.Kind, iv .i64 t48.Node, iv .i64 t48.Target]) Try.sizeOf40 rfl (j := 2) rfl (part_agO (ψs := [iv .i64 t48.By, iv .i64 t48.Kind, iv .i64 t48.Node, iv .i64 t48.Target]) rfl ⟨.inl iv_at, .inl iv_at, .inl iv_at, .inl iv_at, trivial⟩) rfl rfl rfl) (fun _ => ?_)
      refine l_nil ?_
      refine b_of (nrm [oc b1 [iv .i64 d_0.Graph.N, slv rT_api_Pair d_0.Graph.L, iv .i64 d_0.Root, iv .i64 d_0.Limits.i0, iv .i64 d_0.Limits.i1, slv rT_api_Move d_0.Moves], oa rB o3.1 o3.2 s45.2, oc b49 [iv .i64 t48.By, iv .i64 t48.Kind, iv .i64 t48.Node, iv .i64 t48.Target]] rfl) ?_
      refine n_then (ref_seq ?_)
      refine ref_join (fun (j52 : (List Bool)) (x53 : Unit) => [(1, pv (ptr b1 0)), (3, pv o3.1), (4, iv .i64 s45.1), (5, pv (ptr b49 0))]) (fun (j52 : (List Bool)) (x53 : Unit) => [oc b1 [iv .i64 d_0.Graph.N, slv rT_api_Pair d_0.Graph.L, iv .i64 d_0.Root, iv .i64 d_0.Limits.i0, iv .i64 d_0.Limits.i1, slv rT_api_Move d_0.Moves], oa rB o3.1 o3.2 j52, oc b49 [iv .i64 t48.By, iv .i64 t48.Kind, iv .i64 t48.Node, iv .i64 t48.Target]]) (fun k54 hk54 => ?_) (fun j52 x53 => ?_)
      · refine ref_region ?_
        refine mv1 rfl rfl ?_
        refine mv1 rfl rfl ?_
        refine s_rd (r_faddr (fo := 1) Try.underlying40 rfl rfl Try.sizeOf3 rfl) rfl ?_
        refine s_rd (r_cload Try.isAgg3 rfl (j := 2) rfl rfl) rfl ?_
        refine s_rd (r_eql rfl rfl) rfl ?_
        refine mv1 rfl rfl ?_
        refine b_split (t := 28) rfl (fun _ => ?_) (fun _ => ?_)
        · refine s_off rfl rfl rfl rfl rfl ?_
          refine s_off rfl rfl rfl rfl rfl ?_
          refine s_off rfl rfl rfl rfl rfl ?_
          refine s_rd (r_pickT rfl rfl) rfl ?_
          refine pull fun t50 h_t50 => ?_
          refine s_rd (r_oindex h_t50 Try.underlying93 el_4 rfl (j := 1) rfl rfl) rfl ?_
          refine s_st0 (s_ostore (u := true) h_t50 el_4 rfl (j := 1) rfl (part_at rfl bv_at)) (fun _ => ?_)
          refine l_nil ?_
          exact b_to (hk54 (s45.2.set (Int.toNat s45.1) true) ()) (weak [0, 1, 2] ⟨rfl, rfl, rfl, rfl, trivial⟩ ⟨rfl, rfl, rfl, trivial⟩)
        refine s_on rfl rfl rfl ?_
        refine s_rd (r_faddr (fo := 1) Try.underlying40 rfl rfl Try.sizeOf3 rfl) rfl ?_
        refine s_on rfl rfl rfl ?_
        refine s_rd (r_cload Try.isAgg3 rfl (j := 2) rfl rfl) rfl ?_
        refine s_on rfl rfl rfl ?_
        refine s_rd (r_eql rfl rfl) rfl ?_
        refine s_rd (r_pickF rfl rfl) rfl ?_
        refine pull fun t51 h_t51 => ?_
        refine s_rd (r_oindex h_t51 Try.underlying93 el_4 rfl (j := 1) rfl rfl) rfl ?_
        refine s_st0 (s_ostore (u := t48.Kind == 4) h_t51 el_4 rfl (j := 1) rfl (part_at rfl bv_at)) (fun _ => ?_)
        refine l_nil ?_
        exact b_to (hk54 (s45.2.set (Int.toNat s45.1) (t48.Kind == 4)) ()) (weak [0, 1, 2] ⟨rfl, rfl, rfl, rfl, trivial⟩ ⟨rfl, rfl, rfl, trivial⟩)
      refine n_then (ref_seq (ref_seq (ref_region ?_)))
      refine mv1 rfl rfl ?_
      refine s_rd (r_add rfl rfl) rfl ?_
      refine as1 rfl rfl ?_
      refine b_let (f := iv .i64) (t := 6) rfl fun k55 => ?_
      refine l_nil (n_then ?_)
      refine ref_loopB (f := (ref27_gone_l2 d_0 s45)) (Γl := (fun (s68 : Int × (List Bool)) (x69 : Unit) => [(1, pv (ptr b1 0)), (3, pv o3.1), (4, iv .i64 s45.1), (5, pv (ptr b49 0)), (6, iv .i64 s68.1)])) (Ωl := (fun (s68 : Int × (List Bool)) (x69 : Unit) => [oc b1 [iv .i64 d_0.Graph.N, slv rT_api_Pair d_0.Graph.L, iv .i64 d_0.Root, iv .i64 d_0.Limits.i0, iv .i64 d_0.Limits.i1, slv rT_api_Move d_0.Moves], oa rB o3.1 o3.2 s68.2, oc b49 [iv .i64 t48.By, iv .i64 t48.Kind, iv .i64 t48.Node, iv .i64 t48.Target]])) (Γb := (fun (q80 : (List Bool)) (y81 : Unit) => [(1, pv (ptr b1 0)), (3, pv o3.1), (4, iv .i64 s45.1), (5, pv (ptr b49 0))])) (Ωb := (fun (q80 : (List Bool)) (y81 : Unit) => [oc b1 [iv .i64 d_0.Graph.N, slv rT_api_Pair d_0.Graph.L, iv .i64 d_0.Root, iv .i64 d_0.Limits.i0, iv .i64 d_0.Limits.i1, slv rT_api_Move d_0.Moves], oa rB o3.1 o3.2 q80, oc b49 [iv .i64 t48.By, iv .i64 t48.Kind, iv .i64 t48.Node, iv .i64 t48.Target]])) (k55, j52) () (weak [0, 1, 2] ⟨rfl, rfl, rfl, rfl, rfl, trivial⟩ ⟨rfl, rfl, rfl, trivial⟩) (fun s68 x69 => ?_) (fun q80 y81 => ?_)
      · unfold ref27_gone_l2
        refine ref_seq (ref_seq (ref_region ?_))
        refine mv1 rfl rfl ?_
        refine s_rd (r_faddr (fo := 5) Try.underlying35 rfl rfl Try.sizeOf23 rfl) rfl ?_
        refine s_rd (r_cload Try.isAgg23 rfl (j := 0) rfl rfl) rfl ?_
        refine s_rd (r_len Try.underlying23 rfl) rfl ?_
        refine s_rd (r_lss rfl rfl) rfl ?_
        refine l_nil (n_then ?_)
        refine ref_cond rfl (fun hb70 => ?_) (fun hb70 => ?_)
        · refine ref_skip (n_then (ref_seq (ref_block (ref_region ?_))))
          refine mv1 rfl rfl ?_
          refine mv1 rfl rfl ?_
          refine mv1 rfl rfl ?_
          refine mv1 rfl rfl ?_
          refine pull fun t71 h_t71 => ?_
          refine s_rd (r_oindex h_t71 Try.underlying93 el_4 rfl (j := 1) rfl rfl) rfl ?_
          refine s_rd (r_oload h_t71 el_4 rfl (j := 1) rfl) rfl ?_
          refine mv1 rfl rfl ?_
          refine b_split (t := 49) rfl (fun _ => ?_) (fun _ => ?_)
          · refine s_off rfl rfl rfl rfl rfl ?_
            refine s_off rfl rfl rfl rfl rfl ?_
            refine s_off rfl rfl rfl rfl rfl ?_
            refine s_off rfl rfl rfl rfl rfl ?_
            refine s_off rfl rfl rfl rfl rfl ?_
            refine s_off rfl rfl rfl rfl rfl ?_
            refine s_off rfl rfl rfl rfl rfl ?_
            refine s_off rfl rfl rfl rfl rfl ?_
            refine s_offU rfl rfl rfl ?_
            refine s_offU rfl rfl rfl ?_
            refine s_offU rfl rfl rfl ?_
            refine s_offU rfl rfl rfl ?_
            refine s_offU rfl rfl rfl ?_
            refine s_offU rfl rfl rfl ?_
            refine s_offU rfl rfl rfl ?_
            refine s_offU rfl rfl rfl ?_
            refine s_off rfl rfl rfl rfl rfl ?_
            refine s_rd (r_pickT rfl rfl) rfl ?_
            refine pull fun t72 h_t72 => ?_
            refine s_rd (r_oindex h_t72 Try.underlying93 el_4 rfl (j := 1) rfl rfl) rfl ?_
            refine s_st0 (s_ostore (u := true) h_t72 el_4 rfl (j := 1) rfl (part_at rfl bv_at)) (fun _ => ?_)
            refine l_nil (n_block (n_then (ref_region ?_)))
            refine mv1 rfl rfl ?_
            refine s_rd (r_add rfl rfl) rfl ?_
            refine as1 rfl rfl ?_
            refine b_let (f := iv .i64) (t := 6) rfl fun k77 => ?_
            refine l_nil ?_
            exact goB () (weak [0, 1, 2] ⟨rfl, rfl, rfl, rfl, rfl, trivial⟩ ⟨rfl, rfl, rfl, trivial⟩)
          refine s_on rfl rfl rfl ?_
          refine s_rd (r_faddr (fo := 5) Try.underlying35 rfl rfl Try.sizeOf23 rfl) rfl ?_
          refine s_on rfl rfl rfl ?_
          refine s_rd (r_cload Try.isAgg23 rfl (j := 0) rfl rfl) rfl ?_
          refine s_on rfl rfl rfl ?_
          refine mv1 rfl rfl ?_
          refine s_on rfl rfl rfl ?_
          refine pull fun t73 h_t73 => ?_
          refine s_rd (r_index h_t73 Try.underlying23 el_40 rfl rfl) rfl ?_
          refine s_on rfl rfl rfl ?_
          refine s_rd (r_fea (fo := 1) (ρ := rT_api_Move) (y := t73) (ρ' := (rI .i64)) (z := t73.Kind) Try.underlying40 rfl rfl Try.sizeOf3 rfl rfl rfl) rfl ?_
          refine s_on rfl rfl rfl ?_
          refine s_rd (r_load el_3 rfl) rfl ?_
          refine s_on rfl rfl rfl ?_
          refine s_rd (r_eql rfl rfl) rfl ?_
          refine s_on rfl rfl rfl ?_
          refine mv1 rfl rfl ?_
          refine b_split (t := 57) rfl (fun _ => ?_) (fun _ => ?_)
          · refine s_on rfl rfl rfl ?_
            refine s_rd (r_faddr (fo := 5) Try.underlying35 rfl rfl Try.sizeOf23 rfl) rfl ?_
            refine s_on rfl rfl rfl ?_
            refine s_rd (r_cload Try.isAgg23 rfl (j := 0) rfl rfl) rfl ?_
            refine s_on rfl rfl rfl ?_
            refine mv1 rfl rfl ?_
            refine s_on rfl rfl rfl ?_
            refine pull fun t74 h_t74 => ?_
            refine s_rd (r_index h_t74 Try.underlying23 el_40 rfl rfl) rfl ?_
            refine s_on rfl rfl rfl ?_
            refine s_rd (r_fea (fo := 3) (ρ := rT_api_Move) (y := t74) (ρ' := (rI .i64)) (z := t74.Target) Try.underlying40 rfl rfl Try.sizeOf3 rfl rfl rfl) rfl ?_
            refine s_on rfl rfl rfl ?_
            refine s_rd (r_load el_3 rfl) rfl ?_
            refine s_on rfl rfl rfl ?_
            refine mv1 rfl rfl ?_
            refine s_on rfl rfl rfl ?_
            refine s_rd (r_eql rfl rfl) rfl ?_
            refine s_on rfl rfl rfl ?_
            refine s_rd (r_pickT rfl rfl) rfl ?_
            refine s_rd (r_pickF rfl rfl) rfl ?_
            refine pull fun t75 h_t75 => ?_
            refine s_rd (r_oindex h_t75 Try.underlying93 el_4 rfl (j := 1) rfl rfl) rfl ?_
            refine s_st0 (s_ostore (u := t74.Target == s45.1) h_t75 el_4 rfl (j := 1) rfl (part_at rfl bv_at)) (fun _ => ?_)
            refine l_nil (n_block (n_then (ref_region ?_)))
            refine mv1 rfl rfl ?_
            refine s_rd (r_add rfl rfl) rfl ?_
            refine as1 rfl rfl ?_
            refine b_let (f := iv .i64) (t := 6) rfl fun k78 => ?_
            refine l_nil ?_
            exact goB () (weak [0, 1, 2] ⟨rfl, rfl, rfl, rfl, rfl, trivial⟩ ⟨rfl, rfl, rfl, trivial⟩)
          refine s_off rfl rfl rfl rfl rfl ?_
          refine s_off rfl rfl rfl rfl rfl ?_
          refine s_off rfl rfl rfl rfl rfl ?_
          refine s_off rfl rfl rfl rfl rfl ?_
          refine s_off rfl rfl rfl rfl rfl ?_
          refine s_off rfl rfl rfl rfl rfl ?_
          refine s_off rfl rfl rfl rfl rfl ?_
          refine s_off rfl rfl rfl rfl rfl ?_
          refine s_on rfl rfl rfl ?_
          refine s_rd (r_pickF rfl rfl) rfl ?_
          refine s_rd (r_pickF rfl rfl) rfl ?_
          refine pull fun t76 h_t76 => ?_
          refine s_rd (r_oindex h_t76 Try.underlying93 el_4 rfl (j := 1) rfl rfl) rfl ?_
          refine s_st0 (s_ostore (u := false) h_t76 el_4 rfl (j := 1) rfl (part_at rfl bv_at)) (fun _ => ?_)
          refine l_nil (n_block (n_then (ref_region ?_)))
          refine mv1 rfl rfl ?_
          refine s_rd (r_add rfl rfl) rfl ?_
          refine as1 rfl rfl ?_
          refine b_let (f := iv .i64) (t := 6) rfl fun k79 => ?_
          refine l_nil ?_
          exact goB () (weak [0, 1, 2] ⟨rfl, rfl, rfl, rfl, rfl, trivial⟩ ⟨rfl, rfl, rfl, trivial⟩)
        refine ref_exit (x_then ?_)
        exact brkB () (weak [0, 1, 2] ⟨rfl, rfl, rfl, rfl, trivial⟩ ⟨rfl, rfl, rfl, trivial⟩)
      refine n_then (ref_seq (ref_region ?_))
      refine s_rd (r_faddr (fo := 1) Try.underlying40 rfl rfl Try.sizeOf3 rfl) rfl ?_
      refine s_rd (r_cload Try.isAgg3 rfl (j := 2) rfl rfl) rfl ?_
      refine s_rd (r_eql rfl rfl) rfl ?_
      refine l_nil (n_then ?_)
      refine ref_cond rfl (fun hb82 => ?_) (fun hb82 => ?_)
      · refine ref_region ?_
        refine mv1 rfl rfl ?_
        refine mv1 rfl rfl ?_
        refine mv1 rfl rfl ?_
        refine mv1 rfl rfl ?_
        refine pull fun t83 h_t83 => ?_
        refine s_rd (r_oindex h_t83 Try.underlying93 el_4 rfl (j := 1) rfl rfl) rfl ?_
        refine s_rd (r_oload h_t83 el_4 rfl (j := 1) rfl) rfl ?_
        refine mv1 rfl rfl ?_
        refine b_split (t := 78) rfl (fun _ => ?_) (fun _ => ?_)
        · refine s_off rfl rfl rfl rfl rfl ?_
          refine s_off rfl rfl rfl rfl rfl ?_
          refine s_off rfl rfl rfl rfl rfl ?_
          refine s_off rfl rfl rfl rfl rfl ?_
          refine s_off rfl rfl rfl rfl rfl ?_
          refine s_rd (r_pickT rfl rfl) rfl ?_
          refine pull fun t84 h_t84 => ?_
          refine s_rd (r_oindex h_t84 Try.underlying93 el_4 rfl (j := 1) rfl rfl) rfl ?_
          refine s_st0 (s_ostore (u := true) h_t84 el_4 rfl (j := 1) rfl (part_at rfl bv_at)) (fun _ => ?_)
          refine l_nil (n_block (n_then (ref_region ?_)))
          refine mv1 rfl rfl ?_
          refine s_rd (r_add rfl rfl) rfl ?_
          refine as1 rfl rfl ?_
          refine b_let (f := iv .i64) (t := 4) rfl fun i87 => ?_
          refine l_nil ?_
          exact goB () (weak [0, 1] ⟨rfl, rfl, rfl, trivial⟩ ⟨rfl, rfl, trivial⟩)
        refine s_on rfl rfl rfl ?_
        refine mv1 rfl rfl ?_
        refine s_on rfl rfl rfl ?_
        refine s_rd (r_faddr (fo := 3) Try.underlying40 rfl rfl Try.sizeOf3 rfl) rfl ?_
        refine s_on rfl rfl rfl ?_
        refine s_rd (r_cload Try.isAgg3 rfl (j := 2) rfl rfl) rfl ?_
        refine s_on rfl rfl rfl ?_
        refine pull fun t85 h_t85 => ?_
        refine s_rd (r_oindex h_t85 Try.underlying93 el_4 rfl (j := 1) rfl rfl) rfl ?_
        refine s_on rfl rfl rfl ?_
        refine s_rd (r_oload h_t85 el_4 rfl (j := 1) rfl) rfl ?_
        refine s_rd (r_pickF rfl rfl) rfl ?_
        refine pull fun t86 h_t86 => ?_
        refine s_rd (r_oindex h_t86 Try.underlying93 el_4 rfl (j := 1) rfl rfl) rfl ?_
        refine s_st0 (s_ostore (u := t85) h_t86 el_4 rfl (j := 1) rfl (part_at rfl bv_at)) (fun _ => ?_)
        refine l_nil (n_block (n_then (ref_region ?_)))
        refine mv1 rfl rfl ?_
        refine s_rd (r_add rfl rfl) rfl ?_
        refine as1 rfl rfl ?_
        refine b_let (f := iv .i64) (t := 4) rfl fun i88 => ?_
        refine l_nil ?_
        exact goB () (weak [0, 1] ⟨rfl, rfl, rfl, trivial⟩ ⟨rfl, rfl, trivial⟩)
      refine ref_skip (n_block (n_then (ref_region ?_)))
      refine mv1 rfl rfl ?_
      refine s_rd (r_add rfl rfl) rfl ?_
      refine as1 rfl rfl ?_
      refine b_let (f := iv .i64) (t := 4) rfl fun i89 => ?_
      refine l_nil ?_
      exact goB () (weak [0, 1] ⟨rfl, rfl, rfl, trivial⟩ ⟨rfl, rfl, trivial⟩)
    refine ref_exit (x_then ?_)
    exact brkB () (weak [1] ⟨rfl, trivial⟩ ⟨rfl, trivial⟩)
  refine n_then (ref_seq (ref_region ?_))
  refine mv1 rfl rfl ?_
  refine as1 rfl rfl ?_
  refine l_nil (n_then (ref_ret ?_))
  exact fin1 (.inl rfl) o3 [0] rfl ⟨rfl, trivial⟩ rfl (rv_tmp rfl)

/-! deliberation/deliberationref27.Status -/
noncomputable def ref27_Status_l2 (d_0 : T_api_Dialogue) (s51 : Int × (List Int)) (s82 : Int × (List Int)) : Option (Sum ((List Int)) (Int × (List Int))) :=
  bif decide (s82.1 < (d_0.Moves.length : Int)) then
    Option.bind (idxM d_0.Moves s82.1) fun t85 =>
    bif t85.Kind == 2 then
      Option.bind (idxM d_0.Moves s82.1) fun t86 =>
      bif t86.Target == s51.1 then
        Option.bind (idxM s82.2 s82.1) fun t87 =>
        bif t87 == 1 then
          Option.bind (idxM s82.2 s51.1) fun t89 =>
          letM (iadd .i64 s82.1 1) fun k90 =>
          some (Sum.inr (k90, s82.2.set (Int.toNat s51.1) 2))
        else
          letM (iadd .i64 s82.1 1) fun k91 =>
          some (Sum.inr (k91, s82.2))
      else
        letM (iadd .i64 s82.1 1) fun k92 =>
        some (Sum.inr (k92, s82.2))
    else
      letM (iadd .i64 s82.1 1) fun k93 =>
      some (Sum.inr (k93, s82.2))
  else
    some (Sum.inl s82.2)

noncomputable def ref27_Status_l1 (d_0 : T_api_Dialogue) (away2 : List Bool) (s51 : Int × (List Int)) : Option (Sum ((List Int)) (Int × (List Int))) :=
  bif decide (s51.1 ≥ 0) then
    Option.bind (idxM away2 s51.1) fun t54 =>
    bif t54 then
      letM (isub .i64 s51.1 1) fun i96 =>
      some (Sum.inr (i96, s51.2))
    else
      Option.bind (idxM s51.2 s51.1) fun t56 =>
      letM (iadd .i64 s51.1 1) fun k57 =>
      Option.bind (loopC (ref27_Status_l2 d_0 s51) (k57, s51.2.set (Int.toNat s51.1) 1)) fun q94 : (List Int) =>
      letM (isub .i64 s51.1 1) fun i97 =>
      some (Sum.inr (i97, q94))
  else
    some (Sum.inl s51.2)

noncomputable def ref27_Status_m (d_0 : T_api_Dialogue) : Option (List Int) :=
  Option.bind (ref27_gone_m d_0) fun away2 =>
  Option.bind (mkM 8 0 (d_0.Moves.length : Int)) fun out4 =>
  letM (isub .i64 (d_0.Moves.length : Int) 1) fun i6 =>
  Option.bind (loopC (ref27_Status_l1 d_0 away2) (i6, out4)) fun q98 : (List Int) =>
  some q98

theorem ref27_Status_ok {d_0 : T_api_Dialogue} {r : List Int} (hm : ref27_Status_m d_0 = some r) :
    FnOk prog 55 [ag [iv .i64 d_0.Graph.N, slv rT_api_Pair d_0.Graph.L, iv .i64 d_0.Root, iv .i64 d_0.Limits.i0, iv .i64 d_0.Limits.i1, slv rT_api_Move d_0.Moves]] [] (fun (x : (Value × List Nat)) => [pv x.1]) (fun (x : (Value × List Nat)) => [oa (rI .i64) x.1 x.2 r]) := by
  refine fn_ok (X := (Value × List Nat)) (fn := Try.f55) (N := 65) (res := fun r x => [pv x.1]) (Ω1 := fun r x => [oa (rI .i64) x.1 x.2 r]) Try.func55 rfl rfl hm rfl (fun E hM => ?_)
  unfold ref27_Status_m
  refine ref_seq (ref_region ?_)
  refine s_st (s_box (part_agO (ψs := [iv .i64 d_0.Graph.N, slv rT_api_Pair d_0.Graph.L, iv .i64 d_0.Root, iv .i64 d_0.Limits.i0, iv .i64 d_0.Limits.i1, slv rT_api_Move d_0.Moves]) rfl ⟨.inl iv_at, .inl slv_at, .inl iv_at, .inl iv_at, .inl iv_at, .inl slv_at, trivial⟩)) rfl (fun b1 => ?_)
  refine as1 rfl rfl ?_
  refine l_nil (n_then (ref_seq (ref_region ?_)))
  refine s_rd (r_cloadS Try.isAgg35 Try.sizeOf35 rfl (j := 0) rfl rfl rfl) rfl ?_
  refine pull fun away2 h_away2 => ?_
  refine s_st (s_call (ψ := fun (x3 : (Value × List Nat)) => pv x3.1) (args := [.tmp 7]) Try.call77 rfl (ref27_gone_ok h_away2) ⟨arg rfl, trivial⟩ (fun _ _ _ _ h => h)) rfl (fun x3 => ?_)
  refine as1 rfl rfl ?_
  refine l_nil (n_then (ref_seq (ref_region ?_)))
  refine s_rd (r_faddr (fo := 5) Try.underlying35 rfl rfl Try.sizeOf23 rfl) rfl ?_
  refine s_rd (r_cload Try.isAgg23 rfl (j := 0) rfl rfl) rfl ?_
  refine s_rd (r_len Try.underlying23 rfl) rfl ?_
  refine pull fun out4 h_out4 => ?_
  refine s_st (s_make h_out4 Try.underlying22 el_3 ze_3 rfl rfl) rfl (fun o5 => ?_)
  refine as1 rfl rfl ?_
  refine l_nil (n_then (ref_seq (ref_seq (ref_region ?_))))
  refine s_rd (r_faddr (fo := 5) Try.underlying35 rfl rfl Try.sizeOf23 rfl) rfl ?_
  refine s_rd (r_cload Try.isAgg23 rfl (j := 0) rfl rfl) rfl ?_
  refine s_rd (r_len Try.underlying23 rfl) rfl ?_
  refine s_rd (r_sub rfl rfl) rfl ?_
  refine as1 rfl rfl ?_
  refine b_let (f := iv .i64) (t := 5) rfl fun i6 => ?_
  refine l_nil (n_then ?_)
  refine ref_loopB (f := (ref27_Status_l1 d_0 away2)) (Γl := (fun (s51 : Int × (List Int)) (x52 : Unit) => [(1, pv (ptr b1 0)), (3, pv x3.1), (4, pv o5.1), (5, iv .i64 s51.1)])) (Ωl := (fun (s51 : Int × (List Int)) (x52 : Unit) => [oc b1 [iv .i64 d_0.Graph.N, slv rT_api_Pair d_0.Graph.L, iv .i64 d_0.Root, iv .i64 d_0.Limits.i0, iv .i64 d_0.Limits.i1, slv rT_api_Move d_0.Moves], oa rB x3.1 x3.2 away2, oa (rI .i64) o5.1 o5.2 s51.2])) (Γb := (fun (q98 : (List Int)) (y99 : Unit) => [(4, pv o5.1)])) (Ωb := (fun (q98 : (List Int)) (y99 : Unit) => [oa (rI .i64) o5.1 o5.2 q98])) (i6, out4) () (weak [0, 1, 2] ⟨rfl, rfl, rfl, rfl, trivial⟩ ⟨rfl, rfl, rfl, trivial⟩) (fun s51 x52 => ?_) (fun q98 y99 => ?_)
  · unfold ref27_Status_l1
    refine ref_seq (ref_seq (ref_region ?_))
    refine mv1 rfl rfl ?_
    refine s_rd (r_geq rfl rfl) rfl ?_
    refine l_nil (n_then ?_)
    refine ref_cond rfl (fun hb53 => ?_) (fun hb53 => ?_)
    · refine ref_skip (n_then (ref_seq (ref_block (ref_seq (ref_seq (ref_region ?_))))))
      refine mv1 rfl rfl ?_
      refine mv1 rfl rfl ?_
      refine pull fun t54 h_t54 => ?_
      refine s_rd (r_oindex h_t54 Try.underlying93 el_4 rfl (j := 1) rfl rfl) rfl ?_
      refine s_rd (r_oload h_t54 el_4 rfl (j := 1) rfl) rfl ?_
      refine l_nil (n_then ?_)
      refine ref_cond rfl (fun hb55 => ?_) (fun hb55 => ?_)
      · refine ref_exit (x_then (x_eq (n_then (ref_region ?_))))
        refine mv1 rfl rfl ?_
        refine s_rd (r_sub rfl rfl) rfl ?_
        refine as1 rfl rfl ?_
        refine b_let (f := iv .i64) (t := 5) rfl fun i96 => ?_
        refine l_nil ?_
        exact goB () (weak [0, 1, 2] ⟨rfl, rfl, rfl, rfl, trivial⟩ ⟨rfl, rfl, rfl, trivial⟩)
      refine ref_skip (n_then (ref_seq (ref_region ?_)))
      refine mv1 rfl rfl ?_
      refine mv1 rfl rfl ?_
      refine pull fun t56 h_t56 => ?_
      refine s_rd (r_oindex h_t56 Try.underlying22 el_3 rfl (j := 2) rfl rfl) rfl ?_
      refine s_st0 (s_ostore (u := 1) h_t56 el_3 rfl (j := 2) rfl (part_at rfl iv_at)) (fun _ => ?_)
      refine l_nil ?_
      refine b_of (nrm [oc b1 [iv .i64 d_0.Graph.N, slv rT_api_Pair d_0.Graph.L, iv .i64 d_0.Root, iv .i64 d_0.Limits.i0, iv .i64 d_0.Limits.i1, slv rT_api_Move d_0.Moves], oa rB x3.1 x3.2 away2, oa (rI .i64) o5.1 o5.2 (s51.2.set (Int.toNat s51.1) 1)] rfl) ?_
      refine n_then (ref_seq (ref_region ?_))
      refine mv1 rfl rfl ?_
      refine s_rd (r_add rfl rfl) rfl ?_
      refine as1 rfl rfl ?_
      refine b_let (f := iv .i64) (t := 6) rfl fun k57 => ?_
      refine l_nil (n_then ?_)
      refine ref_loopB (f := (ref27_Status_l2 d_0 s51)) (Γl := (fun (s82 : Int × (List Int)) (x83 : Unit) => [(1, pv (ptr b1 0)), (3, pv x3.1), (4, pv o5.1), (5, iv .i64 s51.1), (6, iv .i64 s82.1)])) (Ωl := (fun (s82 : Int × (List Int)) (x83 : Unit) => [oc b1 [iv .i64 d_0.Graph.N, slv rT_api_Pair d_0.Graph.L, iv .i64 d_0.Root, iv .i64 d_0.Limits.i0, iv .i64 d_0.Limits.i1, slv rT_api_Move d_0.Moves], oa rB x3.1 x3.2 away2, oa (rI .i64) o5.1 o5.2 s82.2])) (Γb := (fun (q94 : (List Int)) (y95 : Unit) => [(1, pv (ptr b1 0)), (3, pv x3.1), (4, pv o5.1), (5, iv .i64 s51.1)])) (Ωb := (fun (q94 : (List Int)) (y95 : Unit) => [oc b1 [iv .i64 d_0.Graph.N, slv rT_api_Pair d_0.Graph.L, iv .i64 d_0.Root, iv .i64 d_0.Limits.i0, iv .i64 d_0.Limits.i1, slv rT_api_Move d_0.Moves], oa rB x3.1 x3.2 away2, oa (rI .i64) o5.1 o5.2 q94])) (k57, s51.2.set (Int.toNat s51.1) 1) () (weak [0, 1, 2] ⟨rfl, rfl, rfl, rfl, rfl, trivial⟩ ⟨rfl, rfl, rfl, trivial⟩) (fun s82 x83 => ?_) (fun q94 y95 => ?_)
      · unfold ref27_Status_l2
        refine ref_seq (ref_seq (ref_region ?_))
        refine mv1 rfl rfl ?_
        refine s_rd (r_faddr (fo := 5) Try.underlying35 rfl rfl Try.sizeOf23 rfl) rfl ?_
        refine s_rd (r_cload Try.isAgg23 rfl (j := 0) rfl rfl) rfl ?_
        refine s_rd (r_len Try.underlying23 rfl) rfl ?_
        refine s_rd (r_lss rfl rfl) rfl ?_
        refine l_nil (n_then ?_)
        refine ref_cond rfl (fun hb84 => ?_) (fun hb84 => ?_)
        · refine ref_skip (n_then (ref_seq (ref_block (ref_seq (ref_region ?_)))))
          refine s_rd (r_faddr (fo := 5) Try.underlying35 rfl rfl Try.sizeOf23 rfl) rfl ?_
          refine s_rd (r_cload Try.isAgg23 rfl (j := 0) rfl rfl) rfl ?_
          refine mv1 rfl rfl ?_
          refine pull fun t85 h_t85 => ?_
          refine s_rd (r_index h_t85 Try.underlying23 el_40 rfl rfl) rfl ?_
          refine s_rd (r_fea (fo := 1) (ρ := rT_api_Move) (y := t85) (ρ' := (rI .i64)) (z := t85.Kind) Try.underlying40 rfl rfl Try.sizeOf3 rfl rfl rfl) rfl ?_
          refine s_rd (r_load el_3 rfl) rfl ?_
          refine s_rd (r_eql rfl rfl) rfl ?_
          refine mv1 rfl rfl ?_
          refine b_split (t := 44) rfl (fun _ => ?_) (fun _ => ?_)
          · refine s_on rfl rfl rfl ?_
            refine s_rd (r_faddr (fo := 5) Try.underlying35 rfl rfl Try.sizeOf23 rfl) rfl ?_
            refine s_on rfl rfl rfl ?_
            refine s_rd (r_cload Try.isAgg23 rfl (j := 0) rfl rfl) rfl ?_
            refine s_on rfl rfl rfl ?_
            refine mv1 rfl rfl ?_
            refine s_on rfl rfl rfl ?_
            refine pull fun t86 h_t86 => ?_
            refine s_rd (r_index h_t86 Try.underlying23 el_40 rfl rfl) rfl ?_
            refine s_on rfl rfl rfl ?_
            refine s_rd (r_fea (fo := 3) (ρ := rT_api_Move) (y := t86) (ρ' := (rI .i64)) (z := t86.Target) Try.underlying40 rfl rfl Try.sizeOf3 rfl rfl rfl) rfl ?_
            refine s_on rfl rfl rfl ?_
            refine s_rd (r_load el_3 rfl) rfl ?_
            refine s_on rfl rfl rfl ?_
            refine mv1 rfl rfl ?_
            refine s_on rfl rfl rfl ?_
            refine s_rd (r_eql rfl rfl) rfl ?_
            refine s_rd (r_pickT rfl rfl) rfl ?_
            refine mv1 rfl rfl ?_
            refine b_split (t := 54) rfl (fun _ => ?_) (fun _ => ?_)
            · refine s_on rfl rfl rfl ?_
              refine mv1 rfl rfl ?_
              refine s_on rfl rfl rfl ?_
              refine mv1 rfl rfl ?_
              refine s_on rfl rfl rfl ?_
              refine pull fun t87 h_t87 => ?_
              refine s_rd (r_oindex h_t87 Try.underlying22 el_3 rfl (j := 2) rfl rfl) rfl ?_
              refine s_on rfl rfl rfl ?_
              refine s_rd (r_oload h_t87 el_3 rfl (j := 2) rfl) rfl ?_
              refine s_on rfl rfl rfl ?_
              refine s_rd (r_eql rfl rfl) rfl ?_
              refine s_rd (r_pickT rfl rfl) rfl ?_
              refine l_nil (n_then ?_)
              refine ref_cond rfl (fun hb88 => ?_) (fun hb88 => ?_)
              · refine ref_region ?_
                refine mv1 rfl rfl ?_
                refine mv1 rfl rfl ?_
                refine pull fun t89 h_t89 => ?_
                refine s_rd (r_oindex h_t89 Try.underlying22 el_3 rfl (j := 2) rfl rfl) rfl ?_
                refine s_st0 (s_ostore (u := 2) h_t89 el_3 rfl (j := 2) rfl (part_at rfl iv_at)) (fun _ => ?_)
                refine l_nil (n_block (n_then (ref_region ?_)))
                refine mv1 rfl rfl ?_
                refine s_rd (r_add rfl rfl) rfl ?_
                refine as1 rfl rfl ?_
                refine b_let (f := iv .i64) (t := 6) rfl fun k90 => ?_
                refine l_nil ?_
                exact goB () (weak [0, 1, 2] ⟨rfl, rfl, rfl, rfl, rfl, trivial⟩ ⟨rfl, rfl, rfl, trivial⟩)
              refine ref_skip (n_block (n_then (ref_region ?_)))
              refine mv1 rfl rfl ?_
              refine s_rd (r_add rfl rfl) rfl ?_
              refine as1 rfl rfl ?_
              refine b_let (f := iv .i64) (t := 6) rfl fun k91 => ?_
              refine l_nil ?_
              exact goB () (weak [0, 1, 2] ⟨rfl, rfl, rfl, rfl, rfl, trivial⟩ ⟨rfl, rfl, rfl, trivial⟩)
            refine s_off rfl rfl rfl rfl rfl ?_
            refine s_off rfl rfl rfl rfl rfl ?_
            refine s_off rfl rfl rfl rfl rfl ?_
            refine s_off rfl rfl rfl rfl rfl ?_
            refine s_off rfl rfl rfl rfl rfl ?_
            refine s_rd (r_pickF rfl rfl) rfl ?_
            refine l_nil (n_then ?_)
            refine ref_condF rfl rfl ?_
            refine ref_skip (n_block (n_then (ref_region ?_)))
            refine mv1 rfl rfl ?_
            refine s_rd (r_add rfl rfl) rfl ?_
            refine as1 rfl rfl ?_
            refine b_let (f := iv .i64) (t := 6) rfl fun k92 => ?_
            refine l_nil ?_
            exact goB () (weak [0, 1, 2] ⟨rfl, rfl, rfl, rfl, rfl, trivial⟩ ⟨rfl, rfl, rfl, trivial⟩)
          refine s_off rfl rfl rfl rfl rfl ?_
          refine s_off rfl rfl rfl rfl rfl ?_
          refine s_off rfl rfl rfl rfl rfl ?_
          refine s_off rfl rfl rfl rfl rfl ?_
          refine s_off rfl rfl rfl rfl rfl ?_
          refine s_off rfl rfl rfl rfl rfl ?_
          refine s_off rfl rfl rfl rfl rfl ?_
          refine s_off rfl rfl rfl rfl rfl ?_
          refine s_rd (r_pickF rfl rfl) rfl ?_
          refine mv1 rfl rfl ?_
          refine s_off rfl rfl rfl rfl rfl ?_
          refine s_off rfl rfl rfl rfl rfl ?_
          refine s_off rfl rfl rfl rfl rfl ?_
          refine s_off rfl rfl rfl rfl rfl ?_
          refine s_off rfl rfl rfl rfl rfl ?_
          refine s_rd (r_pickF rfl rfl) rfl ?_
          refine l_nil (n_then ?_)
          refine ref_condF rfl rfl ?_
          refine ref_skip (n_block (n_then (ref_region ?_)))
          refine mv1 rfl rfl ?_
          refine s_rd (r_add rfl rfl) rfl ?_
          refine as1 rfl rfl ?_
          refine b_let (f := iv .i64) (t := 6) rfl fun k93 => ?_
          refine l_nil ?_
          exact goB () (weak [0, 1, 2] ⟨rfl, rfl, rfl, rfl, rfl, trivial⟩ ⟨rfl, rfl, rfl, trivial⟩)
        refine ref_exit (x_then ?_)
        exact brkB () (weak [0, 1, 2] ⟨rfl, rfl, rfl, rfl, trivial⟩ ⟨rfl, rfl, rfl, trivial⟩)
      refine n_block (n_then (ref_region ?_))
      refine mv1 rfl rfl ?_
      refine s_rd (r_sub rfl rfl) rfl ?_
      refine as1 rfl rfl ?_
      refine b_let (f := iv .i64) (t := 5) rfl fun i97 => ?_
      refine l_nil ?_
      exact goB () (weak [0, 1, 2] ⟨rfl, rfl, rfl, rfl, trivial⟩ ⟨rfl, rfl, rfl, trivial⟩)
    refine ref_exit (x_then ?_)
    exact brkB () (weak [2] ⟨rfl, trivial⟩ ⟨rfl, trivial⟩)
  refine n_then (ref_seq (ref_region ?_))
  refine mv1 rfl rfl ?_
  refine as1 rfl rfl ?_
  refine l_nil (n_then (ref_ret ?_))
  exact fin1 (.inl rfl) o5 [0] rfl ⟨rfl, trivial⟩ rfl (rv_tmp rfl)

/-! deliberation/deliberationref27.leader -/
noncomputable def ref27_leader_m (status_0 : (List Int)) : Option (Int) :=
  Option.bind (idxM status_0 0) fun t1 =>
  bif t1 == 1 then
    some 1
  else
    some 2

theorem ref27_leader_ok {status_0 : (List Int)} {r : Int} (hm : ref27_leader_m status_0 = some r) :
    FnOk prog 54 [slv (rI .i64) status_0] [] (fun (x : Unit) => [iv .i64 r]) (fun (x : Unit) => []) := by
  refine fn_ok (fn := Try.f54) (N := 7) (res := fun r x => [iv .i64 r]) (Ω1 := fun r x => []) Try.func54 rfl rfl hm rfl (fun E hM => ?_)
  unfold ref27_leader_m
  refine ref_seq (ref_region ?_)
  refine as1 rfl rfl ?_
  refine l_nil (n_then (ref_seq (ref_seq (ref_region ?_))))
  refine mv1 rfl rfl ?_
  refine pull fun t1 h_t1 => ?_
  refine s_rd (r_index h_t1 Try.underlying22 el_3 rfl rfl) rfl ?_
  refine s_rd (r_load el_3 rfl) rfl ?_
  refine s_rd (r_eql rfl rfl) rfl ?_
  refine l_nil (n_then ?_)
  refine ref_cond rfl (fun hb2 => ?_) (fun hb2 => ?_)
  · refine ref_seq (ref_region ?_)
    refine as1 rfl rfl ?_
    refine l_nil (n_then (ref_ret (r_then ?_)))
    exact fin1 (.inl rfl) () [] rfl trivial rfl (rv_tmp rfl)
  refine ref_skip (n_then (ref_seq (ref_region ?_)))
  refine as1 rfl rfl ?_
  refine l_nil (n_then (ref_ret ?_))
  exact fin1 (.inl rfl) () [] rfl trivial rfl (rv_tmp rfl)

/-! deliberation/deliberationnet.In -/
noncomputable def net_In_l1 (l_0 : (List Int)) (x_1 : Int) (s6 : Int) : Option (Sum ((Sum (Bool) (Unit))) (Int)) :=
  bif decide (s6 < (l_0.length : Int)) then
    Option.bind (idxM l_0 s6) fun t9 =>
    bif t9 == x_1 then
      some (Sum.inl (Sum.inl true))
    else
      some (Sum.inr (iadd .i64 s6 1))
  else
    some (Sum.inl (Sum.inr ()))

noncomputable def net_In_m (l_0 : (List Int)) (x_1 : Int) : Option (Bool) :=
  Option.bind (loopC (net_In_l1 l_0 x_1) 0) (sumK (fun a : Bool => some a) fun q11 : Unit =>
    some false)

theorem net_In_ok {l_0 : (List Int)} {x_1 : Int} {r : Bool} (hm : net_In_m l_0 x_1 = some r) :
    FnOk prog 57 [slv (rI .i64) l_0, iv .i64 x_1] [] (fun (x : Unit) => [bv r]) (fun (x : Unit) => []) := by
  refine fn_ok (fn := Try.f57) (N := 18) (res := fun r x => [bv r]) (Ω1 := fun r x => []) Try.func57 rfl rfl hm rfl (fun E hM => ?_)
  unfold net_In_m
  refine ref_seq (ref_region ?_)
  refine as1 rfl rfl ?_
  refine l_nil (n_then (ref_seq (ref_seq (ref_region ?_))))
  refine as1 rfl rfl ?_
  refine l_nil (n_then ?_)
  refine ref_loopX (f := (net_In_l1 l_0 x_1)) (Γl := (fun (s6 : Int) (x7 : Unit) => [(0, slv (rI .i64) l_0), (1, iv .i64 x_1), (5, iv .i64 s6)])) (Ωl := (fun (s6 : Int) (x7 : Unit) => [])) (Γb := (fun (q11 : Unit) (y12 : Unit) => [])) (Ωb := (fun (q11 : Unit) (y12 : Unit) => [])) (kr := (fun a : Bool => some a)) 0 () (weak [] ⟨rfl, rfl, rfl, trivial⟩ trivial) (fun s6 x7 => ?_) (fun q11 y12 => ?_)
  · unfold net_In_l1
    refine ref_seq (ref_seq (ref_region ?_))
    refine mv1 rfl rfl ?_
    refine mv1 rfl rfl ?_
    refine s_rd (r_len Try.underlying22 rfl) rfl ?_
    refine s_rd (r_lss rfl rfl) rfl ?_
    refine l_nil (n_then ?_)
    refine ref_cond rfl (fun hb8 => ?_) (fun hb8 => ?_)
    · refine ref_skip (n_then (ref_seq (ref_block (ref_seq (ref_region ?_)))))
      refine mv1 rfl rfl ?_
      refine mv1 rfl rfl ?_
      refine pull fun t9 h_t9 => ?_
      refine s_rd (r_index h_t9 Try.underlying22 el_3 rfl rfl) rfl ?_
      refine s_rd (r_load el_3 rfl) rfl ?_
      refine mv1 rfl rfl ?_
      refine s_rd (r_eql rfl rfl) rfl ?_
      refine l_nil (n_then ?_)
      refine ref_cond rfl (fun hb10 => ?_) (fun hb10 => ?_)
      · refine ref_seq (ref_region ?_)
        refine as1 rfl rfl ?_
        refine l_nil (n_then (ref_ret (r_block (r_then ?_))))
        refine retX ?_
        refine r_block (r_then ?_)
        exact fin1 (.inl rfl) () [] rfl trivial rfl (rv_tmp rfl)
      refine ref_skip (n_block (n_then (ref_region ?_)))
      refine mv1 rfl rfl ?_
      refine s_rd (r_add rfl rfl) rfl ?_
      refine as1 rfl rfl ?_
      refine l_nil ?_
      exact goX () (weak [] ⟨rfl, rfl, rfl, trivial⟩ trivial)
    refine ref_exit (x_then ?_)
    exact brkX () (weak [] trivial trivial)
  refine n_then (ref_seq (ref_region ?_))
  refine as1 rfl rfl ?_
  refine l_nil (n_then (ref_ret ?_))
  exact fin1 (.inl rfl) () [] rfl trivial rfl (rv_tmp rfl)

/-! deliberation/deliberationref27.Leading -/
noncomputable def ref27_Leading_l1 (d_0 : T_api_Dialogue) (status2 : List Int) (s22 : Int × (List Int)) : Option (Sum ((List Int)) (Int × (List Int))) :=
  bif decide (s22.1 < (d_0.Moves.length : Int)) then
    Option.bind (idxM d_0.Moves s22.1) fun t25 =>
    Option.bind (idxM status2 s22.1) fun t27 =>
    bif t27 == 0 then
      letM (iadd .i64 s22.1 1) fun i39 =>
      some (Sum.inr (i39, s22.2))
    else
      Option.bind (net_In_m s22.2 t25.Target) fun t28 =>
      bif !t28 then
        letM (iadd .i64 s22.1 1) fun i40 =>
        some (Sum.inr (i40, s22.2))
      else
        joinM (fun j33 : Bool =>
            bif j33 then
              Option.bind (appM 8 s22.2 [s22.1]) fun out37 =>
              letM (iadd .i64 s22.1 1) fun i41 =>
              some (Sum.inr (i41, out37))
            else
              letM (iadd .i64 s22.1 1) fun i42 =>
              some (Sum.inr (i42, s22.2))) fun k35 =>
        Option.bind (idxM d_0.Moves t25.Target) fun t30 =>
        Option.bind (ref27_leader_m status2) fun t31 =>
        bif t30.By == t31 then
          k35 true
        else
          Option.bind (idxM status2 s22.1) fun t32 =>
          k35 (t32 == 1)
  else
    some (Sum.inl s22.2)

noncomputable def ref27_Leading_m (d_0 : T_api_Dialogue) : Option (List Int) :=
  Option.bind (ref27_Status_m d_0) fun status2 =>
  Option.bind (loopC (ref27_Leading_l1 d_0 status2) (1, [0])) fun q43 : (List Int) =>
  some q43

theorem ref27_Leading_ok {d_0 : T_api_Dialogue} {r : List Int} (hm : ref27_Leading_m d_0 = some r) :
    FnOk prog 78 [ag [iv .i64 d_0.Graph.N, slv rT_api_Pair d_0.Graph.L, iv .i64 d_0.Root, iv .i64 d_0.Limits.i0, iv .i64 d_0.Limits.i1, slv rT_api_Move d_0.Moves]] [] (fun (x : (Value × List Nat)) => [pv x.1]) (fun (x : (Value × List Nat)) => [oa (rI .i64) x.1 x.2 r]) := by
  refine fn_ok (X := (Value × List Nat)) (fn := Try.f78) (N := 56) (res := fun r x => [pv x.1]) (Ω1 := fun r x => [oa (rI .i64) x.1 x.2 r]) Try.func78 rfl rfl hm rfl (fun E hM => ?_)
  unfold ref27_Leading_m
  refine ref_seq (ref_region ?_)
  refine s_st (s_box (part_agO (ψs := [iv .i64 d_0.Graph.N, slv rT_api_Pair d_0.Graph.L, iv .i64 d_0.Root, iv .i64 d_0.Limits.i0, iv .i64 d_0.Limits.i1, slv rT_api_Move d_0.Moves]) rfl ⟨.inl iv_at, .inl slv_at, .inl iv_at, .inl iv_at, .inl iv_at, .inl slv_at, trivial⟩)) rfl (fun b1 => ?_)
  refine as1 rfl rfl ?_
  refine l_nil (n_then (ref_seq (ref_region ?_)))
  refine s_rd (r_cloadS Try.isAgg35 Try.sizeOf35 rfl (j := 0) rfl rfl rfl) rfl ?_
  refine pull fun status2 h_status2 => ?_
  refine s_st (s_call (ψ := fun (x3 : (Value × List Nat)) => pv x3.1) (args := [.tmp 7]) Try.call55 rfl (ref27_Status_ok h_status2) ⟨arg rfl, trivial⟩ (fun _ _ _ _ h => h)) rfl (fun x3 => ?_)
  refine as1 rfl rfl ?_
  refine l_nil (n_then (ref_seq (ref_region ?_)))
  refine s_st (s_bsliceO (xs := [.const (.int .i64 (0))]) (ds := [0]) Try.underlying22 el_3 rfl (Nat.le_of_ble_eq_true rfl) ⟨(part_at rfl iv_at), trivial⟩) rfl (fun o4 => ?_)
  refine as1 rfl rfl ?_
  refine l_nil (n_then (ref_seq (ref_seq (ref_region ?_))))
  refine as1 rfl rfl ?_
  refine l_nil (n_then ?_)
  refine ref_loopB (f := (ref27_Leading_l1 d_0 status2)) (Γl := (fun (s22 : Int × (List Int)) (x23 : (Value × List Nat)) => [(1, pv (ptr b1 0)), (3, pv x3.1), (4, pv x23.1), (5, iv .i64 s22.1)])) (Ωl := (fun (s22 : Int × (List Int)) (x23 : (Value × List Nat)) => [oc b1 [iv .i64 d_0.Graph.N, slv rT_api_Pair d_0.Graph.L, iv .i64 d_0.Root, iv .i64 d_0.Limits.i0, iv .i64 d_0.Limits.i1, slv rT_api_Move d_0.Moves], oa (rI .i64) x3.1 x3.2 status2, oa (rI .i64) x23.1 x23.2 s22.2])) (Γb := (fun (q43 : (List Int)) (y44 : (Value × List Nat)) => [(4, pv y44.1)])) (Ωb := (fun (q43 : (List Int)) (y44 : (Value × List Nat)) => [oa (rI .i64) y44.1 y44.2 q43])) (1, [0]) o4 (weak [0, 1, 2] ⟨rfl, rfl, rfl, rfl, trivial⟩ ⟨rfl, rfl, rfl, trivial⟩) (fun s22 x23 => ?_) (fun q43 y44 => ?_)
  · unfold ref27_Leading_l1
    refine ref_seq (ref_seq (ref_region ?_))
    refine mv1 rfl rfl ?_
    refine s_rd (r_faddr (fo := 5) Try.underlying35 rfl rfl Try.sizeOf23 rfl) rfl ?_
    refine s_rd (r_cload Try.isAgg23 rfl (j := 0) rfl rfl) rfl ?_
    refine s_rd (r_len Try.underlying23 rfl) rfl ?_
    refine s_rd (r_lss rfl rfl) rfl ?_
    refine l_nil (n_then ?_)
    refine ref_cond rfl (fun hb24 => ?_) (fun hb24 => ?_)
    · refine ref_skip (n_then (ref_seq (ref_block (ref_seq (ref_region ?_)))))
      refine s_rd (r_faddr (fo := 5) Try.underlying35 rfl rfl Try.sizeOf23 rfl) rfl ?_
      refine s_rd (r_cload Try.isAgg23 rfl (j := 0) rfl rfl) rfl ?_
      refine mv1 rfl rfl ?_
      refine pull fun t25 h_t25 => ?_
      refine s_rd (r_index h_t25 Try.underlying23 el_40 rfl rfl) rfl ?_
      refine s_rd (r_load el_40 rfl) rfl ?_
      refine s_st (s_alloc zt_40) rfl (fun b26 => ?_)
      refine s_st0 (s_cstore (out := [iv .i64 t25.By, iv .i64 t25.Kind, iv .i64 t25.Node, iv .i64 t25.Target]) Try.sizeOf40 rfl (j := 3) rfl (part_agO (ψs := [iv .i64 t25.By, iv .i64 t25.Kind, iv .i64 t25.Node, iv .i64 t25.Target]) rfl ⟨.inl iv_at, .inl iv_at, .inl iv_at, .inl iv_at, trivial⟩) rfl rfl rfl) (fun _ => ?_)
      refine l_nil ?_
      refine b_of (nrm [oc b1 [iv .i64 d_0.Graph.N, slv rT_api_Pair d_0.Graph.L, iv .i64 d_0.Root, iv .i64 d_0.Limits.i0, iv .i64 d_0.Limits.i1, slv rT_api_Move d_0.Moves], oa (rI .i64) x3.1 x3.2 status2, oa (rI .i64) x23.1 x23.2 s22.2, oc b26 [iv .i64 t25.By, iv .i64 t25.Kind, iv .i64 t25.Node, iv .i64 t25.Target]] rfl) ?_
      refine n_then (ref_seq (ref_seq (ref_region ?_)))
      refine mv1 rfl rfl ?_
      refine mv1 rfl rfl ?_
      refine pull fun t27 h_t27 => ?_
      refine s_rd (r_oindex h_t27 Try.underlying22 el_3 rfl (j := 1) rfl rfl) rfl ?_
      refine s_rd (r_oload h_t27 el_3 rfl (j := 1) rfl) rfl ?_
      refine s_rd (r_eql rfl rfl) rfl ?_
      refine mv1 rfl rfl ?_
      refine b_split (t := 27) rfl (fun _ => ?_) (fun _ => ?_)
      · refine s_off rfl rfl rfl rfl rfl ?_
        refine s_off rfl rfl rfl rfl rfl ?_
        refine s_off rfl rfl rfl rfl rfl ?_
        refine s_off rfl rfl rfl rfl rfl ?_
        refine s_off rfl rfl rfl rfl rfl ?_
        refine s_rd (r_pickT rfl rfl) rfl ?_
        refine l_nil (n_then ?_)
        refine ref_condT rfl rfl ?_
        refine ref_exit (x_then (x_eq (n_then (ref_region ?_))))
        refine mv1 rfl rfl ?_
        refine s_rd (r_add rfl rfl) rfl ?_
        refine as1 rfl rfl ?_
        refine b_let (f := iv .i64) (t := 5) rfl fun i39 => ?_
        refine l_nil ?_
        exact goB x23 (weak [0, 1, 2] ⟨rfl, rfl, rfl, rfl, trivial⟩ ⟨rfl, rfl, rfl, trivial⟩)
      refine s_on rfl rfl rfl ?_
      refine mv1 rfl rfl ?_
      refine s_on rfl rfl rfl ?_
      refine s_rd (r_faddr (fo := 3) Try.underlying40 rfl rfl Try.sizeOf3 rfl) rfl ?_
      refine s_on rfl rfl rfl ?_
      refine s_rd (r_cload Try.isAgg3 rfl (j := 3) rfl rfl) rfl ?_
      refine s_on rfl rfl rfl ?_
      refine pull fun t28 h_t28 => ?_
      refine s_st (s_callB (ψ := fun (_ : Unit) => bv t28) (args := [.tmp 28, .tmp 30]) Try.call57 rfl (net_In_ok h_t28) ⟨argO rfl (j := 2) rfl, argB rfl, trivial⟩ (fun _ _ _ _ _ h => h)) rfl (fun _ => ?_)
      refine s_on rfl rfl rfl ?_
      refine s_rd (r_not rfl) rfl ?_
      refine s_rd (r_pickF rfl rfl) rfl ?_
      refine l_nil (n_then ?_)
      refine ref_cond rfl (fun hb29 => ?_) (fun hb29 => ?_)
      · refine ref_exit (x_then (x_eq (n_then (ref_region ?_))))
        refine mv1 rfl rfl ?_
        refine s_rd (r_add rfl rfl) rfl ?_
        refine as1 rfl rfl ?_
        refine b_let (f := iv .i64) (t := 5) rfl fun i40 => ?_
        refine l_nil ?_
        exact goB x23 (weak [0, 1, 2] ⟨rfl, rfl, rfl, rfl, trivial⟩ ⟨rfl, rfl, rfl, trivial⟩)
      refine ref_skip (n_then (ref_seq ?_))
      refine ref_join (fun (j33 : Bool) (x34 : Unit) => [(1, pv (ptr b1 0)), (3, pv x3.1), (4, pv x23.1), (5, iv .i64 s22.1), (28, pv x23.1), (29, pv (ptr b26 3)), (30, iv .i64 t25.Target), (31, bv t28), (32, bv (!t28)), (50, bv j33)]) (fun (j33 : Bool) (x34 : Unit) => [oc b1 [iv .i64 d_0.Graph.N, slv rT_api_Pair d_0.Graph.L, iv .i64 d_0.Root, iv .i64 d_0.Limits.i0, iv .i64 d_0.Limits.i1, slv rT_api_Move d_0.Moves], oa (rI .i64) x3.1 x3.2 status2, oa (rI .i64) x23.1 x23.2 s22.2, oc b26 [iv .i64 t25.By, iv .i64 t25.Kind, iv .i64 t25.Node, iv .i64 t25.Target]]) (fun k35 hk35 => ?_) (fun j33 x34 => ?_)
      · refine ref_draw [0, 1, 2, 3, 4, 5, 6, 7, 9, 10, 11, 12, 13, 14, 15, 16] rfl (by kernel_rfl) (fun hok => ?_)
        refine a_rd (i := 0) hok rfl (by kernel_rfl) rfl (r_faddr (fo := 5) Try.underlying35 rfl rfl Try.sizeOf23 rfl) rfl ?_
        refine a_rd (i := 1) hok rfl (by kernel_rfl) rfl (r_cload Try.isAgg23 rfl (j := 0) rfl rfl) rfl ?_
        refine a_rd (i := 2) hok rfl (by kernel_rfl) rfl (r_faddr (fo := 3) Try.underlying40 rfl rfl Try.sizeOf3 rfl) rfl ?_
        refine a_rd (i := 3) hok rfl (by kernel_rfl) rfl (r_cload Try.isAgg3 rfl (j := 3) rfl rfl) rfl ?_
        refine pull fun t30 h_t30 => ?_
        refine a_rd (i := 4) hok rfl (by kernel_rfl) rfl (r_index h_t30 Try.underlying23 el_40 rfl rfl) rfl ?_
        refine a_rd (i := 5) hok rfl (by kernel_rfl) rfl (r_fea (fo := 0) (ρ := rT_api_Move) (y := t30) (ρ' := (rI .i64)) (z := t30.By) Try.underlying40 rfl rfl Try.sizeOf3 rfl rfl rfl) rfl ?_
        refine a_rd (i := 6) hok rfl (by kernel_rfl) rfl (r_load el_3 rfl) rfl ?_
        refine a_rd (i := 7) hok rfl (by kernel_rfl) rfl (r_move rfl) rfl ?_
        refine pull fun t31 h_t31 => ?_
        refine a_next hok 8 [] (by kernel_rfl) ?_ trivial
        refine a_st (i := 8) hok rfl rfl (s_callB (ψ := fun (_ : Unit) => iv .i64 t31) (args := [.tmp 41]) Try.call54 rfl (ref27_leader_ok h_t31) ⟨argO rfl (j := 1) rfl, trivial⟩ (fun _ _ _ _ _ h => h)) (by intro _ h; cases h; rfl) (fun _ => ⟨trivial, ⟨trivial, ⟨trivial, ⟨trivial, ⟨⟨⟨rfl, rfl⟩, trivial⟩, ⟨trivial, ⟨⟨⟨rfl, rfl⟩, trivial⟩, ⟨trivial, trivial⟩⟩⟩⟩⟩⟩⟩⟩) (fun _ => ?_)
        refine a_rd (i := 9) hok rfl (by kernel_rfl) rfl (r_eql rfl rfl) rfl ?_
        refine a_rd (i := 10) hok rfl (by kernel_rfl) rfl (r_move rfl) rfl ?_
        refine b_split (t := 44) rfl (fun _ => ?_) (fun _ => ?_)
        · refine a_off (i := 11) hok rfl rfl rfl rfl rfl (by kernel_rfl) rfl rfl ?_
          refine a_off (i := 12) hok rfl rfl rfl rfl rfl (by kernel_rfl) rfl rfl ?_
          refine a_off (i := 13) hok rfl rfl rfl rfl rfl (by kernel_rfl) rfl rfl ?_
          refine a_off (i := 14) hok rfl rfl rfl rfl rfl (by kernel_rfl) rfl rfl ?_
          refine a_off (i := 15) hok rfl rfl rfl rfl rfl (by kernel_rfl) rfl rfl ?_
          refine a_rd (i := 16) hok rfl (by kernel_rfl) rfl (r_pickT rfl rfl) rfl ?_
          refine a_fin hok (by kernel_rfl) ?_
          exact b_to (hk35 true ()) (weak [0, 1, 2, 3] ⟨rfl, rfl, rfl, rfl, rfl, rfl, rfl, rfl, rfl, rfl, trivial⟩ ⟨rfl, rfl, rfl, rfl, trivial⟩)
        refine a_rdOn (i := 11) hok rfl rfl rfl rfl (by kernel_rfl) rfl (r_move rfl) rfl ?_
        refine a_rdOn (i := 12) hok rfl rfl rfl rfl (by kernel_rfl) rfl (r_move rfl) rfl ?_
        refine pull fun t32 h_t32 => ?_
        refine a_rdOn (i := 13) hok rfl rfl rfl rfl (by kernel_rfl) rfl (r_oindex h_t32 Try.underlying22 el_3 rfl (j := 1) rfl rfl) rfl ?_
        refine a_rdOn (i := 14) hok rfl rfl rfl rfl (by kernel_rfl) rfl (r_oload h_t32 el_3 rfl (j := 1) rfl) rfl ?_
        refine a_rdOn (i := 15) hok rfl rfl rfl rfl (by kernel_rfl) rfl (r_eql rfl rfl) rfl ?_
        refine a_rd (i := 16) hok rfl (by kernel_rfl) rfl (r_pickF rfl rfl) rfl ?_
        refine a_fin hok (by kernel_rfl) ?_
        exact b_to (hk35 (t32 == 1) ()) (weak [0, 1, 2, 3] ⟨rfl, rfl, rfl, rfl, rfl, rfl, rfl, rfl, rfl, rfl, trivial⟩ ⟨rfl, rfl, rfl, rfl, trivial⟩)
      refine n_then ?_
      refine ref_cond rfl (fun hb36 => ?_) (fun hb36 => ?_)
      · refine ref_region ?_
        refine mv1 rfl rfl ?_
        refine mv1 rfl rfl ?_
        refine s_st (s_bslice (xs := [.tmp 52]) (ds := [s22.1]) Try.underlying22 el_3 rfl (Nat.le_of_ble_eq_true rfl) ⟨(part_at rfl iv_at), trivial⟩) rfl (fun _ => ?_)
        refine pull fun out37 h_out37 => ?_
        refine s_st (s_append h_out37 Try.underlying22 el_3 rfl (j := 2) rfl rfl) rfl (fun o38 => ?_)
        refine as1 rfl rfl ?_
        refine l_nil (n_block (n_then (ref_region ?_)))
        refine mv1 rfl rfl ?_
        refine s_rd (r_add rfl rfl) rfl ?_
        refine as1 rfl rfl ?_
        refine b_let (f := iv .i64) (t := 5) rfl fun i41 => ?_
        refine l_nil ?_
        exact goB o38 (weak [0, 1, 2] ⟨rfl, rfl, rfl, rfl, trivial⟩ ⟨rfl, rfl, rfl, trivial⟩)
      refine ref_skip (n_block (n_then (ref_region ?_)))
      refine mv1 rfl rfl ?_
      refine s_rd (r_add rfl rfl) rfl ?_
      refine as1 rfl rfl ?_
      refine b_let (f := iv .i64) (t := 5) rfl fun i42 => ?_
      refine l_nil ?_
      exact goB x23 (weak [0, 1, 2] ⟨rfl, rfl, rfl, rfl, trivial⟩ ⟨rfl, rfl, rfl, trivial⟩)
    refine ref_exit (x_then ?_)
    exact brkB x23 (weak [2] ⟨rfl, trivial⟩ ⟨rfl, trivial⟩)
  refine n_then (ref_seq (ref_region ?_))
  refine mv1 rfl rfl ?_
  refine as1 rfl rfl ?_
  refine l_nil (n_then (ref_ret ?_))
  exact fin1 (.inl rfl) y44 [0] rfl ⟨rfl, trivial⟩ rfl (rv_tmp rfl)

/-! deliberation/deliberationnet.Has -/
noncomputable def net_Has_l1 (g_0 : T_api_Graph) (from__1 : Int) (to__2 : Int) (s8 : Int) : Option (Sum ((Sum (Bool) (Unit))) (Int)) :=
  bif decide (s8 < (g_0.L.length : Int)) then
    Option.bind (idxM g_0.L s8) fun t11 =>
    bif t11.From == from__1 then
      Option.bind (idxM g_0.L s8) fun t12 =>
      bif t12.To == to__2 then
        some (Sum.inl (Sum.inl true))
      else
        some (Sum.inr (iadd .i64 s8 1))
    else
      some (Sum.inr (iadd .i64 s8 1))
  else
    some (Sum.inl (Sum.inr ()))

noncomputable def net_Has_m (g_0 : T_api_Graph) (from__1 : Int) (to__2 : Int) : Option (Bool) :=
  Option.bind (loopC (net_Has_l1 g_0 from__1 to__2) 0) (sumK (fun a : Bool => some a) fun q14 : Unit =>
    some false)

theorem net_Has_ok {g_0 : T_api_Graph} {from__1 : Int} {to__2 : Int} {r : Bool} (hm : net_Has_m g_0 from__1 to__2 = some r) :
    FnOk prog 58 [ag [iv .i64 g_0.N, slv rT_api_Pair g_0.L], iv .i64 from__1, iv .i64 to__2] [] (fun (x : Unit) => [bv r]) (fun (x : Unit) => []) := by
  refine fn_ok (fn := Try.f58) (N := 33) (res := fun r x => [bv r]) (Ω1 := fun r x => []) Try.func58 rfl rfl hm rfl (fun E hM => ?_)
  unfold net_Has_m
  refine ref_seq (ref_region ?_)
  refine s_st (s_box (part_agO (ψs := [iv .i64 g_0.N, slv rT_api_Pair g_0.L]) rfl ⟨.inl iv_at, .inl slv_at, trivial⟩)) rfl (fun b1 => ?_)
  refine as1 rfl rfl ?_
  refine l_nil (n_then (ref_seq (ref_seq (ref_region ?_))))
  refine as1 rfl rfl ?_
  refine l_nil (n_then ?_)
  refine ref_loopX (f := (net_Has_l1 g_0 from__1 to__2)) (Γl := (fun (s8 : Int) (x9 : Unit) => [(1, iv .i64 from__1), (2, iv .i64 to__2), (3, pv (ptr b1 0)), (7, iv .i64 s8)])) (Ωl := (fun (s8 : Int) (x9 : Unit) => [oc b1 [iv .i64 g_0.N, slv rT_api_Pair g_0.L]])) (Γb := (fun (q14 : Unit) (y15 : Unit) => [])) (Ωb := (fun (q14 : Unit) (y15 : Unit) => [])) (kr := (fun a : Bool => some a)) 0 () (weak [0] ⟨rfl, rfl, rfl, rfl, trivial⟩ ⟨rfl, trivial⟩) (fun s8 x9 => ?_) (fun q14 y15 => ?_)
  · unfold net_Has_l1
    refine ref_seq (ref_seq (ref_region ?_))
    refine mv1 rfl rfl ?_
    refine s_rd (r_faddr (fo := 1) Try.underlying28 rfl rfl Try.sizeOf26 rfl) rfl ?_
    refine s_rd (r_cload Try.isAgg26 rfl (j := 0) rfl rfl) rfl ?_
    refine s_rd (r_len Try.underlying26 rfl) rfl ?_
    refine s_rd (r_lss rfl rfl) rfl ?_
    refine l_nil (n_then ?_)
    refine ref_cond rfl (fun hb10 => ?_) (fun hb10 => ?_)
    · refine ref_skip (n_then (ref_seq (ref_block (ref_seq (ref_region ?_)))))
      refine s_rd (r_faddr (fo := 1) Try.underlying28 rfl rfl Try.sizeOf26 rfl) rfl ?_
      refine s_rd (r_cload Try.isAgg26 rfl (j := 0) rfl rfl) rfl ?_
      refine mv1 rfl rfl ?_
      refine pull fun t11 h_t11 => ?_
      refine s_rd (r_index h_t11 Try.underlying26 el_67 rfl rfl) rfl ?_
      refine s_rd (r_fea (fo := 0) (ρ := rT_api_Pair) (y := t11) (ρ' := (rI .i64)) (z := t11.From) Try.underlying67 rfl rfl Try.sizeOf3 rfl rfl rfl) rfl ?_
      refine s_rd (r_load el_3 rfl) rfl ?_
      refine mv1 rfl rfl ?_
      refine s_rd (r_eql rfl rfl) rfl ?_
      refine mv1 rfl rfl ?_
      refine b_split (t := 23) rfl (fun _ => ?_) (fun _ => ?_)
      · refine s_on rfl rfl rfl ?_
        refine s_rd (r_faddr (fo := 1) Try.underlying28 rfl rfl Try.sizeOf26 rfl) rfl ?_
        refine s_on rfl rfl rfl ?_
        refine s_rd (r_cload Try.isAgg26 rfl (j := 0) rfl rfl) rfl ?_
        refine s_on rfl rfl rfl ?_
        refine mv1 rfl rfl ?_
        refine s_on rfl rfl rfl ?_
        refine pull fun t12 h_t12 => ?_
        refine s_rd (r_index h_t12 Try.underlying26 el_67 rfl rfl) rfl ?_
        refine s_on rfl rfl rfl ?_
        refine s_rd (r_fea (fo := 1) (ρ := rT_api_Pair) (y := t12) (ρ' := (rI .i64)) (z := t12.To) Try.underlying67 rfl rfl Try.sizeOf3 rfl rfl rfl) rfl ?_
        refine s_on rfl rfl rfl ?_
        refine s_rd (r_load el_3 rfl) rfl ?_
        refine s_on rfl rfl rfl ?_
        refine mv1 rfl rfl ?_
        refine s_on rfl rfl rfl ?_
        refine s_rd (r_eql rfl rfl) rfl ?_
        refine s_rd (r_pickT rfl rfl) rfl ?_
        refine l_nil (n_then ?_)
        refine ref_cond rfl (fun hb13 => ?_) (fun hb13 => ?_)
        · refine ref_seq (ref_region ?_)
          refine as1 rfl rfl ?_
          refine l_nil (n_then (ref_ret (r_block (r_then ?_))))
          refine retX ?_
          refine r_block (r_then ?_)
          exact fin1 (.inl rfl) () [] rfl trivial rfl (rv_tmp rfl)
        refine ref_skip (n_block (n_then (ref_region ?_)))
        refine mv1 rfl rfl ?_
        refine s_rd (r_add rfl rfl) rfl ?_
        refine as1 rfl rfl ?_
        refine l_nil ?_
        exact goX () (weak [0] ⟨rfl, rfl, rfl, rfl, trivial⟩ ⟨rfl, trivial⟩)
      refine s_off rfl rfl rfl rfl rfl ?_
      refine s_off rfl rfl rfl rfl rfl ?_
      refine s_off rfl rfl rfl rfl rfl ?_
      refine s_off rfl rfl rfl rfl rfl ?_
      refine s_off rfl rfl rfl rfl rfl ?_
      refine s_off rfl rfl rfl rfl rfl ?_
      refine s_off rfl rfl rfl rfl rfl ?_
      refine s_off rfl rfl rfl rfl rfl ?_
      refine s_rd (r_pickF rfl rfl) rfl ?_
      refine l_nil (n_then ?_)
      refine ref_condF rfl rfl ?_
      refine ref_skip (n_block (n_then (ref_region ?_)))
      refine mv1 rfl rfl ?_
      refine s_rd (r_add rfl rfl) rfl ?_
      refine as1 rfl rfl ?_
      refine l_nil ?_
      exact goX () (weak [0] ⟨rfl, rfl, rfl, rfl, trivial⟩ ⟨rfl, trivial⟩)
    refine ref_exit (x_then ?_)
    exact brkX () (weak [] trivial trivial)
  refine n_then (ref_seq (ref_region ?_))
  refine as1 rfl rfl ?_
  refine l_nil (n_then (ref_ret ?_))
  exact fin1 (.inl rfl) () [] rfl trivial rfl (rv_tmp rfl)

end Go.Dc
