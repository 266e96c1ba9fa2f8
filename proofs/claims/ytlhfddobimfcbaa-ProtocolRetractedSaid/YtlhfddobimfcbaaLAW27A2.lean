/- Part LAW27.A2 of a proof that a law of the program returns true: general lemmas, no condition. -/
import Derived.Test.YtlhfddobimfcbaaLAW27A1
import Derived.Test.YtlhfddobimfcbaaProg
set_option linter.unusedVariables false
set_option maxRecDepth 100000
set_option maxHeartbeats 4000000
namespace Go.Dc
open Go.Proofs
open Go.Proofs.Try (prog)

/-! deliberation/protocol.Apply -/
noncomputable def protocol_Apply_m (d_0 : T_api_Dialogue) (m_1 : T_api_Move) : Option (T_api_Dialogue × Int) :=
  Option.bind (protocol_Turn_m d_0) fun t4 =>
  bif t4 == 0 then
    some ((T_api_Dialogue.mk (T_api_Graph.mk 0 []) 0 (T_arr2_3.mk 0 0) []), 7)
  else
    Option.bind (protocol_of_m d_0) fun t7 =>
    Option.bind (protocol_table_judged_m t7 m_1) fun t8 =>
    bif t8.2 != 0 then
      some ((T_api_Dialogue.mk (T_api_Graph.mk 0 []) 0 (T_arr2_3.mk 0 0) []), t8.2)
    else
      Option.bind (slices_Clone_api_Pair_api_Pair_m d_0.Graph.L) fun t12 =>
      Option.bind (slices_Clone_api_Move_api_Move_m d_0.Moves) fun t15 =>
      Option.bind (appM 32 t15 [t8.1]) fun t17 =>
      some ((T_api_Dialogue.mk (T_api_Graph.mk d_0.Graph.N t12) d_0.Root d_0.Limits t17), 0)

theorem protocol_Apply_ok {d_0 : T_api_Dialogue} {m_1 : T_api_Move} {r : T_api_Dialogue × Int} (hm : protocol_Apply_m d_0 m_1 = some r) :
    FnOk prog 13 [ag [iv .i64 d_0.Graph.N, slv rT_api_Pair d_0.Graph.L, iv .i64 d_0.Root, iv .i64 d_0.Limits.i0, iv .i64 d_0.Limits.i1, slv rT_api_Move d_0.Moves], ag [iv .i64 m_1.By, iv .i64 m_1.Kind, iv .i64 m_1.Node, iv .i64 m_1.Target]] [] (fun (x : Unit) => [ag [iv .i64 r.1.Graph.N, slv rT_api_Pair r.1.Graph.L, iv .i64 r.1.Root, iv .i64 r.1.Limits.i0, iv .i64 r.1.Limits.i1, slv rT_api_Move r.1.Moves], iv .i64 r.2]) (fun (x : Unit) => []) := by
  refine fn_ok (X := Unit) (fn := Try.f13) (N := 39) (m := protocol_Apply_m d_0 m_1) (res := fun r x => [ag [iv .i64 r.1.Graph.N, slv rT_api_Pair r.1.Graph.L, iv .i64 r.1.Root, iv .i64 r.1.Limits.i0, iv .i64 r.1.Limits.i1, slv rT_api_Move r.1.Moves], iv .i64 r.2]) (Ω1 := fun r x => []) Try.func13 rfl rfl hm rfl (fun E hM => ?_)
  unfold protocol_Apply_m
  refine ref_seq ?_
  refine ref_region ?_
  refine s_st (s_box (part_ag (ψs := [iv .i64 d_0.Graph.N, slv rT_api_Pair d_0.Graph.L, iv .i64 d_0.Root, iv .i64 d_0.Limits.i0, iv .i64 d_0.Limits.i1, slv rT_api_Move d_0.Moves]) rfl (by intro φ h; simp only [List.mem_cons, List.not_mem_nil, or_false] at h; rcases h with rfl | rfl | rfl | rfl | rfl | rfl <;> first | exact iv_at | exact bv_at | exact sv_at | exact slv_at | exact pv_at rfl))) rfl (fun b1 => ?_)
  refine s_st (s_box (part_ag (ψs := [iv .i64 m_1.By, iv .i64 m_1.Kind, iv .i64 m_1.Node, iv .i64 m_1.Target]) rfl (by intro φ h; simp only [List.mem_cons, List.not_mem_nil, or_false] at h; rcases h with rfl | rfl | rfl | rfl <;> first | exact iv_at | exact bv_at | exact sv_at | exact slv_at | exact pv_at rfl))) rfl (fun b2 => ?_)
  refine s_st (s_alloc zt_31) rfl (fun b3 => ?_)
  refine s_rd (r_assign rfl) rfl ?_
  refine l_nil ?_
  refine n_then ?_
  refine ref_seq ?_
  refine ref_seq ?_
  refine ref_region ?_
  refine s_rd (r_cloadS Try.isAgg31 Try.sizeOf31 rfl (j := 0) rfl rfl rfl) rfl ?_
  refine pull fun t4 h_t4 => ?_
  refine s_st (s_call (ψ := fun (_ : Unit) => iv .i64 t4) (args := [.tmp 9]) Try.call23 rfl (protocol_Turn_ok h_t4) ⟨arg rfl, trivial⟩ (fun _ _ _ _ h => h)) rfl (fun _ => ?_)
  refine s_rd (r_eql rfl rfl) rfl ?_
  refine l_nil ?_
  refine b_of (nrm [oc b1 [iv .i64 d_0.Graph.N, slv rT_api_Pair d_0.Graph.L, iv .i64 d_0.Root, iv .i64 d_0.Limits.i0, iv .i64 d_0.Limits.i1, slv rT_api_Move d_0.Moves], oc b2 [iv .i64 m_1.By, iv .i64 m_1.Kind, iv .i64 m_1.Node, iv .i64 m_1.Target], oc b3 [iv .i64 0, pv (.slice none 0 0), iv .i64 0, iv .i64 0, iv .i64 0, pv (.slice none 0 0)]] rfl) ?_
  refine n_then ?_
  refine ref_cond rfl (fun hb5 => ?_) (fun hb5 => ?_)
  · refine ref_seq ?_
    refine ref_region ?_
    refine s_rd (r_build (ps := []) (rs := []) st_31 zs_31 trivial rfl rfl) rfl ?_
    refine s_st0 (s_cstore (out := [iv .i64 0, pv (.slice none 0 0), iv .i64 0, iv .i64 0, iv .i64 0, pv (.slice none 0 0)]) Try.sizeOf31 rfl (j := 2) rfl (part_agO (ψs := [iv .i64 0, pv (.slice none 0 0), iv .i64 0, iv .i64 0, iv .i64 0, pv (.slice none 0 0)]) rfl ⟨.inl iv_at, .inl (pv_at rfl), .inl iv_at, .inl iv_at, .inl iv_at, .inl (pv_at rfl), trivial⟩) rfl rfl rfl) (fun _ => ?_)
    refine s_rd (r_assign rfl) rfl ?_
    refine l_nil ?_
    refine n_then ?_
    refine ref_ret ?_
    refine r_then ?_
    refine b_of (ocW 2 [iv .i64 0, slv rT_api_Pair [], iv .i64 0, iv .i64 0, iv .i64 0, slv rT_api_Move []] rfl ⟨imp_rfl, nil_sl, imp_rfl, imp_rfl, imp_rfl, nil_sl, trivial⟩) ?_
    exact fin2 (.inl rfl) () [] rfl trivial rfl (rv_cell rfl (j := 2) rfl Try.isAgg31 Try.sizeOf31 rfl rfl) (rv_tmp rfl)
  · refine ref_skip ?_
    refine n_then ?_
    refine ref_seq ?_
    refine pull fun t7 h_t7 => ?_
    refine pull fun t8 h_t8 => ?_
    refine ref_drawI 1 [⟨[], [], [], [0], [], fun us u => ag [iv .i64 d_0.Graph.N, slv rT_api_Pair d_0.Graph.L, iv .i64 d_0.Root, iv .i64 d_0.Limits.i0, iv .i64 d_0.Limits.i1, slv rT_api_Move d_0.Moves], fun us u => []⟩, ⟨[0], [], [], [], [], fun us u => ag [iv .i64 t7.d.Graph.N, slv rT_api_Pair t7.d.Graph.L, iv .i64 t7.d.Root, iv .i64 t7.d.Limits.i0, iv .i64 t7.d.Limits.i1, slv rT_api_Move t7.d.Moves, slv (rI .i64) t7.status, iv .i64 t7.leader, slv rB t7.leading], fun us u => []⟩, ⟨[], [], [], [1], [], fun us u => ag [iv .i64 m_1.By, iv .i64 m_1.Kind, iv .i64 m_1.Node, iv .i64 m_1.Target], fun us u => []⟩, ⟨[0, 1, 2], [], [], [], [], fun us u => tup [ag [iv .i64 t8.1.By, iv .i64 t8.1.Kind, iv .i64 t8.1.Node, iv .i64 t8.1.Target], iv .i64 t8.2], fun us u => []⟩, ⟨[0, 1, 2, 3], [], [], [], [], fun us u => tup [ag [iv .i64 t8.1.By, iv .i64 t8.1.Kind, iv .i64 t8.1.Node, iv .i64 t8.1.Target], iv .i64 t8.2], fun us u => []⟩, ⟨[0, 1, 2, 3, 4], [], [], [], [], fun us u => ag [iv .i64 t8.1.By, iv .i64 t8.1.Kind, iv .i64 t8.1.Node, iv .i64 t8.1.Target], fun us u => []⟩, ⟨[0, 1, 2, 3, 4], [], [], [], [], fun us u => iv .i64 t8.2, fun us u => []⟩, ⟨[], [], [3], [3], [], fun us u => pv (ptr u.Nn 0), fun us u => [oc u.Nn [iv .i64 0, iv .i64 0, iv .i64 0, iv .i64 0]]⟩, ⟨[0, 1, 2, 3, 4, 5, 7], [7], [3], [3], [3], fun us u => pv undef, fun us u => [oc (us.getD 0 .none).Nn [iv .i64 t8.1.By, iv .i64 t8.1.Kind, iv .i64 t8.1.Node, iv .i64 t8.1.Target]]⟩, ⟨[0, 1, 2, 3, 4, 5, 6, 7, 8], [], [], [], [], fun us u => iv .i64 t8.2, fun us u => []⟩] (fun χ6 => [(2, pv (ptr b1 0)), (4, pv (ptr b3 0)), (6, pv (ptr (χ6 7).Nn 0)), (7, iv .i64 t8.2)]) (fun χ6 => [oc b1 [iv .i64 d_0.Graph.N, slv rT_api_Pair d_0.Graph.L, iv .i64 d_0.Root, iv .i64 d_0.Limits.i0, iv .i64 d_0.Limits.i1, slv rT_api_Move d_0.Moves], oc b2 [iv .i64 m_1.By, iv .i64 m_1.Kind, iv .i64 m_1.Node, iv .i64 m_1.Target], oc b3 [iv .i64 0, pv (.slice none 0 0), iv .i64 0, iv .i64 0, iv .i64 0, pv (.slice none 0 0)], oc (χ6 7).Nn [iv .i64 t8.1.By, iv .i64 t8.1.Kind, iv .i64 t8.1.Node, iv .i64 t8.1.Target]]) rfl (by kernel_rfl) ⟨fun χ6 Ω ⟨h0, _⟩ => St.toR (r_cloadS Try.isAgg31 Try.sizeOf31 rfl (j := 0) h0 rfl rfl) (fun _ => rfl) (fun _ => rfl), (by intro _ h; cases h; rfl), ⟨fun χ6 Ω _ => St.to XU.U XU.hU (St.placeL [] (s_call (ψ := fun (_ : Unit) => ag [iv .i64 t7.d.Graph.N, slv rT_api_Pair t7.d.Graph.L, iv .i64 t7.d.Root, iv .i64 t7.d.Limits.i0, iv .i64 t7.d.Limits.i1, slv rT_api_Move t7.d.Moves, slv (rI .i64) t7.status, iv .i64 t7.leader, slv rB t7.leading]) (args := [.tmp 14]) Try.call35 rfl (protocol_of_ok h_t7) ⟨arg rfl, trivial⟩ (fun _ _ _ _ h => h)) (fun _ => rfl) (fun _ => trivial)) (fun _ => rfl) (fun _ => rfl), (by intro _ h; cases h; rfl), ⟨fun χ6 Ω ⟨h1, _⟩ => St.toR (r_cloadS Try.isAgg38 Try.sizeOf38 rfl (j := 1) h1 rfl rfl) (fun _ => rfl) (fun _ => rfl), (by intro _ h; cases h; rfl), ⟨fun χ6 Ω _ => St.to XU.U XU.hU (St.placeL [] (s_call (ψ := fun (_ : Unit) => tup [ag [iv .i64 t8.1.By, iv .i64 t8.1.Kind, iv .i64 t8.1.Node, iv .i64 t8.1.Target], iv .i64 t8.2]) (args := [.tmp 15, .tmp 16]) Try.call36 rfl (protocol_table_judged_ok h_t8) ⟨arg rfl, arg rfl, trivial⟩ (fun _ _ _ _ h => h)) (fun _ => rfl) (fun _ => trivial)) (fun _ => rfl) (fun _ => rfl), (by intro _ h; cases h; rfl), ⟨fun χ6 Ω _ => St.toR (r_move rfl) (fun _ => rfl) (fun _ => rfl), (by intro _ h; cases h; rfl), ⟨fun χ6 Ω _ => St.toR (r_extract rfl rfl) (fun _ => rfl) (fun _ => rfl), (by intro _ h; cases h; rfl), ⟨fun χ6 Ω _ => St.toR (r_extract rfl rfl) (fun _ => rfl) (fun _ => rfl), (by intro _ h; cases h; rfl), ⟨fun χ6 Ω ⟨h3, _⟩ => St.to XU.Nn XU.hN (St.placeL (os := fun _ => [_]) [3] (s_alloc zt_38) (fun _ => rfl) (fun _ => ⟨h3, rfl, trivial⟩)) (fun _ => rfl) (fun _ => rfl), (by intro _ h; cases h; rfl), ⟨fun χ6 Ω ⟨h3, _⟩ => St.to XU.U XU.hU (s_cstore (out := [iv .i64 t8.1.By, iv .i64 t8.1.Kind, iv .i64 t8.1.Node, iv .i64 t8.1.Target]) Try.sizeOf38 rfl (j := 3) h3 (part_ag (ψs := [iv .i64 t8.1.By, iv .i64 t8.1.Kind, iv .i64 t8.1.Node, iv .i64 t8.1.Target]) rfl (by intro φ h; simp only [List.mem_cons, List.not_mem_nil, or_false] at h; rcases h with rfl | rfl | rfl | rfl <;> first | exact iv_at | exact bv_at | exact sv_at | exact slv_at | exact pv_at rfl)) rfl rfl rfl) (fun _ => rfl) (fun _ => rfl), (by intro _ h; cases h), ⟨fun χ6 Ω _ => St.toR (r_assign rfl) (fun _ => rfl) (fun _ => rfl), (by intro _ h; cases h; rfl), trivial⟩⟩⟩⟩⟩⟩⟩⟩⟩⟩ (fun _ => ⟨rfl, rfl, rfl, rfl, trivial⟩) (fun _ => rfl) (fun χ6 => ?_)
    refine n_then ?_
    refine ref_seq ?_
    refine ref_seq ?_
    refine ref_region ?_
    refine s_rd (r_move rfl) rfl ?_
    refine s_rd (r_neq rfl rfl) rfl ?_
    refine l_nil ?_
    refine n_then ?_
    refine ref_cond rfl (fun hb10 => ?_) (fun hb10 => ?_)
    · refine ref_seq ?_
      refine ref_region ?_
      refine s_rd (r_build (ps := []) (rs := []) st_31 zs_31 trivial rfl rfl) rfl ?_
      refine s_rd (r_move rfl) rfl ?_
      refine s_st0 (s_cstore (out := [iv .i64 0, pv (.slice none 0 0), iv .i64 0, iv .i64 0, iv .i64 0, pv (.slice none 0 0)]) Try.sizeOf31 rfl (j := 2) rfl (part_agO (ψs := [iv .i64 0, pv (.slice none 0 0), iv .i64 0, iv .i64 0, iv .i64 0, pv (.slice none 0 0)]) rfl ⟨.inl iv_at, .inl (pv_at rfl), .inl iv_at, .inl iv_at, .inl iv_at, .inl (pv_at rfl), trivial⟩) rfl rfl rfl) (fun _ => ?_)
      refine s_rd (r_assign rfl) rfl ?_
      refine l_nil ?_
      refine n_then ?_
      refine ref_ret ?_
      refine r_then ?_
      refine b_of (ocW 2 [iv .i64 0, slv rT_api_Pair [], iv .i64 0, iv .i64 0, iv .i64 0, slv rT_api_Move []] rfl ⟨imp_rfl, nil_sl, imp_rfl, imp_rfl, imp_rfl, nil_sl, trivial⟩) ?_
      exact fin2 (.inl rfl) () [] rfl trivial rfl (rv_cell rfl (j := 2) rfl Try.isAgg31 Try.sizeOf31 rfl rfl) (rv_tmp rfl)
    · refine ref_skip ?_
      refine n_then ?_
      refine ref_seq ?_
      refine ref_region ?_
      refine s_rd (r_cloadS Try.isAgg31 Try.sizeOf31 rfl (j := 0) rfl rfl rfl) rfl ?_
      refine s_st (s_alloc zt_31) rfl (fun b11 => ?_)
      refine s_st0 (s_cstore (out := [iv .i64 d_0.Graph.N, slv rT_api_Pair d_0.Graph.L, iv .i64 d_0.Root, iv .i64 d_0.Limits.i0, iv .i64 d_0.Limits.i1, slv rT_api_Move d_0.Moves]) Try.sizeOf31 rfl (j := 4) rfl (part_ag (ψs := [iv .i64 d_0.Graph.N, slv rT_api_Pair d_0.Graph.L, iv .i64 d_0.Root, iv .i64 d_0.Limits.i0, iv .i64 d_0.Limits.i1, slv rT_api_Move d_0.Moves]) rfl (by intro φ h; simp only [List.mem_cons, List.not_mem_nil, or_false] at h; rcases h with rfl | rfl | rfl | rfl | rfl | rfl <;> first | exact iv_at | exact bv_at | exact sv_at | exact slv_at | exact pv_at rfl)) rfl rfl rfl) (fun _ => ?_)
      refine l_nil ?_
      refine n_then ?_
      refine ref_seq ?_
      refine ref_region ?_
      refine s_rd (r_faddr (fo := 0) Try.underlying31 rfl rfl Try.sizeOf27 rfl) rfl ?_
      refine s_rd (r_faddr (fo := 1) Try.underlying27 rfl rfl Try.sizeOf25 rfl) rfl ?_
      refine s_rd (r_cload Try.isAgg25 rfl (j := 0) rfl rfl) rfl ?_
      refine pull fun t12 h_t12 => ?_
      refine s_st (s_call (ψ := fun (x13 : (Value × List Nat)) => pv x13.1) (args := [.tmp 27]) Try.call37 rfl (slices_Clone_api_Pair_api_Pair_ok h_t12) ⟨arg rfl, trivial⟩ (fun _ _ _ _ h => h)) rfl (fun x13 => ?_)
      refine s_rd (r_faddr (fo := 0) Try.underlying31 rfl rfl Try.sizeOf27 rfl) rfl ?_
      refine s_rd (r_faddr (fo := 1) Try.underlying27 rfl rfl Try.sizeOf25 rfl) rfl ?_
      refine s_st0 (s_cstore (out := [iv .i64 d_0.Graph.N, pv x13.1, iv .i64 d_0.Root, iv .i64 d_0.Limits.i0, iv .i64 d_0.Limits.i1, slv rT_api_Move d_0.Moves]) Try.sizeOf25 rfl (j := 4) rfl (part_own rfl (j := 5) rfl) rfl rfl rfl) (fun _ => ?_)
      refine l_nil ?_
      refine b_of (nrm [oc b1 [iv .i64 d_0.Graph.N, slv rT_api_Pair d_0.Graph.L, iv .i64 d_0.Root, iv .i64 d_0.Limits.i0, iv .i64 d_0.Limits.i1, slv rT_api_Move d_0.Moves], oc b2 [iv .i64 m_1.By, iv .i64 m_1.Kind, iv .i64 m_1.Node, iv .i64 m_1.Target], oc b3 [iv .i64 0, pv (.slice none 0 0), iv .i64 0, iv .i64 0, iv .i64 0, pv (.slice none 0 0)], oc (χ6 7).Nn [iv .i64 t8.1.By, iv .i64 t8.1.Kind, iv .i64 t8.1.Node, iv .i64 t8.1.Target], oc b11 [iv .i64 d_0.Graph.N, pv x13.1, iv .i64 d_0.Root, iv .i64 d_0.Limits.i0, iv .i64 d_0.Limits.i1, slv rT_api_Move d_0.Moves], oa rT_api_Pair x13.1 x13.2 t12] rfl) ?_
      refine n_then ?_
      refine ref_seq ?_
      refine pull fun t15 h_t15 => ?_
      refine pull fun t17 h_t17 => ?_
      refine ref_drawI 1 [⟨[], [], [], [], [], fun us u => pv (ptr b1 5), fun us u => []⟩, ⟨[0], [], [], [0], [], fun us u => slv rT_api_Move d_0.Moves, fun us u => []⟩, ⟨[0, 1], [], [6], [6], [], fun us u => pv u.V.1, fun us u => [oa rT_api_Move u.V.1 u.V.2 t15]⟩, ⟨[], [], [], [3], [], fun us u => ag [iv .i64 t8.1.By, iv .i64 t8.1.Kind, iv .i64 t8.1.Node, iv .i64 t8.1.Target], fun us u => []⟩, ⟨[3], [], [], [], [], fun us u => slv rT_api_Move [t8.1], fun us u => []⟩, ⟨[0, 1, 2, 3, 4], [], [6], [6], [6], fun us u => pv u.V.1, fun us u => [oa rT_api_Move u.V.1 u.V.2 t17]⟩, ⟨[0, 1, 2, 3, 4, 5], [], [], [], [], fun us u => pv (ptr b11 5), fun us u => []⟩, ⟨[0, 1, 2, 3, 4, 5, 6], [5], [4], [4, 6], [4], fun us u => pv undef, fun us u => [oc b11 [iv .i64 d_0.Graph.N, pv x13.1, iv .i64 d_0.Root, iv .i64 d_0.Limits.i0, iv .i64 d_0.Limits.i1, pv (us.getD 0 .none).V.1]]⟩] (fun χ14 => [(4, pv (ptr b3 0)), (8, pv (ptr b11 0))]) (fun χ14 => [oc b1 [iv .i64 d_0.Graph.N, slv rT_api_Pair d_0.Graph.L, iv .i64 d_0.Root, iv .i64 d_0.Limits.i0, iv .i64 d_0.Limits.i1, slv rT_api_Move d_0.Moves], oc b2 [iv .i64 m_1.By, iv .i64 m_1.Kind, iv .i64 m_1.Node, iv .i64 m_1.Target], oc b3 [iv .i64 0, pv (.slice none 0 0), iv .i64 0, iv .i64 0, iv .i64 0, pv (.slice none 0 0)], oc (χ6 7).Nn [iv .i64 t8.1.By, iv .i64 t8.1.Kind, iv .i64 t8.1.Node, iv .i64 t8.1.Target], oc b11 [iv .i64 d_0.Graph.N, pv x13.1, iv .i64 d_0.Root, iv .i64 d_0.Limits.i0, iv .i64 d_0.Limits.i1, pv (χ14 5).V.1], oa rT_api_Pair x13.1 x13.2 t12, oa rT_api_Move (χ14 5).V.1 (χ14 5).V.2 t17]) rfl (by kernel_rfl) ⟨fun χ14 Ω _ => St.toR (r_faddr (fo := 5) Try.underlying31 rfl rfl Try.sizeOf29 rfl) (fun _ => rfl) (fun _ => rfl), (by intro _ h; cases h; rfl), ⟨fun χ14 Ω ⟨h0, _⟩ => St.toR (r_cload Try.isAgg29 rfl (j := 0) h0 rfl) (fun _ => rfl) (fun _ => rfl), (by intro _ h; cases h; rfl), ⟨fun χ14 Ω ⟨h6, _⟩ => St.to XU.V XU.hV (St.placeL [6] (s_call (ψ := fun (x16 : (Value × List Nat)) => pv x16.1) (args := [.tmp 32]) Try.call38 rfl (slices_Clone_api_Move_api_Move_ok h_t15) ⟨arg rfl, trivial⟩ (fun _ _ _ _ h => h)) (fun _ => rfl) (fun _ => ⟨h6, rfl, trivial⟩)) (fun _ => rfl) (fun _ => rfl), (by intro _ h; cases h; rfl), ⟨fun χ14 Ω ⟨h3, _⟩ => St.toR (r_cloadS Try.isAgg38 Try.sizeOf38 rfl (j := 3) h3 rfl rfl) (fun _ => rfl) (fun _ => rfl), (by intro _ h; cases h; rfl), ⟨fun χ14 Ω _ => St.to XU.U XU.hU (s_bslice (xs := [.tmp 34]) (ds := [t8.1]) Try.underlying29 el_38 rfl (Nat.le_of_ble_eq_true rfl) ⟨(part_ag (ψs := [iv .i64 t8.1.By, iv .i64 t8.1.Kind, iv .i64 t8.1.Node, iv .i64 t8.1.Target]) rfl (by intro φ h; simp only [List.mem_cons, List.not_mem_nil, or_false] at h; rcases h with rfl | rfl | rfl | rfl <;> first | exact iv_at | exact bv_at | exact sv_at | exact slv_at | exact pv_at rfl)), trivial⟩) (fun _ => rfl) (fun _ => rfl), (by intro _ h; cases h; rfl), ⟨fun χ14 Ω ⟨h6, _⟩ => St.to XU.V XU.hV (s_append h_t17 Try.underlying29 el_38 rfl (j := 6) h6 rfl) (fun _ => rfl) (fun _ => rfl), (by intro _ h; cases h; rfl), ⟨fun χ14 Ω _ => St.toR (r_faddr (fo := 5) Try.underlying31 rfl rfl Try.sizeOf29 rfl) (fun _ => rfl) (fun _ => rfl), (by intro _ h; cases h; rfl), ⟨fun χ14 Ω ⟨h4, h6, _⟩ => St.to XU.U XU.hU (s_cstore (out := [iv .i64 d_0.Graph.N, pv x13.1, iv .i64 d_0.Root, iv .i64 d_0.Limits.i0, iv .i64 d_0.Limits.i1, pv (χ14 5).V.1]) Try.sizeOf29 rfl (j := 4) h4 (part_own rfl (j := 6) h6) rfl rfl rfl) (fun _ => rfl) (fun _ => rfl), (by intro _ h; cases h), trivial⟩⟩⟩⟩⟩⟩⟩⟩ (fun _ => ⟨rfl, rfl, trivial⟩) (fun _ => rfl) (fun χ14 => ?_)
      refine n_then ?_
      refine ref_seq ?_
      refine ref_region ?_
      refine s_rd (r_cloadS Try.isAgg31 Try.sizeOf31 rfl (j := 4) rfl rfl rfl) rfl ?_
      refine s_st0 (s_cstore (out := [iv .i64 d_0.Graph.N, pv x13.1, iv .i64 d_0.Root, iv .i64 d_0.Limits.i0, iv .i64 d_0.Limits.i1, pv (χ14 5).V.1]) Try.sizeOf31 rfl (j := 2) rfl (part_agO (ψs := [iv .i64 d_0.Graph.N, pv x13.1, iv .i64 d_0.Root, iv .i64 d_0.Limits.i0, iv .i64 d_0.Limits.i1, pv (χ14 5).V.1]) rfl ⟨.inl iv_at, .inr ⟨_, _, _, _, _, 5, rfl, rfl⟩, .inl iv_at, .inl iv_at, .inl iv_at, .inr ⟨_, _, _, _, _, 6, rfl, rfl⟩, trivial⟩) rfl rfl rfl) (fun _ => ?_)
      refine s_rd (r_assign rfl) rfl ?_
      refine l_nil ?_
      refine n_then ?_
      refine ref_ret ?_
      refine b_of (frzGL [(38, ag [iv .i64 d_0.Graph.N, slv rT_api_Pair t12, iv .i64 d_0.Root, iv .i64 d_0.Limits.i0, iv .i64 d_0.Limits.i1, pv (χ14 5).V.1])] [(2, b3, [iv .i64 d_0.Graph.N, slv rT_api_Pair t12, iv .i64 d_0.Root, iv .i64 d_0.Limits.i0, iv .i64 d_0.Limits.i1, pv (χ14 5).V.1]), (4, b11, [iv .i64 d_0.Graph.N, slv rT_api_Pair t12, iv .i64 d_0.Root, iv .i64 d_0.Limits.i0, iv .i64 d_0.Limits.i1, pv (χ14 5).V.1])] (j := 5) rfl ⟨⟨_, rfl, .inr ⟨_, _, rfl, rfl, ⟨.inl rfl, .inr ⟨rfl, rfl⟩, .inl rfl, .inl rfl, .inl rfl, .inl rfl, trivial⟩⟩⟩, trivial⟩ ⟨⟨_, rfl, ⟨.inl rfl, .inr ⟨rfl, rfl⟩, .inl rfl, .inl rfl, .inl rfl, .inl rfl, trivial⟩⟩, ⟨_, rfl, ⟨.inl rfl, .inr ⟨rfl, rfl⟩, .inl rfl, .inl rfl, .inl rfl, .inl rfl, trivial⟩⟩, trivial⟩ hM) ?_
      refine b_of (frzGL [(38, ag [iv .i64 d_0.Graph.N, slv rT_api_Pair t12, iv .i64 d_0.Root, iv .i64 d_0.Limits.i0, iv .i64 d_0.Limits.i1, slv rT_api_Move t17])] [(2, b3, [iv .i64 d_0.Graph.N, slv rT_api_Pair t12, iv .i64 d_0.Root, iv .i64 d_0.Limits.i0, iv .i64 d_0.Limits.i1, slv rT_api_Move t17]), (4, b11, [iv .i64 d_0.Graph.N, slv rT_api_Pair t12, iv .i64 d_0.Root, iv .i64 d_0.Limits.i0, iv .i64 d_0.Limits.i1, slv rT_api_Move t17])] (j := 6) rfl ⟨⟨_, rfl, .inr ⟨_, _, rfl, rfl, ⟨.inl rfl, .inl rfl, .inl rfl, .inl rfl, .inl rfl, .inr ⟨rfl, rfl⟩, trivial⟩⟩⟩, trivial⟩ ⟨⟨_, rfl, ⟨.inl rfl, .inl rfl, .inl rfl, .inl rfl, .inl rfl, .inr ⟨rfl, rfl⟩, trivial⟩⟩, ⟨_, rfl, ⟨.inl rfl, .inl rfl, .inl rfl, .inl rfl, .inl rfl, .inr ⟨rfl, rfl⟩, trivial⟩⟩, trivial⟩ hM) ?_
      exact fin2 (.inl rfl) () [] rfl trivial rfl (rv_cell rfl (j := 2) rfl Try.isAgg31 Try.sizeOf31 rfl rfl) (rv_tmp rfl)

/-! deliberation/deliberationkeep.Ints -/
noncomputable def keep_Ints_l1 (a__0 : (List Int)) (b_1 : (List Int)) (s8 : Int) : Option (Sum ((Sum (Bool) (Unit))) (Int)) :=
  bif decide (s8 < (a__0.length : Int)) then
    Option.bind (idxM a__0 s8) fun t11 =>
    Option.bind (idxM b_1 s8) fun t12 =>
    bif t11 != t12 then
      some (Sum.inl (Sum.inl false))
    else
      some (Sum.inr (iadd .i64 s8 1))
  else
    some (Sum.inl (Sum.inr ()))

noncomputable def keep_Ints_m (a__0 : (List Int)) (b_1 : (List Int)) : Option (Bool) :=
  bif (a__0.length : Int) != (b_1.length : Int) then
    some false
  else
    Option.bind (loopC (keep_Ints_l1 a__0 b_1) 0) (sumK (fun a : Bool => some a) fun q14 : Unit =>
      some true)

theorem keep_Ints_ok {a__0 : (List Int)} {b_1 : (List Int)} {r : Bool} (hm : keep_Ints_m a__0 b_1 = some r) :
    FnOk prog 15 [slv (rI .i64) a__0, slv (rI .i64) b_1] [] (fun (x : Unit) => [bv r]) (fun (x : Unit) => []) := by
  refine fn_ok (X := Unit) (fn := Try.f15) (N := 26) (m := keep_Ints_m a__0 b_1) (res := fun r x => [bv r]) (Ω1 := fun r x => []) Try.func15 rfl rfl hm rfl (fun E hM => ?_)
  unfold keep_Ints_m
  refine ref_seq ?_
  refine ref_region ?_
  refine s_rd (r_assign rfl) rfl ?_
  refine l_nil ?_
  refine n_then ?_
  refine ref_seq ?_
  refine ref_seq ?_
  refine ref_region ?_
  refine s_rd (r_move rfl) rfl ?_
  refine s_rd (r_len Try.underlying22 rfl) rfl ?_
  refine s_rd (r_move rfl) rfl ?_
  refine s_rd (r_len Try.underlying22 rfl) rfl ?_
  refine s_rd (r_neq rfl rfl) rfl ?_
  refine l_nil ?_
  refine n_then ?_
  refine ref_cond rfl (fun hb1 => ?_) (fun hb1 => ?_)
  · refine ref_seq ?_
    refine ref_region ?_
    refine s_rd (r_assign rfl) rfl ?_
    refine l_nil ?_
    refine n_then ?_
    refine ref_ret ?_
    refine r_then ?_
    exact fin1 (.inl rfl) () [] rfl trivial rfl (rv_tmp rfl)
  · refine ref_skip ?_
    refine n_then ?_
    refine ref_seq ?_
    refine ref_seq ?_
    refine ref_region ?_
    refine s_rd (r_move rfl) rfl ?_
    refine s_rd (r_len Try.underlying22 rfl) rfl ?_
    refine s_rd (r_move rfl) rfl ?_
    refine l_nil ?_
    refine n_then ?_
    refine ref_loopX (f := (keep_Ints_l1 a__0 b_1)) (Γl := (fun (s8 : Int) (x9 : Unit) => [(0, slv (rI .i64) a__0), (1, slv (rI .i64) b_1), (12, iv .i64 (a__0.length : Int)), (13, iv .i64 s8)])) (Ωl := (fun (s8 : Int) (x9 : Unit) => [])) (Γb := (fun (q14 : Unit) (y15 : Unit) => [])) (Ωb := (fun (q14 : Unit) (y15 : Unit) => [])) (kr := (fun a : Bool => some a)) 0 () (weak [] ⟨rfl, rfl, rfl, rfl, trivial⟩ trivial) (fun s8 x9 => ?_) (fun q14 y15 => ?_)
    · unfold keep_Ints_l1
      refine ref_seq ?_
      refine ref_region ?_
      refine s_rd (r_lss rfl rfl) rfl ?_
      refine l_nil ?_
      refine n_then ?_
      refine ref_seq ?_
      refine ref_cond rfl (fun hb10 => ?_) (fun hb10 => ?_)
      · refine ref_skip ?_
        refine n_then ?_
        refine ref_seq ?_
        refine ref_block ?_
        refine ref_seq ?_
        refine ref_region ?_
        refine s_rd (r_move rfl) rfl ?_
        refine s_rd (r_assign rfl) rfl ?_
        refine l_nil ?_
        refine n_then ?_
        refine ref_seq ?_
        refine ref_draw [0, 1, 2, 3, 4, 5, 6, 7, 8] rfl (by kernel_rfl) (fun hok => ?_)
        refine a_rd (i := 0) hok rfl (by kernel_rfl) rfl (r_move rfl) rfl ?_
        refine a_rd (i := 1) hok rfl (by kernel_rfl) rfl (r_move rfl) rfl ?_
        refine pull fun t11 h_t11 => ?_
        refine a_rd (i := 2) hok rfl (by kernel_rfl) rfl (r_index h_t11 Try.underlying22 el_3 rfl rfl) rfl ?_
        refine a_rd (i := 3) hok rfl (by kernel_rfl) rfl (r_load el_3 rfl) rfl ?_
        refine a_rd (i := 4) hok rfl (by kernel_rfl) rfl (r_move rfl) rfl ?_
        refine a_rd (i := 5) hok rfl (by kernel_rfl) rfl (r_move rfl) rfl ?_
        refine pull fun t12 h_t12 => ?_
        refine a_rd (i := 6) hok rfl (by kernel_rfl) rfl (r_index h_t12 Try.underlying22 el_3 rfl rfl) rfl ?_
        refine a_rd (i := 7) hok rfl (by kernel_rfl) rfl (r_load el_3 rfl) rfl ?_
        refine a_rd (i := 8) hok rfl (by kernel_rfl) rfl (r_neq rfl rfl) rfl ?_
        refine a_fin hok (by kernel_rfl) ?_
        refine n_then ?_
        refine ref_cond rfl (fun hb13 => ?_) (fun hb13 => ?_)
        · refine ref_seq ?_
          refine ref_region ?_
          refine s_rd (r_assign rfl) rfl ?_
          refine l_nil ?_
          refine n_then ?_
          refine ref_ret ?_
          refine r_block ?_
          refine r_then ?_
          refine retX ?_
          refine r_block ?_
          refine r_then ?_
          exact fin1 (.inl rfl) () [] rfl trivial rfl (rv_tmp rfl)
        · refine ref_skip ?_
          refine n_block ?_
          refine n_then ?_
          refine ref_region ?_
          refine s_rd (r_add rfl rfl) rfl ?_
          refine s_rd (r_move rfl) rfl ?_
          refine l_nil ?_
          exact goX () (weak [] ⟨rfl, rfl, rfl, rfl, trivial⟩ trivial)
      · refine ref_exit ?_
        refine x_then ?_
        exact brkX () (weak [] trivial trivial)
    · refine n_then ?_
      refine ref_seq ?_
      refine ref_region ?_
      refine s_rd (r_assign rfl) rfl ?_
      refine l_nil ?_
      refine n_then ?_
      refine ref_ret ?_
      exact fin1 (.inl rfl) () [] rfl trivial rfl (rv_tmp rfl)

/-! cmp.isNaN[int] -/
noncomputable def cmp_isNaN_int_m (x_0 : Int) : Option (Bool) :=
  some (x_0 != x_0)

theorem cmp_isNaN_int_ok {x_0 : Int} {r : Bool} (hm : cmp_isNaN_int_m x_0 = some r) :
    FnOk prog 58 [iv .i64 x_0] [] (fun (x : Unit) => [bv r]) (fun (x : Unit) => []) := by
  refine fn_ok (X := Unit) (fn := Try.f58) (N := 6) (m := cmp_isNaN_int_m x_0) (res := fun r x => [bv r]) (Ω1 := fun r x => []) Try.func58 rfl rfl hm rfl (fun E hM => ?_)
  unfold cmp_isNaN_int_m
  refine ref_seq ?_
  refine ref_region ?_
  refine s_rd (r_assign rfl) rfl ?_
  refine l_nil ?_
  refine n_then ?_
  refine ref_seq ?_
  refine ref_region ?_
  refine s_rd (r_move rfl) rfl ?_
  refine s_rd (r_move rfl) rfl ?_
  refine s_rd (r_neq rfl rfl) rfl ?_
  refine s_rd (r_assign rfl) rfl ?_
  refine l_nil ?_
  refine n_then ?_
  refine ref_ret ?_
  exact fin1 (.inl rfl) () [] rfl trivial rfl (rv_tmp rfl)

/-! cmp.Compare[int] -/
noncomputable def cmp_Compare_int_m (x_0 : Int) (y_1 : Int) : Option (Int) :=
  Option.bind (cmp_isNaN_int_m x_0) fun xNaN1 =>
  Option.bind (cmp_isNaN_int_m y_1) fun yNaN2 =>
  bif xNaN1 then
    bif yNaN2 then
      some 0
    else
      some (-1)
  else
    bif yNaN2 then
      some 1
    else
      bif decide (x_0 < y_1) then
        some (-1)
      else
        bif decide (x_0 > y_1) then
          some 1
        else
          some 0

theorem cmp_Compare_int_ok {x_0 : Int} {y_1 : Int} {r : Int} (hm : cmp_Compare_int_m x_0 y_1 = some r) :
    FnOk prog 57 [iv .i64 x_0, iv .i64 y_1] [] (fun (x : Unit) => [iv .i64 r]) (fun (x : Unit) => []) := by
  refine fn_ok (X := Unit) (fn := Try.f57) (N := 20) (m := cmp_Compare_int_m x_0 y_1) (res := fun r x => [iv .i64 r]) (Ω1 := fun r x => []) Try.func57 rfl rfl hm rfl (fun E hM => ?_)
  unfold cmp_Compare_int_m
  refine ref_seq ?_
  refine ref_region ?_
  refine s_rd (r_assign rfl) rfl ?_
  refine l_nil ?_
  refine n_then ?_
  refine ref_seq ?_
  refine ref_region ?_
  refine s_rd (r_move rfl) rfl ?_
  refine pull fun xNaN1 h_xNaN1 => ?_
  refine s_st (s_call (ψ := fun (_ : Unit) => bv xNaN1) (args := [.tmp 7]) Try.call58 rfl (cmp_isNaN_int_ok h_xNaN1) ⟨arg rfl, trivial⟩ (fun _ _ _ _ h => h)) rfl (fun _ => ?_)
  refine s_rd (r_assign rfl) rfl ?_
  refine l_nil ?_
  refine n_then ?_
  refine ref_seq ?_
  refine ref_region ?_
  refine s_rd (r_move rfl) rfl ?_
  refine pull fun yNaN2 h_yNaN2 => ?_
  refine s_st (s_call (ψ := fun (_ : Unit) => bv yNaN2) (args := [.tmp 9]) Try.call58 rfl (cmp_isNaN_int_ok h_yNaN2) ⟨arg rfl, trivial⟩ (fun _ _ _ _ h => h)) rfl (fun _ => ?_)
  refine s_rd (r_assign rfl) rfl ?_
  refine l_nil ?_
  refine n_then ?_
  refine ref_seq ?_
  refine ref_seq ?_
  refine ref_region ?_
  refine s_rd (r_move rfl) rfl ?_
  refine l_nil ?_
  refine n_then ?_
  refine ref_cond rfl (fun hb3 => ?_) (fun hb3 => ?_)
  · refine ref_seq ?_
    refine ref_seq ?_
    refine ref_region ?_
    refine s_rd (r_move rfl) rfl ?_
    refine l_nil ?_
    refine n_then ?_
    refine ref_cond rfl (fun hb4 => ?_) (fun hb4 => ?_)
    · refine ref_seq ?_
      refine ref_region ?_
      refine s_rd (r_assign rfl) rfl ?_
      refine l_nil ?_
      refine n_then ?_
      refine ref_ret ?_
      refine r_then ?_
      refine r_then ?_
      exact fin1 (.inl rfl) () [] rfl trivial rfl (rv_tmp rfl)
    · refine ref_skip ?_
      refine n_then ?_
      refine ref_seq ?_
      refine ref_region ?_
      refine s_rd (r_assign rfl) rfl ?_
      refine l_nil ?_
      refine n_then ?_
      refine ref_ret ?_
      refine r_then ?_
      exact fin1 (.inl rfl) () [] rfl trivial rfl (rv_tmp rfl)
  · refine ref_skip ?_
    refine n_then ?_
    refine ref_seq ?_
    refine ref_seq ?_
    refine ref_region ?_
    refine s_rd (r_move rfl) rfl ?_
    refine l_nil ?_
    refine n_then ?_
    refine ref_cond rfl (fun hb5 => ?_) (fun hb5 => ?_)
    · refine ref_seq ?_
      refine ref_region ?_
      refine s_rd (r_assign rfl) rfl ?_
      refine l_nil ?_
      refine n_then ?_
      refine ref_ret ?_
      refine r_then ?_
      exact fin1 (.inl rfl) () [] rfl trivial rfl (rv_tmp rfl)
    · refine ref_skip ?_
      refine n_then ?_
      refine ref_seq ?_
      refine ref_seq ?_
      refine ref_region ?_
      refine s_rd (r_move rfl) rfl ?_
      refine s_rd (r_move rfl) rfl ?_
      refine s_rd (r_lss rfl rfl) rfl ?_
      refine l_nil ?_
      refine n_then ?_
      refine ref_cond rfl (fun hb6 => ?_) (fun hb6 => ?_)
      · refine ref_seq ?_
        refine ref_region ?_
        refine s_rd (r_assign rfl) rfl ?_
        refine l_nil ?_
        refine n_then ?_
        refine ref_ret ?_
        refine r_then ?_
        exact fin1 (.inl rfl) () [] rfl trivial rfl (rv_tmp rfl)
      · refine ref_skip ?_
        refine n_then ?_
        refine ref_seq ?_
        refine ref_seq ?_
        refine ref_region ?_
        refine s_rd (r_move rfl) rfl ?_
        refine s_rd (r_move rfl) rfl ?_
        refine s_rd (r_gtr rfl rfl) rfl ?_
        refine l_nil ?_
        refine n_then ?_
        refine ref_cond rfl (fun hb7 => ?_) (fun hb7 => ?_)
        · refine ref_seq ?_
          refine ref_region ?_
          refine s_rd (r_assign rfl) rfl ?_
          refine l_nil ?_
          refine n_then ?_
          refine ref_ret ?_
          refine r_then ?_
          exact fin1 (.inl rfl) () [] rfl trivial rfl (rv_tmp rfl)
        · refine ref_skip ?_
          refine n_then ?_
          refine ref_seq ?_
          refine ref_region ?_
          refine s_rd (r_assign rfl) rfl ?_
          refine l_nil ?_
          refine n_then ?_
          refine ref_ret ?_
          exact fin1 (.inl rfl) () [] rfl trivial rfl (rv_tmp rfl)

/-! cmp.Or[int] -/
noncomputable def cmp_Or_int_l1 (vals_0 : (List Int)) (s6 : Int) : Option (Sum ((Sum (Int) (Unit))) (Int)) :=
  bif decide (s6 < (vals_0.length : Int)) then
    Option.bind (idxM vals_0 s6) fun val9 =>
    bif val9 != 0 then
      some (Sum.inl (Sum.inl val9))
    else
      some (Sum.inr (iadd .i64 s6 1))
  else
    some (Sum.inl (Sum.inr ()))

noncomputable def cmp_Or_int_m (vals_0 : (List Int)) : Option (Int) :=
  Option.bind (loopC (cmp_Or_int_l1 vals_0) 0) (sumK (fun a : Int => some a) fun q11 : Unit =>
    some 0)

theorem cmp_Or_int_ok {vals_0 : (List Int)} {r : Int} (hm : cmp_Or_int_m vals_0 = some r) :
    FnOk prog 56 [slv (rI .i64) vals_0] [] (fun (x : Unit) => [iv .i64 r]) (fun (x : Unit) => []) := by
  refine fn_ok (X := Unit) (fn := Try.f56) (N := 18) (m := cmp_Or_int_m vals_0) (res := fun r x => [iv .i64 r]) (Ω1 := fun r x => []) Try.func56 rfl rfl hm rfl (fun E hM => ?_)
  unfold cmp_Or_int_m
  refine ref_seq ?_
  refine ref_region ?_
  refine s_rd (r_assign rfl) rfl ?_
  refine l_nil ?_
  refine n_then ?_
  refine ref_seq ?_
  refine ref_region ?_
  refine s_rd (r_assign rfl) rfl ?_
  refine l_nil ?_
  refine n_then ?_
  refine ref_seq ?_
  refine ref_seq ?_
  refine ref_region ?_
  refine s_rd (r_move rfl) rfl ?_
  refine s_rd (r_len Try.underlying22 rfl) rfl ?_
  refine s_rd (r_move rfl) rfl ?_
  refine l_nil ?_
  refine n_then ?_
  refine ref_loopX (f := (cmp_Or_int_l1 vals_0)) (Γl := (fun (s6 : Int) (x7 : Unit) => [(3, iv .i64 0), (6, slv (rI .i64) vals_0), (7, iv .i64 (vals_0.length : Int)), (8, iv .i64 s6)])) (Ωl := (fun (s6 : Int) (x7 : Unit) => [])) (Γb := (fun (q11 : Unit) (y12 : Unit) => [(3, iv .i64 0)])) (Ωb := (fun (q11 : Unit) (y12 : Unit) => [])) (kr := (fun a : Int => some a)) 0 () (weak [] ⟨rfl, rfl, rfl, rfl, trivial⟩ trivial) (fun s6 x7 => ?_) (fun q11 y12 => ?_)
  · unfold cmp_Or_int_l1
    refine ref_seq ?_
    refine ref_region ?_
    refine s_rd (r_lss rfl rfl) rfl ?_
    refine l_nil ?_
    refine n_then ?_
    refine ref_seq ?_
    refine ref_cond rfl (fun hb8 => ?_) (fun hb8 => ?_)
    · refine ref_skip ?_
      refine n_then ?_
      refine ref_seq ?_
      refine ref_block ?_
      refine ref_seq ?_
      refine ref_region ?_
      refine pull fun val9 h_val9 => ?_
      refine s_rd (r_index h_val9 Try.underlying22 el_3 rfl rfl) rfl ?_
      refine s_rd (r_load el_3 rfl) rfl ?_
      refine s_rd (r_assign rfl) rfl ?_
      refine l_nil ?_
      refine n_then ?_
      refine ref_seq ?_
      refine ref_region ?_
      refine s_rd (r_move rfl) rfl ?_
      refine s_rd (r_move rfl) rfl ?_
      refine s_rd (r_neq rfl rfl) rfl ?_
      refine l_nil ?_
      refine n_then ?_
      refine ref_cond rfl (fun hb10 => ?_) (fun hb10 => ?_)
      · refine ref_seq ?_
        refine ref_region ?_
        refine s_rd (r_move rfl) rfl ?_
        refine s_rd (r_assign rfl) rfl ?_
        refine l_nil ?_
        refine n_then ?_
        refine ref_ret ?_
        refine r_block ?_
        refine r_then ?_
        refine retX ?_
        refine r_block ?_
        refine r_then ?_
        exact fin1 (.inl rfl) () [] rfl trivial rfl (rv_tmp rfl)
      · refine ref_skip ?_
        refine n_block ?_
        refine n_then ?_
        refine ref_region ?_
        refine s_rd (r_add rfl rfl) rfl ?_
        refine s_rd (r_move rfl) rfl ?_
        refine l_nil ?_
        exact goX () (weak [] ⟨rfl, rfl, rfl, rfl, trivial⟩ trivial)
    · refine ref_exit ?_
      refine x_then ?_
      exact brkX () (weak [] ⟨rfl, trivial⟩ trivial)
  · refine n_then ?_
    refine ref_seq ?_
    refine ref_region ?_
    refine s_rd (r_move rfl) rfl ?_
    refine s_rd (r_assign rfl) rfl ?_
    refine l_nil ?_
    refine n_then ?_
    refine ref_ret ?_
    exact fin1 (.inl rfl) () [] rfl trivial rfl (rv_tmp rfl)

/-! deliberation/graph.compare -/
noncomputable def graph_compare_m (a__0 : T_api_Pair) (b_1 : T_api_Pair) : Option (Int) :=
  Option.bind (cmp_Compare_int_m a__0.From b_1.From) fun t3 =>
  Option.bind (cmp_Compare_int_m a__0.To b_1.To) fun t4 =>
  Option.bind (cmp_Or_int_m [t3, t4]) fun t5 =>
  some t5

theorem graph_compare_ok {a__0 : T_api_Pair} {b_1 : T_api_Pair} {r : Int} (hm : graph_compare_m a__0 b_1 = some r) :
    FnOk prog 52 [ag [iv .i64 a__0.From, iv .i64 a__0.To], ag [iv .i64 b_1.From, iv .i64 b_1.To]] [] (fun (x : Unit) => [iv .i64 r]) (fun (x : Unit) => []) := by
  refine fn_ok (X := Unit) (fn := Try.f52) (N := 17) (m := graph_compare_m a__0 b_1) (res := fun r x => [iv .i64 r]) (Ω1 := fun r x => []) Try.func52 rfl rfl hm rfl (fun E hM => ?_)
  unfold graph_compare_m
  refine ref_seq ?_
  refine ref_region ?_
  refine s_st (s_box (part_ag (ψs := [iv .i64 a__0.From, iv .i64 a__0.To]) rfl (by intro φ h; simp only [List.mem_cons, List.not_mem_nil, or_false] at h; rcases h with rfl | rfl <;> first | exact iv_at | exact bv_at | exact sv_at | exact slv_at | exact pv_at rfl))) rfl (fun b1 => ?_)
  refine s_st (s_box (part_ag (ψs := [iv .i64 b_1.From, iv .i64 b_1.To]) rfl (by intro φ h; simp only [List.mem_cons, List.not_mem_nil, or_false] at h; rcases h with rfl | rfl <;> first | exact iv_at | exact bv_at | exact sv_at | exact slv_at | exact pv_at rfl))) rfl (fun b2 => ?_)
  refine s_rd (r_assign rfl) rfl ?_
  refine l_nil ?_
  refine n_then ?_
  refine ref_seq ?_
  refine ref_draw [0, 1, 2, 3, 5, 6, 7, 8] rfl (by kernel_rfl) (fun hok => ?_)
  refine a_rd (i := 0) hok rfl (by kernel_rfl) rfl (r_faddr (fo := 0) Try.underlying71 rfl rfl Try.sizeOf3 rfl) rfl ?_
  refine a_rd (i := 1) hok rfl (by kernel_rfl) rfl (r_cload Try.isAgg3 rfl (j := 0) rfl rfl) rfl ?_
  refine a_rd (i := 2) hok rfl (by kernel_rfl) rfl (r_faddr (fo := 0) Try.underlying71 rfl rfl Try.sizeOf3 rfl) rfl ?_
  refine a_rd (i := 3) hok rfl (by kernel_rfl) rfl (r_cload Try.isAgg3 rfl (j := 1) rfl rfl) rfl ?_
  refine a_rd (i := 5) hok rfl (by kernel_rfl) rfl (r_faddr (fo := 1) Try.underlying71 rfl rfl Try.sizeOf3 rfl) rfl ?_
  refine a_rd (i := 6) hok rfl (by kernel_rfl) rfl (r_cload Try.isAgg3 rfl (j := 0) rfl rfl) rfl ?_
  refine a_rd (i := 7) hok rfl (by kernel_rfl) rfl (r_faddr (fo := 1) Try.underlying71 rfl rfl Try.sizeOf3 rfl) rfl ?_
  refine a_rd (i := 8) hok rfl (by kernel_rfl) rfl (r_cload Try.isAgg3 rfl (j := 1) rfl rfl) rfl ?_
  refine pull fun t3 h_t3 => ?_
  refine a_next hok 4 [] (by kernel_rfl) ?_ trivial
  refine a_st (i := 4) hok rfl rfl (s_call (ψ := fun (_ : Unit) => iv .i64 t3) (args := [.tmp 6, .tmp 8]) Try.call57 rfl (cmp_Compare_int_ok h_t3) ⟨arg rfl, arg rfl, trivial⟩ (fun _ _ _ _ h => h)) (by intro _ h; cases h; rfl) (fun _ => ⟨⟨⟨rfl, rfl⟩, trivial⟩, ⟨trivial, ⟨⟨⟨rfl, rfl⟩, trivial⟩, ⟨trivial, ⟨trivial, ⟨trivial, ⟨trivial, ⟨trivial, trivial⟩⟩⟩⟩⟩⟩⟩⟩) (fun _ => ?_)
  refine pull fun t4 h_t4 => ?_
  refine a_next hok 9 [] (by kernel_rfl) ?_ trivial
  refine a_st (i := 9) hok rfl rfl (s_call (ψ := fun (_ : Unit) => iv .i64 t4) (args := [.tmp 11, .tmp 13]) Try.call57 rfl (cmp_Compare_int_ok h_t4) ⟨arg rfl, arg rfl, trivial⟩ (fun _ _ _ _ h => h)) (by intro _ h; cases h; rfl) (fun _ => ⟨trivial, ⟨trivial, ⟨trivial, ⟨trivial, ⟨⟨⟨rfl, rfl⟩, trivial⟩, ⟨trivial, ⟨⟨⟨rfl, rfl⟩, trivial⟩, ⟨trivial, trivial⟩⟩⟩⟩⟩⟩⟩⟩) (fun _ => ?_)
  refine a_next hok 10 [] (by kernel_rfl) ?_ trivial
  refine a_st (i := 10) hok rfl rfl (s_bslice (xs := [.tmp 9, .tmp 14]) (ds := [t3, t4]) Try.underlying22 el_3 rfl (Nat.le_of_ble_eq_true rfl) ⟨(part_at rfl iv_at), ⟨(part_at rfl iv_at), trivial⟩⟩) (by intro _ h; cases h; rfl) (fun _ => ⟨⟨⟨rfl, rfl⟩, trivial⟩, ⟨trivial, ⟨⟨⟨rfl, rfl⟩, trivial⟩, ⟨trivial, ⟨⟨⟨rfl, rfl⟩, trivial⟩, ⟨trivial, ⟨⟨⟨rfl, rfl⟩, trivial⟩, ⟨trivial, trivial⟩⟩⟩⟩⟩⟩⟩⟩) (fun _ => ?_)
  refine pull fun t5 h_t5 => ?_
  refine a_next hok 11 [] (by kernel_rfl) ?_ trivial
  refine a_st (i := 11) hok rfl rfl (s_call (ψ := fun (_ : Unit) => iv .i64 t5) (args := [.tmp 15]) Try.call56 rfl (cmp_Or_int_ok h_t5) ⟨arg rfl, trivial⟩ (fun _ _ _ _ h => h)) (by intro _ h; cases h; rfl) (fun _ => ⟨⟨⟨rfl, rfl⟩, trivial⟩, ⟨trivial, ⟨⟨⟨rfl, rfl⟩, trivial⟩, ⟨trivial, ⟨⟨⟨rfl, rfl⟩, trivial⟩, ⟨trivial, ⟨⟨⟨rfl, rfl⟩, trivial⟩, ⟨trivial, trivial⟩⟩⟩⟩⟩⟩⟩⟩) (fun _ => ?_)
  refine a_next hok 12 [] (by kernel_rfl) ?_ trivial
  refine a_st (i := 12) hok rfl rfl (St.ofRd (r_assign rfl)) (by intro _ h; cases h; rfl) (fun _ => ⟨trivial, ⟨trivial, ⟨trivial, ⟨trivial, ⟨trivial, ⟨trivial, ⟨trivial, ⟨trivial, trivial⟩⟩⟩⟩⟩⟩⟩⟩) (fun _ => ?_)
  refine a_fin hok (by kernel_rfl) ?_
  refine b_of (nrm [oc b1 [iv .i64 a__0.From, iv .i64 a__0.To], oc b2 [iv .i64 b_1.From, iv .i64 b_1.To]] rfl) ?_
  refine n_then ?_
  refine ref_ret ?_
  exact fin1 (.inl rfl) () [] rfl trivial rfl (rv_tmp rfl)

/-! deliberation/graph.Validate -/
noncomputable def graph_Validate_l1 (g_0 : T_api_Graph) (s12 : Int) : Option (Sum ((Sum (Int) (Unit))) (Int)) :=
  bif decide (s12 < (g_0.L.length : Int)) then
    Option.bind (idxM g_0.L s12) fun t15 =>
    bif decide ((imin t15.From t15.To) < 0) then
      some (Sum.inl (Sum.inl 1))
    else
      bif decide ((imax t15.From t15.To) ≥ g_0.N) then
        some (Sum.inl (Sum.inl 1))
      else
        bif decide (s12 > 0) then
          Option.bind (idxM g_0.L (isub .i64 s12 1)) fun t18 =>
          Option.bind (graph_compare_m t18 t15) fun t19 =>
          bif decide (t19 ≥ 0) then
            some (Sum.inl (Sum.inl 8))
          else
            some (Sum.inr (iadd .i64 s12 1))
        else
          some (Sum.inr (iadd .i64 s12 1))
  else
    some (Sum.inl (Sum.inr ()))

noncomputable def graph_Validate_m (g_0 : T_api_Graph) : Option (Int) :=
  bif decide (g_0.N < 0) then
    some 1
  else
    bif decide (g_0.N > 40) then
      some 1
    else
      Option.bind (loopC (graph_Validate_l1 g_0) 0) (sumK (fun a : Int => some a) fun q21 : Unit =>
        some 0)

theorem graph_Validate_ok {g_0 : T_api_Graph} {r : Int} (hm : graph_Validate_m g_0 = some r) :
    FnOk prog 41 [ag [iv .i64 g_0.N, slv rT_api_Pair g_0.L]] [] (fun (x : Unit) => [iv .i64 r]) (fun (x : Unit) => []) := by
  refine fn_ok (X := Unit) (fn := Try.f41) (N := 51) (m := graph_Validate_m g_0) (res := fun r x => [iv .i64 r]) (Ω1 := fun r x => []) Try.func41 rfl rfl hm rfl (fun E hM => ?_)
  unfold graph_Validate_m
  refine ref_seq ?_
  refine ref_region ?_
  refine s_st (s_box (part_ag (ψs := [iv .i64 g_0.N, slv rT_api_Pair g_0.L]) rfl (by intro φ h; simp only [List.mem_cons, List.not_mem_nil, or_false] at h; rcases h with rfl | rfl <;> first | exact iv_at | exact bv_at | exact sv_at | exact slv_at | exact pv_at rfl))) rfl (fun b1 => ?_)
  refine s_rd (r_assign rfl) rfl ?_
  refine l_nil ?_
  refine n_then ?_
  refine ref_seq ?_
  refine ref_seq ?_
  refine ref_region ?_
  refine s_rd (r_faddr (fo := 0) Try.underlying27 rfl rfl Try.sizeOf3 rfl) rfl ?_
  refine s_rd (r_cload Try.isAgg3 rfl (j := 0) rfl rfl) rfl ?_
  refine s_rd (r_lss rfl rfl) rfl ?_
  refine s_rd (r_move rfl) rfl ?_
  refine b_split (t := 8) rfl (fun _ => ?_) (fun _ => ?_)
  · refine s_off rfl rfl rfl rfl rfl ?_
    refine s_off rfl rfl rfl rfl rfl ?_
    refine s_off rfl rfl rfl rfl rfl ?_
    refine s_rd (r_pickT rfl rfl) rfl ?_
    refine l_nil ?_
    refine n_then ?_
    refine ref_condT rfl rfl ?_
    refine ref_seq ?_
    refine ref_region ?_
    refine s_rd (r_assign rfl) rfl ?_
    refine l_nil ?_
    refine n_then ?_
    refine ref_ret ?_
    refine r_then ?_
    exact fin1 (.inl rfl) () [] rfl trivial rfl (rv_tmp rfl)
  · refine s_on rfl rfl rfl ?_
    refine s_rd (r_faddr (fo := 0) Try.underlying27 rfl rfl Try.sizeOf3 rfl) rfl ?_
    refine s_on rfl rfl rfl ?_
    refine s_rd (r_cload Try.isAgg3 rfl (j := 0) rfl rfl) rfl ?_
    refine s_on rfl rfl rfl ?_
    refine s_rd (r_gtr rfl rfl) rfl ?_
    refine s_rd (r_pickF rfl rfl) rfl ?_
    refine l_nil ?_
    refine n_then ?_
    refine ref_cond rfl (fun hb2 => ?_) (fun hb2 => ?_)
    · refine ref_seq ?_
      refine ref_region ?_
      refine s_rd (r_assign rfl) rfl ?_
      refine l_nil ?_
      refine n_then ?_
      refine ref_ret ?_
      refine r_then ?_
      exact fin1 (.inl rfl) () [] rfl trivial rfl (rv_tmp rfl)
    · refine ref_skip ?_
      refine n_then ?_
      refine ref_seq ?_
      refine ref_seq ?_
      refine ref_region ?_
      refine s_rd (r_faddr (fo := 1) Try.underlying27 rfl rfl Try.sizeOf25 rfl) rfl ?_
      refine s_rd (r_cload Try.isAgg25 rfl (j := 0) rfl rfl) rfl ?_
      refine s_rd (r_len Try.underlying25 rfl) rfl ?_
      refine s_rd (r_move rfl) rfl ?_
      refine l_nil ?_
      refine n_then ?_
      refine ref_loopX (f := (graph_Validate_l1 g_0)) (Γl := (fun (s12 : Int) (x13 : Unit) => [(1, pv (ptr b1 0)), (14, slv rT_api_Pair g_0.L), (15, iv .i64 (g_0.L.length : Int)), (16, iv .i64 s12)])) (Ωl := (fun (s12 : Int) (x13 : Unit) => [oc b1 [iv .i64 g_0.N, slv rT_api_Pair g_0.L]])) (Γb := (fun (q21 : Unit) (y22 : Unit) => [])) (Ωb := (fun (q21 : Unit) (y22 : Unit) => [])) (kr := (fun a : Int => some a)) 0 () (weak [0] ⟨rfl, rfl, rfl, rfl, trivial⟩ ⟨rfl, trivial⟩) (fun s12 x13 => ?_) (fun q21 y22 => ?_)
      · unfold graph_Validate_l1
        refine ref_seq ?_
        refine ref_region ?_
        refine s_rd (r_lss rfl rfl) rfl ?_
        refine l_nil ?_
        refine n_then ?_
        refine ref_seq ?_
        refine ref_cond rfl (fun hb14 => ?_) (fun hb14 => ?_)
        · refine ref_skip ?_
          refine n_then ?_
          refine ref_seq ?_
          refine ref_block ?_
          refine ref_seq ?_
          refine ref_region ?_
          refine s_rd (r_move rfl) rfl ?_
          refine pull fun t15 h_t15 => ?_
          refine s_rd (r_index h_t15 Try.underlying25 el_71 rfl rfl) rfl ?_
          refine s_rd (r_load el_71 rfl) rfl ?_
          refine s_st (s_alloc zt_71) rfl (fun b16 => ?_)
          refine s_rd (r_assign rfl) rfl ?_
          refine s_st0 (s_cstore (out := [iv .i64 t15.From, iv .i64 t15.To]) Try.sizeOf71 rfl (j := 1) rfl (part_ag (ψs := [iv .i64 t15.From, iv .i64 t15.To]) rfl (by intro φ h; simp only [List.mem_cons, List.not_mem_nil, or_false] at h; rcases h with rfl | rfl <;> first | exact iv_at | exact bv_at | exact sv_at | exact slv_at | exact pv_at rfl)) rfl rfl rfl) (fun _ => ?_)
          refine l_nil ?_
          refine n_then ?_
          refine ref_seq ?_
          refine ref_seq ?_
          refine ref_region ?_
          refine s_rd (r_faddr (fo := 0) Try.underlying71 rfl rfl Try.sizeOf3 rfl) rfl ?_
          refine s_rd (r_cload Try.isAgg3 rfl (j := 1) rfl rfl) rfl ?_
          refine s_rd (r_faddr (fo := 1) Try.underlying71 rfl rfl Try.sizeOf3 rfl) rfl ?_
          refine s_rd (r_cload Try.isAgg3 rfl (j := 1) rfl rfl) rfl ?_
          refine s_rd (r_min rfl rfl) rfl ?_
          refine s_rd (r_lss rfl rfl) rfl ?_
          refine s_rd (r_move rfl) rfl ?_
          refine b_split (t := 27) rfl (fun _ => ?_) (fun _ => ?_)
          · refine s_off rfl rfl rfl rfl rfl ?_
            refine s_off rfl rfl rfl rfl rfl ?_
            refine s_off rfl rfl rfl rfl rfl ?_
            refine s_off rfl rfl rfl rfl rfl ?_
            refine s_off rfl rfl rfl rfl rfl ?_
            refine s_off rfl rfl rfl rfl rfl ?_
            refine s_off rfl rfl rfl rfl rfl ?_
            refine s_off rfl rfl rfl rfl rfl ?_
            refine s_rd (r_pickT rfl rfl) rfl ?_
            refine l_nil ?_
            refine n_then ?_
            refine ref_condT rfl rfl ?_
            refine ref_seq ?_
            refine ref_region ?_
            refine s_rd (r_assign rfl) rfl ?_
            refine l_nil ?_
            refine n_then ?_
            refine ref_ret ?_
            refine r_then ?_
            refine r_block ?_
            refine r_then ?_
            refine retX ?_
            refine r_block ?_
            refine r_then ?_
            exact fin1 (.inl rfl) () [] rfl trivial rfl (rv_tmp rfl)
          · refine s_on rfl rfl rfl ?_
            refine s_rd (r_faddr (fo := 0) Try.underlying71 rfl rfl Try.sizeOf3 rfl) rfl ?_
            refine s_on rfl rfl rfl ?_
            refine s_rd (r_cload Try.isAgg3 rfl (j := 1) rfl rfl) rfl ?_
            refine s_on rfl rfl rfl ?_
            refine s_rd (r_faddr (fo := 1) Try.underlying71 rfl rfl Try.sizeOf3 rfl) rfl ?_
            refine s_on rfl rfl rfl ?_
            refine s_rd (r_cload Try.isAgg3 rfl (j := 1) rfl rfl) rfl ?_
            refine s_on rfl rfl rfl ?_
            refine s_rd (r_max rfl rfl) rfl ?_
            refine s_on rfl rfl rfl ?_
            refine s_rd (r_faddr (fo := 0) Try.underlying27 rfl rfl Try.sizeOf3 rfl) rfl ?_
            refine s_on rfl rfl rfl ?_
            refine s_rd (r_cload Try.isAgg3 rfl (j := 0) rfl rfl) rfl ?_
            refine s_on rfl rfl rfl ?_
            refine s_rd (r_geq rfl rfl) rfl ?_
            refine s_rd (r_pickF rfl rfl) rfl ?_
            refine l_nil ?_
            refine n_then ?_
            refine ref_cond rfl (fun hb17 => ?_) (fun hb17 => ?_)
            · refine ref_seq ?_
              refine ref_region ?_
              refine s_rd (r_assign rfl) rfl ?_
              refine l_nil ?_
              refine n_then ?_
              refine ref_ret ?_
              refine r_then ?_
              refine r_block ?_
              refine r_then ?_
              refine retX ?_
              refine r_block ?_
              refine r_then ?_
              exact fin1 (.inl rfl) () [] rfl trivial rfl (rv_tmp rfl)
            · refine ref_skip ?_
              refine n_then ?_
              refine ref_seq ?_
              refine ref_draw [0, 1, 2, 3, 4, 5, 6, 7, 8, 9, 11, 12] rfl (by kernel_rfl) (fun hok => ?_)
              refine a_rd (i := 0) hok rfl (by kernel_rfl) rfl (r_move rfl) rfl ?_
              refine a_rd (i := 1) hok rfl (by kernel_rfl) rfl (r_gtr rfl rfl) rfl ?_
              refine a_rd (i := 2) hok rfl (by kernel_rfl) rfl (r_move rfl) rfl ?_
              refine b_split (t := 39) rfl (fun _ => ?_) (fun _ => ?_)
              · refine a_rdOn (i := 3) hok rfl rfl rfl rfl (by kernel_rfl) rfl (r_faddr (fo := 1) Try.underlying27 rfl rfl Try.sizeOf25 rfl) rfl ?_
                refine a_rdOn (i := 4) hok rfl rfl rfl rfl (by kernel_rfl) rfl (r_cload Try.isAgg25 rfl (j := 0) rfl rfl) rfl ?_
                refine a_rdOn (i := 5) hok rfl rfl rfl rfl (by kernel_rfl) rfl (r_move rfl) rfl ?_
                refine a_rdOn (i := 6) hok rfl rfl rfl rfl (by kernel_rfl) rfl (r_sub rfl rfl) rfl ?_
                refine pull fun t18 h_t18 => ?_
                refine a_rdOn (i := 7) hok rfl rfl rfl rfl (by kernel_rfl) rfl (r_index h_t18 Try.underlying25 el_71 rfl rfl) rfl ?_
                refine a_rdOn (i := 8) hok rfl rfl rfl rfl (by kernel_rfl) rfl (r_load el_71 rfl) rfl ?_
                refine a_rdOn (i := 9) hok rfl rfl rfl rfl (by kernel_rfl) rfl (r_cloadS Try.isAgg71 Try.sizeOf71 rfl (j := 1) rfl rfl rfl) rfl ?_
                refine pull fun t19 h_t19 => ?_
                refine a_next hok 10 [] (by kernel_rfl) ?_ trivial
                refine a_stOn (i := 10) hok rfl rfl rfl rfl rfl (s_call (ψ := fun (_ : Unit) => iv .i64 t19) (args := [.tmp 45, .tmp 46]) Try.call52 rfl (graph_compare_ok h_t19) ⟨arg rfl, arg rfl, trivial⟩ (fun _ _ _ _ h => h)) (by intro _ h; cases h; rfl) (fun _ => ⟨trivial, ⟨trivial, ⟨trivial, ⟨trivial, ⟨trivial, ⟨⟨⟨rfl, rfl⟩, trivial⟩, ⟨trivial, ⟨trivial, ⟨trivial, ⟨trivial, trivial⟩⟩⟩⟩⟩⟩⟩⟩⟩⟩) (fun _ => ?_)
                refine a_rdOn (i := 11) hok rfl rfl rfl rfl (by kernel_rfl) rfl (r_geq rfl rfl) rfl ?_
                refine a_rd (i := 12) hok rfl (by kernel_rfl) rfl (r_pickT rfl rfl) rfl ?_
                refine a_fin hok (by kernel_rfl) ?_
                refine b_of (nrm [oc b1 [iv .i64 g_0.N, slv rT_api_Pair g_0.L], oc b16 [iv .i64 t15.From, iv .i64 t15.To]] rfl) ?_
                refine n_then ?_
                refine ref_cond rfl (fun hb20 => ?_) (fun hb20 => ?_)
                · refine ref_seq ?_
                  refine ref_region ?_
                  refine s_rd (r_assign rfl) rfl ?_
                  refine l_nil ?_
                  refine n_then ?_
                  refine ref_ret ?_
                  refine r_block ?_
                  refine r_then ?_
                  refine retX ?_
                  refine r_block ?_
                  refine r_then ?_
                  exact fin1 (.inl rfl) () [] rfl trivial rfl (rv_tmp rfl)
                · refine ref_skip ?_
                  refine n_block ?_
                  refine n_then ?_
                  refine ref_region ?_
                  refine s_rd (r_add rfl rfl) rfl ?_
                  refine s_rd (r_move rfl) rfl ?_
                  refine l_nil ?_
                  exact goX () (weak [0] ⟨rfl, rfl, rfl, rfl, trivial⟩ ⟨rfl, trivial⟩)
              · refine a_off (i := 3) hok rfl rfl rfl rfl rfl (by kernel_rfl) rfl rfl ?_
                refine a_off (i := 4) hok rfl rfl rfl rfl rfl (by kernel_rfl) rfl rfl ?_
                refine a_off (i := 5) hok rfl rfl rfl rfl rfl (by kernel_rfl) rfl rfl ?_
                refine a_off (i := 6) hok rfl rfl rfl rfl rfl (by kernel_rfl) rfl rfl ?_
                refine a_off (i := 7) hok rfl rfl rfl rfl rfl (by kernel_rfl) rfl rfl ?_
                refine a_off (i := 8) hok rfl rfl rfl rfl rfl (by kernel_rfl) rfl rfl ?_
                refine a_off (i := 9) hok rfl rfl rfl rfl rfl (by kernel_rfl) rfl rfl ?_
                refine a_next hok 10 [] (by kernel_rfl) ?_ trivial
                refine a_stOff (i := 10) hok rfl rfl rfl rfl rfl rfl (by intro _ h; cases h; rfl) ⟨trivial, ⟨trivial, ⟨trivial, ⟨trivial, ⟨trivial, ⟨trivial, ⟨trivial, ⟨trivial, ⟨trivial, ⟨trivial, trivial⟩⟩⟩⟩⟩⟩⟩⟩⟩⟩ ?_
                refine a_off (i := 11) hok rfl rfl rfl rfl rfl (by kernel_rfl) rfl rfl ?_
                refine a_rd (i := 12) hok rfl (by kernel_rfl) rfl (r_pickF rfl rfl) rfl ?_
                refine a_fin hok (by kernel_rfl) ?_
                refine n_then ?_
                refine ref_condF rfl rfl ?_
                refine ref_skip ?_
                refine n_block ?_
                refine n_then ?_
                refine ref_region ?_
                refine s_rd (r_add rfl rfl) rfl ?_
                refine s_rd (r_move rfl) rfl ?_
                refine l_nil ?_
                exact goX () (weak [0] ⟨rfl, rfl, rfl, rfl, trivial⟩ ⟨rfl, trivial⟩)
        · refine ref_exit ?_
          refine x_then ?_
          exact brkX () (weak [] trivial trivial)
      · refine n_then ?_
        refine ref_seq ?_
        refine ref_region ?_
        refine s_rd (r_assign rfl) rfl ?_
        refine l_nil ?_
        refine n_then ?_
        refine ref_ret ?_
        exact fin1 (.inl rfl) () [] rfl trivial rfl (rv_tmp rfl)

/-! deliberation/protocol.New -/
noncomputable def protocol_New_m (g_0 : T_api_Graph) (root_1 : Int) (limits_2 : T_arr2_3) : Option (T_api_Dialogue × Int) :=
  Option.bind (graph_Validate_m g_0) fun e4 =>
  bif e4 != 0 then
    some ((T_api_Dialogue.mk (T_api_Graph.mk 0 []) 0 (T_arr2_3.mk 0 0) []), e4)
  else
    bif decide (root_1 < 0) then
      some ((T_api_Dialogue.mk (T_api_Graph.mk 0 []) 0 (T_arr2_3.mk 0 0) []), 1)
    else
      bif decide (root_1 ≥ g_0.N) then
        some ((T_api_Dialogue.mk (T_api_Graph.mk 0 []) 0 (T_arr2_3.mk 0 0) []), 1)
      else
        bif decide (limits_2.i0 < 1) then
          some ((T_api_Dialogue.mk (T_api_Graph.mk 0 []) 0 (T_arr2_3.mk 0 0) []), 1)
        else
          bif decide (limits_2.i0 > 200) then
            some ((T_api_Dialogue.mk (T_api_Graph.mk 0 []) 0 (T_arr2_3.mk 0 0) []), 1)
          else
            bif decide (limits_2.i1 < 0) then
              some ((T_api_Dialogue.mk (T_api_Graph.mk 0 []) 0 (T_arr2_3.mk 0 0) []), 1)
            else
              bif decide (limits_2.i1 > 200) then
                some ((T_api_Dialogue.mk (T_api_Graph.mk 0 []) 0 (T_arr2_3.mk 0 0) []), 1)
              else
                Option.bind (slices_Clone_api_Pair_api_Pair_m g_0.L) fun t9 =>
                some ((T_api_Dialogue.mk (T_api_Graph.mk g_0.N t9) root_1 limits_2 [(T_api_Move.mk 1 1 root_1 0)]), 0)

theorem protocol_New_ok {g_0 : T_api_Graph} {root_1 : Int} {limits_2 : T_arr2_3} {r : T_api_Dialogue × Int} (hm : protocol_New_m g_0 root_1 limits_2 = some r) :
    FnOk prog 18 [ag [iv .i64 g_0.N, slv rT_api_Pair g_0.L], iv .i64 root_1, ag [iv .i64 limits_2.i0, iv .i64 limits_2.i1]] [] (fun (x : Unit) => [ag [iv .i64 r.1.Graph.N, slv rT_api_Pair r.1.Graph.L, iv .i64 r.1.Root, iv .i64 r.1.Limits.i0, iv .i64 r.1.Limits.i1, slv rT_api_Move r.1.Moves], iv .i64 r.2]) (fun (x : Unit) => []) := by
  refine fn_ok (X := Unit) (fn := Try.f18) (N := 58) (m := protocol_New_m g_0 root_1 limits_2) (res := fun r x => [ag [iv .i64 r.1.Graph.N, slv rT_api_Pair r.1.Graph.L, iv .i64 r.1.Root, iv .i64 r.1.Limits.i0, iv .i64 r.1.Limits.i1, slv rT_api_Move r.1.Moves], iv .i64 r.2]) (Ω1 := fun r x => []) Try.func18 rfl rfl hm rfl (fun E hM => ?_)
  unfold protocol_New_m
  refine ref_seq ?_
  refine ref_region ?_
  refine s_st (s_box (part_ag (ψs := [iv .i64 g_0.N, slv rT_api_Pair g_0.L]) rfl (by intro φ h; simp only [List.mem_cons, List.not_mem_nil, or_false] at h; rcases h with rfl | rfl <;> first | exact iv_at | exact bv_at | exact sv_at | exact slv_at | exact pv_at rfl))) rfl (fun b1 => ?_)
  refine s_st (s_box (part_ag (ψs := [iv .i64 limits_2.i0, iv .i64 limits_2.i1]) rfl (by intro φ h; simp only [List.mem_cons, List.not_mem_nil, or_false] at h; rcases h with rfl | rfl <;> first | exact iv_at | exact bv_at | exact sv_at | exact slv_at | exact pv_at rfl))) rfl (fun b2 => ?_)
  refine s_st (s_alloc zt_31) rfl (fun b3 => ?_)
  refine s_rd (r_assign rfl) rfl ?_
  refine l_nil ?_
  refine n_then ?_
  refine ref_seq ?_
  refine ref_seq ?_
  refine ref_region ?_
  refine s_rd (r_cloadS Try.isAgg27 Try.sizeOf27 rfl (j := 0) rfl rfl rfl) rfl ?_
  refine pull fun e4 h_e4 => ?_
  refine s_st (s_call (ψ := fun (_ : Unit) => iv .i64 e4) (args := [.tmp 10]) Try.call41 rfl (graph_Validate_ok h_e4) ⟨arg rfl, trivial⟩ (fun _ _ _ _ h => h)) rfl (fun _ => ?_)
  refine s_rd (r_assign rfl) rfl ?_
  refine l_nil ?_
  refine b_of (nrm [oc b1 [iv .i64 g_0.N, slv rT_api_Pair g_0.L], oc b2 [iv .i64 limits_2.i0, iv .i64 limits_2.i1], oc b3 [iv .i64 0, pv (.slice none 0 0), iv .i64 0, iv .i64 0, iv .i64 0, pv (.slice none 0 0)]] rfl) ?_
  refine n_then ?_
  refine ref_seq ?_
  refine ref_region ?_
  refine s_rd (r_move rfl) rfl ?_
  refine s_rd (r_neq rfl rfl) rfl ?_
  refine l_nil ?_
  refine n_then ?_
  refine ref_cond rfl (fun hb5 => ?_) (fun hb5 => ?_)
  · refine ref_seq ?_
    refine ref_region ?_
    refine s_rd (r_build (ps := []) (rs := []) st_31 zs_31 trivial rfl rfl) rfl ?_
    refine s_rd (r_move rfl) rfl ?_
    refine s_st0 (s_cstore (out := [iv .i64 0, pv (.slice none 0 0), iv .i64 0, iv .i64 0, iv .i64 0, pv (.slice none 0 0)]) Try.sizeOf31 rfl (j := 2) rfl (part_agO (ψs := [iv .i64 0, pv (.slice none 0 0), iv .i64 0, iv .i64 0, iv .i64 0, pv (.slice none 0 0)]) rfl ⟨.inl iv_at, .inl (pv_at rfl), .inl iv_at, .inl iv_at, .inl iv_at, .inl (pv_at rfl), trivial⟩) rfl rfl rfl) (fun _ => ?_)
    refine s_rd (r_assign rfl) rfl ?_
    refine l_nil ?_
    refine n_then ?_
    refine ref_ret ?_
    refine r_then ?_
    refine b_of (ocW 2 [iv .i64 0, slv rT_api_Pair [], iv .i64 0, iv .i64 0, iv .i64 0, slv rT_api_Move []] rfl ⟨imp_rfl, nil_sl, imp_rfl, imp_rfl, imp_rfl, nil_sl, trivial⟩) ?_
    exact fin2 (.inl rfl) () [] rfl trivial rfl (rv_cell rfl (j := 2) rfl Try.isAgg31 Try.sizeOf31 rfl rfl) (rv_tmp rfl)
  · refine ref_skip ?_
    refine n_then ?_
    refine ref_seq ?_
    refine ref_seq ?_
    refine ref_region ?_
    refine s_rd (r_move rfl) rfl ?_
    refine s_rd (r_lss rfl rfl) rfl ?_
    refine s_rd (r_move rfl) rfl ?_
    refine b_split (t := 18) rfl (fun _ => ?_) (fun _ => ?_)
    · refine s_off rfl rfl rfl rfl rfl ?_
      refine s_off rfl rfl rfl rfl rfl ?_
      refine s_off rfl rfl rfl rfl rfl ?_
      refine s_off rfl rfl rfl rfl rfl ?_
      refine s_rd (r_pickT rfl rfl) rfl ?_
      refine s_rd (r_move rfl) rfl ?_
      refine s_off rfl rfl rfl rfl rfl ?_
      refine s_off rfl rfl rfl rfl rfl ?_
      refine s_off rfl rfl rfl rfl rfl ?_
      refine s_rd (r_pickT rfl rfl) rfl ?_
      refine s_rd (r_move rfl) rfl ?_
      refine s_off rfl rfl rfl rfl rfl ?_
      refine s_off rfl rfl rfl rfl rfl ?_
      refine s_off rfl rfl rfl rfl rfl ?_
      refine s_rd (r_pickT rfl rfl) rfl ?_
      refine s_rd (r_move rfl) rfl ?_
      refine s_off rfl rfl rfl rfl rfl ?_
      refine s_off rfl rfl rfl rfl rfl ?_
      refine s_off rfl rfl rfl rfl rfl ?_
      refine s_rd (r_pickT rfl rfl) rfl ?_
      refine s_rd (r_move rfl) rfl ?_
      refine s_off rfl rfl rfl rfl rfl ?_
      refine s_off rfl rfl rfl rfl rfl ?_
      refine s_off rfl rfl rfl rfl rfl ?_
      refine s_rd (r_pickT rfl rfl) rfl ?_
      refine l_nil ?_
      refine n_then ?_
      refine ref_condT rfl rfl ?_
      refine ref_seq ?_
      refine ref_region ?_
      refine s_rd (r_build (ps := []) (rs := []) st_31 zs_31 trivial rfl rfl) rfl ?_
      refine s_st0 (s_cstore (out := [iv .i64 0, pv (.slice none 0 0), iv .i64 0, iv .i64 0, iv .i64 0, pv (.slice none 0 0)]) Try.sizeOf31 rfl (j := 2) rfl (part_agO (ψs := [iv .i64 0, pv (.slice none 0 0), iv .i64 0, iv .i64 0, iv .i64 0, pv (.slice none 0 0)]) rfl ⟨.inl iv_at, .inl (pv_at rfl), .inl iv_at, .inl iv_at, .inl iv_at, .inl (pv_at rfl), trivial⟩) rfl rfl rfl) (fun _ => ?_)
      refine s_rd (r_assign rfl) rfl ?_
      refine l_nil ?_
      refine n_then ?_
      refine ref_ret ?_
      refine r_then ?_
      refine b_of (ocW 2 [iv .i64 0, slv rT_api_Pair [], iv .i64 0, iv .i64 0, iv .i64 0, slv rT_api_Move []] rfl ⟨imp_rfl, nil_sl, imp_rfl, imp_rfl, imp_rfl, nil_sl, trivial⟩) ?_
      exact fin2 (.inl rfl) () [] rfl trivial rfl (rv_cell rfl (j := 2) rfl Try.isAgg31 Try.sizeOf31 rfl rfl) (rv_tmp rfl)
    · refine s_on rfl rfl rfl ?_
      refine s_rd (r_move rfl) rfl ?_
      refine s_on rfl rfl rfl ?_
      refine s_rd (r_faddr (fo := 0) Try.underlying27 rfl rfl Try.sizeOf3 rfl) rfl ?_
      refine s_on rfl rfl rfl ?_
      refine s_rd (r_cload Try.isAgg3 rfl (j := 0) rfl rfl) rfl ?_
      refine s_on rfl rfl rfl ?_
      refine s_rd (r_geq rfl rfl) rfl ?_
      refine s_rd (r_pickF rfl rfl) rfl ?_
      refine s_rd (r_move rfl) rfl ?_
      refine b_split (t := 24) rfl (fun _ => ?_) (fun _ => ?_)
      · refine s_off rfl rfl rfl rfl rfl ?_
        refine s_off rfl rfl rfl rfl rfl ?_
        refine s_off rfl rfl rfl rfl rfl ?_
        refine s_rd (r_pickT rfl rfl) rfl ?_
        refine s_rd (r_move rfl) rfl ?_
        refine s_off rfl rfl rfl rfl rfl ?_
        refine s_off rfl rfl rfl rfl rfl ?_
        refine s_off rfl rfl rfl rfl rfl ?_
        refine s_rd (r_pickT rfl rfl) rfl ?_
        refine s_rd (r_move rfl) rfl ?_
        refine s_off rfl rfl rfl rfl rfl ?_
        refine s_off rfl rfl rfl rfl rfl ?_
        refine s_off rfl rfl rfl rfl rfl ?_
        refine s_rd (r_pickT rfl rfl) rfl ?_
        refine s_rd (r_move rfl) rfl ?_
        refine s_off rfl rfl rfl rfl rfl ?_
        refine s_off rfl rfl rfl rfl rfl ?_
        refine s_off rfl rfl rfl rfl rfl ?_
        refine s_rd (r_pickT rfl rfl) rfl ?_
        refine l_nil ?_
        refine n_then ?_
        refine ref_condT rfl rfl ?_
        refine ref_seq ?_
        refine ref_region ?_
        refine s_rd (r_build (ps := []) (rs := []) st_31 zs_31 trivial rfl rfl) rfl ?_
        refine s_st0 (s_cstore (out := [iv .i64 0, pv (.slice none 0 0), iv .i64 0, iv .i64 0, iv .i64 0, pv (.slice none 0 0)]) Try.sizeOf31 rfl (j := 2) rfl (part_agO (ψs := [iv .i64 0, pv (.slice none 0 0), iv .i64 0, iv .i64 0, iv .i64 0, pv (.slice none 0 0)]) rfl ⟨.inl iv_at, .inl (pv_at rfl), .inl iv_at, .inl iv_at, .inl iv_at, .inl (pv_at rfl), trivial⟩) rfl rfl rfl) (fun _ => ?_)
        refine s_rd (r_assign rfl) rfl ?_
        refine l_nil ?_
        refine n_then ?_
        refine ref_ret ?_
        refine r_then ?_
        refine b_of (ocW 2 [iv .i64 0, slv rT_api_Pair [], iv .i64 0, iv .i64 0, iv .i64 0, slv rT_api_Move []] rfl ⟨imp_rfl, nil_sl, imp_rfl, imp_rfl, imp_rfl, nil_sl, trivial⟩) ?_
        exact fin2 (.inl rfl) () [] rfl trivial rfl (rv_cell rfl (j := 2) rfl Try.isAgg31 Try.sizeOf31 rfl rfl) (rv_tmp rfl)
      · refine s_on rfl rfl rfl ?_
        refine s_rd (r_aaddr (sz := 1) ⟨by decide, by decide⟩ Try.underlying28 Try.sizeOf3 rfl rfl) rfl ?_
        refine s_on rfl rfl rfl ?_
        refine s_rd (r_cload Try.isAgg3 rfl (j := 1) rfl rfl) rfl ?_
        refine s_on rfl rfl rfl ?_
        refine s_rd (r_lss rfl rfl) rfl ?_
        refine s_rd (r_pickF rfl rfl) rfl ?_
        refine s_rd (r_move rfl) rfl ?_
        refine b_split (t := 29) rfl (fun _ => ?_) (fun _ => ?_)
        · refine s_off rfl rfl rfl rfl rfl ?_
          refine s_off rfl rfl rfl rfl rfl ?_
          refine s_off rfl rfl rfl rfl rfl ?_
          refine s_rd (r_pickT rfl rfl) rfl ?_
          refine s_rd (r_move rfl) rfl ?_
          refine s_off rfl rfl rfl rfl rfl ?_
          refine s_off rfl rfl rfl rfl rfl ?_
          refine s_off rfl rfl rfl rfl rfl ?_
          refine s_rd (r_pickT rfl rfl) rfl ?_
          refine s_rd (r_move rfl) rfl ?_
          refine s_off rfl rfl rfl rfl rfl ?_
          refine s_off rfl rfl rfl rfl rfl ?_
          refine s_off rfl rfl rfl rfl rfl ?_
          refine s_rd (r_pickT rfl rfl) rfl ?_
          refine l_nil ?_
          refine n_then ?_
          refine ref_condT rfl rfl ?_
          refine ref_seq ?_
          refine ref_region ?_
          refine s_rd (r_build (ps := []) (rs := []) st_31 zs_31 trivial rfl rfl) rfl ?_
          refine s_st0 (s_cstore (out := [iv .i64 0, pv (.slice none 0 0), iv .i64 0, iv .i64 0, iv .i64 0, pv (.slice none 0 0)]) Try.sizeOf31 rfl (j := 2) rfl (part_agO (ψs := [iv .i64 0, pv (.slice none 0 0), iv .i64 0, iv .i64 0, iv .i64 0, pv (.slice none 0 0)]) rfl ⟨.inl iv_at, .inl (pv_at rfl), .inl iv_at, .inl iv_at, .inl iv_at, .inl (pv_at rfl), trivial⟩) rfl rfl rfl) (fun _ => ?_)
          refine s_rd (r_assign rfl) rfl ?_
          refine l_nil ?_
          refine n_then ?_
          refine ref_ret ?_
          refine r_then ?_
          refine b_of (ocW 2 [iv .i64 0, slv rT_api_Pair [], iv .i64 0, iv .i64 0, iv .i64 0, slv rT_api_Move []] rfl ⟨imp_rfl, nil_sl, imp_rfl, imp_rfl, imp_rfl, nil_sl, trivial⟩) ?_
          exact fin2 (.inl rfl) () [] rfl trivial rfl (rv_cell rfl (j := 2) rfl Try.isAgg31 Try.sizeOf31 rfl rfl) (rv_tmp rfl)
        · refine s_on rfl rfl rfl ?_
          refine s_rd (r_aaddr (sz := 1) ⟨by decide, by decide⟩ Try.underlying28 Try.sizeOf3 rfl rfl) rfl ?_
          refine s_on rfl rfl rfl ?_
          refine s_rd (r_cload Try.isAgg3 rfl (j := 1) rfl rfl) rfl ?_
          refine s_on rfl rfl rfl ?_
          refine s_rd (r_gtr rfl rfl) rfl ?_
          refine s_rd (r_pickF rfl rfl) rfl ?_
          refine s_rd (r_move rfl) rfl ?_
          refine b_split (t := 34) rfl (fun _ => ?_) (fun _ => ?_)
          · refine s_off rfl rfl rfl rfl rfl ?_
            refine s_off rfl rfl rfl rfl rfl ?_
            refine s_off rfl rfl rfl rfl rfl ?_
            refine s_rd (r_pickT rfl rfl) rfl ?_
            refine s_rd (r_move rfl) rfl ?_
            refine s_off rfl rfl rfl rfl rfl ?_
            refine s_off rfl rfl rfl rfl rfl ?_
            refine s_off rfl rfl rfl rfl rfl ?_
            refine s_rd (r_pickT rfl rfl) rfl ?_
            refine l_nil ?_
            refine n_then ?_
            refine ref_condT rfl rfl ?_
            refine ref_seq ?_
            refine ref_region ?_
            refine s_rd (r_build (ps := []) (rs := []) st_31 zs_31 trivial rfl rfl) rfl ?_
            refine s_st0 (s_cstore (out := [iv .i64 0, pv (.slice none 0 0), iv .i64 0, iv .i64 0, iv .i64 0, pv (.slice none 0 0)]) Try.sizeOf31 rfl (j := 2) rfl (part_agO (ψs := [iv .i64 0, pv (.slice none 0 0), iv .i64 0, iv .i64 0, iv .i64 0, pv (.slice none 0 0)]) rfl ⟨.inl iv_at, .inl (pv_at rfl), .inl iv_at, .inl iv_at, .inl iv_at, .inl (pv_at rfl), trivial⟩) rfl rfl rfl) (fun _ => ?_)
            refine s_rd (r_assign rfl) rfl ?_
            refine l_nil ?_
            refine n_then ?_
            refine ref_ret ?_
            refine r_then ?_
            refine b_of (ocW 2 [iv .i64 0, slv rT_api_Pair [], iv .i64 0, iv .i64 0, iv .i64 0, slv rT_api_Move []] rfl ⟨imp_rfl, nil_sl, imp_rfl, imp_rfl, imp_rfl, nil_sl, trivial⟩) ?_
            exact fin2 (.inl rfl) () [] rfl trivial rfl (rv_cell rfl (j := 2) rfl Try.isAgg31 Try.sizeOf31 rfl rfl) (rv_tmp rfl)
          · refine s_on rfl rfl rfl ?_
            refine s_rd (r_aaddr (sz := 1) ⟨by decide, by decide⟩ Try.underlying28 Try.sizeOf3 rfl rfl) rfl ?_
            refine s_on rfl rfl rfl ?_
            refine s_rd (r_cload Try.isAgg3 rfl (j := 1) rfl rfl) rfl ?_
            refine s_on rfl rfl rfl ?_
            refine s_rd (r_lss rfl rfl) rfl ?_
            refine s_rd (r_pickF rfl rfl) rfl ?_
            refine s_rd (r_move rfl) rfl ?_
            refine b_split (t := 39) rfl (fun _ => ?_) (fun _ => ?_)
            · refine s_off rfl rfl rfl rfl rfl ?_
              refine s_off rfl rfl rfl rfl rfl ?_
              refine s_off rfl rfl rfl rfl rfl ?_
              refine s_rd (r_pickT rfl rfl) rfl ?_
              refine l_nil ?_
              refine n_then ?_
              refine ref_condT rfl rfl ?_
              refine ref_seq ?_
              refine ref_region ?_
              refine s_rd (r_build (ps := []) (rs := []) st_31 zs_31 trivial rfl rfl) rfl ?_
              refine s_st0 (s_cstore (out := [iv .i64 0, pv (.slice none 0 0), iv .i64 0, iv .i64 0, iv .i64 0, pv (.slice none 0 0)]) Try.sizeOf31 rfl (j := 2) rfl (part_agO (ψs := [iv .i64 0, pv (.slice none 0 0), iv .i64 0, iv .i64 0, iv .i64 0, pv (.slice none 0 0)]) rfl ⟨.inl iv_at, .inl (pv_at rfl), .inl iv_at, .inl iv_at, .inl iv_at, .inl (pv_at rfl), trivial⟩) rfl rfl rfl) (fun _ => ?_)
              refine s_rd (r_assign rfl) rfl ?_
              refine l_nil ?_
              refine n_then ?_
              refine ref_ret ?_
              refine r_then ?_
              refine b_of (ocW 2 [iv .i64 0, slv rT_api_Pair [], iv .i64 0, iv .i64 0, iv .i64 0, slv rT_api_Move []] rfl ⟨imp_rfl, nil_sl, imp_rfl, imp_rfl, imp_rfl, nil_sl, trivial⟩) ?_
              exact fin2 (.inl rfl) () [] rfl trivial rfl (rv_cell rfl (j := 2) rfl Try.isAgg31 Try.sizeOf31 rfl rfl) (rv_tmp rfl)
            · refine s_on rfl rfl rfl ?_
              refine s_rd (r_aaddr (sz := 1) ⟨by decide, by decide⟩ Try.underlying28 Try.sizeOf3 rfl rfl) rfl ?_
              refine s_on rfl rfl rfl ?_
              refine s_rd (r_cload Try.isAgg3 rfl (j := 1) rfl rfl) rfl ?_
              refine s_on rfl rfl rfl ?_
              refine s_rd (r_gtr rfl rfl) rfl ?_
              refine s_rd (r_pickF rfl rfl) rfl ?_
              refine l_nil ?_
              refine n_then ?_
              refine ref_cond rfl (fun hb6 => ?_) (fun hb6 => ?_)
              · refine ref_seq ?_
                refine ref_region ?_
                refine s_rd (r_build (ps := []) (rs := []) st_31 zs_31 trivial rfl rfl) rfl ?_
                refine s_st0 (s_cstore (out := [iv .i64 0, pv (.slice none 0 0), iv .i64 0, iv .i64 0, iv .i64 0, pv (.slice none 0 0)]) Try.sizeOf31 rfl (j := 2) rfl (part_agO (ψs := [iv .i64 0, pv (.slice none 0 0), iv .i64 0, iv .i64 0, iv .i64 0, pv (.slice none 0 0)]) rfl ⟨.inl iv_at, .inl (pv_at rfl), .inl iv_at, .inl iv_at, .inl iv_at, .inl (pv_at rfl), trivial⟩) rfl rfl rfl) (fun _ => ?_)
                refine s_rd (r_assign rfl) rfl ?_
                refine l_nil ?_
                refine n_then ?_
                refine ref_ret ?_
                refine r_then ?_
                refine b_of (ocW 2 [iv .i64 0, slv rT_api_Pair [], iv .i64 0, iv .i64 0, iv .i64 0, slv rT_api_Move []] rfl ⟨imp_rfl, nil_sl, imp_rfl, imp_rfl, imp_rfl, nil_sl, trivial⟩) ?_
                exact fin2 (.inl rfl) () [] rfl trivial rfl (rv_cell rfl (j := 2) rfl Try.isAgg31 Try.sizeOf31 rfl rfl) (rv_tmp rfl)
              · refine ref_skip ?_
                refine n_then ?_
                refine ref_seq ?_
                refine ref_region ?_
                refine s_rd (r_move rfl) rfl ?_
                refine s_rd (r_build (ps := [(0, .const (.int .i64 (1))), (1, .const (.int .i64 (1))), (2, .tmp 45)]) (rs := [(0, [iv .i64 1]), (1, [iv .i64 1]), (2, [iv .i64 root_1])]) st_38 zs_38 ⟨rfl, (part_at rfl iv_at), ⟨rfl, (part_at rfl iv_at), ⟨rfl, (part_at rfl iv_at), trivial⟩⟩⟩ rfl rfl) rfl ?_
                refine s_st (s_alloc zt_38) rfl (fun b7 => ?_)
                refine s_st0 (s_cstore (out := [iv .i64 1, iv .i64 1, iv .i64 root_1, iv .i64 0]) Try.sizeOf38 rfl (j := 3) rfl (part_ag (ψs := [iv .i64 1, iv .i64 1, iv .i64 root_1, iv .i64 0]) rfl (by intro φ h; simp only [List.mem_cons, List.not_mem_nil, or_false] at h; rcases h with rfl | rfl | rfl | rfl <;> first | exact iv_at | exact bv_at | exact sv_at | exact slv_at | exact pv_at rfl)) rfl rfl rfl) (fun _ => ?_)
                refine l_nil ?_
                refine n_then ?_
                refine ref_seq ?_
                refine pull fun t9 h_t9 => ?_
                refine ref_drawI 1 [⟨[], [], [], [], [], fun us u => pv (ptr b1 0), fun us u => []⟩, ⟨[0], [], [], [0], [], fun us u => iv .i64 g_0.N, fun us u => []⟩, ⟨[], [], [], [], [], fun us u => pv (ptr b1 1), fun us u => []⟩, ⟨[2], [], [], [0], [], fun us u => slv rT_api_Pair g_0.L, fun us u => []⟩, ⟨[2, 3], [], [4], [4], [], fun us u => pv u.V.1, fun us u => [oa rT_api_Pair u.V.1 u.V.2 t9]⟩, ⟨[0, 1, 2, 3, 4], [4], [], [4], [], fun us u => ag [iv .i64 g_0.N, pv (us.getD 0 .none).V.1], fun us u => []⟩, ⟨[], [], [], [], [], fun us u => iv .i64 root_1, fun us u => []⟩, ⟨[], [], [], [1], [], fun us u => ag [iv .i64 limits_2.i0, iv .i64 limits_2.i1], fun us u => []⟩, ⟨[], [], [], [3], [], fun us u => ag [iv .i64 1, iv .i64 1, iv .i64 root_1, iv .i64 0], fun us u => []⟩, ⟨[8], [], [], [], [], fun us u => slv rT_api_Move [(T_api_Move.mk 1 1 root_1 0)], fun us u => []⟩, ⟨[0, 1, 2, 3, 4, 5, 6, 7, 8, 9], [4], [], [4], [], fun us u => ag [iv .i64 g_0.N, pv (us.getD 0 .none).V.1, iv .i64 root_1, iv .i64 limits_2.i0, iv .i64 limits_2.i1, slv rT_api_Move [(T_api_Move.mk 1 1 root_1 0)]], fun us u => []⟩, ⟨[0, 1, 2, 3, 4, 5, 6, 7, 8, 9, 10], [4], [2], [2, 4], [2], fun us u => pv undef, fun us u => [oc b3 [iv .i64 g_0.N, pv (us.getD 0 .none).V.1, iv .i64 root_1, iv .i64 limits_2.i0, iv .i64 limits_2.i1, slv rT_api_Move [(T_api_Move.mk 1 1 root_1 0)]]]⟩, ⟨[0, 1, 2, 3, 4, 5, 6, 7, 8, 9, 10, 11], [], [], [], [], fun us u => iv .i64 0, fun us u => []⟩] (fun χ8 => [(6, pv (ptr b3 0)), (7, iv .i64 0)]) (fun χ8 => [oc b1 [iv .i64 g_0.N, slv rT_api_Pair g_0.L], oc b2 [iv .i64 limits_2.i0, iv .i64 limits_2.i1], oc b3 [iv .i64 g_0.N, pv (χ8 4).V.1, iv .i64 root_1, iv .i64 limits_2.i0, iv .i64 limits_2.i1, slv rT_api_Move [(T_api_Move.mk 1 1 root_1 0)]], oc b7 [iv .i64 1, iv .i64 1, iv .i64 root_1, iv .i64 0], oa rT_api_Pair (χ8 4).V.1 (χ8 4).V.2 t9]) rfl (by kernel_rfl) ⟨fun χ8 Ω _ => St.toR (r_faddr (fo := 0) Try.underlying27 rfl rfl Try.sizeOf3 rfl) (fun _ => rfl) (fun _ => rfl), (by intro _ h; cases h; rfl), ⟨fun χ8 Ω ⟨h0, _⟩ => St.toR (r_cload Try.isAgg3 rfl (j := 0) h0 rfl) (fun _ => rfl) (fun _ => rfl), (by intro _ h; cases h; rfl), ⟨fun χ8 Ω _ => St.toR (r_faddr (fo := 1) Try.underlying27 rfl rfl Try.sizeOf25 rfl) (fun _ => rfl) (fun _ => rfl), (by intro _ h; cases h; rfl), ⟨fun χ8 Ω ⟨h0, _⟩ => St.toR (r_cload Try.isAgg25 rfl (j := 0) h0 rfl) (fun _ => rfl) (fun _ => rfl), (by intro _ h; cases h; rfl), ⟨fun χ8 Ω ⟨h4, _⟩ => St.to XU.V XU.hV (St.placeL [4] (s_call (ψ := fun (x10 : (Value × List Nat)) => pv x10.1) (args := [.tmp 50]) Try.call37 rfl (slices_Clone_api_Pair_api_Pair_ok h_t9) ⟨arg rfl, trivial⟩ (fun _ _ _ _ h => h)) (fun _ => rfl) (fun _ => ⟨h4, rfl, trivial⟩)) (fun _ => rfl) (fun _ => rfl), (by intro _ h; cases h; rfl), ⟨fun χ8 Ω ⟨h4, _⟩ => St.toR (r_build (ps := [(0, .tmp 48), (1, .tmp 51)]) (rs := [(0, [iv .i64 g_0.N]), (1, [pv (χ8 4).V.1])]) st_27 zs_27 ⟨rfl, (part_at rfl iv_at), ⟨rfl, (part_own rfl (j := 4) h4), trivial⟩⟩ rfl rfl) (fun _ => rfl) (fun _ => rfl), (by intro _ h; cases h; rfl), ⟨fun χ8 Ω _ => St.toR (r_move rfl) (fun _ => rfl) (fun _ => rfl), (by intro _ h; cases h; rfl), ⟨fun χ8 Ω ⟨h1, _⟩ => St.toR (r_cloadS Try.isAgg28 Try.sizeOf28 rfl (j := 1) h1 rfl rfl) (fun _ => rfl) (fun _ => rfl), (by intro _ h; cases h; rfl), ⟨fun χ8 Ω ⟨h3, _⟩ => St.toR (r_cloadS Try.isAgg38 Try.sizeOf38 rfl (j := 3) h3 rfl rfl) (fun _ => rfl) (fun _ => rfl), (by intro _ h; cases h; rfl), ⟨fun χ8 Ω _ => St.to XU.U XU.hU (s_bslice (xs := [.tmp 55]) (ds := [(T_api_Move.mk 1 1 root_1 0)]) Try.underlying29 el_38 rfl (Nat.le_of_ble_eq_true rfl) ⟨(part_ag (ψs := [iv .i64 1, iv .i64 1, iv .i64 root_1, iv .i64 0]) rfl (by intro φ h; simp only [List.mem_cons, List.not_mem_nil, or_false] at h; rcases h with rfl | rfl | rfl | rfl <;> first | exact iv_at | exact bv_at | exact sv_at | exact slv_at | exact pv_at rfl)), trivial⟩) (fun _ => rfl) (fun _ => rfl), (by intro _ h; cases h; rfl), ⟨fun χ8 Ω ⟨h4, _⟩ => St.toR (r_build (ps := [(0, .tmp 52), (1, .tmp 53), (2, .tmp 54), (3, .tmp 56)]) (rs := [(0, [iv .i64 g_0.N, pv (χ8 4).V.1]), (1, [iv .i64 root_1]), (2, [iv .i64 limits_2.i0, iv .i64 limits_2.i1]), (3, [slv rT_api_Move [(T_api_Move.mk 1 1 root_1 0)]])]) st_31 zs_31 ⟨rfl, (part_agO (ψs := [iv .i64 g_0.N, pv (χ8 4).V.1]) rfl ⟨.inl iv_at, .inr ⟨_, _, _, _, _, 4, rfl, h4⟩, trivial⟩), ⟨rfl, (part_at rfl iv_at), ⟨rfl, (part_ag (ψs := [iv .i64 limits_2.i0, iv .i64 limits_2.i1]) rfl (by intro φ h; simp only [List.mem_cons, List.not_mem_nil, or_false] at h; rcases h with rfl | rfl <;> first | exact iv_at | exact bv_at | exact sv_at | exact slv_at | exact pv_at rfl)), ⟨rfl, (part_at rfl slv_at), trivial⟩⟩⟩⟩ rfl rfl) (fun _ => rfl) (fun _ => rfl), (by intro _ h; cases h; rfl), ⟨fun χ8 Ω ⟨h2, h4, _⟩ => St.to XU.U XU.hU (s_cstore (out := [iv .i64 g_0.N, pv (χ8 4).V.1, iv .i64 root_1, iv .i64 limits_2.i0, iv .i64 limits_2.i1, slv rT_api_Move [(T_api_Move.mk 1 1 root_1 0)]]) Try.sizeOf31 rfl (j := 2) h2 (part_agO (ψs := [iv .i64 g_0.N, pv (χ8 4).V.1, iv .i64 root_1, iv .i64 limits_2.i0, iv .i64 limits_2.i1, slv rT_api_Move [(T_api_Move.mk 1 1 root_1 0)]]) rfl ⟨.inl iv_at, .inr ⟨_, _, _, _, _, 4, rfl, h4⟩, .inl iv_at, .inl iv_at, .inl iv_at, .inl slv_at, trivial⟩) rfl rfl rfl) (fun _ => rfl) (fun _ => rfl), (by intro _ h; cases h), ⟨fun χ8 Ω _ => St.toR (r_assign rfl) (fun _ => rfl) (fun _ => rfl), (by intro _ h; cases h; rfl), trivial⟩⟩⟩⟩⟩⟩⟩⟩⟩⟩⟩⟩⟩ (fun _ => ⟨rfl, rfl, trivial⟩) (fun _ => rfl) (fun χ8 => ?_)
                refine n_then ?_
                refine ref_ret ?_
                refine b_of (frzGL [] [(2, b3, [iv .i64 g_0.N, slv rT_api_Pair t9, iv .i64 root_1, iv .i64 limits_2.i0, iv .i64 limits_2.i1, slv rT_api_Move [(T_api_Move.mk 1 1 root_1 0)]])] (j := 4) rfl trivial ⟨⟨_, rfl, ⟨.inl rfl, .inr ⟨rfl, rfl⟩, .inl rfl, .inl rfl, .inl rfl, .inl rfl, trivial⟩⟩, trivial⟩ hM) ?_
                exact fin2 (.inl rfl) () [] rfl trivial rfl (rv_cell rfl (j := 2) rfl Try.isAgg31 Try.sizeOf31 rfl rfl) (rv_tmp rfl)

/-! deliberation/deliberationlaw27.awake -/
noncomputable def law27_awake_m  : Option (Bool) :=
  Option.bind (protocol_New_m (T_api_Graph.mk 3 [(T_api_Pair.mk 0 1), (T_api_Pair.mk 1 2)]) 2 (T_arr2_3.mk 9 9)) fun t2 =>
  Option.bind (protocol_Apply_m t2.1 (T_api_Move.mk 2 2 1 0)) fun t4 =>
  Option.bind (protocol_Apply_m t4.1 (T_api_Move.mk 1 2 0 1)) fun t5 =>
  bif t2.2 == 0 then
    bif t4.2 == 0 then
      bif t5.2 == 0 then
        bif (t5.1.Moves.length : Int) == 3 then
          Option.bind (protocol_End_m t5.1) fun t6 =>
          bif decide (t6 = (T_api_Outcome.mk 1 1)) then
            Option.bind (protocol_Status_m t5.1) fun t7 =>
            Option.bind (keep_Ints_m t7 [1, 2, 1]) fun t9 =>
            some t9
          else
            some false
        else
          some false
      else
        some false
    else
      some false
  else
    some false

theorem law27_awake_ok  {r : Bool} (hm : law27_awake_m  = some r) :
    FnOk prog 16 [] [] (fun (x : Unit) => [bv r]) (fun (x : Unit) => []) := by
  refine fn_ok (X := Unit) (fn := Try.f16) (N := 56) (m := law27_awake_m ) (res := fun r x => [bv r]) (Ω1 := fun r x => []) Try.func16 rfl rfl hm rfl (fun E hM => ?_)
  unfold law27_awake_m
  refine ref_seq ?_
  refine ref_region ?_
  refine s_rd (r_assign rfl) rfl ?_
  refine l_nil ?_
  refine n_then ?_
  refine ref_seq ?_
  refine ref_region ?_
  refine s_rd (r_build (ps := [(0, .const (.int .i64 (0))), (1, .const (.int .i64 (1)))]) (rs := [(0, [iv .i64 0]), (1, [iv .i64 1])]) st_71 zs_71 ⟨rfl, (part_at rfl iv_at), ⟨rfl, (part_at rfl iv_at), trivial⟩⟩ rfl rfl) rfl ?_
  refine s_rd (r_build (ps := [(0, .const (.int .i64 (1))), (1, .const (.int .i64 (2)))]) (rs := [(0, [iv .i64 1]), (1, [iv .i64 2])]) st_71 zs_71 ⟨rfl, (part_at rfl iv_at), ⟨rfl, (part_at rfl iv_at), trivial⟩⟩ rfl rfl) rfl ?_
  refine s_st (s_bslice (xs := [.tmp 6, .tmp 7]) (ds := [(T_api_Pair.mk 0 1), (T_api_Pair.mk 1 2)]) Try.underlying25 el_71 rfl (Nat.le_of_ble_eq_true rfl) ⟨(part_ag (ψs := [iv .i64 0, iv .i64 1]) rfl (by intro φ h; simp only [List.mem_cons, List.not_mem_nil, or_false] at h; rcases h with rfl | rfl <;> first | exact iv_at | exact bv_at | exact sv_at | exact slv_at | exact pv_at rfl)), ⟨(part_ag (ψs := [iv .i64 1, iv .i64 2]) rfl (by intro φ h; simp only [List.mem_cons, List.not_mem_nil, or_false] at h; rcases h with rfl | rfl <;> first | exact iv_at | exact bv_at | exact sv_at | exact slv_at | exact pv_at rfl)), trivial⟩⟩) rfl (fun _ => ?_)
  refine s_rd (r_build (ps := [(0, .const (.int .i64 (3))), (1, .tmp 8)]) (rs := [(0, [iv .i64 3]), (1, [slv rT_api_Pair [(T_api_Pair.mk 0 1), (T_api_Pair.mk 1 2)]])]) st_27 zs_27 ⟨rfl, (part_at rfl iv_at), ⟨rfl, (part_at rfl slv_at), trivial⟩⟩ rfl rfl) rfl ?_
  refine s_st (s_alloc zt_27) rfl (fun b1 => ?_)
  refine s_st0 (s_cstore (out := [iv .i64 3, slv rT_api_Pair [(T_api_Pair.mk 0 1), (T_api_Pair.mk 1 2)]]) Try.sizeOf27 rfl (j := 0) rfl (part_ag (ψs := [iv .i64 3, slv rT_api_Pair [(T_api_Pair.mk 0 1), (T_api_Pair.mk 1 2)]]) rfl (by intro φ h; simp only [List.mem_cons, List.not_mem_nil, or_false] at h; rcases h with rfl | rfl <;> first | exact iv_at | exact bv_at | exact sv_at | exact slv_at | exact pv_at rfl)) rfl rfl rfl) (fun _ => ?_)
  refine l_nil ?_
  refine n_then ?_
  refine ref_seq ?_
  refine ref_region ?_
  refine s_rd (r_cloadS Try.isAgg27 Try.sizeOf27 rfl (j := 0) rfl rfl rfl) rfl ?_
  refine s_rd (r_buildA (ps := [(0, .const (.int .i64 (9))), (1, .const (.int .i64 (9)))]) (rs := [(0, [iv .i64 9]), (1, [iv .i64 9])]) (sz := 1) Try.underlying28 Try.sizeOf3 ⟨_, _, Try.type28, rfl⟩ zs_28 ⟨rfl, (part_at rfl iv_at), ⟨rfl, (part_at rfl iv_at), trivial⟩⟩ rfl rfl) rfl ?_
  refine pull fun t2 h_t2 => ?_
  refine s_st (s_call (ψ := fun (_ : Unit) => tup [ag [iv .i64 t2.1.Graph.N, slv rT_api_Pair t2.1.Graph.L, iv .i64 t2.1.Root, iv .i64 t2.1.Limits.i0, iv .i64 t2.1.Limits.i1, slv rT_api_Move t2.1.Moves], iv .i64 t2.2]) (args := [.tmp 11, .const (.int .i64 (2)), .tmp 12]) Try.call18 rfl (protocol_New_ok h_t2) ⟨arg rfl, arg rfl, arg rfl, trivial⟩ (fun _ _ _ _ h => h)) rfl (fun _ => ?_)
  refine s_rd (r_move rfl) rfl ?_
  refine s_rd (r_extract rfl rfl) rfl ?_
  refine s_rd (r_extract rfl rfl) rfl ?_
  refine s_st (s_alloc zt_31) rfl (fun b3 => ?_)
  refine s_st0 (s_cstore (out := [iv .i64 t2.1.Graph.N, slv rT_api_Pair t2.1.Graph.L, iv .i64 t2.1.Root, iv .i64 t2.1.Limits.i0, iv .i64 t2.1.Limits.i1, slv rT_api_Move t2.1.Moves]) Try.sizeOf31 rfl (j := 1) rfl (part_ag (ψs := [iv .i64 t2.1.Graph.N, slv rT_api_Pair t2.1.Graph.L, iv .i64 t2.1.Root, iv .i64 t2.1.Limits.i0, iv .i64 t2.1.Limits.i1, slv rT_api_Move t2.1.Moves]) rfl (by intro φ h; simp only [List.mem_cons, List.not_mem_nil, or_false] at h; rcases h with rfl | rfl | rfl | rfl | rfl | rfl <;> first | exact iv_at | exact bv_at | exact sv_at | exact slv_at | exact pv_at rfl)) rfl rfl rfl) (fun _ => ?_)
  refine s_rd (r_assign rfl) rfl ?_
  refine l_nil ?_
  refine b_of (nrm [oc b1 [iv .i64 3, slv rT_api_Pair [(T_api_Pair.mk 0 1), (T_api_Pair.mk 1 2)]], oc b3 [iv .i64 t2.1.Graph.N, slv rT_api_Pair t2.1.Graph.L, iv .i64 t2.1.Root, iv .i64 t2.1.Limits.i0, iv .i64 t2.1.Limits.i1, slv rT_api_Move t2.1.Moves]] rfl) ?_
  refine n_then ?_
  refine ref_seq ?_
  refine ref_region ?_
  refine s_rd (r_cloadS Try.isAgg31 Try.sizeOf31 rfl (j := 1) rfl rfl rfl) rfl ?_
  refine s_rd (r_build (ps := [(0, .const (.int .i64 (2))), (1, .const (.int .i64 (2))), (2, .const (.int .i64 (1))), (3, .const (.int .i64 (0)))]) (rs := [(0, [iv .i64 2]), (1, [iv .i64 2]), (2, [iv .i64 1]), (3, [iv .i64 0])]) st_38 zs_38 ⟨rfl, (part_at rfl iv_at), ⟨rfl, (part_at rfl iv_at), ⟨rfl, (part_at rfl iv_at), ⟨rfl, (part_at rfl iv_at), trivial⟩⟩⟩⟩ rfl rfl) rfl ?_
  refine pull fun t4 h_t4 => ?_
  refine s_st (s_call (ψ := fun (_ : Unit) => tup [ag [iv .i64 t4.1.Graph.N, slv rT_api_Pair t4.1.Graph.L, iv .i64 t4.1.Root, iv .i64 t4.1.Limits.i0, iv .i64 t4.1.Limits.i1, slv rT_api_Move t4.1.Moves], iv .i64 t4.2]) (args := [.tmp 17, .tmp 18]) Try.call13 rfl (protocol_Apply_ok h_t4) ⟨arg rfl, arg rfl, trivial⟩ (fun _ _ _ _ h => h)) rfl (fun _ => ?_)
  refine s_rd (r_move rfl) rfl ?_
  refine s_rd (r_extract rfl rfl) rfl ?_
  refine s_rd (r_extract rfl rfl) rfl ?_
  refine s_st0 (s_cstore (out := [iv .i64 t4.1.Graph.N, slv rT_api_Pair t4.1.Graph.L, iv .i64 t4.1.Root, iv .i64 t4.1.Limits.i0, iv .i64 t4.1.Limits.i1, slv rT_api_Move t4.1.Moves]) Try.sizeOf31 rfl (j := 1) rfl (part_ag (ψs := [iv .i64 t4.1.Graph.N, slv rT_api_Pair t4.1.Graph.L, iv .i64 t4.1.Root, iv .i64 t4.1.Limits.i0, iv .i64 t4.1.Limits.i1, slv rT_api_Move t4.1.Moves]) rfl (by intro φ h; simp only [List.mem_cons, List.not_mem_nil, or_false] at h; rcases h with rfl | rfl | rfl | rfl | rfl | rfl <;> first | exact iv_at | exact bv_at | exact sv_at | exact slv_at | exact pv_at rfl)) rfl rfl rfl) (fun _ => ?_)
  refine s_rd (r_assign rfl) rfl ?_
  refine l_nil ?_
  refine n_then ?_
  refine ref_seq ?_
  refine ref_region ?_
  refine s_rd (r_cloadS Try.isAgg31 Try.sizeOf31 rfl (j := 1) rfl rfl rfl) rfl ?_
  refine s_rd (r_build (ps := [(0, .const (.int .i64 (1))), (1, .const (.int .i64 (2))), (2, .const (.int .i64 (0))), (3, .const (.int .i64 (1)))]) (rs := [(0, [iv .i64 1]), (1, [iv .i64 2]), (2, [iv .i64 0]), (3, [iv .i64 1])]) st_38 zs_38 ⟨rfl, (part_at rfl iv_at), ⟨rfl, (part_at rfl iv_at), ⟨rfl, (part_at rfl iv_at), ⟨rfl, (part_at rfl iv_at), trivial⟩⟩⟩⟩ rfl rfl) rfl ?_
  refine pull fun t5 h_t5 => ?_
  refine s_st (s_call (ψ := fun (_ : Unit) => tup [ag [iv .i64 t5.1.Graph.N, slv rT_api_Pair t5.1.Graph.L, iv .i64 t5.1.Root, iv .i64 t5.1.Limits.i0, iv .i64 t5.1.Limits.i1, slv rT_api_Move t5.1.Moves], iv .i64 t5.2]) (args := [.tmp 23, .tmp 24]) Try.call13 rfl (protocol_Apply_ok h_t5) ⟨arg rfl, arg rfl, trivial⟩ (fun _ _ _ _ h => h)) rfl (fun _ => ?_)
  refine s_rd (r_move rfl) rfl ?_
  refine s_rd (r_extract rfl rfl) rfl ?_
  refine s_rd (r_extract rfl rfl) rfl ?_
  refine s_st0 (s_cstore (out := [iv .i64 t5.1.Graph.N, slv rT_api_Pair t5.1.Graph.L, iv .i64 t5.1.Root, iv .i64 t5.1.Limits.i0, iv .i64 t5.1.Limits.i1, slv rT_api_Move t5.1.Moves]) Try.sizeOf31 rfl (j := 1) rfl (part_ag (ψs := [iv .i64 t5.1.Graph.N, slv rT_api_Pair t5.1.Graph.L, iv .i64 t5.1.Root, iv .i64 t5.1.Limits.i0, iv .i64 t5.1.Limits.i1, slv rT_api_Move t5.1.Moves]) rfl (by intro φ h; simp only [List.mem_cons, List.not_mem_nil, or_false] at h; rcases h with rfl | rfl | rfl | rfl | rfl | rfl <;> first | exact iv_at | exact bv_at | exact sv_at | exact slv_at | exact pv_at rfl)) rfl rfl rfl) (fun _ => ?_)
  refine s_rd (r_assign rfl) rfl ?_
  refine l_nil ?_
  refine b_of (nrm [oc b1 [iv .i64 3, slv rT_api_Pair [(T_api_Pair.mk 0 1), (T_api_Pair.mk 1 2)]], oc b3 [iv .i64 t5.1.Graph.N, slv rT_api_Pair t5.1.Graph.L, iv .i64 t5.1.Root, iv .i64 t5.1.Limits.i0, iv .i64 t5.1.Limits.i1, slv rT_api_Move t5.1.Moves]] rfl) ?_
  refine n_then ?_
  refine ref_seq ?_
  refine ref_region ?_
  refine s_rd (r_move rfl) rfl ?_
  refine s_rd (r_eql rfl rfl) rfl ?_
  refine s_rd (r_move rfl) rfl ?_
  refine b_split (t := 30) rfl (fun _ => ?_) (fun _ => ?_)
  · refine s_on rfl rfl rfl ?_
    refine s_rd (r_move rfl) rfl ?_
    refine s_on rfl rfl rfl ?_
    refine s_rd (r_eql rfl rfl) rfl ?_
    refine s_rd (r_pickT rfl rfl) rfl ?_
    refine s_rd (r_move rfl) rfl ?_
    refine b_split (t := 34) rfl (fun _ => ?_) (fun _ => ?_)
    · refine s_on rfl rfl rfl ?_
      refine s_rd (r_move rfl) rfl ?_
      refine s_on rfl rfl rfl ?_
      refine s_rd (r_eql rfl rfl) rfl ?_
      refine s_rd (r_pickT rfl rfl) rfl ?_
      refine s_rd (r_move rfl) rfl ?_
      refine b_split (t := 38) rfl (fun _ => ?_) (fun _ => ?_)
      · refine s_on rfl rfl rfl ?_
        refine s_rd (r_faddr (fo := 5) Try.underlying31 rfl rfl Try.sizeOf29 rfl) rfl ?_
        refine s_on rfl rfl rfl ?_
        refine s_rd (r_cload Try.isAgg29 rfl (j := 1) rfl rfl) rfl ?_
        refine s_on rfl rfl rfl ?_
        refine s_rd (r_len Try.underlying29 rfl) rfl ?_
        refine s_on rfl rfl rfl ?_
        refine s_rd (r_eql rfl rfl) rfl ?_
        refine s_rd (r_pickT rfl rfl) rfl ?_
        refine s_rd (r_move rfl) rfl ?_
        refine b_split (t := 44) rfl (fun _ => ?_) (fun _ => ?_)
        · refine s_on rfl rfl rfl ?_
          refine s_rd (r_cloadS Try.isAgg31 Try.sizeOf31 rfl (j := 1) rfl rfl rfl) rfl ?_
          refine s_on rfl rfl rfl ?_
          refine pull fun t6 h_t6 => ?_
          refine s_st (s_call (ψ := fun (_ : Unit) => ag [iv .i64 t6.Winner, iv .i64 t6.Reason]) (args := [.tmp 45]) Try.call20 rfl (protocol_End_ok h_t6) ⟨arg rfl, trivial⟩ (fun _ _ _ _ h => h)) rfl (fun _ => ?_)
          refine s_on rfl rfl rfl ?_
          refine s_rd (r_build (ps := [(0, .const (.int .i64 (1))), (1, .const (.int .i64 (1)))]) (rs := [(0, [iv .i64 1]), (1, [iv .i64 1])]) st_50 zs_50 ⟨rfl, (part_at rfl iv_at), ⟨rfl, (part_at rfl iv_at), trivial⟩⟩ rfl rfl) rfl ?_
          refine s_on rfl rfl rfl ?_
          refine s_rd (r_steql (u := t6) (v := (T_api_Outcome.mk 1 1)) eq_50 rfl rfl rfl rfl) rfl ?_
          refine s_rd (r_pickT rfl rfl) rfl ?_
          refine s_rd (r_move rfl) rfl ?_
          refine b_split (t := 50) rfl (fun _ => ?_) (fun _ => ?_)
          · refine s_on rfl rfl rfl ?_
            refine s_rd (r_cloadS Try.isAgg31 Try.sizeOf31 rfl (j := 1) rfl rfl rfl) rfl ?_
            refine s_on rfl rfl rfl ?_
            refine pull fun t7 h_t7 => ?_
            refine s_st (s_call (ψ := fun (x8 : (Value × List Nat)) => pv x8.1) (args := [.tmp 51]) Try.call14 rfl (protocol_Status_ok h_t7) ⟨arg rfl, trivial⟩ (fun _ _ _ _ h => h)) rfl (fun x8 => ?_)
            refine s_on rfl rfl rfl ?_
            refine s_st (s_bslice (xs := [.const (.int .i64 (1)), .const (.int .i64 (2)), .const (.int .i64 (1))]) (ds := [1, 2, 1]) Try.underlying22 el_3 rfl (Nat.le_of_ble_eq_true rfl) ⟨(part_at rfl iv_at), ⟨(part_at rfl iv_at), ⟨(part_at rfl iv_at), trivial⟩⟩⟩) rfl (fun _ => ?_)
            refine s_on rfl rfl rfl ?_
            refine pull fun t9 h_t9 => ?_
            refine s_st (s_callB (ψ := fun (_ : Unit) => bv t9) (args := [.tmp 52, .tmp 53]) Try.call15 rfl (keep_Ints_ok h_t9) ⟨argO rfl (j := 2) rfl, argB rfl, trivial⟩ (fun _ _ _ _ _ h => h)) rfl (fun _ => ?_)
            refine s_rd (r_pickT rfl rfl) rfl ?_
            refine s_rd (r_assign rfl) rfl ?_
            refine l_nil ?_
            refine b_of (nrm [oc b1 [iv .i64 3, slv rT_api_Pair [(T_api_Pair.mk 0 1), (T_api_Pair.mk 1 2)]], oc b3 [iv .i64 t5.1.Graph.N, slv rT_api_Pair t5.1.Graph.L, iv .i64 t5.1.Root, iv .i64 t5.1.Limits.i0, iv .i64 t5.1.Limits.i1, slv rT_api_Move t5.1.Moves], oa (rI .i64) x8.1 x8.2 t7] rfl) ?_
            refine n_then ?_
            refine ref_ret ?_
            exact fin1 (.inl rfl) () [] rfl trivial rfl (rv_tmp rfl)
          · refine s_off rfl rfl rfl rfl rfl ?_
            refine s_off rfl rfl rfl rfl rfl ?_
            refine s_off rfl rfl rfl rfl rfl ?_
            refine s_off rfl rfl rfl rfl rfl ?_
            refine s_rd (r_pickF rfl rfl) rfl ?_
            refine s_rd (r_assign rfl) rfl ?_
            refine l_nil ?_
            refine n_then ?_
            refine ref_ret ?_
            exact fin1 (.inl rfl) () [] rfl trivial rfl (rv_tmp rfl)
        · refine s_off rfl rfl rfl rfl rfl ?_
          refine s_off rfl rfl rfl rfl rfl ?_
          refine s_off rfl rfl rfl rfl rfl ?_
          refine s_off rfl rfl rfl rfl rfl ?_
          refine s_rd (r_pickF rfl rfl) rfl ?_
          refine s_rd (r_move rfl) rfl ?_
          refine s_off rfl rfl rfl rfl rfl ?_
          refine s_off rfl rfl rfl rfl rfl ?_
          refine s_off rfl rfl rfl rfl rfl ?_
          refine s_off rfl rfl rfl rfl rfl ?_
          refine s_rd (r_pickF rfl rfl) rfl ?_
          refine s_rd (r_assign rfl) rfl ?_
          refine l_nil ?_
          refine n_then ?_
          refine ref_ret ?_
          exact fin1 (.inl rfl) () [] rfl trivial rfl (rv_tmp rfl)
      · refine s_off rfl rfl rfl rfl rfl ?_
        refine s_off rfl rfl rfl rfl rfl ?_
        refine s_off rfl rfl rfl rfl rfl ?_
        refine s_off rfl rfl rfl rfl rfl ?_
        refine s_rd (r_pickF rfl rfl) rfl ?_
        refine s_rd (r_move rfl) rfl ?_
        refine s_off rfl rfl rfl rfl rfl ?_
        refine s_off rfl rfl rfl rfl rfl ?_
        refine s_off rfl rfl rfl rfl rfl ?_
        refine s_off rfl rfl rfl rfl rfl ?_
        refine s_rd (r_pickF rfl rfl) rfl ?_
        refine s_rd (r_move rfl) rfl ?_
        refine s_off rfl rfl rfl rfl rfl ?_
        refine s_off rfl rfl rfl rfl rfl ?_
        refine s_off rfl rfl rfl rfl rfl ?_
        refine s_off rfl rfl rfl rfl rfl ?_
        refine s_rd (r_pickF rfl rfl) rfl ?_
        refine s_rd (r_assign rfl) rfl ?_
        refine l_nil ?_
        refine n_then ?_
        refine ref_ret ?_
        exact fin1 (.inl rfl) () [] rfl trivial rfl (rv_tmp rfl)
    · refine s_off rfl rfl rfl rfl rfl ?_
      refine s_off rfl rfl rfl rfl rfl ?_
      refine s_rd (r_pickF rfl rfl) rfl ?_
      refine s_rd (r_move rfl) rfl ?_
      refine s_off rfl rfl rfl rfl rfl ?_
      refine s_off rfl rfl rfl rfl rfl ?_
      refine s_off rfl rfl rfl rfl rfl ?_
      refine s_off rfl rfl rfl rfl rfl ?_
      refine s_rd (r_pickF rfl rfl) rfl ?_
      refine s_rd (r_move rfl) rfl ?_
      refine s_off rfl rfl rfl rfl rfl ?_
      refine s_off rfl rfl rfl rfl rfl ?_
      refine s_off rfl rfl rfl rfl rfl ?_
      refine s_off rfl rfl rfl rfl rfl ?_
      refine s_rd (r_pickF rfl rfl) rfl ?_
      refine s_rd (r_move rfl) rfl ?_
      refine s_off rfl rfl rfl rfl rfl ?_
      refine s_off rfl rfl rfl rfl rfl ?_
      refine s_off rfl rfl rfl rfl rfl ?_
      refine s_off rfl rfl rfl rfl rfl ?_
      refine s_rd (r_pickF rfl rfl) rfl ?_
      refine s_rd (r_assign rfl) rfl ?_
      refine l_nil ?_
      refine n_then ?_
      refine ref_ret ?_
      exact fin1 (.inl rfl) () [] rfl trivial rfl (rv_tmp rfl)
  · refine s_off rfl rfl rfl rfl rfl ?_
    refine s_off rfl rfl rfl rfl rfl ?_
    refine s_rd (r_pickF rfl rfl) rfl ?_
    refine s_rd (r_move rfl) rfl ?_
    refine s_off rfl rfl rfl rfl rfl ?_
    refine s_off rfl rfl rfl rfl rfl ?_
    refine s_rd (r_pickF rfl rfl) rfl ?_
    refine s_rd (r_move rfl) rfl ?_
    refine s_off rfl rfl rfl rfl rfl ?_
    refine s_off rfl rfl rfl rfl rfl ?_
    refine s_off rfl rfl rfl rfl rfl ?_
    refine s_off rfl rfl rfl rfl rfl ?_
    refine s_rd (r_pickF rfl rfl) rfl ?_
    refine s_rd (r_move rfl) rfl ?_
    refine s_off rfl rfl rfl rfl rfl ?_
    refine s_off rfl rfl rfl rfl rfl ?_
    refine s_off rfl rfl rfl rfl rfl ?_
    refine s_off rfl rfl rfl rfl rfl ?_
    refine s_rd (r_pickF rfl rfl) rfl ?_
    refine s_rd (r_move rfl) rfl ?_
    refine s_off rfl rfl rfl rfl rfl ?_
    refine s_off rfl rfl rfl rfl rfl ?_
    refine s_off rfl rfl rfl rfl rfl ?_
    refine s_off rfl rfl rfl rfl rfl ?_
    refine s_rd (r_pickF rfl rfl) rfl ?_
    refine s_rd (r_assign rfl) rfl ?_
    refine l_nil ?_
    refine n_then ?_
    refine ref_ret ?_
    exact fin1 (.inl rfl) () [] rfl trivial rfl (rv_tmp rfl)

/-! deliberation/deliberationlaw27.ProtocolRetracted -/
noncomputable def law27_ProtocolRetracted_l1  (s24 : Int × T_deliberationkeep_Src × T_api_Dialogue) : Option (Sum (T_api_Dialogue) (Int × T_deliberationkeep_Src × T_api_Dialogue)) :=
  bif decide (s24.1 < 8) then
    Option.bind (ref27_Legal_m s24.2.2) fun legal27 =>
    bif (legal27.length : Int) == 0 then
      some (Sum.inl s24.2.2)
    else
      Option.bind (keep_Src_N_m s24.2.1 (legal27.length : Int)) fun t30 =>
      Option.bind (idxM legal27 t30.1) fun t31 =>
      Option.bind (ref27_Apply_m s24.2.2 t31) fun t32 =>
      letM (iadd .i64 s24.1 1) fun i33 =>
      some (Sum.inr (i33, t30.2, t32.1))
  else
    some (Sum.inl s24.2.2)

noncomputable def law27_ProtocolRetracted_l4 (q34 : T_api_Dialogue) (s164 : Int) (s241 : Bool × Int) : Option (Sum (Bool) (Bool × Int)) :=
  bif decide (s241.2 > 0) then
    joinM (fun j244 : Bool =>
        Option.bind (idxM q34.Moves s241.2) fun t247 =>
        some (Sum.inr (j244, t247.Target))) fun k246 =>
    bif s241.1 then
      k246 true
    else
      k246 (s241.2 == s164)
  else
    some (Sum.inl s241.1)

noncomputable def law27_ProtocolRetracted_l5 (q34 : T_api_Dialogue) (s234 : Int × (List Int)) (s273 : Int × (List Int)) : Option (Sum ((List Int)) (Int × (List Int))) :=
  bif decide (s273.1 < (q34.Moves.length : Int)) then
    Option.bind (idxM q34.Moves s273.1) fun t276 =>
    bif t276.Target == s234.1 then
      Option.bind (idxM s273.2 s273.1) fun t277 =>
      bif t277 == 1 then
        Option.bind (idxM s273.2 s234.1) fun t279 =>
        letM (iadd .i64 s273.1 1) fun k280 =>
        some (Sum.inr (k280, s273.2.set (Int.toNat s234.1) 2))
      else
        letM (iadd .i64 s273.1 1) fun k281 =>
        some (Sum.inr (k281, s273.2))
    else
      letM (iadd .i64 s273.1 1) fun k282 =>
      some (Sum.inr (k282, s273.2))
  else
    some (Sum.inl s273.2)

noncomputable def law27_ProtocolRetracted_l3 (q34 : T_api_Dialogue) (s164 : Int) (s234 : Int × (List Int)) : Option (Sum ((List Int)) (Int × (List Int))) :=
  bif decide (s234.1 ≥ 0) then
    Option.bind (loopC (law27_ProtocolRetracted_l4 q34 s164) (false, s234.1)) fun q248 : Bool =>
    bif q248 then
      letM (isub .i64 s234.1 1) fun i285 =>
      some (Sum.inr (i285, s234.2))
    else
      Option.bind (idxM s234.2 s234.1) fun t251 =>
      letM (iadd .i64 s234.1 1) fun k252 =>
      Option.bind (loopC (law27_ProtocolRetracted_l5 q34 s234) (k252, s234.2.set (Int.toNat s234.1) 1)) fun q283 : (List Int) =>
      letM (isub .i64 s234.1 1) fun i286 =>
      some (Sum.inr (i286, q283))
  else
    some (Sum.inl s234.2)

noncomputable def law27_ProtocolRetracted_l2 (q34 : T_api_Dialogue) (turn36 : Int) (s164 : Int) : Option (Sum ((Sum (Bool) (Unit))) (Int)) :=
  bif decide (s164 < (q34.Moves.length : Int)) then
    Option.bind (protocol_Apply_m q34 (T_api_Move.mk turn36 3 0 s164)) fun t167 =>
    joinM (fun j170 : Bool =>
        bif j170 then
          bif t167.2 == 0 then
            some (Sum.inl (Sum.inl false))
          else
            letM (iadd .i64 s164 1) fun t291 =>
            some (Sum.inr t291)
        else
          bif t167.2 != 0 then
            some (Sum.inl (Sum.inl false))
          else
            bif (t167.1.Moves.length : Int) != (iadd .i64 (q34.Moves.length : Int) 1) then
              some (Sum.inl (Sum.inl false))
            else
              Option.bind (protocol_Status_m t167.1) fun status176 =>
              Option.bind (mkM 8 0 (t167.1.Moves.length : Int)) fun want178 =>
              letM (isub .i64 (q34.Moves.length : Int) 1) fun i180 =>
              Option.bind (loopC (law27_ProtocolRetracted_l3 q34 s164) (i180, want178)) fun q287 : (List Int) =>
              Option.bind (keep_Ints_m status176 q287) fun t289 =>
              bif !t289 then
                some (Sum.inl (Sum.inl false))
              else
                letM (iadd .i64 s164 1) fun t292 =>
                some (Sum.inr t292)) fun k172 =>
    bif turn36 == 0 then
      k172 true
    else
      Option.bind (idxM q34.Moves s164) fun t169 =>
      bif t169.By != turn36 then
        k172 true
      else
        k172 (s164 == 0)
  else
    some (Sum.inl (Sum.inr ()))

noncomputable def law27_ProtocolRetracted_m (l_0 : (List Int)) : Option (Bool) :=
  Option.bind (keep_New_m l_0) fun s1 =>
  Option.bind (law27_begun_m s1 6) fun t3 =>
  Option.bind (loopC (law27_ProtocolRetracted_l1) (0, t3.2, t3.1)) fun q34 : T_api_Dialogue =>
  Option.bind (ref27_Turn_m q34) fun turn36 =>
  Option.bind (loopC (law27_ProtocolRetracted_l2 q34 turn36) 0) (sumK (fun a : Bool => some a) fun q293 : Unit =>
    Option.bind (law27_awake_m ) fun t295 =>
    some t295)

theorem law27_ProtocolRetracted_ok {l_0 : (List Int)} {r : Bool} (hm : law27_ProtocolRetracted_m l_0 = some r) :
    FnOk prog 3 [slv (rI .i64) l_0] [] (fun (x : Unit) => [bv r]) (fun (x : Unit) => []) := by
  refine fn_ok (X := Unit) (fn := Try.f3) (N := 154) (m := law27_ProtocolRetracted_m l_0) (res := fun r x => [bv r]) (Ω1 := fun r x => []) Try.func3 rfl rfl hm rfl (fun E hM => ?_)
  unfold law27_ProtocolRetracted_m
  refine ref_seq ?_
  refine ref_region ?_
  refine s_rd (r_assign rfl) rfl ?_
  refine l_nil ?_
  refine n_then ?_
  refine ref_seq ?_
  refine ref_region ?_
  refine s_rd (r_move rfl) rfl ?_
  refine pull fun s1 h_s1 => ?_
  refine s_st (s_call (ψ := fun (x2 : Nat) => pv (ptr x2 0)) (args := [.tmp 17]) Try.call7 rfl (keep_New_ok h_s1) ⟨arg rfl, trivial⟩ (fun _ _ _ _ h => h)) rfl (fun x2 => ?_)
  refine s_rd (r_assign rfl) rfl ?_
  refine l_nil ?_
  refine n_then ?_
  refine ref_seq ?_
  refine ref_region ?_
  refine s_rd (r_move rfl) rfl ?_
  refine pull fun t3 h_t3 => ?_
  refine s_st (s_callO (js := [0]) (os := fun (_ : Unit) => [oc x2 [slv (rI .i64) t3.2.L, iv .i64 t3.2.At]]) (ex := fun (_ : Unit) => []) (ψ := fun (_ : Unit) => ag [iv .i64 t3.1.Graph.N, slv rT_api_Pair t3.1.Graph.L, iv .i64 t3.1.Root, iv .i64 t3.1.Limits.i0, iv .i64 t3.1.Limits.i1, slv rT_api_Move t3.1.Moves]) (args := [.tmp 19, .const (.int .i64 (6))]) Try.call8 rfl (law27_begun_ok h_t3) ⟨rfl, trivial⟩ (fun _ => rfl) (fun _ => ⟨rfl, trivial⟩) ⟨arg rfl, arg rfl, trivial⟩ (fun _ _ _ _ h => h)) rfl (fun _ => ?_)
  refine s_st (s_alloc zt_31) rfl (fun b4 => ?_)
  refine s_st0 (s_cstore (out := [iv .i64 t3.1.Graph.N, slv rT_api_Pair t3.1.Graph.L, iv .i64 t3.1.Root, iv .i64 t3.1.Limits.i0, iv .i64 t3.1.Limits.i1, slv rT_api_Move t3.1.Moves]) Try.sizeOf31 rfl (j := 1) rfl (part_ag (ψs := [iv .i64 t3.1.Graph.N, slv rT_api_Pair t3.1.Graph.L, iv .i64 t3.1.Root, iv .i64 t3.1.Limits.i0, iv .i64 t3.1.Limits.i1, slv rT_api_Move t3.1.Moves]) rfl (by intro φ h; simp only [List.mem_cons, List.not_mem_nil, or_false] at h; rcases h with rfl | rfl | rfl | rfl | rfl | rfl <;> first | exact iv_at | exact bv_at | exact sv_at | exact slv_at | exact pv_at rfl)) rfl rfl rfl) (fun _ => ?_)
  refine l_nil ?_
  refine b_of (nrm [oc x2 [slv (rI .i64) t3.2.L, iv .i64 t3.2.At], oc b4 [iv .i64 t3.1.Graph.N, slv rT_api_Pair t3.1.Graph.L, iv .i64 t3.1.Root, iv .i64 t3.1.Limits.i0, iv .i64 t3.1.Limits.i1, slv rT_api_Move t3.1.Moves]] rfl) ?_
  refine n_then ?_
  refine ref_seq ?_
  refine ref_seq ?_
  refine ref_region ?_
  refine s_rd (r_assign rfl) rfl ?_
  refine l_nil ?_
  refine n_then ?_
  refine ref_loopB (f := (law27_ProtocolRetracted_l1)) (Γl := (fun (s24 : Int × T_deliberationkeep_Src × T_api_Dialogue) (x25 : Unit) => [(3, pv (ptr x2 0)), (4, pv (ptr b4 0)), (5, iv .i64 s24.1)])) (Ωl := (fun (s24 : Int × T_deliberationkeep_Src × T_api_Dialogue) (x25 : Unit) => [oc x2 [slv (rI .i64) s24.2.1.L, iv .i64 s24.2.1.At], oc b4 [iv .i64 s24.2.2.Graph.N, slv rT_api_Pair s24.2.2.Graph.L, iv .i64 s24.2.2.Root, iv .i64 s24.2.2.Limits.i0, iv .i64 s24.2.2.Limits.i1, slv rT_api_Move s24.2.2.Moves]])) (Γb := (fun (q34 : T_api_Dialogue) (y35 : Unit) => [(4, pv (ptr b4 0))])) (Ωb := (fun (q34 : T_api_Dialogue) (y35 : Unit) => [oc b4 [iv .i64 q34.Graph.N, slv rT_api_Pair q34.Graph.L, iv .i64 q34.Root, iv .i64 q34.Limits.i0, iv .i64 q34.Limits.i1, slv rT_api_Move q34.Moves]])) (0, t3.2, t3.1) () (weak [0, 1] ⟨rfl, rfl, rfl, trivial⟩ ⟨rfl, rfl, trivial⟩) (fun s24 x25 => ?_) (fun q34 y35 => ?_)
  · unfold law27_ProtocolRetracted_l1
    refine ref_seq ?_
    refine ref_seq ?_
    refine ref_region ?_
    refine s_rd (r_move rfl) rfl ?_
    refine s_rd (r_lss rfl rfl) rfl ?_
    refine l_nil ?_
    refine n_then ?_
    refine ref_cond rfl (fun hb26 => ?_) (fun hb26 => ?_)
    · refine ref_skip ?_
      refine n_then ?_
      refine ref_seq ?_
      refine ref_block ?_
      refine ref_seq ?_
      refine ref_region ?_
      refine s_rd (r_cloadS Try.isAgg31 Try.sizeOf31 rfl (j := 1) rfl rfl rfl) rfl ?_
      refine pull fun legal27 h_legal27 => ?_
      refine s_st (s_call (ψ := fun (x28 : (Value × List Nat)) => pv x28.1) (args := [.tmp 25]) Try.call9 rfl (ref27_Legal_ok h_legal27) ⟨arg rfl, trivial⟩ (fun _ _ _ _ h => h)) rfl (fun x28 => ?_)
      refine s_rd (r_assign rfl) rfl ?_
      refine l_nil ?_
      refine n_then ?_
      refine ref_seq ?_
      refine ref_seq ?_
      refine ref_region ?_
      refine s_rd (r_move rfl) rfl ?_
      refine s_rd (r_olen Try.underlying29 rfl (j := 2) rfl) rfl ?_
      refine s_rd (r_eql rfl rfl) rfl ?_
      refine l_nil ?_
      refine n_then ?_
      refine ref_cond rfl (fun hb29 => ?_) (fun hb29 => ?_)
      · refine ref_exit ?_
        refine x_then ?_
        refine x_ne rfl ?_
        refine x_then ?_
        exact brkB () (weak [1] ⟨rfl, trivial⟩ ⟨rfl, trivial⟩)
      · refine ref_skip ?_
        refine n_then ?_
        refine ref_draw [0, 1, 2, 3, 4, 6, 7, 9, 10, 11] rfl (by kernel_rfl) (fun hok => ?_)
        refine a_rd (i := 0) hok rfl (by kernel_rfl) rfl (r_cloadS Try.isAgg31 Try.sizeOf31 rfl (j := 1) rfl rfl rfl) rfl ?_
        refine a_rd (i := 1) hok rfl (by kernel_rfl) rfl (r_move rfl) rfl ?_
        refine a_rd (i := 2) hok rfl (by kernel_rfl) rfl (r_move rfl) rfl ?_
        refine a_rd (i := 3) hok rfl (by kernel_rfl) rfl (r_move rfl) rfl ?_
        refine a_rd (i := 4) hok rfl (by kernel_rfl) rfl (r_olen Try.underlying29 rfl (j := 2) rfl) rfl ?_
        refine pull fun t30 h_t30 => ?_
        refine a_next hok 5 [] (by kernel_rfl) ?_ trivial
        refine a_st (i := 5) hok rfl rfl (s_callO (js := [0]) (os := fun (_ : Unit) => [oc x2 [slv (rI .i64) t30.2.L, iv .i64 t30.2.At]]) (ex := fun (_ : Unit) => []) (ψ := fun (_ : Unit) => iv .i64 t30.1) (args := [.tmp 33, .tmp 35]) Try.call11 rfl (keep_Src_N_ok h_t30) ⟨rfl, trivial⟩ (fun _ => rfl) (fun _ => ⟨rfl, trivial⟩) ⟨arg rfl, arg rfl, trivial⟩ (fun _ _ _ _ h => h)) (by intro _ h; cases h; rfl) (fun _ => ⟨trivial, ⟨trivial, ⟨trivial, ⟨trivial, ⟨⟨⟨rfl, rfl⟩, trivial⟩, trivial⟩⟩⟩⟩⟩) (fun _ => ?_)
        refine pull fun t31 h_t31 => ?_
        refine a_rd (i := 6) hok rfl (by kernel_rfl) rfl (r_oindex h_t31 Try.underlying29 el_38 rfl (j := 2) rfl rfl) rfl ?_
        refine a_rd (i := 7) hok rfl (by kernel_rfl) rfl (r_oload h_t31 el_38 rfl (j := 2) rfl) rfl ?_
        refine pull fun t32 h_t32 => ?_
        refine a_next hok 8 [] (by kernel_rfl) ?_ trivial
        refine a_st (i := 8) hok rfl rfl (s_call (ψ := fun (_ : Unit) => tup [ag [iv .i64 t32.1.Graph.N, slv rT_api_Pair t32.1.Graph.L, iv .i64 t32.1.Root, iv .i64 t32.1.Limits.i0, iv .i64 t32.1.Limits.i1, slv rT_api_Move t32.1.Moves], iv .i64 t32.2]) (args := [.tmp 31, .tmp 38]) Try.call10 rfl (ref27_Apply_ok h_t32) ⟨arg rfl, arg rfl, trivial⟩ (fun _ _ _ _ h => h)) (by intro _ h; cases h; rfl) (fun _ => ⟨trivial, ⟨trivial, ⟨trivial, ⟨trivial, ⟨trivial, ⟨trivial, ⟨trivial, trivial⟩⟩⟩⟩⟩⟩⟩) (fun _ => ?_)
        refine a_rd (i := 9) hok rfl (by kernel_rfl) rfl (r_move rfl) rfl ?_
        refine a_rd (i := 10) hok rfl (by kernel_rfl) rfl (r_extract rfl rfl) rfl ?_
        refine a_rd (i := 11) hok rfl (by kernel_rfl) rfl (r_extract rfl rfl) rfl ?_
        refine a_next hok 12 [] (by kernel_rfl) ?_ trivial
        refine a_st (i := 12) hok rfl rfl (s_cstore (out := [iv .i64 t32.1.Graph.N, slv rT_api_Pair t32.1.Graph.L, iv .i64 t32.1.Root, iv .i64 t32.1.Limits.i0, iv .i64 t32.1.Limits.i1, slv rT_api_Move t32.1.Moves]) Try.sizeOf31 rfl (j := 1) rfl (part_ag (ψs := [iv .i64 t32.1.Graph.N, slv rT_api_Pair t32.1.Graph.L, iv .i64 t32.1.Root, iv .i64 t32.1.Limits.i0, iv .i64 t32.1.Limits.i1, slv rT_api_Move t32.1.Moves]) rfl (by intro φ h; simp only [List.mem_cons, List.not_mem_nil, or_false] at h; rcases h with rfl | rfl | rfl | rfl | rfl | rfl <;> first | exact iv_at | exact bv_at | exact sv_at | exact slv_at | exact pv_at rfl)) rfl rfl rfl) (by intro _ h; cases h) (fun _ => ⟨trivial, ⟨trivial, ⟨trivial, ⟨trivial, ⟨trivial, ⟨trivial, ⟨trivial, ⟨trivial, ⟨trivial, ⟨trivial, trivial⟩⟩⟩⟩⟩⟩⟩⟩⟩⟩) (fun _ => ?_)
        refine a_fin hok (by kernel_rfl) ?_
        refine b_of (nrm [oc x2 [slv (rI .i64) t30.2.L, iv .i64 t30.2.At], oc b4 [iv .i64 t32.1.Graph.N, slv rT_api_Pair t32.1.Graph.L, iv .i64 t32.1.Root, iv .i64 t32.1.Limits.i0, iv .i64 t32.1.Limits.i1, slv rT_api_Move t32.1.Moves], oa rT_api_Move x28.1 x28.2 legal27] rfl) ?_
        refine n_block ?_
        refine n_then ?_
        refine ref_region ?_
        refine s_rd (r_move rfl) rfl ?_
        refine s_rd (r_add rfl rfl) rfl ?_
        refine s_rd (r_assign rfl) rfl ?_
        refine b_let (f := iv .i64) (t := 5) rfl fun i33 => ?_
        refine l_nil ?_
        exact goB () (weak [0, 1] ⟨rfl, rfl, rfl, trivial⟩ ⟨rfl, rfl, trivial⟩)
    · refine ref_exit ?_
      refine x_then ?_
      exact brkB () (weak [1] ⟨rfl, trivial⟩ ⟨rfl, trivial⟩)
  · refine n_then ?_
    refine ref_seq ?_
    refine ref_region ?_
    refine s_rd (r_cloadS Try.isAgg31 Try.sizeOf31 rfl (j := 0) rfl rfl rfl) rfl ?_
    refine pull fun turn36 h_turn36 => ?_
    refine s_st (s_call (ψ := fun (_ : Unit) => iv .i64 turn36) (args := [.tmp 42]) Try.call12 rfl (ref27_Turn_ok h_turn36) ⟨arg rfl, trivial⟩ (fun _ _ _ _ h => h)) rfl (fun _ => ?_)
    refine s_rd (r_assign rfl) rfl ?_
    refine l_nil ?_
    refine n_then ?_
    refine ref_seq ?_
    refine ref_seq ?_
    refine ref_region ?_
    refine s_rd (r_assign rfl) rfl ?_
    refine l_nil ?_
    refine n_then ?_
    refine ref_loopX (f := (law27_ProtocolRetracted_l2 q34 turn36)) (Γl := (fun (s164 : Int) (x165 : Unit) => [(4, pv (ptr b4 0)), (7, iv .i64 turn36), (8, iv .i64 s164)])) (Ωl := (fun (s164 : Int) (x165 : Unit) => [oc b4 [iv .i64 q34.Graph.N, slv rT_api_Pair q34.Graph.L, iv .i64 q34.Root, iv .i64 q34.Limits.i0, iv .i64 q34.Limits.i1, slv rT_api_Move q34.Moves]])) (Γb := (fun (q293 : Unit) (y294 : Unit) => [])) (Ωb := (fun (q293 : Unit) (y294 : Unit) => [])) (kr := (fun a : Bool => some a)) 0 () (weak [0] ⟨rfl, rfl, rfl, trivial⟩ ⟨rfl, trivial⟩) (fun s164 x165 => ?_) (fun q293 y294 => ?_)
    · unfold law27_ProtocolRetracted_l2
      refine ref_seq ?_
      refine ref_seq ?_
      refine ref_region ?_
      refine s_rd (r_move rfl) rfl ?_
      refine s_rd (r_faddr (fo := 5) Try.underlying31 rfl rfl Try.sizeOf29 rfl) rfl ?_
      refine s_rd (r_cload Try.isAgg29 rfl (j := 0) rfl rfl) rfl ?_
      refine s_rd (r_len Try.underlying29 rfl) rfl ?_
      refine s_rd (r_lss rfl rfl) rfl ?_
      refine l_nil ?_
      refine n_then ?_
      refine ref_cond rfl (fun hb166 => ?_) (fun hb166 => ?_)
      · refine ref_skip ?_
        refine n_then ?_
        refine ref_seq ?_
        refine ref_block ?_
        refine ref_seq ?_
        refine ref_region ?_
        refine s_rd (r_cloadS Try.isAgg31 Try.sizeOf31 rfl (j := 0) rfl rfl rfl) rfl ?_
        refine s_rd (r_move rfl) rfl ?_
        refine s_rd (r_move rfl) rfl ?_
        refine s_rd (r_build (ps := [(0, .tmp 53), (1, .const (.int .i64 (3))), (3, .tmp 54)]) (rs := [(0, [iv .i64 turn36]), (1, [iv .i64 3]), (3, [iv .i64 s164])]) st_38 zs_38 ⟨rfl, (part_at rfl iv_at), ⟨rfl, (part_at rfl iv_at), ⟨rfl, (part_at rfl iv_at), trivial⟩⟩⟩ rfl rfl) rfl ?_
        refine pull fun t167 h_t167 => ?_
        refine s_st (s_call (ψ := fun (_ : Unit) => tup [ag [iv .i64 t167.1.Graph.N, slv rT_api_Pair t167.1.Graph.L, iv .i64 t167.1.Root, iv .i64 t167.1.Limits.i0, iv .i64 t167.1.Limits.i1, slv rT_api_Move t167.1.Moves], iv .i64 t167.2]) (args := [.tmp 52, .tmp 55]) Try.call13 rfl (protocol_Apply_ok h_t167) ⟨arg rfl, arg rfl, trivial⟩ (fun _ _ _ _ h => h)) rfl (fun _ => ?_)
        refine s_rd (r_move rfl) rfl ?_
        refine s_rd (r_extract rfl rfl) rfl ?_
        refine s_rd (r_extract rfl rfl) rfl ?_
        refine s_st (s_alloc zt_31) rfl (fun b168 => ?_)
        refine s_st0 (s_cstore (out := [iv .i64 t167.1.Graph.N, slv rT_api_Pair t167.1.Graph.L, iv .i64 t167.1.Root, iv .i64 t167.1.Limits.i0, iv .i64 t167.1.Limits.i1, slv rT_api_Move t167.1.Moves]) Try.sizeOf31 rfl (j := 1) rfl (part_ag (ψs := [iv .i64 t167.1.Graph.N, slv rT_api_Pair t167.1.Graph.L, iv .i64 t167.1.Root, iv .i64 t167.1.Limits.i0, iv .i64 t167.1.Limits.i1, slv rT_api_Move t167.1.Moves]) rfl (by intro φ h; simp only [List.mem_cons, List.not_mem_nil, or_false] at h; rcases h with rfl | rfl | rfl | rfl | rfl | rfl <;> first | exact iv_at | exact bv_at | exact sv_at | exact slv_at | exact pv_at rfl)) rfl rfl rfl) (fun _ => ?_)
        refine s_rd (r_assign rfl) rfl ?_
        refine l_nil ?_
        refine b_of (nrm [oc b4 [iv .i64 q34.Graph.N, slv rT_api_Pair q34.Graph.L, iv .i64 q34.Root, iv .i64 q34.Limits.i0, iv .i64 q34.Limits.i1, slv rT_api_Move q34.Moves], oc b168 [iv .i64 t167.1.Graph.N, slv rT_api_Pair t167.1.Graph.L, iv .i64 t167.1.Root, iv .i64 t167.1.Limits.i0, iv .i64 t167.1.Limits.i1, slv rT_api_Move t167.1.Moves]] rfl) ?_
        refine n_then ?_
        refine ref_seq ?_
        refine ref_seq ?_
        refine ref_join (fun (j170 : Bool) (x171 : Unit) => [(4, pv (ptr b4 0)), (7, iv .i64 turn36), (8, iv .i64 s164), (9, pv (ptr b168 0)), (10, iv .i64 t167.2), (74, bv j170)]) (fun (j170 : Bool) (x171 : Unit) => [oc b4 [iv .i64 q34.Graph.N, slv rT_api_Pair q34.Graph.L, iv .i64 q34.Root, iv .i64 q34.Limits.i0, iv .i64 q34.Limits.i1, slv rT_api_Move q34.Moves], oc b168 [iv .i64 t167.1.Graph.N, slv rT_api_Pair t167.1.Graph.L, iv .i64 t167.1.Root, iv .i64 t167.1.Limits.i0, iv .i64 t167.1.Limits.i1, slv rT_api_Move t167.1.Moves]]) (fun k172 hk172 => ?_) (fun j170 x171 => ?_)
        · refine ref_region ?_
          refine s_rd (r_move rfl) rfl ?_
          refine s_rd (r_eql rfl rfl) rfl ?_
          refine s_rd (r_move rfl) rfl ?_
          refine b_split (t := 61) rfl (fun _ => ?_) (fun _ => ?_)
          · refine s_off rfl rfl rfl rfl rfl ?_
            refine s_off rfl rfl rfl rfl rfl ?_
            refine s_off rfl rfl rfl rfl rfl ?_
            refine s_off rfl rfl rfl rfl rfl ?_
            refine s_off rfl rfl rfl rfl rfl ?_
            refine s_off rfl rfl rfl rfl rfl ?_
            refine s_off rfl rfl rfl rfl rfl ?_
            refine s_off rfl rfl rfl rfl rfl ?_
            refine s_rd (r_pickT rfl rfl) rfl ?_
            refine s_rd (r_move rfl) rfl ?_
            refine s_off rfl rfl rfl rfl rfl ?_
            refine s_off rfl rfl rfl rfl rfl ?_
            refine s_rd (r_pickT rfl rfl) rfl ?_
            refine l_nil ?_
            exact b_to (hk172 true ()) (weak [0, 1] ⟨rfl, rfl, rfl, rfl, rfl, rfl, trivial⟩ ⟨rfl, rfl, trivial⟩)
          · refine s_on rfl rfl rfl ?_
            refine s_rd (r_faddr (fo := 5) Try.underlying31 rfl rfl Try.sizeOf29 rfl) rfl ?_
            refine s_on rfl rfl rfl ?_
            refine s_rd (r_cload Try.isAgg29 rfl (j := 0) rfl rfl) rfl ?_
            refine s_on rfl rfl rfl ?_
            refine s_rd (r_move rfl) rfl ?_
            refine s_on rfl rfl rfl ?_
            refine pull fun t169 h_t169 => ?_
            refine s_rd (r_index h_t169 Try.underlying29 el_38 rfl rfl) rfl ?_
            refine s_on rfl rfl rfl ?_
            refine s_rd (r_fea (fo := 0) (ρ := rT_api_Move) (y := t169) (ρ' := (rI .i64)) (z := t169.By) Try.underlying38 rfl rfl Try.sizeOf3 rfl rfl rfl) rfl ?_
            refine s_on rfl rfl rfl ?_
            refine s_rd (r_load el_3 rfl) rfl ?_
            refine s_on rfl rfl rfl ?_
            refine s_rd (r_move rfl) rfl ?_
            refine s_on rfl rfl rfl ?_
            refine s_rd (r_neq rfl rfl) rfl ?_
            refine s_rd (r_pickF rfl rfl) rfl ?_
            refine s_rd (r_move rfl) rfl ?_
            refine b_split (t := 71) rfl (fun _ => ?_) (fun _ => ?_)
            · refine s_off rfl rfl rfl rfl rfl ?_
              refine s_off rfl rfl rfl rfl rfl ?_
              refine s_rd (r_pickT rfl rfl) rfl ?_
              refine l_nil ?_
              exact b_to (hk172 true ()) (weak [0, 1] ⟨rfl, rfl, rfl, rfl, rfl, rfl, trivial⟩ ⟨rfl, rfl, trivial⟩)
            · refine s_on rfl rfl rfl ?_
              refine s_rd (r_move rfl) rfl ?_
              refine s_on rfl rfl rfl ?_
              refine s_rd (r_eql rfl rfl) rfl ?_
              refine s_rd (r_pickF rfl rfl) rfl ?_
              refine l_nil ?_
              exact b_to (hk172 (s164 == 0) ()) (weak [0, 1] ⟨rfl, rfl, rfl, rfl, rfl, rfl, trivial⟩ ⟨rfl, rfl, trivial⟩)
        · refine n_then ?_
          refine ref_cond rfl (fun hb173 => ?_) (fun hb173 => ?_)
          · refine ref_seq ?_
            refine ref_seq ?_
            refine ref_region ?_
            refine s_rd (r_move rfl) rfl ?_
            refine s_rd (r_eql rfl rfl) rfl ?_
            refine l_nil ?_
            refine n_then ?_
            refine ref_cond rfl (fun hb174 => ?_) (fun hb174 => ?_)
            · refine ref_seq ?_
              refine ref_region ?_
              refine s_rd (r_assign rfl) rfl ?_
              refine l_nil ?_
              refine n_then ?_
              refine ref_ret ?_
              refine r_then ?_
              refine r_then ?_
              refine r_block ?_
              refine r_then ?_
              refine retX ?_
              refine r_block ?_
              refine r_then ?_
              exact fin1 (.inl rfl) () [] rfl trivial rfl (rv_tmp rfl)
            · refine ref_skip ?_
              refine n_then ?_
              refine ref_exit ?_
              refine x_then ?_
              refine x_eq ?_
              refine n_then ?_
              refine ref_region ?_
              refine s_rd (r_move rfl) rfl ?_
              refine s_rd (r_add rfl rfl) rfl ?_
              refine s_rd (r_assign rfl) rfl ?_
              refine b_let (f := iv .i64) (t := 8) rfl fun t291 => ?_
              refine l_nil ?_
              exact goX () (weak [0] ⟨rfl, rfl, rfl, trivial⟩ ⟨rfl, trivial⟩)
          · refine ref_skip ?_
            refine n_then ?_
            refine ref_seq ?_
            refine ref_seq ?_
            refine ref_region ?_
            refine s_rd (r_move rfl) rfl ?_
            refine s_rd (r_neq rfl rfl) rfl ?_
            refine s_rd (r_move rfl) rfl ?_
            refine b_split (t := 79) rfl (fun _ => ?_) (fun _ => ?_)
            · refine s_off rfl rfl rfl rfl rfl ?_
              refine s_off rfl rfl rfl rfl rfl ?_
              refine s_off rfl rfl rfl rfl rfl ?_
              refine s_off rfl rfl rfl rfl rfl ?_
              refine s_off rfl rfl rfl rfl rfl ?_
              refine s_off rfl rfl rfl rfl rfl ?_
              refine s_off rfl rfl rfl rfl rfl ?_
              refine s_off rfl rfl rfl rfl rfl ?_
              refine s_rd (r_pickT rfl rfl) rfl ?_
              refine l_nil ?_
              refine n_then ?_
              refine ref_condT rfl rfl ?_
              refine ref_seq ?_
              refine ref_region ?_
              refine s_rd (r_assign rfl) rfl ?_
              refine l_nil ?_
              refine n_then ?_
              refine ref_ret ?_
              refine r_then ?_
              refine r_block ?_
              refine r_then ?_
              refine retX ?_
              refine r_block ?_
              refine r_then ?_
              exact fin1 (.inl rfl) () [] rfl trivial rfl (rv_tmp rfl)
            · refine s_on rfl rfl rfl ?_
              refine s_rd (r_faddr (fo := 5) Try.underlying31 rfl rfl Try.sizeOf29 rfl) rfl ?_
              refine s_on rfl rfl rfl ?_
              refine s_rd (r_cload Try.isAgg29 rfl (j := 1) rfl rfl) rfl ?_
              refine s_on rfl rfl rfl ?_
              refine s_rd (r_len Try.underlying29 rfl) rfl ?_
              refine s_on rfl rfl rfl ?_
              refine s_rd (r_faddr (fo := 5) Try.underlying31 rfl rfl Try.sizeOf29 rfl) rfl ?_
              refine s_on rfl rfl rfl ?_
              refine s_rd (r_cload Try.isAgg29 rfl (j := 0) rfl rfl) rfl ?_
              refine s_on rfl rfl rfl ?_
              refine s_rd (r_len Try.underlying29 rfl) rfl ?_
              refine s_on rfl rfl rfl ?_
              refine s_rd (r_add rfl rfl) rfl ?_
              refine s_on rfl rfl rfl ?_
              refine s_rd (r_neq rfl rfl) rfl ?_
              refine s_rd (r_pickF rfl rfl) rfl ?_
              refine l_nil ?_
              refine n_then ?_
              refine ref_cond rfl (fun hb175 => ?_) (fun hb175 => ?_)
              · refine ref_seq ?_
                refine ref_region ?_
                refine s_rd (r_assign rfl) rfl ?_
                refine l_nil ?_
                refine n_then ?_
                refine ref_ret ?_
                refine r_then ?_
                refine r_block ?_
                refine r_then ?_
                refine retX ?_
                refine r_block ?_
                refine r_then ?_
                exact fin1 (.inl rfl) () [] rfl trivial rfl (rv_tmp rfl)
              · refine ref_skip ?_
                refine n_then ?_
                refine ref_seq ?_
                refine ref_region ?_
                refine s_rd (r_cloadS Try.isAgg31 Try.sizeOf31 rfl (j := 1) rfl rfl rfl) rfl ?_
                refine pull fun status176 h_status176 => ?_
                refine s_st (s_call (ψ := fun (x177 : (Value × List Nat)) => pv x177.1) (args := [.tmp 89]) Try.call14 rfl (protocol_Status_ok h_status176) ⟨arg rfl, trivial⟩ (fun _ _ _ _ h => h)) rfl (fun x177 => ?_)
                refine s_rd (r_assign rfl) rfl ?_
                refine l_nil ?_
                refine n_then ?_
                refine ref_seq ?_
                refine ref_region ?_
                refine s_rd (r_faddr (fo := 5) Try.underlying31 rfl rfl Try.sizeOf29 rfl) rfl ?_
                refine s_rd (r_cload Try.isAgg29 rfl (j := 1) rfl rfl) rfl ?_
                refine s_rd (r_len Try.underlying29 rfl) rfl ?_
                refine pull fun want178 h_want178 => ?_
                refine s_st (s_make h_want178 Try.underlying22 el_3 ze_3 rfl rfl) rfl (fun o179 => ?_)
                refine s_rd (r_assign rfl) rfl ?_
                refine l_nil ?_
                refine n_then ?_
                refine ref_seq ?_
                refine ref_seq ?_
                refine ref_region ?_
                refine s_rd (r_faddr (fo := 5) Try.underlying31 rfl rfl Try.sizeOf29 rfl) rfl ?_
                refine s_rd (r_cload Try.isAgg29 rfl (j := 0) rfl rfl) rfl ?_
                refine s_rd (r_len Try.underlying29 rfl) rfl ?_
                refine s_rd (r_sub rfl rfl) rfl ?_
                refine s_rd (r_assign rfl) rfl ?_
                refine b_let (f := iv .i64) (t := 13) rfl fun i180 => ?_
                refine l_nil ?_
                refine n_then ?_
                refine ref_loopB (f := (law27_ProtocolRetracted_l3 q34 s164)) (Γl := (fun (s234 : Int × (List Int)) (x235 : Unit) => [(4, pv (ptr b4 0)), (7, iv .i64 turn36), (8, iv .i64 s164), (11, pv x177.1), (12, pv o179.1), (13, iv .i64 s234.1), (80, pv (ptr b168 5)), (81, slv rT_api_Move t167.1.Moves), (82, iv .i64 (t167.1.Moves.length : Int)), (83, pv (ptr b4 5)), (84, slv rT_api_Move q34.Moves), (85, iv .i64 (q34.Moves.length : Int)), (86, iv .i64 (iadd .i64 (q34.Moves.length : Int) 1)), (87, bv ((t167.1.Moves.length : Int) != (iadd .i64 (q34.Moves.length : Int) 1)))])) (Ωl := (fun (s234 : Int × (List Int)) (x235 : Unit) => [oc b4 [iv .i64 q34.Graph.N, slv rT_api_Pair q34.Graph.L, iv .i64 q34.Root, iv .i64 q34.Limits.i0, iv .i64 q34.Limits.i1, slv rT_api_Move q34.Moves], oa (rI .i64) x177.1 x177.2 status176, oa (rI .i64) o179.1 o179.2 s234.2, oc b168 [iv .i64 t167.1.Graph.N, slv rT_api_Pair t167.1.Graph.L, iv .i64 t167.1.Root, iv .i64 t167.1.Limits.i0, iv .i64 t167.1.Limits.i1, slv rT_api_Move t167.1.Moves]])) (Γb := (fun (q287 : (List Int)) (y288 : Unit) => [(4, pv (ptr b4 0)), (7, iv .i64 turn36), (8, iv .i64 s164), (11, pv x177.1), (12, pv o179.1), (80, pv (ptr b168 5)), (81, slv rT_api_Move t167.1.Moves), (82, iv .i64 (t167.1.Moves.length : Int)), (83, pv (ptr b4 5)), (84, slv rT_api_Move q34.Moves), (85, iv .i64 (q34.Moves.length : Int)), (86, iv .i64 (iadd .i64 (q34.Moves.length : Int) 1)), (87, bv ((t167.1.Moves.length : Int) != (iadd .i64 (q34.Moves.length : Int) 1)))])) (Ωb := (fun (q287 : (List Int)) (y288 : Unit) => [oc b4 [iv .i64 q34.Graph.N, slv rT_api_Pair q34.Graph.L, iv .i64 q34.Root, iv .i64 q34.Limits.i0, iv .i64 q34.Limits.i1, slv rT_api_Move q34.Moves], oa (rI .i64) x177.1 x177.2 status176, oa (rI .i64) o179.1 o179.2 q287, oc b168 [iv .i64 t167.1.Graph.N, slv rT_api_Pair t167.1.Graph.L, iv .i64 t167.1.Root, iv .i64 t167.1.Limits.i0, iv .i64 t167.1.Limits.i1, slv rT_api_Move t167.1.Moves]])) (i180, want178) () (weak [0, 2, 3, 1] ⟨rfl, rfl, rfl, rfl, rfl, rfl, rfl, rfl, rfl, rfl, rfl, rfl, rfl, rfl, trivial⟩ ⟨rfl, rfl, rfl, rfl, trivial⟩) (fun s234 x235 => ?_) (fun q287 y288 => ?_)
                · unfold law27_ProtocolRetracted_l3
                  refine ref_seq ?_
                  refine ref_seq ?_
                  refine ref_region ?_
                  refine s_rd (r_move rfl) rfl ?_
                  refine s_rd (r_geq rfl rfl) rfl ?_
                  refine l_nil ?_
                  refine n_then ?_
                  refine ref_cond rfl (fun hb236 => ?_) (fun hb236 => ?_)
                  · refine ref_skip ?_
                    refine n_then ?_
                    refine ref_seq ?_
                    refine ref_block ?_
                    refine ref_seq ?_
                    refine ref_region ?_
                    refine s_rd (r_assign rfl) rfl ?_
                    refine l_nil ?_
                    refine n_then ?_
                    refine ref_seq ?_
                    refine ref_seq ?_
                    refine ref_region ?_
                    refine s_rd (r_move rfl) rfl ?_
                    refine s_rd (r_assign rfl) rfl ?_
                    refine l_nil ?_
                    refine n_then ?_
                    refine ref_loopB (f := (law27_ProtocolRetracted_l4 q34 s164)) (Γl := (fun (s241 : Bool × Int) (x242 : Unit) => [(4, pv (ptr b4 0)), (7, iv .i64 turn36), (8, iv .i64 s164), (11, pv x177.1), (12, pv o179.1), (13, iv .i64 s234.1), (14, bv s241.1), (15, iv .i64 s241.2), (80, pv (ptr b168 5)), (81, slv rT_api_Move t167.1.Moves), (82, iv .i64 (t167.1.Moves.length : Int)), (83, pv (ptr b4 5)), (84, slv rT_api_Move q34.Moves), (85, iv .i64 (q34.Moves.length : Int)), (86, iv .i64 (iadd .i64 (q34.Moves.length : Int) 1)), (87, bv ((t167.1.Moves.length : Int) != (iadd .i64 (q34.Moves.length : Int) 1)))])) (Ωl := (fun (s241 : Bool × Int) (x242 : Unit) => [oc b4 [iv .i64 q34.Graph.N, slv rT_api_Pair q34.Graph.L, iv .i64 q34.Root, iv .i64 q34.Limits.i0, iv .i64 q34.Limits.i1, slv rT_api_Move q34.Moves], oa (rI .i64) x177.1 x177.2 status176, oa (rI .i64) o179.1 o179.2 s234.2, oc b168 [iv .i64 t167.1.Graph.N, slv rT_api_Pair t167.1.Graph.L, iv .i64 t167.1.Root, iv .i64 t167.1.Limits.i0, iv .i64 t167.1.Limits.i1, slv rT_api_Move t167.1.Moves]])) (Γb := (fun (q248 : Bool) (y249 : Unit) => [(4, pv (ptr b4 0)), (7, iv .i64 turn36), (8, iv .i64 s164), (11, pv x177.1), (12, pv o179.1), (13, iv .i64 s234.1), (14, bv q248), (80, pv (ptr b168 5)), (81, slv rT_api_Move t167.1.Moves), (82, iv .i64 (t167.1.Moves.length : Int)), (83, pv (ptr b4 5)), (84, slv rT_api_Move q34.Moves), (85, iv .i64 (q34.Moves.length : Int)), (86, iv .i64 (iadd .i64 (q34.Moves.length : Int) 1)), (87, bv ((t167.1.Moves.length : Int) != (iadd .i64 (q34.Moves.length : Int) 1)))])) (Ωb := (fun (q248 : Bool) (y249 : Unit) => [oc b4 [iv .i64 q34.Graph.N, slv rT_api_Pair q34.Graph.L, iv .i64 q34.Root, iv .i64 q34.Limits.i0, iv .i64 q34.Limits.i1, slv rT_api_Move q34.Moves], oa (rI .i64) x177.1 x177.2 status176, oa (rI .i64) o179.1 o179.2 s234.2, oc b168 [iv .i64 t167.1.Graph.N, slv rT_api_Pair t167.1.Graph.L, iv .i64 t167.1.Root, iv .i64 t167.1.Limits.i0, iv .i64 t167.1.Limits.i1, slv rT_api_Move t167.1.Moves]])) (false, s234.1) () (weak [0, 1, 2, 3] ⟨rfl, rfl, rfl, rfl, rfl, rfl, rfl, rfl, rfl, rfl, rfl, rfl, rfl, rfl, rfl, rfl, trivial⟩ ⟨rfl, rfl, rfl, rfl, trivial⟩) (fun s241 x242 => ?_) (fun q248 y249 => ?_)
                    · unfold law27_ProtocolRetracted_l4
                      refine ref_seq ?_
                      refine ref_seq ?_
                      refine ref_region ?_
                      refine s_rd (r_move rfl) rfl ?_
                      refine s_rd (r_gtr rfl rfl) rfl ?_
                      refine l_nil ?_
                      refine n_then ?_
                      refine ref_cond rfl (fun hb243 => ?_) (fun hb243 => ?_)
                      · refine ref_skip ?_
                        refine n_then ?_
                        refine ref_seq ?_
                        refine ref_join (fun (j244 : Bool) (x245 : Unit) => [(4, pv (ptr b4 0)), (7, iv .i64 turn36), (8, iv .i64 s164), (11, pv x177.1), (12, pv o179.1), (13, iv .i64 s234.1), (14, bv j244), (15, iv .i64 s241.2), (80, pv (ptr b168 5)), (81, slv rT_api_Move t167.1.Moves), (82, iv .i64 (t167.1.Moves.length : Int)), (83, pv (ptr b4 5)), (84, slv rT_api_Move q34.Moves), (85, iv .i64 (q34.Moves.length : Int)), (86, iv .i64 (iadd .i64 (q34.Moves.length : Int) 1)), (87, bv ((t167.1.Moves.length : Int) != (iadd .i64 (q34.Moves.length : Int) 1)))]) (fun (j244 : Bool) (x245 : Unit) => [oc b4 [iv .i64 q34.Graph.N, slv rT_api_Pair q34.Graph.L, iv .i64 q34.Root, iv .i64 q34.Limits.i0, iv .i64 q34.Limits.i1, slv rT_api_Move q34.Moves], oa (rI .i64) x177.1 x177.2 status176, oa (rI .i64) o179.1 o179.2 s234.2, oc b168 [iv .i64 t167.1.Graph.N, slv rT_api_Pair t167.1.Graph.L, iv .i64 t167.1.Root, iv .i64 t167.1.Limits.i0, iv .i64 t167.1.Limits.i1, slv rT_api_Move t167.1.Moves]]) (fun k246 hk246 => ?_) (fun j244 x245 => ?_)
                        · refine ref_block ?_
                          refine ref_region ?_
                          refine s_rd (r_move rfl) rfl ?_
                          refine s_rd (r_move rfl) rfl ?_
                          refine b_split (t := 113) rfl (fun _ => ?_) (fun _ => ?_)
                          · refine s_off rfl rfl rfl rfl rfl ?_
                            refine s_off rfl rfl rfl rfl rfl ?_
                            refine s_off rfl rfl rfl rfl rfl ?_
                            refine s_rd (r_pickT rfl rfl) rfl ?_
                            refine s_rd (r_assign rfl) rfl ?_
                            refine l_nil ?_
                            refine n_block ?_
                            exact b_to (hk246 true ()) (weak [0, 1, 2, 3] ⟨rfl, rfl, rfl, rfl, rfl, rfl, rfl, rfl, rfl, rfl, rfl, rfl, rfl, rfl, rfl, rfl, trivial⟩ ⟨rfl, rfl, rfl, rfl, trivial⟩)
                          · refine s_on rfl rfl rfl ?_
                            refine s_rd (r_move rfl) rfl ?_
                            refine s_on rfl rfl rfl ?_
                            refine s_rd (r_move rfl) rfl ?_
                            refine s_on rfl rfl rfl ?_
                            refine s_rd (r_eql rfl rfl) rfl ?_
                            refine s_rd (r_pickF rfl rfl) rfl ?_
                            refine s_rd (r_assign rfl) rfl ?_
                            refine l_nil ?_
                            refine n_block ?_
                            exact b_to (hk246 (s241.2 == s164) ()) (weak [0, 1, 2, 3] ⟨rfl, rfl, rfl, rfl, rfl, rfl, rfl, rfl, rfl, rfl, rfl, rfl, rfl, rfl, rfl, rfl, trivial⟩ ⟨rfl, rfl, rfl, rfl, trivial⟩)
                        · refine n_then ?_
                          refine ref_region ?_
                          refine s_rd (r_faddr (fo := 5) Try.underlying31 rfl rfl Try.sizeOf29 rfl) rfl ?_
                          refine s_rd (r_cload Try.isAgg29 rfl (j := 0) rfl rfl) rfl ?_
                          refine s_rd (r_move rfl) rfl ?_
                          refine pull fun t247 h_t247 => ?_
                          refine s_rd (r_index h_t247 Try.underlying29 el_38 rfl rfl) rfl ?_
                          refine s_rd (r_fea (fo := 3) (ρ := rT_api_Move) (y := t247) (ρ' := (rI .i64)) (z := t247.Target) Try.underlying38 rfl rfl Try.sizeOf3 rfl rfl rfl) rfl ?_
                          refine s_rd (r_load el_3 rfl) rfl ?_
                          refine s_rd (r_assign rfl) rfl ?_
                          refine l_nil ?_
                          exact goB () (weak [0, 1, 2, 3] ⟨rfl, rfl, rfl, rfl, rfl, rfl, rfl, rfl, rfl, rfl, rfl, rfl, rfl, rfl, rfl, rfl, trivial⟩ ⟨rfl, rfl, rfl, rfl, trivial⟩)
                      · refine ref_exit ?_
                        refine x_then ?_
                        exact brkB () (weak [0, 1, 2, 3] ⟨rfl, rfl, rfl, rfl, rfl, rfl, rfl, rfl, rfl, rfl, rfl, rfl, rfl, rfl, rfl, trivial⟩ ⟨rfl, rfl, rfl, rfl, trivial⟩)
                    · refine n_then ?_
                      refine ref_seq ?_
                      refine ref_seq ?_
                      refine ref_region ?_
                      refine s_rd (r_move rfl) rfl ?_
                      refine l_nil ?_
                      refine n_then ?_
                      refine ref_cond rfl (fun hb250 => ?_) (fun hb250 => ?_)
                      · refine ref_exit ?_
                        refine x_then ?_
                        refine x_eq ?_
                        refine n_then ?_
                        refine ref_region ?_
                        refine s_rd (r_move rfl) rfl ?_
                        refine s_rd (r_sub rfl rfl) rfl ?_
                        refine s_rd (r_assign rfl) rfl ?_
                        refine b_let (f := iv .i64) (t := 13) rfl fun i285 => ?_
                        refine l_nil ?_
                        exact goB () (weak [0, 1, 2, 3] ⟨rfl, rfl, rfl, rfl, rfl, rfl, rfl, rfl, rfl, rfl, rfl, rfl, rfl, rfl, trivial⟩ ⟨rfl, rfl, rfl, rfl, trivial⟩)
                      · refine ref_skip ?_
                        refine n_then ?_
                        refine ref_seq ?_
                        refine ref_region ?_
                        refine s_rd (r_move rfl) rfl ?_
                        refine s_rd (r_move rfl) rfl ?_
                        refine pull fun t251 h_t251 => ?_
                        refine s_rd (r_oindex h_t251 Try.underlying22 el_3 rfl (j := 2) rfl rfl) rfl ?_
                        refine s_st0 (s_ostore (u := 1) h_t251 el_3 rfl (j := 2) rfl (part_at rfl iv_at)) (fun _ => ?_)
                        refine l_nil ?_
                        refine n_then ?_
                        refine ref_seq ?_
                        refine ref_region ?_
                        refine s_rd (r_move rfl) rfl ?_
                        refine s_rd (r_add rfl rfl) rfl ?_
                        refine s_rd (r_assign rfl) rfl ?_
                        refine b_let (f := iv .i64) (t := 16) rfl fun k252 => ?_
                        refine l_nil ?_
                        refine n_then ?_
                        refine ref_loopB (f := (law27_ProtocolRetracted_l5 q34 s234)) (Γl := (fun (s273 : Int × (List Int)) (x274 : Unit) => [(4, pv (ptr b4 0)), (7, iv .i64 turn36), (8, iv .i64 s164), (11, pv x177.1), (12, pv o179.1), (13, iv .i64 s234.1), (16, iv .i64 s273.1), (80, pv (ptr b168 5)), (81, slv rT_api_Move t167.1.Moves), (82, iv .i64 (t167.1.Moves.length : Int)), (83, pv (ptr b4 5)), (84, slv rT_api_Move q34.Moves), (85, iv .i64 (q34.Moves.length : Int)), (86, iv .i64 (iadd .i64 (q34.Moves.length : Int) 1)), (87, bv ((t167.1.Moves.length : Int) != (iadd .i64 (q34.Moves.length : Int) 1)))])) (Ωl := (fun (s273 : Int × (List Int)) (x274 : Unit) => [oc b4 [iv .i64 q34.Graph.N, slv rT_api_Pair q34.Graph.L, iv .i64 q34.Root, iv .i64 q34.Limits.i0, iv .i64 q34.Limits.i1, slv rT_api_Move q34.Moves], oa (rI .i64) x177.1 x177.2 status176, oa (rI .i64) o179.1 o179.2 s273.2, oc b168 [iv .i64 t167.1.Graph.N, slv rT_api_Pair t167.1.Graph.L, iv .i64 t167.1.Root, iv .i64 t167.1.Limits.i0, iv .i64 t167.1.Limits.i1, slv rT_api_Move t167.1.Moves]])) (Γb := (fun (q283 : (List Int)) (y284 : Unit) => [(4, pv (ptr b4 0)), (7, iv .i64 turn36), (8, iv .i64 s164), (11, pv x177.1), (12, pv o179.1), (13, iv .i64 s234.1), (80, pv (ptr b168 5)), (81, slv rT_api_Move t167.1.Moves), (82, iv .i64 (t167.1.Moves.length : Int)), (83, pv (ptr b4 5)), (84, slv rT_api_Move q34.Moves), (85, iv .i64 (q34.Moves.length : Int)), (86, iv .i64 (iadd .i64 (q34.Moves.length : Int) 1)), (87, bv ((t167.1.Moves.length : Int) != (iadd .i64 (q34.Moves.length : Int) 1)))])) (Ωb := (fun (q283 : (List Int)) (y284 : Unit) => [oc b4 [iv .i64 q34.Graph.N, slv rT_api_Pair q34.Graph.L, iv .i64 q34.Root, iv .i64 q34.Limits.i0, iv .i64 q34.Limits.i1, slv rT_api_Move q34.Moves], oa (rI .i64) x177.1 x177.2 status176, oa (rI .i64) o179.1 o179.2 q283, oc b168 [iv .i64 t167.1.Graph.N, slv rT_api_Pair t167.1.Graph.L, iv .i64 t167.1.Root, iv .i64 t167.1.Limits.i0, iv .i64 t167.1.Limits.i1, slv rT_api_Move t167.1.Moves]])) (k252, s234.2.set (Int.toNat s234.1) 1) () (weak [0, 1, 2, 3] ⟨rfl, rfl, rfl, rfl, rfl, rfl, rfl, rfl, rfl, rfl, rfl, rfl, rfl, rfl, rfl, trivial⟩ ⟨rfl, rfl, rfl, rfl, trivial⟩) (fun s273 x274 => ?_) (fun q283 y284 => ?_)
                        · unfold law27_ProtocolRetracted_l5
                          refine ref_seq ?_
                          refine ref_seq ?_
                          refine ref_region ?_
                          refine s_rd (r_move rfl) rfl ?_
                          refine s_rd (r_faddr (fo := 5) Try.underlying31 rfl rfl Try.sizeOf29 rfl) rfl ?_
                          refine s_rd (r_cload Try.isAgg29 rfl (j := 0) rfl rfl) rfl ?_
                          refine s_rd (r_len Try.underlying29 rfl) rfl ?_
                          refine s_rd (r_lss rfl rfl) rfl ?_
                          refine l_nil ?_
                          refine n_then ?_
                          refine ref_cond rfl (fun hb275 => ?_) (fun hb275 => ?_)
                          · refine ref_skip ?_
                            refine n_then ?_
                            refine ref_seq ?_
                            refine ref_block ?_
                            refine ref_seq ?_
                            refine ref_region ?_
                            refine s_rd (r_faddr (fo := 5) Try.underlying31 rfl rfl Try.sizeOf29 rfl) rfl ?_
                            refine s_rd (r_cload Try.isAgg29 rfl (j := 0) rfl rfl) rfl ?_
                            refine s_rd (r_move rfl) rfl ?_
                            refine pull fun t276 h_t276 => ?_
                            refine s_rd (r_index h_t276 Try.underlying29 el_38 rfl rfl) rfl ?_
                            refine s_rd (r_fea (fo := 3) (ρ := rT_api_Move) (y := t276) (ρ' := (rI .i64)) (z := t276.Target) Try.underlying38 rfl rfl Try.sizeOf3 rfl rfl rfl) rfl ?_
                            refine s_rd (r_load el_3 rfl) rfl ?_
                            refine s_rd (r_move rfl) rfl ?_
                            refine s_rd (r_eql rfl rfl) rfl ?_
                            refine s_rd (r_move rfl) rfl ?_
                            refine b_split (t := 139) rfl (fun _ => ?_) (fun _ => ?_)
                            · refine s_on rfl rfl rfl ?_
                              refine s_rd (r_move rfl) rfl ?_
                              refine s_on rfl rfl rfl ?_
                              refine s_rd (r_move rfl) rfl ?_
                              refine s_on rfl rfl rfl ?_
                              refine pull fun t277 h_t277 => ?_
                              refine s_rd (r_oindex h_t277 Try.underlying22 el_3 rfl (j := 2) rfl rfl) rfl ?_
                              refine s_on rfl rfl rfl ?_
                              refine s_rd (r_oload h_t277 el_3 rfl (j := 2) rfl) rfl ?_
                              refine s_on rfl rfl rfl ?_
                              refine s_rd (r_eql rfl rfl) rfl ?_
                              refine s_rd (r_pickT rfl rfl) rfl ?_
                              refine l_nil ?_
                              refine n_then ?_
                              refine ref_cond rfl (fun hb278 => ?_) (fun hb278 => ?_)
                              · refine ref_region ?_
                                refine s_rd (r_move rfl) rfl ?_
                                refine s_rd (r_move rfl) rfl ?_
                                refine pull fun t279 h_t279 => ?_
                                refine s_rd (r_oindex h_t279 Try.underlying22 el_3 rfl (j := 2) rfl rfl) rfl ?_
                                refine s_st0 (s_ostore (u := 2) h_t279 el_3 rfl (j := 2) rfl (part_at rfl iv_at)) (fun _ => ?_)
                                refine l_nil ?_
                                refine n_block ?_
                                refine n_then ?_
                                refine ref_region ?_
                                refine s_rd (r_move rfl) rfl ?_
                                refine s_rd (r_add rfl rfl) rfl ?_
                                refine s_rd (r_assign rfl) rfl ?_
                                refine b_let (f := iv .i64) (t := 16) rfl fun k280 => ?_
                                refine l_nil ?_
                                exact goB () (weak [0, 1, 2, 3] ⟨rfl, rfl, rfl, rfl, rfl, rfl, rfl, rfl, rfl, rfl, rfl, rfl, rfl, rfl, rfl, trivial⟩ ⟨rfl, rfl, rfl, rfl, trivial⟩)
                              · refine ref_skip ?_
                                refine n_block ?_
                                refine n_then ?_
                                refine ref_region ?_
                                refine s_rd (r_move rfl) rfl ?_
                                refine s_rd (r_add rfl rfl) rfl ?_
                                refine s_rd (r_assign rfl) rfl ?_
                                refine b_let (f := iv .i64) (t := 16) rfl fun k281 => ?_
                                refine l_nil ?_
                                exact goB () (weak [0, 1, 2, 3] ⟨rfl, rfl, rfl, rfl, rfl, rfl, rfl, rfl, rfl, rfl, rfl, rfl, rfl, rfl, rfl, trivial⟩ ⟨rfl, rfl, rfl, rfl, trivial⟩)
                            · refine s_off rfl rfl rfl rfl rfl ?_
                              refine s_off rfl rfl rfl rfl rfl ?_
                              refine s_off rfl rfl rfl rfl rfl ?_
                              refine s_off rfl rfl rfl rfl rfl ?_
                              refine s_off rfl rfl rfl rfl rfl ?_
                              refine s_rd (r_pickF rfl rfl) rfl ?_
                              refine l_nil ?_
                              refine n_then ?_
                              refine ref_condF rfl rfl ?_
                              refine ref_skip ?_
                              refine n_block ?_
                              refine n_then ?_
                              refine ref_region ?_
                              refine s_rd (r_move rfl) rfl ?_
                              refine s_rd (r_add rfl rfl) rfl ?_
                              refine s_rd (r_assign rfl) rfl ?_
                              refine b_let (f := iv .i64) (t := 16) rfl fun k282 => ?_
                              refine l_nil ?_
                              exact goB () (weak [0, 1, 2, 3] ⟨rfl, rfl, rfl, rfl, rfl, rfl, rfl, rfl, rfl, rfl, rfl, rfl, rfl, rfl, rfl, trivial⟩ ⟨rfl, rfl, rfl, rfl, trivial⟩)
                          · refine ref_exit ?_
                            refine x_then ?_
                            exact brkB () (weak [0, 1, 2, 3] ⟨rfl, rfl, rfl, rfl, rfl, rfl, rfl, rfl, rfl, rfl, rfl, rfl, rfl, rfl, trivial⟩ ⟨rfl, rfl, rfl, rfl, trivial⟩)
                        · refine n_block ?_
                          refine n_then ?_
                          refine ref_region ?_
                          refine s_rd (r_move rfl) rfl ?_
                          refine s_rd (r_sub rfl rfl) rfl ?_
                          refine s_rd (r_assign rfl) rfl ?_
                          refine b_let (f := iv .i64) (t := 13) rfl fun i286 => ?_
                          refine l_nil ?_
                          exact goB () (weak [0, 1, 2, 3] ⟨rfl, rfl, rfl, rfl, rfl, rfl, rfl, rfl, rfl, rfl, rfl, rfl, rfl, rfl, trivial⟩ ⟨rfl, rfl, rfl, rfl, trivial⟩)
                  · refine ref_exit ?_
                    refine x_then ?_
                    exact brkB () (weak [0, 1, 2, 3] ⟨rfl, rfl, rfl, rfl, rfl, rfl, rfl, rfl, rfl, rfl, rfl, rfl, rfl, trivial⟩ ⟨rfl, rfl, rfl, rfl, trivial⟩)
                · refine n_then ?_
                  refine ref_seq ?_
                  refine ref_region ?_
                  refine s_rd (r_move rfl) rfl ?_
                  refine s_rd (r_move rfl) rfl ?_
                  refine pull fun t289 h_t289 => ?_
                  refine s_st (s_callB (ψ := fun (_ : Unit) => bv t289) (args := [.tmp 149, .tmp 150]) Try.call15 rfl (keep_Ints_ok h_t289) ⟨argO rfl (j := 1) rfl, argO rfl (j := 2) rfl, trivial⟩ (fun _ _ _ _ _ h => h)) rfl (fun _ => ?_)
                  refine s_rd (r_not rfl) rfl ?_
                  refine l_nil ?_
                  refine n_then ?_
                  refine ref_cond rfl (fun hb290 => ?_) (fun hb290 => ?_)
                  · refine ref_seq ?_
                    refine ref_region ?_
                    refine s_rd (r_assign rfl) rfl ?_
                    refine l_nil ?_
                    refine n_then ?_
                    refine ref_ret ?_
                    refine r_block ?_
                    refine r_then ?_
                    refine retX ?_
                    refine r_block ?_
                    refine r_then ?_
                    exact fin1 (.inl rfl) () [] rfl trivial rfl (rv_tmp rfl)
                  · refine ref_skip ?_
                    refine n_block ?_
                    refine n_then ?_
                    refine ref_region ?_
                    refine s_rd (r_move rfl) rfl ?_
                    refine s_rd (r_add rfl rfl) rfl ?_
                    refine s_rd (r_assign rfl) rfl ?_
                    refine b_let (f := iv .i64) (t := 8) rfl fun t292 => ?_
                    refine l_nil ?_
                    exact goX () (weak [0] ⟨rfl, rfl, rfl, trivial⟩ ⟨rfl, trivial⟩)
      · refine ref_exit ?_
        refine x_then ?_
        exact brkX () (weak [] trivial trivial)
    · refine n_then ?_
      refine ref_seq ?_
      refine ref_region ?_
      refine pull fun t295 h_t295 => ?_
      refine s_st (s_call (ψ := fun (_ : Unit) => bv t295) (args := []) Try.call16 rfl (law27_awake_ok h_t295) trivial (fun _ _ _ _ h => h)) rfl (fun _ => ?_)
      refine s_rd (r_assign rfl) rfl ?_
      refine l_nil ?_
      refine n_then ?_
      refine ref_ret ?_
      exact fin1 (.inl rfl) () [] rfl trivial rfl (rv_tmp rfl)

/-! deliberation/protocol.Legal -/
noncomputable def protocol_Legal_m (d_0 : T_api_Dialogue) : Option (List T_api_Move) :=
  Option.bind (protocol_Turn_m d_0) fun t2 =>
  bif t2 == 0 then
    some []
  else
    Option.bind (protocol_of_m d_0) fun t4 =>
    Option.bind (protocol_table_legal_m t4) fun t5 =>
    some t5

theorem protocol_Legal_ok {d_0 : T_api_Dialogue} {r : List T_api_Move} (hm : protocol_Legal_m d_0 = some r) :
    FnOk prog 25 [ag [iv .i64 d_0.Graph.N, slv rT_api_Pair d_0.Graph.L, iv .i64 d_0.Root, iv .i64 d_0.Limits.i0, iv .i64 d_0.Limits.i1, slv rT_api_Move d_0.Moves]] [] (fun (x : (Value × List Nat)) => [pv x.1]) (fun (x : (Value × List Nat)) => [oa rT_api_Move x.1 x.2 r]) := by
  refine fn_ok (X := (Value × List Nat)) (fn := Try.f25) (N := 9) (m := protocol_Legal_m d_0) (res := fun r x => [pv x.1]) (Ω1 := fun r x => [oa rT_api_Move x.1 x.2 r]) Try.func25 rfl rfl hm rfl (fun E hM => ?_)
  unfold protocol_Legal_m
  refine ref_seq ?_
  refine ref_region ?_
  refine s_st (s_box (part_ag (ψs := [iv .i64 d_0.Graph.N, slv rT_api_Pair d_0.Graph.L, iv .i64 d_0.Root, iv .i64 d_0.Limits.i0, iv .i64 d_0.Limits.i1, slv rT_api_Move d_0.Moves]) rfl (by intro φ h; simp only [List.mem_cons, List.not_mem_nil, or_false] at h; rcases h with rfl | rfl | rfl | rfl | rfl | rfl <;> first | exact iv_at | exact bv_at | exact sv_at | exact slv_at | exact pv_at rfl))) rfl (fun b1 => ?_)
  refine s_rd (r_assign rfl) rfl ?_
  refine l_nil ?_
  refine n_then ?_
  refine ref_seq ?_
  refine ref_seq ?_
  refine ref_region ?_
  refine s_rd (r_cloadS Try.isAgg31 Try.sizeOf31 rfl (j := 0) rfl rfl rfl) rfl ?_
  refine pull fun t2 h_t2 => ?_
  refine s_st (s_call (ψ := fun (_ : Unit) => iv .i64 t2) (args := [.tmp 3]) Try.call23 rfl (protocol_Turn_ok h_t2) ⟨arg rfl, trivial⟩ (fun _ _ _ _ h => h)) rfl (fun _ => ?_)
  refine s_rd (r_eql rfl rfl) rfl ?_
  refine l_nil ?_
  refine n_then ?_
  refine ref_cond rfl (fun hb3 => ?_) (fun hb3 => ?_)
  · refine ref_seq ?_
    refine ref_region ?_
    refine s_rd (r_assign rfl) rfl ?_
    refine l_nil ?_
    refine n_then ?_
    refine ref_ret ?_
    refine r_then ?_
    refine b_of (own_nil rT_api_Move) ?_
    exact fin1 (.inl rfl) ((.slice none 0 0), []) [1] rfl ⟨rfl, trivial⟩ rfl (rv_tmp rfl)
  · refine ref_skip ?_
    refine n_then ?_
    refine ref_seq ?_
    refine ref_region ?_
    refine s_rd (r_cloadS Try.isAgg31 Try.sizeOf31 rfl (j := 0) rfl rfl rfl) rfl ?_
    refine pull fun t4 h_t4 => ?_
    refine s_st (s_call (ψ := fun (_ : Unit) => ag [iv .i64 t4.d.Graph.N, slv rT_api_Pair t4.d.Graph.L, iv .i64 t4.d.Root, iv .i64 t4.d.Limits.i0, iv .i64 t4.d.Limits.i1, slv rT_api_Move t4.d.Moves, slv (rI .i64) t4.status, iv .i64 t4.leader, slv rB t4.leading]) (args := [.tmp 6]) Try.call35 rfl (protocol_of_ok h_t4) ⟨arg rfl, trivial⟩ (fun _ _ _ _ h => h)) rfl (fun _ => ?_)
    refine pull fun t5 h_t5 => ?_
    refine s_st (s_call (ψ := fun (x6 : (Value × List Nat)) => pv x6.1) (args := [.tmp 7]) Try.call46 rfl (protocol_table_legal_ok h_t5) ⟨arg rfl, trivial⟩ (fun _ _ _ _ h => h)) rfl (fun x6 => ?_)
    refine s_rd (r_assign rfl) rfl ?_
    refine l_nil ?_
    refine b_of (nrm [oc b1 [iv .i64 d_0.Graph.N, slv rT_api_Pair d_0.Graph.L, iv .i64 d_0.Root, iv .i64 d_0.Limits.i0, iv .i64 d_0.Limits.i1, slv rT_api_Move d_0.Moves], oa rT_api_Move x6.1 x6.2 t5] rfl) ?_
    refine n_then ?_
    refine ref_ret ?_
    exact fin1 (.inl rfl) x6 [1] rfl ⟨rfl, trivial⟩ rfl (rv_tmp rfl)

/-! deliberation/deliberationlaw27.finished -/
noncomputable def law27_finished_l1  (s28 : Int × T_deliberationkeep_Src × T_api_Dialogue) : Option (Sum ((Sum (T_api_Dialogue × Bool × T_deliberationkeep_Src) (T_deliberationkeep_Src × T_api_Dialogue))) (Int × T_deliberationkeep_Src × T_api_Dialogue)) :=
  bif decide (s28.1 < 70) then
    Option.bind (protocol_Legal_m s28.2.2) fun l31 =>
    bif (l31.length : Int) == 0 then
      some (Sum.inl (Sum.inl (s28.2.2, true, s28.2.1)))
    else
      Option.bind (keep_Src_N_m s28.2.1 (l31.length : Int)) fun t35 =>
      Option.bind (idxM l31 t35.1) fun t36 =>
      Option.bind (protocol_Apply_m s28.2.2 t36) fun t37 =>
      bif t37.2 != 0 then
        some (Sum.inl (Sum.inl (s28.2.2, false, t35.2)))
      else
        letM (iadd .i64 s28.1 1) fun i40 =>
        some (Sum.inr (i40, t35.2, t37.1))
  else
    some (Sum.inl (Sum.inr (s28.2.1, s28.2.2)))

noncomputable def law27_finished_m (s_0 : T_deliberationkeep_Src) (d_1 : T_api_Dialogue) : Option (T_api_Dialogue × Bool × T_deliberationkeep_Src) :=
  Option.bind (loopC (law27_finished_l1) (0, s_0, d_1)) (sumK (fun a : T_api_Dialogue × Bool × T_deliberationkeep_Src => some a) fun q41 : T_deliberationkeep_Src × T_api_Dialogue =>
    some (q41.2, true, q41.1))

theorem law27_finished_ok {s_0 : T_deliberationkeep_Src} {d_1 : T_api_Dialogue} {b_0 : Nat} {r : T_api_Dialogue × Bool × T_deliberationkeep_Src} (hm : law27_finished_m s_0 d_1 = some r) :
    FnOk prog 19 [pv (ptr b_0 0), ag [iv .i64 d_1.Graph.N, slv rT_api_Pair d_1.Graph.L, iv .i64 d_1.Root, iv .i64 d_1.Limits.i0, iv .i64 d_1.Limits.i1, slv rT_api_Move d_1.Moves]] [oc b_0 [slv (rI .i64) s_0.L, iv .i64 s_0.At]] (fun (x : Unit) => [ag [iv .i64 r.1.Graph.N, slv rT_api_Pair r.1.Graph.L, iv .i64 r.1.Root, iv .i64 r.1.Limits.i0, iv .i64 r.1.Limits.i1, slv rT_api_Move r.1.Moves], bv r.2.1]) (fun (x : Unit) => [oc b_0 [slv (rI .i64) r.2.2.L, iv .i64 r.2.2.At]]) := by
  refine fn_ok (X := Unit) (fn := Try.f19) (N := 37) (m := law27_finished_m s_0 d_1) (res := fun r x => [ag [iv .i64 r.1.Graph.N, slv rT_api_Pair r.1.Graph.L, iv .i64 r.1.Root, iv .i64 r.1.Limits.i0, iv .i64 r.1.Limits.i1, slv rT_api_Move r.1.Moves], bv r.2.1]) (Ω1 := fun r x => [oc b_0 [slv (rI .i64) r.2.2.L, iv .i64 r.2.2.At]]) Try.func19 rfl rfl hm rfl (fun E hM => ?_)
  unfold law27_finished_m
  refine ref_seq ?_
  refine ref_region ?_
  refine s_st (s_box (part_ag (ψs := [iv .i64 d_1.Graph.N, slv rT_api_Pair d_1.Graph.L, iv .i64 d_1.Root, iv .i64 d_1.Limits.i0, iv .i64 d_1.Limits.i1, slv rT_api_Move d_1.Moves]) rfl (by intro φ h; simp only [List.mem_cons, List.not_mem_nil, or_false] at h; rcases h with rfl | rfl | rfl | rfl | rfl | rfl <;> first | exact iv_at | exact bv_at | exact sv_at | exact slv_at | exact pv_at rfl))) rfl (fun b1 => ?_)
  refine s_st (s_alloc zt_31) rfl (fun b2 => ?_)
  refine s_rd (r_assign rfl) rfl ?_
  refine l_nil ?_
  refine n_then ?_
  refine ref_seq ?_
  refine ref_seq ?_
  refine ref_region ?_
  refine s_rd (r_assign rfl) rfl ?_
  refine l_nil ?_
  refine n_then ?_
  refine ref_loopX (f := (law27_finished_l1)) (Γl := (fun (s28 : Int × T_deliberationkeep_Src × T_api_Dialogue) (x29 : Unit) => [(0, pv (ptr b_0 0)), (3, pv (ptr b1 0)), (4, pv (ptr b2 0)), (6, iv .i64 s28.1)])) (Ωl := (fun (s28 : Int × T_deliberationkeep_Src × T_api_Dialogue) (x29 : Unit) => [oc b_0 [slv (rI .i64) s28.2.1.L, iv .i64 s28.2.1.At], oc b1 [iv .i64 s28.2.2.Graph.N, slv rT_api_Pair s28.2.2.Graph.L, iv .i64 s28.2.2.Root, iv .i64 s28.2.2.Limits.i0, iv .i64 s28.2.2.Limits.i1, slv rT_api_Move s28.2.2.Moves], oc b2 [iv .i64 0, pv (.slice none 0 0), iv .i64 0, iv .i64 0, iv .i64 0, pv (.slice none 0 0)]])) (Γb := (fun (q41 : T_deliberationkeep_Src × T_api_Dialogue) (y42 : Unit) => [(0, pv (ptr b_0 0)), (3, pv (ptr b1 0)), (4, pv (ptr b2 0))])) (Ωb := (fun (q41 : T_deliberationkeep_Src × T_api_Dialogue) (y42 : Unit) => [oc b_0 [slv (rI .i64) q41.1.L, iv .i64 q41.1.At], oc b1 [iv .i64 q41.2.Graph.N, slv rT_api_Pair q41.2.Graph.L, iv .i64 q41.2.Root, iv .i64 q41.2.Limits.i0, iv .i64 q41.2.Limits.i1, slv rT_api_Move q41.2.Moves], oc b2 [iv .i64 0, pv (.slice none 0 0), iv .i64 0, iv .i64 0, iv .i64 0, pv (.slice none 0 0)]])) (kr := (fun a : T_api_Dialogue × Bool × T_deliberationkeep_Src => some a)) (0, s_0, d_1) () (weak [0, 1, 2] ⟨rfl, rfl, rfl, rfl, trivial⟩ ⟨rfl, rfl, rfl, trivial⟩) (fun s28 x29 => ?_) (fun q41 y42 => ?_)
  · unfold law27_finished_l1
    refine ref_seq ?_
    refine ref_seq ?_
    refine ref_region ?_
    refine s_rd (r_move rfl) rfl ?_
    refine s_rd (r_lss rfl rfl) rfl ?_
    refine l_nil ?_
    refine n_then ?_
    refine ref_cond rfl (fun hb30 => ?_) (fun hb30 => ?_)
    · refine ref_skip ?_
      refine n_then ?_
      refine ref_seq ?_
      refine ref_block ?_
      refine ref_seq ?_
      refine ref_region ?_
      refine s_rd (r_cloadS Try.isAgg31 Try.sizeOf31 rfl (j := 1) rfl rfl rfl) rfl ?_
      refine pull fun l31 h_l31 => ?_
      refine s_st (s_call (ψ := fun (x32 : (Value × List Nat)) => pv x32.1) (args := [.tmp 14]) Try.call25 rfl (protocol_Legal_ok h_l31) ⟨arg rfl, trivial⟩ (fun _ _ _ _ h => h)) rfl (fun x32 => ?_)
      refine s_rd (r_assign rfl) rfl ?_
      refine l_nil ?_
      refine n_then ?_
      refine ref_seq ?_
      refine ref_seq ?_
      refine ref_region ?_
      refine s_rd (r_move rfl) rfl ?_
      refine s_rd (r_olen Try.underlying29 rfl (j := 3) rfl) rfl ?_
      refine s_rd (r_eql rfl rfl) rfl ?_
      refine l_nil ?_
      refine n_then ?_
      refine ref_cond rfl (fun hb33 => ?_) (fun hb33 => ?_)
      · refine ref_seq ?_
        refine ref_region ?_
        refine s_rd (r_cloadS Try.isAgg31 Try.sizeOf31 rfl (j := 1) rfl rfl rfl) rfl ?_
        refine s_st0 (s_cstore (out := [iv .i64 s28.2.2.Graph.N, slv rT_api_Pair s28.2.2.Graph.L, iv .i64 s28.2.2.Root, iv .i64 s28.2.2.Limits.i0, iv .i64 s28.2.2.Limits.i1, slv rT_api_Move s28.2.2.Moves]) Try.sizeOf31 rfl (j := 2) rfl (part_ag (ψs := [iv .i64 s28.2.2.Graph.N, slv rT_api_Pair s28.2.2.Graph.L, iv .i64 s28.2.2.Root, iv .i64 s28.2.2.Limits.i0, iv .i64 s28.2.2.Limits.i1, slv rT_api_Move s28.2.2.Moves]) rfl (by intro φ h; simp only [List.mem_cons, List.not_mem_nil, or_false] at h; rcases h with rfl | rfl | rfl | rfl | rfl | rfl <;> first | exact iv_at | exact bv_at | exact sv_at | exact slv_at | exact pv_at rfl)) rfl rfl rfl) (fun _ => ?_)
        refine s_rd (r_assign rfl) rfl ?_
        refine l_nil ?_
        refine b_of (nrm [oc b_0 [slv (rI .i64) s28.2.1.L, iv .i64 s28.2.1.At], oc b1 [iv .i64 s28.2.2.Graph.N, slv rT_api_Pair s28.2.2.Graph.L, iv .i64 s28.2.2.Root, iv .i64 s28.2.2.Limits.i0, iv .i64 s28.2.2.Limits.i1, slv rT_api_Move s28.2.2.Moves], oc b2 [iv .i64 s28.2.2.Graph.N, slv rT_api_Pair s28.2.2.Graph.L, iv .i64 s28.2.2.Root, iv .i64 s28.2.2.Limits.i0, iv .i64 s28.2.2.Limits.i1, slv rT_api_Move s28.2.2.Moves], oa rT_api_Move x32.1 x32.2 l31] rfl) ?_
        refine n_then ?_
        refine ref_ret ?_
        refine r_then ?_
        refine r_block ?_
        refine r_then ?_
        refine retX ?_
        refine r_block ?_
        refine r_then ?_
        exact fin2 (.inl rfl) () [0] rfl ⟨rfl, trivial⟩ rfl (rv_cell rfl (j := 2) rfl Try.isAgg31 Try.sizeOf31 rfl rfl) (rv_tmp rfl)
      · refine ref_skip ?_
        refine n_then ?_
        refine ref_seq ?_
        refine pull fun t35 h_t35 => ?_
        refine pull fun t36 h_t36 => ?_
        refine pull fun t37 h_t37 => ?_
        refine ref_drawI 1 [⟨[], [], [], [1], [], fun us u => ag [iv .i64 s28.2.2.Graph.N, slv rT_api_Pair s28.2.2.Graph.L, iv .i64 s28.2.2.Root, iv .i64 s28.2.2.Limits.i0, iv .i64 s28.2.2.Limits.i1, slv rT_api_Move s28.2.2.Moves], fun us u => []⟩, ⟨[], [], [], [], [], fun us u => pv x32.1, fun us u => []⟩, ⟨[], [], [], [], [], fun us u => pv (ptr b_0 0), fun us u => []⟩, ⟨[], [], [], [], [], fun us u => pv x32.1, fun us u => []⟩, ⟨[3], [], [], [3], [], fun us u => iv .i64 (l31.length : Int), fun us u => []⟩, ⟨[2, 3, 4], [], [0], [0], [0], fun us u => iv .i64 t35.1, fun us u => [oc b_0 [slv (rI .i64) t35.2.L, iv .i64 t35.2.At]]⟩, ⟨[1, 2, 3, 4, 5], [], [], [3], [], fun us u => pv (elA x32.1 (rT_api_Move).size t35.1), fun us u => []⟩, ⟨[1, 2, 3, 4, 5, 6], [], [], [3], [], fun us u => ag [iv .i64 t36.By, iv .i64 t36.Kind, iv .i64 t36.Node, iv .i64 t36.Target], fun us u => []⟩, ⟨[0, 1, 2, 3, 4, 5, 6, 7], [], [], [], [], fun us u => tup [ag [iv .i64 t37.1.Graph.N, slv rT_api_Pair t37.1.Graph.L, iv .i64 t37.1.Root, iv .i64 t37.1.Limits.i0, iv .i64 t37.1.Limits.i1, slv rT_api_Move t37.1.Moves], iv .i64 t37.2], fun us u => []⟩, ⟨[0, 1, 2, 3, 4, 5, 6, 7, 8], [], [], [], [], fun us u => tup [ag [iv .i64 t37.1.Graph.N, slv rT_api_Pair t37.1.Graph.L, iv .i64 t37.1.Root, iv .i64 t37.1.Limits.i0, iv .i64 t37.1.Limits.i1, slv rT_api_Move t37.1.Moves], iv .i64 t37.2], fun us u => []⟩, ⟨[0, 1, 2, 3, 4, 5, 6, 7, 8, 9], [], [], [], [], fun us u => ag [iv .i64 t37.1.Graph.N, slv rT_api_Pair t37.1.Graph.L, iv .i64 t37.1.Root, iv .i64 t37.1.Limits.i0, iv .i64 t37.1.Limits.i1, slv rT_api_Move t37.1.Moves], fun us u => []⟩, ⟨[0, 1, 2, 3, 4, 5, 6, 7, 8, 9], [], [], [], [], fun us u => iv .i64 t37.2, fun us u => []⟩, ⟨[], [], [4], [4], [], fun us u => pv (ptr u.Nn 0), fun us u => [oc u.Nn [iv .i64 0, pv (.slice none 0 0), iv .i64 0, iv .i64 0, iv .i64 0, pv (.slice none 0 0)]]⟩, ⟨[0, 1, 2, 3, 4, 5, 6, 7, 8, 9, 10, 12], [12], [4], [4], [4], fun us u => pv undef, fun us u => [oc (us.getD 0 .none).Nn [iv .i64 t37.1.Graph.N, slv rT_api_Pair t37.1.Graph.L, iv .i64 t37.1.Root, iv .i64 t37.1.Limits.i0, iv .i64 t37.1.Limits.i1, slv rT_api_Move t37.1.Moves]]⟩, ⟨[0, 1, 2, 3, 4, 5, 6, 7, 8, 9, 10, 11, 12, 13], [], [], [], [], fun us u => iv .i64 t37.2, fun us u => []⟩] (fun χ34 => [(0, pv (ptr b_0 0)), (3, pv (ptr b1 0)), (4, pv (ptr b2 0)), (6, iv .i64 s28.1), (8, pv (ptr (χ34 12).Nn 0)), (9, iv .i64 t37.2)]) (fun χ34 => [oc b_0 [slv (rI .i64) t35.2.L, iv .i64 t35.2.At], oc b1 [iv .i64 s28.2.2.Graph.N, slv rT_api_Pair s28.2.2.Graph.L, iv .i64 s28.2.2.Root, iv .i64 s28.2.2.Limits.i0, iv .i64 s28.2.2.Limits.i1, slv rT_api_Move s28.2.2.Moves], oc b2 [iv .i64 0, pv (.slice none 0 0), iv .i64 0, iv .i64 0, iv .i64 0, pv (.slice none 0 0)], oa rT_api_Move x32.1 x32.2 l31, oc (χ34 12).Nn [iv .i64 t37.1.Graph.N, slv rT_api_Pair t37.1.Graph.L, iv .i64 t37.1.Root, iv .i64 t37.1.Limits.i0, iv .i64 t37.1.Limits.i1, slv rT_api_Move t37.1.Moves]]) rfl (by kernel_rfl) ⟨fun χ34 Ω ⟨h1, _⟩ => St.toR (r_cloadS Try.isAgg31 Try.sizeOf31 rfl (j := 1) h1 rfl rfl) (fun _ => rfl) (fun _ => rfl), (by intro _ h; cases h; rfl), ⟨fun χ34 Ω _ => St.toR (r_move rfl) (fun _ => rfl) (fun _ => rfl), (by intro _ h; cases h; rfl), ⟨fun χ34 Ω _ => St.toR (r_move rfl) (fun _ => rfl) (fun _ => rfl), (by intro _ h; cases h; rfl), ⟨fun χ34 Ω _ => St.toR (r_move rfl) (fun _ => rfl) (fun _ => rfl), (by intro _ h; cases h; rfl), ⟨fun χ34 Ω ⟨h3, _⟩ => St.toR (r_olen Try.underlying29 rfl (j := 3) h3) (fun _ => rfl) (fun _ => rfl), (by intro _ h; cases h; rfl), ⟨fun χ34 Ω ⟨h0, _⟩ => St.to XU.U XU.hU (St.placeL [] (s_callI (js := [0]) (os := fun (_ : Unit) => [oc b_0 [slv (rI .i64) t35.2.L, iv .i64 t35.2.At]]) (ex := fun (_ : Unit) => []) (ψ := fun (_ : Unit) => iv .i64 t35.1) (args := [.tmp 23, .tmp 25]) Try.call11 rfl (keep_Src_N_ok h_t35) ⟨h0, rfl, trivial⟩ (fun _ => rfl) (fun _ => rfl) ⟨arg rfl, arg rfl, trivial⟩ (fun _ _ _ _ h => h)) (fun _ => rfl) (fun _ => trivial)) (fun _ => rfl) (fun _ => rfl), (by intro _ h; cases h; rfl), ⟨fun χ34 Ω ⟨h3, _⟩ => St.toR (r_oindex h_t36 Try.underlying29 el_38 rfl (j := 3) h3 rfl) (fun _ => rfl) (fun _ => rfl), (by intro _ h; cases h; rfl), ⟨fun χ34 Ω ⟨h3, _⟩ => St.toR (r_oload h_t36 el_38 rfl (j := 3) h3) (fun _ => rfl) (fun _ => rfl), (by intro _ h; cases h; rfl), ⟨fun χ34 Ω _ => St.to XU.U XU.hU (St.placeL [] (s_call (ψ := fun (_ : Unit) => tup [ag [iv .i64 t37.1.Graph.N, slv rT_api_Pair t37.1.Graph.L, iv .i64 t37.1.Root, iv .i64 t37.1.Limits.i0, iv .i64 t37.1.Limits.i1, slv rT_api_Move t37.1.Moves], iv .i64 t37.2]) (args := [.tmp 21, .tmp 28]) Try.call13 rfl (protocol_Apply_ok h_t37) ⟨arg rfl, arg rfl, trivial⟩ (fun _ _ _ _ h => h)) (fun _ => rfl) (fun _ => trivial)) (fun _ => rfl) (fun _ => rfl), (by intro _ h; cases h; rfl), ⟨fun χ34 Ω _ => St.toR (r_move rfl) (fun _ => rfl) (fun _ => rfl), (by intro _ h; cases h; rfl), ⟨fun χ34 Ω _ => St.toR (r_extract rfl rfl) (fun _ => rfl) (fun _ => rfl), (by intro _ h; cases h; rfl), ⟨fun χ34 Ω _ => St.toR (r_extract rfl rfl) (fun _ => rfl) (fun _ => rfl), (by intro _ h; cases h; rfl), ⟨fun χ34 Ω ⟨h4, _⟩ => St.to XU.Nn XU.hN (St.placeL (os := fun _ => [_]) [4] (s_alloc zt_31) (fun _ => rfl) (fun _ => ⟨h4, rfl, trivial⟩)) (fun _ => rfl) (fun _ => rfl), (by intro _ h; cases h; rfl), ⟨fun χ34 Ω ⟨h4, _⟩ => St.to XU.U XU.hU (s_cstore (out := [iv .i64 t37.1.Graph.N, slv rT_api_Pair t37.1.Graph.L, iv .i64 t37.1.Root, iv .i64 t37.1.Limits.i0, iv .i64 t37.1.Limits.i1, slv rT_api_Move t37.1.Moves]) Try.sizeOf31 rfl (j := 4) h4 (part_ag (ψs := [iv .i64 t37.1.Graph.N, slv rT_api_Pair t37.1.Graph.L, iv .i64 t37.1.Root, iv .i64 t37.1.Limits.i0, iv .i64 t37.1.Limits.i1, slv rT_api_Move t37.1.Moves]) rfl (by intro φ h; simp only [List.mem_cons, List.not_mem_nil, or_false] at h; rcases h with rfl | rfl | rfl | rfl | rfl | rfl <;> first | exact iv_at | exact bv_at | exact sv_at | exact slv_at | exact pv_at rfl)) rfl rfl rfl) (fun _ => rfl) (fun _ => rfl), (by intro _ h; cases h), ⟨fun χ34 Ω _ => St.toR (r_assign rfl) (fun _ => rfl) (fun _ => rfl), (by intro _ h; cases h; rfl), trivial⟩⟩⟩⟩⟩⟩⟩⟩⟩⟩⟩⟩⟩⟩⟩ (fun _ => ⟨rfl, rfl, rfl, rfl, rfl, rfl, trivial⟩) (fun _ => rfl) (fun χ34 => ?_)
        refine n_then ?_
        refine ref_seq ?_
        refine ref_seq ?_
        refine ref_region ?_
        refine s_rd (r_move rfl) rfl ?_
        refine s_rd (r_neq rfl rfl) rfl ?_
        refine l_nil ?_
        refine n_then ?_
        refine ref_cond rfl (fun hb39 => ?_) (fun hb39 => ?_)
        · refine ref_seq ?_
          refine ref_region ?_
          refine s_rd (r_cloadS Try.isAgg31 Try.sizeOf31 rfl (j := 1) rfl rfl rfl) rfl ?_
          refine s_st0 (s_cstore (out := [iv .i64 s28.2.2.Graph.N, slv rT_api_Pair s28.2.2.Graph.L, iv .i64 s28.2.2.Root, iv .i64 s28.2.2.Limits.i0, iv .i64 s28.2.2.Limits.i1, slv rT_api_Move s28.2.2.Moves]) Try.sizeOf31 rfl (j := 2) rfl (part_ag (ψs := [iv .i64 s28.2.2.Graph.N, slv rT_api_Pair s28.2.2.Graph.L, iv .i64 s28.2.2.Root, iv .i64 s28.2.2.Limits.i0, iv .i64 s28.2.2.Limits.i1, slv rT_api_Move s28.2.2.Moves]) rfl (by intro φ h; simp only [List.mem_cons, List.not_mem_nil, or_false] at h; rcases h with rfl | rfl | rfl | rfl | rfl | rfl <;> first | exact iv_at | exact bv_at | exact sv_at | exact slv_at | exact pv_at rfl)) rfl rfl rfl) (fun _ => ?_)
          refine s_rd (r_assign rfl) rfl ?_
          refine l_nil ?_
          refine n_then ?_
          refine ref_ret ?_
          refine r_then ?_
          refine r_block ?_
          refine r_then ?_
          refine retX ?_
          refine r_block ?_
          refine r_then ?_
          exact fin2 (.inl rfl) () [0] rfl ⟨rfl, trivial⟩ rfl (rv_cell rfl (j := 2) rfl Try.isAgg31 Try.sizeOf31 rfl rfl) (rv_tmp rfl)
        · refine ref_skip ?_
          refine n_then ?_
          refine ref_region ?_
          refine s_rd (r_cloadS Try.isAgg31 Try.sizeOf31 rfl (j := 4) rfl rfl rfl) rfl ?_
          refine s_st0 (s_cstore (out := [iv .i64 t37.1.Graph.N, slv rT_api_Pair t37.1.Graph.L, iv .i64 t37.1.Root, iv .i64 t37.1.Limits.i0, iv .i64 t37.1.Limits.i1, slv rT_api_Move t37.1.Moves]) Try.sizeOf31 rfl (j := 1) rfl (part_ag (ψs := [iv .i64 t37.1.Graph.N, slv rT_api_Pair t37.1.Graph.L, iv .i64 t37.1.Root, iv .i64 t37.1.Limits.i0, iv .i64 t37.1.Limits.i1, slv rT_api_Move t37.1.Moves]) rfl (by intro φ h; simp only [List.mem_cons, List.not_mem_nil, or_false] at h; rcases h with rfl | rfl | rfl | rfl | rfl | rfl <;> first | exact iv_at | exact bv_at | exact sv_at | exact slv_at | exact pv_at rfl)) rfl rfl rfl) (fun _ => ?_)
          refine l_nil ?_
          refine n_block ?_
          refine n_then ?_
          refine ref_region ?_
          refine s_rd (r_move rfl) rfl ?_
          refine s_rd (r_add rfl rfl) rfl ?_
          refine s_rd (r_assign rfl) rfl ?_
          refine b_let (f := iv .i64) (t := 6) rfl fun i40 => ?_
          refine l_nil ?_
          exact goX () (weak [0, 1, 2] ⟨rfl, rfl, rfl, rfl, trivial⟩ ⟨rfl, rfl, rfl, trivial⟩)
    · refine ref_exit ?_
      refine x_then ?_
      exact brkX () (weak [0, 1, 2] ⟨rfl, rfl, rfl, trivial⟩ ⟨rfl, rfl, rfl, trivial⟩)
  · refine n_then ?_
    refine ref_seq ?_
    refine ref_region ?_
    refine s_rd (r_cloadS Try.isAgg31 Try.sizeOf31 rfl (j := 1) rfl rfl rfl) rfl ?_
    refine s_st0 (s_cstore (out := [iv .i64 q41.2.Graph.N, slv rT_api_Pair q41.2.Graph.L, iv .i64 q41.2.Root, iv .i64 q41.2.Limits.i0, iv .i64 q41.2.Limits.i1, slv rT_api_Move q41.2.Moves]) Try.sizeOf31 rfl (j := 2) rfl (part_ag (ψs := [iv .i64 q41.2.Graph.N, slv rT_api_Pair q41.2.Graph.L, iv .i64 q41.2.Root, iv .i64 q41.2.Limits.i0, iv .i64 q41.2.Limits.i1, slv rT_api_Move q41.2.Moves]) rfl (by intro φ h; simp only [List.mem_cons, List.not_mem_nil, or_false] at h; rcases h with rfl | rfl | rfl | rfl | rfl | rfl <;> first | exact iv_at | exact bv_at | exact sv_at | exact slv_at | exact pv_at rfl)) rfl rfl rfl) (fun _ => ?_)
    refine s_rd (r_assign rfl) rfl ?_
    refine l_nil ?_
    refine n_then ?_
    refine ref_ret ?_
    exact fin2 (.inl rfl) () [0] rfl ⟨rfl, trivial⟩ rfl (rv_cell rfl (j := 2) rfl Try.isAgg31 Try.sizeOf31 rfl rfl) (rv_tmp rfl)

/-! deliberation/deliberationnet.Attacked -/
noncomputable def net_Attacked_l1 (g_0 : T_api_Graph) (s_1 : (List Int)) (a__2 : Int) (s8 : Int) : Option (Sum ((Sum (Bool) (Unit))) (Int)) :=
  bif decide (s8 < (s_1.length : Int)) then
    Option.bind (idxM s_1 s8) fun t11 =>
    Option.bind (net_Has_m g_0 t11 a__2) fun t12 =>
    bif t12 then
      some (Sum.inl (Sum.inl true))
    else
      some (Sum.inr (iadd .i64 s8 1))
  else
    some (Sum.inl (Sum.inr ()))

noncomputable def net_Attacked_m (g_0 : T_api_Graph) (s_1 : (List Int)) (a__2 : Int) : Option (Bool) :=
  Option.bind (loopC (net_Attacked_l1 g_0 s_1 a__2) 0) (sumK (fun a : Bool => some a) fun q14 : Unit =>
    some false)

theorem net_Attacked_ok {g_0 : T_api_Graph} {s_1 : (List Int)} {a__2 : Int} {r : Bool} (hm : net_Attacked_m g_0 s_1 a__2 = some r) :
    FnOk prog 44 [ag [iv .i64 g_0.N, slv rT_api_Pair g_0.L], slv (rI .i64) s_1, iv .i64 a__2] [] (fun (x : Unit) => [bv r]) (fun (x : Unit) => []) := by
  refine fn_ok (X := Unit) (fn := Try.f44) (N := 21) (m := net_Attacked_m g_0 s_1 a__2) (res := fun r x => [bv r]) (Ω1 := fun r x => []) Try.func44 rfl rfl hm rfl (fun E hM => ?_)
  unfold net_Attacked_m
  refine ref_seq ?_
  refine ref_region ?_
  refine s_st (s_box (part_ag (ψs := [iv .i64 g_0.N, slv rT_api_Pair g_0.L]) rfl (by intro φ h; simp only [List.mem_cons, List.not_mem_nil, or_false] at h; rcases h with rfl | rfl <;> first | exact iv_at | exact bv_at | exact sv_at | exact slv_at | exact pv_at rfl))) rfl (fun b1 => ?_)
  refine s_rd (r_assign rfl) rfl ?_
  refine l_nil ?_
  refine n_then ?_
  refine ref_seq ?_
  refine ref_seq ?_
  refine ref_region ?_
  refine s_rd (r_assign rfl) rfl ?_
  refine l_nil ?_
  refine n_then ?_
  refine ref_loopX (f := (net_Attacked_l1 g_0 s_1 a__2)) (Γl := (fun (s8 : Int) (x9 : Unit) => [(1, slv (rI .i64) s_1), (2, iv .i64 a__2), (3, pv (ptr b1 0)), (7, iv .i64 s8)])) (Ωl := (fun (s8 : Int) (x9 : Unit) => [oc b1 [iv .i64 g_0.N, slv rT_api_Pair g_0.L]])) (Γb := (fun (q14 : Unit) (y15 : Unit) => [])) (Ωb := (fun (q14 : Unit) (y15 : Unit) => [])) (kr := (fun a : Bool => some a)) 0 () (weak [0] ⟨rfl, rfl, rfl, rfl, trivial⟩ ⟨rfl, trivial⟩) (fun s8 x9 => ?_) (fun q14 y15 => ?_)
  · unfold net_Attacked_l1
    refine ref_seq ?_
    refine ref_seq ?_
    refine ref_region ?_
    refine s_rd (r_move rfl) rfl ?_
    refine s_rd (r_move rfl) rfl ?_
    refine s_rd (r_len Try.underlying22 rfl) rfl ?_
    refine s_rd (r_lss rfl rfl) rfl ?_
    refine l_nil ?_
    refine n_then ?_
    refine ref_cond rfl (fun hb10 => ?_) (fun hb10 => ?_)
    · refine ref_skip ?_
      refine n_then ?_
      refine ref_seq ?_
      refine ref_block ?_
      refine ref_seq ?_
      refine ref_draw [0, 1, 2, 3, 4, 5] rfl (by kernel_rfl) (fun hok => ?_)
      refine a_rd (i := 0) hok rfl (by kernel_rfl) rfl (r_cloadS Try.isAgg27 Try.sizeOf27 rfl (j := 0) rfl rfl rfl) rfl ?_
      refine a_rd (i := 1) hok rfl (by kernel_rfl) rfl (r_move rfl) rfl ?_
      refine a_rd (i := 2) hok rfl (by kernel_rfl) rfl (r_move rfl) rfl ?_
      refine pull fun t11 h_t11 => ?_
      refine a_rd (i := 3) hok rfl (by kernel_rfl) rfl (r_index h_t11 Try.underlying22 el_3 rfl rfl) rfl ?_
      refine a_rd (i := 4) hok rfl (by kernel_rfl) rfl (r_load el_3 rfl) rfl ?_
      refine a_rd (i := 5) hok rfl (by kernel_rfl) rfl (r_move rfl) rfl ?_
      refine pull fun t12 h_t12 => ?_
      refine a_next hok 6 [] (by kernel_rfl) ?_ trivial
      refine a_st (i := 6) hok rfl rfl (s_call (ψ := fun (_ : Unit) => bv t12) (args := [.tmp 14, .tmp 18, .tmp 19]) Try.call43 rfl (net_Has_ok h_t12) ⟨arg rfl, arg rfl, arg rfl, trivial⟩ (fun _ _ _ _ h => h)) (by intro _ h; cases h; rfl) (fun _ => ⟨trivial, ⟨trivial, ⟨trivial, ⟨trivial, ⟨trivial, ⟨trivial, trivial⟩⟩⟩⟩⟩⟩) (fun _ => ?_)
      refine a_fin hok (by kernel_rfl) ?_
      refine n_then ?_
      refine ref_cond rfl (fun hb13 => ?_) (fun hb13 => ?_)
      · refine ref_seq ?_
        refine ref_region ?_
        refine s_rd (r_assign rfl) rfl ?_
        refine l_nil ?_
        refine n_then ?_
        refine ref_ret ?_
        refine r_block ?_
        refine r_then ?_
        refine retX ?_
        refine r_block ?_
        refine r_then ?_
        exact fin1 (.inl rfl) () [] rfl trivial rfl (rv_tmp rfl)
      · refine ref_skip ?_
        refine n_block ?_
        refine n_then ?_
        refine ref_region ?_
        refine s_rd (r_move rfl) rfl ?_
        refine s_rd (r_add rfl rfl) rfl ?_
        refine s_rd (r_assign rfl) rfl ?_
        refine l_nil ?_
        exact goX () (weak [0] ⟨rfl, rfl, rfl, rfl, trivial⟩ ⟨rfl, trivial⟩)
    · refine ref_exit ?_
      refine x_then ?_
      exact brkX () (weak [] trivial trivial)
  · refine n_then ?_
    refine ref_seq ?_
    refine ref_region ?_
    refine s_rd (r_assign rfl) rfl ?_
    refine l_nil ?_
    refine n_then ?_
    refine ref_ret ?_
    exact fin1 (.inl rfl) () [] rfl trivial rfl (rv_tmp rfl)

/-! deliberation/deliberationnet.Grounded -/
noncomputable def net_Grounded_l1 (g_0 : T_api_Graph) (s16 : Int × (List Int)) : Option (Sum ((List Int)) (Int × (List Int))) :=
  bif decide (s16.1 < g_0.N) then
    Option.bind (idxM s16.2 s16.1) fun t19 =>
    letM (iadd .i64 s16.1 1) fun i20 =>
    some (Sum.inr (i20, s16.2.set (Int.toNat s16.1) 3))
  else
    some (Sum.inl s16.2)

noncomputable def net_Grounded_l4 (g_0 : T_api_Graph) (s292 : Int × (List Int) × (List Int)) (s341 : Int × (List Int)) (s350 : Bool × Int) : Option (Sum (Bool) (Bool × Int)) :=
  bif decide (s350.2 < g_0.N) then
    bif s350.1 then
      Option.bind (net_Has_m g_0 s350.2 s341.1) fun t353 =>
      bif !t353 then
        letM (iadd .i64 s350.2 1) fun b355 =>
        some (Sum.inr (true, b355))
      else
        Option.bind (idxM s292.2.1 s350.2) fun t354 =>
        letM (iadd .i64 s350.2 1) fun b356 =>
        some (Sum.inr (t354 == 2, b356))
    else
      letM (iadd .i64 s350.2 1) fun b357 =>
      some (Sum.inr (false, b357))
  else
    some (Sum.inl s350.1)

noncomputable def net_Grounded_l3 (g_0 : T_api_Graph) (s292 : Int × (List Int) × (List Int)) (s341 : Int × (List Int)) : Option (Sum ((List Int)) (Int × (List Int))) :=
  bif decide (s341.1 < g_0.N) then
    Option.bind (idxM s292.2.1 s341.1) fun t344 =>
    Option.bind (loopC (net_Grounded_l4 g_0 s292 s341) (t344 == 3, 0)) fun q358 : Bool =>
    bif q358 then
      Option.bind (appM 8 s341.2 [s341.1]) fun now361 =>
      letM (iadd .i64 s341.1 1) fun a_363 =>
      some (Sum.inr (a_363, now361))
    else
      letM (iadd .i64 s341.1 1) fun a_364 =>
      some (Sum.inr (a_364, s341.2))
  else
    some (Sum.inl s341.2)

noncomputable def net_Grounded_l5 (s292 : Int × (List Int) × (List Int)) (q365 : (List Int)) (s379 : Int × (List Int) × (List Int)) : Option (Sum ((List Int) × (List Int)) (Int × (List Int) × (List Int))) :=
  bif decide (s379.1 < (q365.length : Int)) then
    Option.bind (idxM q365 s379.1) fun a_382 =>
    Option.bind (idxM s379.2.1 a_382) fun t383 =>
    Option.bind (idxM s379.2.2 a_382) fun t384 =>
    some (Sum.inr (iadd .i64 s379.1 1, s379.2.1.set (Int.toNat a_382) 1, s379.2.2.set (Int.toNat a_382) s292.1))
  else
    some (Sum.inl (s379.2.1, s379.2.2))

noncomputable def net_Grounded_l6 (g_0 : T_api_Graph) (s292 : Int × (List Int) × (List Int)) (q365 : (List Int)) (s411 : Int × (List Int) × (List Int)) : Option (Sum ((List Int) × (List Int)) (Int × (List Int) × (List Int))) :=
  bif decide (s411.1 < g_0.N) then
    joinM (fun j416 : Bool =>
        bif j416 then
          Option.bind (idxM s411.2.1 s411.1) fun t420 =>
          Option.bind (idxM s411.2.2 s411.1) fun t421 =>
          letM (iadd .i64 s411.1 1) fun b422 =>
          some (Sum.inr (b422, s411.2.1.set (Int.toNat s411.1) 2, s411.2.2.set (Int.toNat s411.1) s292.1))
        else
          letM (iadd .i64 s411.1 1) fun b423 =>
          some (Sum.inr (b423, s411.2.1, s411.2.2))) fun k418 =>
    Option.bind (idxM s411.2.1 s411.1) fun t414 =>
    bif t414 == 3 then
      Option.bind (net_Attacked_m g_0 q365 s411.1) fun t415 =>
      k418 t415
    else
      k418 false
  else
    some (Sum.inl (s411.2.1, s411.2.2))

noncomputable def net_Grounded_l2 (g_0 : T_api_Graph) (s292 : Int × (List Int) × (List Int)) : Option (Sum ((List Int) × (List Int)) (Int × (List Int) × (List Int))) :=
  bif decide (s292.1 ≤ (iadd .i64 g_0.N 1)) then
    Option.bind (loopC (net_Grounded_l3 g_0 s292) (0, [])) fun q365 : (List Int) =>
    Option.bind (loopC (net_Grounded_l5 s292 q365) (0, s292.2.1, s292.2.2)) fun q385 : (List Int) × (List Int) =>
    Option.bind (loopC (net_Grounded_l6 g_0 s292 q365) (0, q385.1, q385.2)) fun q424 : (List Int) × (List Int) =>
    letM (iadd .i64 s292.1 1) fun round426 =>
    some (Sum.inr (round426, q424.1, q424.2))
  else
    some (Sum.inl (s292.2.1, s292.2.2))

noncomputable def net_Grounded_m (g_0 : T_api_Graph) : Option (List Int × List Int) :=
  Option.bind (mkM 8 0 g_0.N) fun labels3 =>
  Option.bind (mkM 8 0 g_0.N) fun ranks5 =>
  Option.bind (loopC (net_Grounded_l1 g_0) (0, labels3)) fun q21 : (List Int) =>
  Option.bind (loopC (net_Grounded_l2 g_0) (1, q21, ranks5)) fun q427 : (List Int) × (List Int) =>
  some (q427.1, q427.2)

theorem net_Grounded_ok {g_0 : T_api_Graph} {r : List Int × List Int} (hm : net_Grounded_m g_0 = some r) :
    FnOk prog 21 [ag [iv .i64 g_0.N, slv rT_api_Pair g_0.L]] [] (fun (x : (Value × List Nat) × (Value × List Nat)) => [pv x.1.1, pv x.2.1]) (fun (x : (Value × List Nat) × (Value × List Nat)) => [oa (rI .i64) x.1.1 x.1.2 r.1, oa (rI .i64) x.2.1 x.2.2 r.2]) := by
  refine fn_ok (X := (Value × List Nat) × (Value × List Nat)) (fn := Try.f21) (N := 114) (m := net_Grounded_m g_0) (res := fun r x => [pv x.1.1, pv x.2.1]) (Ω1 := fun r x => [oa (rI .i64) x.1.1 x.1.2 r.1, oa (rI .i64) x.2.1 x.2.2 r.2]) Try.func21 rfl rfl hm rfl (fun E hM => ?_)
  unfold net_Grounded_m
  refine ref_seq ?_
  refine ref_region ?_
  refine s_st (s_box (part_ag (ψs := [iv .i64 g_0.N, slv rT_api_Pair g_0.L]) rfl (by intro φ h; simp only [List.mem_cons, List.not_mem_nil, or_false] at h; rcases h with rfl | rfl <;> first | exact iv_at | exact bv_at | exact sv_at | exact slv_at | exact pv_at rfl))) rfl (fun b1 => ?_)
  refine s_rd (r_assign rfl) rfl ?_
  refine s_rd (r_assign rfl) rfl ?_
  refine l_nil ?_
  refine n_then ?_
  refine ref_seq ?_
  refine pull fun labels3 h_labels3 => ?_
  refine pull fun ranks5 h_ranks5 => ?_
  refine ref_drawI 2 [⟨[], [], [], [], [], fun us u => pv (ptr b1 0), fun us u => []⟩, ⟨[0], [], [], [0], [], fun us u => iv .i64 g_0.N, fun us u => []⟩, ⟨[0, 1], [], [1], [1], [], fun us u => pv u.V.1, fun us u => [oa (rI .i64) u.V.1 u.V.2 labels3]⟩, ⟨[], [], [], [], [], fun us u => pv (ptr b1 0), fun us u => []⟩, ⟨[3], [], [], [0], [], fun us u => iv .i64 g_0.N, fun us u => []⟩, ⟨[3, 4], [], [2], [2], [], fun us u => pv u.V.1, fun us u => [oa (rI .i64) u.V.1 u.V.2 ranks5]⟩, ⟨[0, 1, 2], [2], [], [], [], fun us u => pv (us.getD 0 .none).V.1, fun us u => []⟩, ⟨[0, 1, 2, 3, 4, 5, 6], [5], [], [], [], fun us u => pv (us.getD 0 .none).V.1, fun us u => []⟩] (fun χ2 => [(1, pv (ptr b1 0)), (4, pv (χ2 2).V.1), (5, pv (χ2 5).V.1)]) (fun χ2 => [oc b1 [iv .i64 g_0.N, slv rT_api_Pair g_0.L], oa (rI .i64) (χ2 2).V.1 (χ2 2).V.2 labels3, oa (rI .i64) (χ2 5).V.1 (χ2 5).V.2 ranks5]) rfl (by kernel_rfl) ⟨fun χ2 Ω _ => St.toR (r_faddr (fo := 0) Try.underlying27 rfl rfl Try.sizeOf3 rfl) (fun _ => rfl) (fun _ => rfl), (by intro _ h; cases h; rfl), ⟨fun χ2 Ω ⟨h0, _⟩ => St.toR (r_cload Try.isAgg3 rfl (j := 0) h0 rfl) (fun _ => rfl) (fun _ => rfl), (by intro _ h; cases h; rfl), ⟨fun χ2 Ω ⟨h1, _⟩ => St.to XU.V XU.hV (St.placeL (os := fun _ => [_]) [1] (s_make h_labels3 Try.underlying22 el_3 ze_3 rfl rfl) (fun _ => rfl) (fun _ => ⟨h1, rfl, trivial⟩)) (fun _ => rfl) (fun _ => rfl), (by intro _ h; cases h; rfl), ⟨fun χ2 Ω _ => St.toR (r_faddr (fo := 0) Try.underlying27 rfl rfl Try.sizeOf3 rfl) (fun _ => rfl) (fun _ => rfl), (by intro _ h; cases h; rfl), ⟨fun χ2 Ω ⟨h0, _⟩ => St.toR (r_cload Try.isAgg3 rfl (j := 0) h0 rfl) (fun _ => rfl) (fun _ => rfl), (by intro _ h; cases h; rfl), ⟨fun χ2 Ω ⟨h2, _⟩ => St.to XU.V XU.hV (St.placeL (os := fun _ => [_]) [2] (s_make h_ranks5 Try.underlying22 el_3 ze_3 rfl rfl) (fun _ => rfl) (fun _ => ⟨h2, rfl, trivial⟩)) (fun _ => rfl) (fun _ => rfl), (by intro _ h; cases h; rfl), ⟨fun χ2 Ω _ => St.toR (r_assign rfl) (fun _ => rfl) (fun _ => rfl), (by intro _ h; cases h; rfl), ⟨fun χ2 Ω _ => St.toR (r_assign rfl) (fun _ => rfl) (fun _ => rfl), (by intro _ h; cases h; rfl), trivial⟩⟩⟩⟩⟩⟩⟩⟩ (fun _ => ⟨rfl, rfl, rfl, trivial⟩) (fun _ => rfl) (fun χ2 => ?_)
  refine n_then ?_
  refine ref_seq ?_
  refine ref_seq ?_
  refine ref_region ?_
  refine s_rd (r_assign rfl) rfl ?_
  refine l_nil ?_
  refine n_then ?_
  refine ref_loopB (f := (net_Grounded_l1 g_0)) (Γl := (fun (s16 : Int × (List Int)) (x17 : Unit) => [(1, pv (ptr b1 0)), (4, pv (χ2 2).V.1), (5, pv (χ2 5).V.1), (6, iv .i64 s16.1)])) (Ωl := (fun (s16 : Int × (List Int)) (x17 : Unit) => [oc b1 [iv .i64 g_0.N, slv rT_api_Pair g_0.L], oa (rI .i64) (χ2 2).V.1 (χ2 2).V.2 s16.2, oa (rI .i64) (χ2 5).V.1 (χ2 5).V.2 ranks5])) (Γb := (fun (q21 : (List Int)) (y22 : Unit) => [(1, pv (ptr b1 0)), (4, pv (χ2 2).V.1), (5, pv (χ2 5).V.1)])) (Ωb := (fun (q21 : (List Int)) (y22 : Unit) => [oc b1 [iv .i64 g_0.N, slv rT_api_Pair g_0.L], oa (rI .i64) (χ2 2).V.1 (χ2 2).V.2 q21, oa (rI .i64) (χ2 5).V.1 (χ2 5).V.2 ranks5])) (0, labels3) () (weak [0, 1, 2] ⟨rfl, rfl, rfl, rfl, trivial⟩ ⟨rfl, rfl, rfl, trivial⟩) (fun s16 x17 => ?_) (fun q21 y22 => ?_)
  · unfold net_Grounded_l1
    refine ref_seq ?_
    refine ref_seq ?_
    refine ref_region ?_
    refine s_rd (r_move rfl) rfl ?_
    refine s_rd (r_faddr (fo := 0) Try.underlying27 rfl rfl Try.sizeOf3 rfl) rfl ?_
    refine s_rd (r_cload Try.isAgg3 rfl (j := 0) rfl rfl) rfl ?_
    refine s_rd (r_lss rfl rfl) rfl ?_
    refine l_nil ?_
    refine n_then ?_
    refine ref_cond rfl (fun hb18 => ?_) (fun hb18 => ?_)
    · refine ref_skip ?_
      refine n_then ?_
      refine ref_seq ?_
      refine ref_block ?_
      refine ref_region ?_
      refine s_rd (r_move rfl) rfl ?_
      refine s_rd (r_move rfl) rfl ?_
      refine pull fun t19 h_t19 => ?_
      refine s_rd (r_oindex h_t19 Try.underlying22 el_3 rfl (j := 1) rfl rfl) rfl ?_
      refine s_st0 (s_ostore (u := 3) h_t19 el_3 rfl (j := 1) rfl (part_at rfl iv_at)) (fun _ => ?_)
      refine l_nil ?_
      refine n_block ?_
      refine n_then ?_
      refine ref_region ?_
      refine s_rd (r_move rfl) rfl ?_
      refine s_rd (r_add rfl rfl) rfl ?_
      refine s_rd (r_assign rfl) rfl ?_
      refine b_let (f := iv .i64) (t := 6) rfl fun i20 => ?_
      refine l_nil ?_
      exact goB () (weak [0, 1, 2] ⟨rfl, rfl, rfl, rfl, trivial⟩ ⟨rfl, rfl, rfl, trivial⟩)
    · refine ref_exit ?_
      refine x_then ?_
      exact brkB () (weak [0, 1, 2] ⟨rfl, rfl, rfl, trivial⟩ ⟨rfl, rfl, rfl, trivial⟩)
  · refine n_then ?_
    refine ref_seq ?_
    refine ref_seq ?_
    refine ref_region ?_
    refine s_rd (r_assign rfl) rfl ?_
    refine l_nil ?_
    refine n_then ?_
    refine ref_loopB (f := (net_Grounded_l2 g_0)) (Γl := (fun (s292 : Int × (List Int) × (List Int)) (x293 : Unit) => [(1, pv (ptr b1 0)), (4, pv (χ2 2).V.1), (5, pv (χ2 5).V.1), (7, iv .i64 s292.1)])) (Ωl := (fun (s292 : Int × (List Int) × (List Int)) (x293 : Unit) => [oc b1 [iv .i64 g_0.N, slv rT_api_Pair g_0.L], oa (rI .i64) (χ2 2).V.1 (χ2 2).V.2 s292.2.1, oa (rI .i64) (χ2 5).V.1 (χ2 5).V.2 s292.2.2])) (Γb := (fun (q427 : (List Int) × (List Int)) (y428 : Unit) => [(4, pv (χ2 2).V.1), (5, pv (χ2 5).V.1)])) (Ωb := (fun (q427 : (List Int) × (List Int)) (y428 : Unit) => [oa (rI .i64) (χ2 2).V.1 (χ2 2).V.2 q427.1, oa (rI .i64) (χ2 5).V.1 (χ2 5).V.2 q427.2])) (1, q21, ranks5) () (weak [0, 1, 2] ⟨rfl, rfl, rfl, rfl, trivial⟩ ⟨rfl, rfl, rfl, trivial⟩) (fun s292 x293 => ?_) (fun q427 y428 => ?_)
    · unfold net_Grounded_l2
      refine ref_seq ?_
      refine ref_seq ?_
      refine ref_region ?_
      refine s_rd (r_move rfl) rfl ?_
      refine s_rd (r_faddr (fo := 0) Try.underlying27 rfl rfl Try.sizeOf3 rfl) rfl ?_
      refine s_rd (r_cload Try.isAgg3 rfl (j := 0) rfl rfl) rfl ?_
      refine s_rd (r_add rfl rfl) rfl ?_
      refine s_rd (r_leq rfl rfl) rfl ?_
      refine l_nil ?_
      refine n_then ?_
      refine ref_cond rfl (fun hb294 => ?_) (fun hb294 => ?_)
      · refine ref_skip ?_
        refine n_then ?_
        refine ref_seq ?_
        refine ref_block ?_
        refine ref_seq ?_
        refine ref_region ?_
        refine s_rd (r_assign rfl) rfl ?_
        refine l_nil ?_
        refine n_then ?_
        refine ref_seq ?_
        refine ref_seq ?_
        refine ref_region ?_
        refine s_rd (r_assign rfl) rfl ?_
        refine l_nil ?_
        refine n_then ?_
        refine b_of (own_nil (rI .i64)) ?_
        refine ref_loopB (f := (net_Grounded_l3 g_0 s292)) (Γl := (fun (s341 : Int × (List Int)) (x342 : (Value × List Nat)) => [(1, pv (ptr b1 0)), (4, pv (χ2 2).V.1), (5, pv (χ2 5).V.1), (7, iv .i64 s292.1), (8, pv x342.1), (9, iv .i64 s341.1)])) (Ωl := (fun (s341 : Int × (List Int)) (x342 : (Value × List Nat)) => [oc b1 [iv .i64 g_0.N, slv rT_api_Pair g_0.L], oa (rI .i64) (χ2 2).V.1 (χ2 2).V.2 s292.2.1, oa (rI .i64) (χ2 5).V.1 (χ2 5).V.2 s292.2.2, oa (rI .i64) x342.1 x342.2 s341.2])) (Γb := (fun (q365 : (List Int)) (y366 : (Value × List Nat)) => [(1, pv (ptr b1 0)), (4, pv (χ2 2).V.1), (5, pv (χ2 5).V.1), (7, iv .i64 s292.1), (8, pv y366.1)])) (Ωb := (fun (q365 : (List Int)) (y366 : (Value × List Nat)) => [oc b1 [iv .i64 g_0.N, slv rT_api_Pair g_0.L], oa (rI .i64) (χ2 2).V.1 (χ2 2).V.2 s292.2.1, oa (rI .i64) (χ2 5).V.1 (χ2 5).V.2 s292.2.2, oa (rI .i64) y366.1 y366.2 q365])) (0, []) ((.slice none 0 0), []) (weak [0, 1, 2, 3] ⟨rfl, rfl, rfl, rfl, rfl, rfl, trivial⟩ ⟨rfl, rfl, rfl, rfl, trivial⟩) (fun s341 x342 => ?_) (fun q365 y366 => ?_)
        · unfold net_Grounded_l3
          refine ref_seq ?_
          refine ref_seq ?_
          refine ref_region ?_
          refine s_rd (r_move rfl) rfl ?_
          refine s_rd (r_faddr (fo := 0) Try.underlying27 rfl rfl Try.sizeOf3 rfl) rfl ?_
          refine s_rd (r_cload Try.isAgg3 rfl (j := 0) rfl rfl) rfl ?_
          refine s_rd (r_lss rfl rfl) rfl ?_
          refine l_nil ?_
          refine n_then ?_
          refine ref_cond rfl (fun hb343 => ?_) (fun hb343 => ?_)
          · refine ref_skip ?_
            refine n_then ?_
            refine ref_seq ?_
            refine ref_block ?_
            refine ref_seq ?_
            refine ref_region ?_
            refine s_rd (r_move rfl) rfl ?_
            refine s_rd (r_move rfl) rfl ?_
            refine pull fun t344 h_t344 => ?_
            refine s_rd (r_oindex h_t344 Try.underlying22 el_3 rfl (j := 1) rfl rfl) rfl ?_
            refine s_rd (r_oload h_t344 el_3 rfl (j := 1) rfl) rfl ?_
            refine s_rd (r_eql rfl rfl) rfl ?_
            refine s_rd (r_assign rfl) rfl ?_
            refine l_nil ?_
            refine n_then ?_
            refine ref_seq ?_
            refine ref_seq ?_
            refine ref_region ?_
            refine s_rd (r_assign rfl) rfl ?_
            refine l_nil ?_
            refine n_then ?_
            refine ref_loopB (f := (net_Grounded_l4 g_0 s292 s341)) (Γl := (fun (s350 : Bool × Int) (x351 : Unit) => [(1, pv (ptr b1 0)), (4, pv (χ2 2).V.1), (5, pv (χ2 5).V.1), (7, iv .i64 s292.1), (8, pv x342.1), (9, iv .i64 s341.1), (10, bv s350.1), (11, iv .i64 s350.2)])) (Ωl := (fun (s350 : Bool × Int) (x351 : Unit) => [oc b1 [iv .i64 g_0.N, slv rT_api_Pair g_0.L], oa (rI .i64) (χ2 2).V.1 (χ2 2).V.2 s292.2.1, oa (rI .i64) (χ2 5).V.1 (χ2 5).V.2 s292.2.2, oa (rI .i64) x342.1 x342.2 s341.2])) (Γb := (fun (q358 : Bool) (y359 : Unit) => [(1, pv (ptr b1 0)), (4, pv (χ2 2).V.1), (5, pv (χ2 5).V.1), (7, iv .i64 s292.1), (8, pv x342.1), (9, iv .i64 s341.1), (10, bv q358)])) (Ωb := (fun (q358 : Bool) (y359 : Unit) => [oc b1 [iv .i64 g_0.N, slv rT_api_Pair g_0.L], oa (rI .i64) (χ2 2).V.1 (χ2 2).V.2 s292.2.1, oa (rI .i64) (χ2 5).V.1 (χ2 5).V.2 s292.2.2, oa (rI .i64) x342.1 x342.2 s341.2])) (t344 == 3, 0) () (weak [0, 1, 2, 3] ⟨rfl, rfl, rfl, rfl, rfl, rfl, rfl, rfl, trivial⟩ ⟨rfl, rfl, rfl, rfl, trivial⟩) (fun s350 x351 => ?_) (fun q358 y359 => ?_)
            · unfold net_Grounded_l4
              refine ref_seq ?_
              refine ref_seq ?_
              refine ref_region ?_
              refine s_rd (r_move rfl) rfl ?_
              refine s_rd (r_faddr (fo := 0) Try.underlying27 rfl rfl Try.sizeOf3 rfl) rfl ?_
              refine s_rd (r_cload Try.isAgg3 rfl (j := 0) rfl rfl) rfl ?_
              refine s_rd (r_lss rfl rfl) rfl ?_
              refine l_nil ?_
              refine n_then ?_
              refine ref_cond rfl (fun hb352 => ?_) (fun hb352 => ?_)
              · refine ref_skip ?_
                refine n_then ?_
                refine ref_seq ?_
                refine ref_block ?_
                refine ref_region ?_
                refine s_rd (r_move rfl) rfl ?_
                refine s_rd (r_move rfl) rfl ?_
                refine b_split (t := 55) rfl (fun _ => ?_) (fun _ => ?_)
                · refine s_on rfl rfl rfl ?_
                  refine s_rd (r_cloadS Try.isAgg27 Try.sizeOf27 rfl (j := 0) rfl rfl rfl) rfl ?_
                  refine s_on rfl rfl rfl ?_
                  refine s_rd (r_move rfl) rfl ?_
                  refine s_on rfl rfl rfl ?_
                  refine s_rd (r_move rfl) rfl ?_
                  refine s_on rfl rfl rfl ?_
                  refine pull fun t353 h_t353 => ?_
                  refine s_st (s_call (ψ := fun (_ : Unit) => bv t353) (args := [.tmp 56, .tmp 57, .tmp 58]) Try.call43 rfl (net_Has_ok h_t353) ⟨arg rfl, arg rfl, arg rfl, trivial⟩ (fun _ _ _ _ h => h)) rfl (fun _ => ?_)
                  refine s_on rfl rfl rfl ?_
                  refine s_rd (r_not rfl) rfl ?_
                  refine s_on rfl rfl rfl ?_
                  refine s_rd (r_move rfl) rfl ?_
                  refine b_split (t := 61) rfl (fun _ => ?_) (fun _ => ?_)
                  · refine s_off rfl rfl rfl rfl rfl ?_
                    refine s_off rfl rfl rfl rfl rfl ?_
                    refine s_off rfl rfl rfl rfl rfl ?_
                    refine s_off rfl rfl rfl rfl rfl ?_
                    refine s_off rfl rfl rfl rfl rfl ?_
                    refine s_on rfl rfl rfl ?_
                    refine s_rd (r_pickT rfl rfl) rfl ?_
                    refine s_rd (r_pickT rfl rfl) rfl ?_
                    refine s_rd (r_assign rfl) rfl ?_
                    refine l_nil ?_
                    refine n_block ?_
                    refine n_then ?_
                    refine ref_region ?_
                    refine s_rd (r_move rfl) rfl ?_
                    refine s_rd (r_add rfl rfl) rfl ?_
                    refine s_rd (r_assign rfl) rfl ?_
                    refine b_let (f := iv .i64) (t := 11) rfl fun b355 => ?_
                    refine l_nil ?_
                    exact goB () (weak [0, 1, 2, 3] ⟨rfl, rfl, rfl, rfl, rfl, rfl, rfl, rfl, trivial⟩ ⟨rfl, rfl, rfl, rfl, trivial⟩)
                  · refine s_on rfl rfl rfl ?_
                    refine s_rd (r_move rfl) rfl ?_
                    refine s_on rfl rfl rfl ?_
                    refine s_rd (r_move rfl) rfl ?_
                    refine s_on rfl rfl rfl ?_
                    refine pull fun t354 h_t354 => ?_
                    refine s_rd (r_oindex h_t354 Try.underlying22 el_3 rfl (j := 1) rfl rfl) rfl ?_
                    refine s_on rfl rfl rfl ?_
                    refine s_rd (r_oload h_t354 el_3 rfl (j := 1) rfl) rfl ?_
                    refine s_on rfl rfl rfl ?_
                    refine s_rd (r_eql rfl rfl) rfl ?_
                    refine s_on rfl rfl rfl ?_
                    refine s_rd (r_pickF rfl rfl) rfl ?_
                    refine s_rd (r_pickT rfl rfl) rfl ?_
                    refine s_rd (r_assign rfl) rfl ?_
                    refine l_nil ?_
                    refine n_block ?_
                    refine n_then ?_
                    refine ref_region ?_
                    refine s_rd (r_move rfl) rfl ?_
                    refine s_rd (r_add rfl rfl) rfl ?_
                    refine s_rd (r_assign rfl) rfl ?_
                    refine b_let (f := iv .i64) (t := 11) rfl fun b356 => ?_
                    refine l_nil ?_
                    exact goB () (weak [0, 1, 2, 3] ⟨rfl, rfl, rfl, rfl, rfl, rfl, rfl, rfl, trivial⟩ ⟨rfl, rfl, rfl, rfl, trivial⟩)
                · refine s_off rfl rfl rfl rfl rfl ?_
                  refine s_off rfl rfl rfl rfl rfl ?_
                  refine s_off rfl rfl rfl rfl rfl ?_
                  refine s_off rfl rfl rfl rfl rfl ?_
                  refine s_off rfl rfl rfl rfl rfl ?_
                  refine s_off rfl rfl rfl rfl rfl ?_
                  refine s_offU rfl rfl rfl ?_
                  refine s_offU rfl rfl rfl ?_
                  refine s_offU rfl rfl rfl ?_
                  refine s_offU rfl rfl rfl ?_
                  refine s_offU rfl rfl rfl ?_
                  refine s_off rfl rfl rfl rfl rfl ?_
                  refine s_rd (r_pickF rfl rfl) rfl ?_
                  refine s_rd (r_assign rfl) rfl ?_
                  refine l_nil ?_
                  refine n_block ?_
                  refine n_then ?_
                  refine ref_region ?_
                  refine s_rd (r_move rfl) rfl ?_
                  refine s_rd (r_add rfl rfl) rfl ?_
                  refine s_rd (r_assign rfl) rfl ?_
                  refine b_let (f := iv .i64) (t := 11) rfl fun b357 => ?_
                  refine l_nil ?_
                  exact goB () (weak [0, 1, 2, 3] ⟨rfl, rfl, rfl, rfl, rfl, rfl, rfl, rfl, trivial⟩ ⟨rfl, rfl, rfl, rfl, trivial⟩)
              · refine ref_exit ?_
                refine x_then ?_
                exact brkB () (weak [0, 1, 2, 3] ⟨rfl, rfl, rfl, rfl, rfl, rfl, rfl, trivial⟩ ⟨rfl, rfl, rfl, rfl, trivial⟩)
            · refine n_then ?_
              refine ref_seq ?_
              refine ref_region ?_
              refine s_rd (r_move rfl) rfl ?_
              refine l_nil ?_
              refine n_then ?_
              refine ref_cond rfl (fun hb360 => ?_) (fun hb360 => ?_)
              · refine ref_region ?_
                refine s_rd (r_move rfl) rfl ?_
                refine s_rd (r_move rfl) rfl ?_
                refine s_st (s_bslice (xs := [.tmp 71]) (ds := [s341.1]) Try.underlying22 el_3 rfl (Nat.le_of_ble_eq_true rfl) ⟨(part_at rfl iv_at), trivial⟩) rfl (fun _ => ?_)
                refine pull fun now361 h_now361 => ?_
                refine s_st (s_append h_now361 Try.underlying22 el_3 rfl (j := 3) rfl rfl) rfl (fun o362 => ?_)
                refine s_rd (r_assign rfl) rfl ?_
                refine l_nil ?_
                refine n_block ?_
                refine n_then ?_
                refine ref_region ?_
                refine s_rd (r_move rfl) rfl ?_
                refine s_rd (r_add rfl rfl) rfl ?_
                refine s_rd (r_assign rfl) rfl ?_
                refine b_let (f := iv .i64) (t := 9) rfl fun a_363 => ?_
                refine l_nil ?_
                exact goB o362 (weak [0, 1, 2, 3] ⟨rfl, rfl, rfl, rfl, rfl, rfl, trivial⟩ ⟨rfl, rfl, rfl, rfl, trivial⟩)
              · refine ref_skip ?_
                refine n_block ?_
                refine n_then ?_
                refine ref_region ?_
                refine s_rd (r_move rfl) rfl ?_
                refine s_rd (r_add rfl rfl) rfl ?_
                refine s_rd (r_assign rfl) rfl ?_
                refine b_let (f := iv .i64) (t := 9) rfl fun a_364 => ?_
                refine l_nil ?_
                exact goB x342 (weak [0, 1, 2, 3] ⟨rfl, rfl, rfl, rfl, rfl, rfl, trivial⟩ ⟨rfl, rfl, rfl, rfl, trivial⟩)
          · refine ref_exit ?_
            refine x_then ?_
            exact brkB x342 (weak [0, 1, 2, 3] ⟨rfl, rfl, rfl, rfl, rfl, trivial⟩ ⟨rfl, rfl, rfl, rfl, trivial⟩)
        · refine n_then ?_
          refine ref_seq ?_
          refine ref_seq ?_
          refine ref_region ?_
          refine s_rd (r_move rfl) rfl ?_
          refine s_rd (r_olen Try.underlying22 rfl (j := 3) rfl) rfl ?_
          refine s_rd (r_move rfl) rfl ?_
          refine l_nil ?_
          refine n_then ?_
          refine ref_loopB (f := (net_Grounded_l5 s292 q365)) (Γl := (fun (s379 : Int × (List Int) × (List Int)) (x380 : Unit) => [(1, pv (ptr b1 0)), (4, pv (χ2 2).V.1), (5, pv (χ2 5).V.1), (7, iv .i64 s292.1), (8, pv y366.1), (74, pv y366.1), (75, iv .i64 (q365.length : Int)), (76, iv .i64 s379.1)])) (Ωl := (fun (s379 : Int × (List Int) × (List Int)) (x380 : Unit) => [oc b1 [iv .i64 g_0.N, slv rT_api_Pair g_0.L], oa (rI .i64) (χ2 2).V.1 (χ2 2).V.2 s379.2.1, oa (rI .i64) (χ2 5).V.1 (χ2 5).V.2 s379.2.2, oa (rI .i64) y366.1 y366.2 q365])) (Γb := (fun (q385 : (List Int) × (List Int)) (y386 : Unit) => [(1, pv (ptr b1 0)), (4, pv (χ2 2).V.1), (5, pv (χ2 5).V.1), (7, iv .i64 s292.1), (8, pv y366.1)])) (Ωb := (fun (q385 : (List Int) × (List Int)) (y386 : Unit) => [oc b1 [iv .i64 g_0.N, slv rT_api_Pair g_0.L], oa (rI .i64) (χ2 2).V.1 (χ2 2).V.2 q385.1, oa (rI .i64) (χ2 5).V.1 (χ2 5).V.2 q385.2, oa (rI .i64) y366.1 y366.2 q365])) (0, s292.2.1, s292.2.2) () (weak [0, 1, 2, 3] ⟨rfl, rfl, rfl, rfl, rfl, rfl, rfl, rfl, trivial⟩ ⟨rfl, rfl, rfl, rfl, trivial⟩) (fun s379 x380 => ?_) (fun q385 y386 => ?_)
          · unfold net_Grounded_l5
            refine ref_seq ?_
            refine ref_region ?_
            refine s_rd (r_lss rfl rfl) rfl ?_
            refine l_nil ?_
            refine n_then ?_
            refine ref_seq ?_
            refine ref_cond rfl (fun hb381 => ?_) (fun hb381 => ?_)
            · refine ref_skip ?_
              refine n_then ?_
              refine ref_seq ?_
              refine ref_block ?_
              refine ref_seq ?_
              refine ref_region ?_
              refine pull fun a_382 h_a_382 => ?_
              refine s_rd (r_oindex h_a_382 Try.underlying22 el_3 rfl (j := 3) rfl rfl) rfl ?_
              refine s_rd (r_oload h_a_382 el_3 rfl (j := 3) rfl) rfl ?_
              refine s_rd (r_assign rfl) rfl ?_
              refine l_nil ?_
              refine n_then ?_
              refine ref_region ?_
              refine s_rd (r_move rfl) rfl ?_
              refine s_rd (r_move rfl) rfl ?_
              refine s_rd (r_move rfl) rfl ?_
              refine s_rd (r_move rfl) rfl ?_
              refine s_rd (r_move rfl) rfl ?_
              refine pull fun t383 h_t383 => ?_
              refine s_rd (r_oindex h_t383 Try.underlying22 el_3 rfl (j := 1) rfl rfl) rfl ?_
              refine s_st0 (s_ostore (u := 1) h_t383 el_3 rfl (j := 1) rfl (part_at rfl iv_at)) (fun _ => ?_)
              refine pull fun t384 h_t384 => ?_
              refine s_rd (r_oindex h_t384 Try.underlying22 el_3 rfl (j := 2) rfl rfl) rfl ?_
              refine s_st0 (s_ostore (u := s292.1) h_t384 el_3 rfl (j := 2) rfl (part_at rfl iv_at)) (fun _ => ?_)
              refine l_nil ?_
              refine n_block ?_
              refine n_then ?_
              refine ref_region ?_
              refine s_rd (r_add rfl rfl) rfl ?_
              refine s_rd (r_move rfl) rfl ?_
              refine l_nil ?_
              exact goB () (weak [0, 1, 2, 3] ⟨rfl, rfl, rfl, rfl, rfl, rfl, rfl, rfl, trivial⟩ ⟨rfl, rfl, rfl, rfl, trivial⟩)
            · refine ref_exit ?_
              refine x_then ?_
              exact brkB () (weak [0, 1, 2, 3] ⟨rfl, rfl, rfl, rfl, rfl, trivial⟩ ⟨rfl, rfl, rfl, rfl, trivial⟩)
          · refine n_then ?_
            refine ref_seq ?_
            refine ref_region ?_
            refine s_rd (r_assign rfl) rfl ?_
            refine l_nil ?_
            refine n_then ?_
            refine ref_loopB (f := (net_Grounded_l6 g_0 s292 q365)) (Γl := (fun (s411 : Int × (List Int) × (List Int)) (x412 : Unit) => [(1, pv (ptr b1 0)), (4, pv (χ2 2).V.1), (5, pv (χ2 5).V.1), (7, iv .i64 s292.1), (8, pv y366.1), (14, iv .i64 s411.1)])) (Ωl := (fun (s411 : Int × (List Int) × (List Int)) (x412 : Unit) => [oc b1 [iv .i64 g_0.N, slv rT_api_Pair g_0.L], oa (rI .i64) (χ2 2).V.1 (χ2 2).V.2 s411.2.1, oa (rI .i64) (χ2 5).V.1 (χ2 5).V.2 s411.2.2, oa (rI .i64) y366.1 y366.2 q365])) (Γb := (fun (q424 : (List Int) × (List Int)) (y425 : Unit) => [(1, pv (ptr b1 0)), (4, pv (χ2 2).V.1), (5, pv (χ2 5).V.1), (7, iv .i64 s292.1)])) (Ωb := (fun (q424 : (List Int) × (List Int)) (y425 : Unit) => [oc b1 [iv .i64 g_0.N, slv rT_api_Pair g_0.L], oa (rI .i64) (χ2 2).V.1 (χ2 2).V.2 q424.1, oa (rI .i64) (χ2 5).V.1 (χ2 5).V.2 q424.2])) (0, q385.1, q385.2) () (weak [0, 1, 2, 3] ⟨rfl, rfl, rfl, rfl, rfl, rfl, trivial⟩ ⟨rfl, rfl, rfl, rfl, trivial⟩) (fun s411 x412 => ?_) (fun q424 y425 => ?_)
            · unfold net_Grounded_l6
              refine ref_seq ?_
              refine ref_seq ?_
              refine ref_region ?_
              refine s_rd (r_move rfl) rfl ?_
              refine s_rd (r_faddr (fo := 0) Try.underlying27 rfl rfl Try.sizeOf3 rfl) rfl ?_
              refine s_rd (r_cload Try.isAgg3 rfl (j := 0) rfl rfl) rfl ?_
              refine s_rd (r_lss rfl rfl) rfl ?_
              refine l_nil ?_
              refine n_then ?_
              refine ref_cond rfl (fun hb413 => ?_) (fun hb413 => ?_)
              · refine ref_skip ?_
                refine n_then ?_
                refine ref_seq ?_
                refine ref_block ?_
                refine ref_seq ?_
                refine ref_join (fun (j416 : Bool) (x417 : Unit) => [(1, pv (ptr b1 0)), (4, pv (χ2 2).V.1), (5, pv (χ2 5).V.1), (7, iv .i64 s292.1), (8, pv y366.1), (14, iv .i64 s411.1), (104, bv j416)]) (fun (j416 : Bool) (x417 : Unit) => [oc b1 [iv .i64 g_0.N, slv rT_api_Pair g_0.L], oa (rI .i64) (χ2 2).V.1 (χ2 2).V.2 s411.2.1, oa (rI .i64) (χ2 5).V.1 (χ2 5).V.2 s411.2.2, oa (rI .i64) y366.1 y366.2 q365]) (fun k418 hk418 => ?_) (fun j416 x417 => ?_)
                · refine ref_region ?_
                  refine s_rd (r_move rfl) rfl ?_
                  refine s_rd (r_move rfl) rfl ?_
                  refine pull fun t414 h_t414 => ?_
                  refine s_rd (r_oindex h_t414 Try.underlying22 el_3 rfl (j := 1) rfl rfl) rfl ?_
                  refine s_rd (r_oload h_t414 el_3 rfl (j := 1) rfl) rfl ?_
                  refine s_rd (r_eql rfl rfl) rfl ?_
                  refine s_rd (r_move rfl) rfl ?_
                  refine b_split (t := 99) rfl (fun _ => ?_) (fun _ => ?_)
                  · refine s_on rfl rfl rfl ?_
                    refine s_rd (r_cloadS Try.isAgg27 Try.sizeOf27 rfl (j := 0) rfl rfl rfl) rfl ?_
                    refine s_on rfl rfl rfl ?_
                    refine s_rd (r_move rfl) rfl ?_
                    refine s_on rfl rfl rfl ?_
                    refine s_rd (r_move rfl) rfl ?_
                    refine s_on rfl rfl rfl ?_
                    refine pull fun t415 h_t415 => ?_
                    refine s_st (s_callB (ψ := fun (_ : Unit) => bv t415) (args := [.tmp 100, .tmp 101, .tmp 102]) Try.call44 rfl (net_Attacked_ok h_t415) ⟨argB rfl, argO rfl (j := 3) rfl, argB rfl, trivial⟩ (fun _ _ _ _ _ h => h)) rfl (fun _ => ?_)
                    refine s_rd (r_pickT rfl rfl) rfl ?_
                    refine l_nil ?_
                    exact b_to (hk418 t415 ()) (weak [0, 1, 2, 3] ⟨rfl, rfl, rfl, rfl, rfl, rfl, rfl, trivial⟩ ⟨rfl, rfl, rfl, rfl, trivial⟩)
                  · refine s_off rfl rfl rfl rfl rfl ?_
                    refine s_off rfl rfl rfl rfl rfl ?_
                    refine s_off rfl rfl rfl rfl rfl ?_
                    refine s_off rfl rfl rfl rfl rfl ?_
                    refine s_rd (r_pickF rfl rfl) rfl ?_
                    refine l_nil ?_
                    exact b_to (hk418 false ()) (weak [0, 1, 2, 3] ⟨rfl, rfl, rfl, rfl, rfl, rfl, rfl, trivial⟩ ⟨rfl, rfl, rfl, rfl, trivial⟩)
                · refine n_then ?_
                  refine ref_cond rfl (fun hb419 => ?_) (fun hb419 => ?_)
                  · refine ref_region ?_
                    refine s_rd (r_move rfl) rfl ?_
                    refine s_rd (r_move rfl) rfl ?_
                    refine s_rd (r_move rfl) rfl ?_
                    refine s_rd (r_move rfl) rfl ?_
                    refine s_rd (r_move rfl) rfl ?_
                    refine pull fun t420 h_t420 => ?_
                    refine s_rd (r_oindex h_t420 Try.underlying22 el_3 rfl (j := 1) rfl rfl) rfl ?_
                    refine s_st0 (s_ostore (u := 2) h_t420 el_3 rfl (j := 1) rfl (part_at rfl iv_at)) (fun _ => ?_)
                    refine pull fun t421 h_t421 => ?_
                    refine s_rd (r_oindex h_t421 Try.underlying22 el_3 rfl (j := 2) rfl rfl) rfl ?_
                    refine s_st0 (s_ostore (u := s292.1) h_t421 el_3 rfl (j := 2) rfl (part_at rfl iv_at)) (fun _ => ?_)
                    refine l_nil ?_
                    refine n_block ?_
                    refine n_then ?_
                    refine ref_region ?_
                    refine s_rd (r_move rfl) rfl ?_
                    refine s_rd (r_add rfl rfl) rfl ?_
                    refine s_rd (r_assign rfl) rfl ?_
                    refine b_let (f := iv .i64) (t := 14) rfl fun b422 => ?_
                    refine l_nil ?_
                    exact goB () (weak [0, 1, 2, 3] ⟨rfl, rfl, rfl, rfl, rfl, rfl, trivial⟩ ⟨rfl, rfl, rfl, rfl, trivial⟩)
                  · refine ref_skip ?_
                    refine n_block ?_
                    refine n_then ?_
                    refine ref_region ?_
                    refine s_rd (r_move rfl) rfl ?_
                    refine s_rd (r_add rfl rfl) rfl ?_
                    refine s_rd (r_assign rfl) rfl ?_
                    refine b_let (f := iv .i64) (t := 14) rfl fun b423 => ?_
                    refine l_nil ?_
                    exact goB () (weak [0, 1, 2, 3] ⟨rfl, rfl, rfl, rfl, rfl, rfl, trivial⟩ ⟨rfl, rfl, rfl, rfl, trivial⟩)
              · refine ref_exit ?_
                refine x_then ?_
                exact brkB () (weak [0, 1, 2] ⟨rfl, rfl, rfl, rfl, trivial⟩ ⟨rfl, rfl, rfl, trivial⟩)
            · refine n_block ?_
              refine n_then ?_
              refine ref_region ?_
              refine s_rd (r_move rfl) rfl ?_
              refine s_rd (r_add rfl rfl) rfl ?_
              refine s_rd (r_assign rfl) rfl ?_
              refine b_let (f := iv .i64) (t := 7) rfl fun round426 => ?_
              refine l_nil ?_
              exact goB () (weak [0, 1, 2] ⟨rfl, rfl, rfl, rfl, trivial⟩ ⟨rfl, rfl, rfl, trivial⟩)
      · refine ref_exit ?_
        refine x_then ?_
        exact brkB () (weak [1, 2] ⟨rfl, rfl, trivial⟩ ⟨rfl, rfl, trivial⟩)
    · refine n_then ?_
      refine ref_seq ?_
      refine ref_region ?_
      refine s_rd (r_move rfl) rfl ?_
      refine s_rd (r_move rfl) rfl ?_
      refine s_rd (r_assign rfl) rfl ?_
      refine s_rd (r_assign rfl) rfl ?_
      refine l_nil ?_
      refine n_then ?_
      refine ref_ret ?_
      exact fin2 (.inl rfl) ((χ2 2).V, (χ2 5).V) [0, 1] rfl ⟨rfl, rfl, trivial⟩ rfl (rv_tmp rfl) (rv_tmp rfl)

/-! deliberation/deliberationlaw27.ProtocolVerdict -/
noncomputable def law27_ProtocolVerdict_m (l_0 : (List Int)) : Option (Bool) :=
  Option.bind (keep_New_m l_0) fun s1 =>
  Option.bind (net_Graph_m s1 5) fun t3 =>
  Option.bind (keep_Src_N_m t3.2 t3.1.N) fun root5 =>
  Option.bind (protocol_New_m t3.1 root5.1 (T_arr2_3.mk 200 200)) fun t6 =>
  bif t6.2 != 0 then
    some false
  else
    Option.bind (law27_finished_m root5.2 t6.1) fun t9 =>
    bif !t9.2.1 then
      some false
    else
      Option.bind (protocol_End_m t9.1) fun t11 =>
      bif t11.Reason != 1 then
        bif decide ((t9.1.Moves.length : Int) > 70) then
          Option.bind (law27_awake_m ) fun t14 =>
          some t14
        else
          some false
      else
        Option.bind (net_Grounded_m t3.1) fun t15 =>
        Option.bind (idxM t15.1 root5.1) fun t17 =>
        bif (t11.Winner == 1) == (t17 == 1) then
          Option.bind (law27_awake_m ) fun t18 =>
          some t18
        else
          some false

theorem law27_ProtocolVerdict_ok {l_0 : (List Int)} {r : Bool} (hm : law27_ProtocolVerdict_m l_0 = some r) :
    FnOk prog 4 [slv (rI .i64) l_0] [] (fun (x : Unit) => [bv r]) (fun (x : Unit) => []) := by
  refine fn_ok (X := Unit) (fn := Try.f4) (N := 66) (m := law27_ProtocolVerdict_m l_0) (res := fun r x => [bv r]) (Ω1 := fun r x => []) Try.func4 rfl rfl hm rfl (fun E hM => ?_)
  unfold law27_ProtocolVerdict_m
  refine ref_seq ?_
  refine ref_region ?_
  refine s_rd (r_assign rfl) rfl ?_
  refine l_nil ?_
  refine n_then ?_
  refine ref_seq ?_
  refine ref_region ?_
  refine s_rd (r_move rfl) rfl ?_
  refine pull fun s1 h_s1 => ?_
  refine s_st (s_call (ψ := fun (x2 : Nat) => pv (ptr x2 0)) (args := [.tmp 12]) Try.call7 rfl (keep_New_ok h_s1) ⟨arg rfl, trivial⟩ (fun _ _ _ _ h => h)) rfl (fun x2 => ?_)
  refine s_rd (r_assign rfl) rfl ?_
  refine l_nil ?_
  refine n_then ?_
  refine ref_seq ?_
  refine ref_region ?_
  refine s_rd (r_move rfl) rfl ?_
  refine pull fun t3 h_t3 => ?_
  refine s_st (s_callO (js := [0]) (os := fun (_ : Unit) => [oc x2 [slv (rI .i64) t3.2.L, iv .i64 t3.2.At]]) (ex := fun (_ : Unit) => []) (ψ := fun (_ : Unit) => ag [iv .i64 t3.1.N, slv rT_api_Pair t3.1.L]) (args := [.tmp 14, .const (.int .i64 (5))]) Try.call17 rfl (net_Graph_ok h_t3) ⟨rfl, trivial⟩ (fun _ => rfl) (fun _ => ⟨rfl, trivial⟩) ⟨arg rfl, arg rfl, trivial⟩ (fun _ _ _ _ h => h)) rfl (fun _ => ?_)
  refine s_st (s_alloc zt_27) rfl (fun b4 => ?_)
  refine s_st0 (s_cstore (out := [iv .i64 t3.1.N, slv rT_api_Pair t3.1.L]) Try.sizeOf27 rfl (j := 1) rfl (part_ag (ψs := [iv .i64 t3.1.N, slv rT_api_Pair t3.1.L]) rfl (by intro φ h; simp only [List.mem_cons, List.not_mem_nil, or_false] at h; rcases h with rfl | rfl <;> first | exact iv_at | exact bv_at | exact sv_at | exact slv_at | exact pv_at rfl)) rfl rfl rfl) (fun _ => ?_)
  refine l_nil ?_
  refine b_of (nrm [oc x2 [slv (rI .i64) t3.2.L, iv .i64 t3.2.At], oc b4 [iv .i64 t3.1.N, slv rT_api_Pair t3.1.L]] rfl) ?_
  refine n_then ?_
  refine ref_seq ?_
  refine ref_region ?_
  refine s_rd (r_move rfl) rfl ?_
  refine s_rd (r_faddr (fo := 0) Try.underlying27 rfl rfl Try.sizeOf3 rfl) rfl ?_
  refine s_rd (r_cload Try.isAgg3 rfl (j := 1) rfl rfl) rfl ?_
  refine pull fun root5 h_root5 => ?_
  refine s_st (s_callO (js := [0]) (os := fun (_ : Unit) => [oc x2 [slv (rI .i64) root5.2.L, iv .i64 root5.2.At]]) (ex := fun (_ : Unit) => []) (ψ := fun (_ : Unit) => iv .i64 root5.1) (args := [.tmp 16, .tmp 18]) Try.call11 rfl (keep_Src_N_ok h_root5) ⟨rfl, trivial⟩ (fun _ => rfl) (fun _ => ⟨rfl, trivial⟩) ⟨arg rfl, arg rfl, trivial⟩ (fun _ _ _ _ h => h)) rfl (fun _ => ?_)
  refine s_rd (r_assign rfl) rfl ?_
  refine l_nil ?_
  refine n_then ?_
  refine ref_seq ?_
  refine ref_region ?_
  refine s_rd (r_cloadS Try.isAgg27 Try.sizeOf27 rfl (j := 1) rfl rfl rfl) rfl ?_
  refine s_rd (r_move rfl) rfl ?_
  refine s_rd (r_buildA (ps := [(0, .const (.int .i64 (200))), (1, .const (.int .i64 (200)))]) (rs := [(0, [iv .i64 200]), (1, [iv .i64 200])]) (sz := 1) Try.underlying28 Try.sizeOf3 ⟨_, _, Try.type28, rfl⟩ zs_28 ⟨rfl, (part_at rfl iv_at), ⟨rfl, (part_at rfl iv_at), trivial⟩⟩ rfl rfl) rfl ?_
  refine pull fun t6 h_t6 => ?_
  refine s_st (s_call (ψ := fun (_ : Unit) => tup [ag [iv .i64 t6.1.Graph.N, slv rT_api_Pair t6.1.Graph.L, iv .i64 t6.1.Root, iv .i64 t6.1.Limits.i0, iv .i64 t6.1.Limits.i1, slv rT_api_Move t6.1.Moves], iv .i64 t6.2]) (args := [.tmp 21, .tmp 22, .tmp 23]) Try.call18 rfl (protocol_New_ok h_t6) ⟨arg rfl, arg rfl, arg rfl, trivial⟩ (fun _ _ _ _ h => h)) rfl (fun _ => ?_)
  refine s_rd (r_move rfl) rfl ?_
  refine s_rd (r_extract rfl rfl) rfl ?_
  refine s_rd (r_extract rfl rfl) rfl ?_
  refine s_st (s_alloc zt_31) rfl (fun b7 => ?_)
  refine s_st0 (s_cstore (out := [iv .i64 t6.1.Graph.N, slv rT_api_Pair t6.1.Graph.L, iv .i64 t6.1.Root, iv .i64 t6.1.Limits.i0, iv .i64 t6.1.Limits.i1, slv rT_api_Move t6.1.Moves]) Try.sizeOf31 rfl (j := 2) rfl (part_ag (ψs := [iv .i64 t6.1.Graph.N, slv rT_api_Pair t6.1.Graph.L, iv .i64 t6.1.Root, iv .i64 t6.1.Limits.i0, iv .i64 t6.1.Limits.i1, slv rT_api_Move t6.1.Moves]) rfl (by intro φ h; simp only [List.mem_cons, List.not_mem_nil, or_false] at h; rcases h with rfl | rfl | rfl | rfl | rfl | rfl <;> first | exact iv_at | exact bv_at | exact sv_at | exact slv_at | exact pv_at rfl)) rfl rfl rfl) (fun _ => ?_)
  refine s_rd (r_assign rfl) rfl ?_
  refine l_nil ?_
  refine b_of (nrm [oc x2 [slv (rI .i64) root5.2.L, iv .i64 root5.2.At], oc b4 [iv .i64 t3.1.N, slv rT_api_Pair t3.1.L], oc b7 [iv .i64 t6.1.Graph.N, slv rT_api_Pair t6.1.Graph.L, iv .i64 t6.1.Root, iv .i64 t6.1.Limits.i0, iv .i64 t6.1.Limits.i1, slv rT_api_Move t6.1.Moves]] rfl) ?_
  refine n_then ?_
  refine ref_seq ?_
  refine ref_seq ?_
  refine ref_region ?_
  refine s_rd (r_move rfl) rfl ?_
  refine s_rd (r_neq rfl rfl) rfl ?_
  refine l_nil ?_
  refine n_then ?_
  refine ref_cond rfl (fun hb8 => ?_) (fun hb8 => ?_)
  · refine ref_seq ?_
    refine ref_region ?_
    refine s_rd (r_assign rfl) rfl ?_
    refine l_nil ?_
    refine n_then ?_
    refine ref_ret ?_
    refine r_then ?_
    exact fin1 (.inl rfl) () [] rfl trivial rfl (rv_tmp rfl)
  · refine ref_skip ?_
    refine n_then ?_
    refine ref_seq ?_
    refine ref_region ?_
    refine s_rd (r_move rfl) rfl ?_
    refine s_rd (r_cloadS Try.isAgg31 Try.sizeOf31 rfl (j := 2) rfl rfl rfl) rfl ?_
    refine pull fun t9 h_t9 => ?_
    refine s_st (s_callO (js := [0]) (os := fun (_ : Unit) => [oc x2 [slv (rI .i64) t9.2.2.L, iv .i64 t9.2.2.At]]) (ex := fun (_ : Unit) => []) (ψ := fun (_ : Unit) => tup [ag [iv .i64 t9.1.Graph.N, slv rT_api_Pair t9.1.Graph.L, iv .i64 t9.1.Root, iv .i64 t9.1.Limits.i0, iv .i64 t9.1.Limits.i1, slv rT_api_Move t9.1.Moves], bv t9.2.1]) (args := [.tmp 30, .tmp 31]) Try.call19 rfl (law27_finished_ok h_t9) ⟨rfl, trivial⟩ (fun _ => rfl) (fun _ => ⟨rfl, trivial⟩) ⟨arg rfl, arg rfl, trivial⟩ (fun _ _ _ _ h => h)) rfl (fun _ => ?_)
    refine s_rd (r_move rfl) rfl ?_
    refine s_rd (r_extract rfl rfl) rfl ?_
    refine s_rd (r_extract rfl rfl) rfl ?_
    refine s_st0 (s_cstore (out := [iv .i64 t9.1.Graph.N, slv rT_api_Pair t9.1.Graph.L, iv .i64 t9.1.Root, iv .i64 t9.1.Limits.i0, iv .i64 t9.1.Limits.i1, slv rT_api_Move t9.1.Moves]) Try.sizeOf31 rfl (j := 2) rfl (part_ag (ψs := [iv .i64 t9.1.Graph.N, slv rT_api_Pair t9.1.Graph.L, iv .i64 t9.1.Root, iv .i64 t9.1.Limits.i0, iv .i64 t9.1.Limits.i1, slv rT_api_Move t9.1.Moves]) rfl (by intro φ h; simp only [List.mem_cons, List.not_mem_nil, or_false] at h; rcases h with rfl | rfl | rfl | rfl | rfl | rfl <;> first | exact iv_at | exact bv_at | exact sv_at | exact slv_at | exact pv_at rfl)) rfl rfl rfl) (fun _ => ?_)
    refine s_rd (r_assign rfl) rfl ?_
    refine l_nil ?_
    refine n_then ?_
    refine ref_seq ?_
    refine ref_seq ?_
    refine ref_region ?_
    refine s_rd (r_move rfl) rfl ?_
    refine s_rd (r_not rfl) rfl ?_
    refine l_nil ?_
    refine n_then ?_
    refine ref_cond rfl (fun hb10 => ?_) (fun hb10 => ?_)
    · refine ref_seq ?_
      refine ref_region ?_
      refine s_rd (r_assign rfl) rfl ?_
      refine l_nil ?_
      refine n_then ?_
      refine ref_ret ?_
      refine r_then ?_
      exact fin1 (.inl rfl) () [] rfl trivial rfl (rv_tmp rfl)
    · refine ref_skip ?_
      refine n_then ?_
      refine ref_seq ?_
      refine ref_region ?_
      refine s_rd (r_cloadS Try.isAgg31 Try.sizeOf31 rfl (j := 2) rfl rfl rfl) rfl ?_
      refine pull fun t11 h_t11 => ?_
      refine s_st (s_call (ψ := fun (_ : Unit) => ag [iv .i64 t11.Winner, iv .i64 t11.Reason]) (args := [.tmp 37]) Try.call20 rfl (protocol_End_ok h_t11) ⟨arg rfl, trivial⟩ (fun _ _ _ _ h => h)) rfl (fun _ => ?_)
      refine s_st (s_alloc zt_50) rfl (fun b12 => ?_)
      refine s_st0 (s_cstore (out := [iv .i64 t11.Winner, iv .i64 t11.Reason]) Try.sizeOf50 rfl (j := 3) rfl (part_ag (ψs := [iv .i64 t11.Winner, iv .i64 t11.Reason]) rfl (by intro φ h; simp only [List.mem_cons, List.not_mem_nil, or_false] at h; rcases h with rfl | rfl <;> first | exact iv_at | exact bv_at | exact sv_at | exact slv_at | exact pv_at rfl)) rfl rfl rfl) (fun _ => ?_)
      refine l_nil ?_
      refine b_of (nrm [oc x2 [slv (rI .i64) t9.2.2.L, iv .i64 t9.2.2.At], oc b4 [iv .i64 t3.1.N, slv rT_api_Pair t3.1.L], oc b7 [iv .i64 t9.1.Graph.N, slv rT_api_Pair t9.1.Graph.L, iv .i64 t9.1.Root, iv .i64 t9.1.Limits.i0, iv .i64 t9.1.Limits.i1, slv rT_api_Move t9.1.Moves], oc b12 [iv .i64 t11.Winner, iv .i64 t11.Reason]] rfl) ?_
      refine n_then ?_
      refine ref_seq ?_
      refine ref_seq ?_
      refine ref_region ?_
      refine s_rd (r_faddr (fo := 1) Try.underlying50 rfl rfl Try.sizeOf3 rfl) rfl ?_
      refine s_rd (r_cload Try.isAgg3 rfl (j := 3) rfl rfl) rfl ?_
      refine s_rd (r_neq rfl rfl) rfl ?_
      refine l_nil ?_
      refine n_then ?_
      refine ref_cond rfl (fun hb13 => ?_) (fun hb13 => ?_)
      · refine ref_seq ?_
        refine ref_region ?_
        refine s_rd (r_faddr (fo := 5) Try.underlying31 rfl rfl Try.sizeOf29 rfl) rfl ?_
        refine s_rd (r_cload Try.isAgg29 rfl (j := 2) rfl rfl) rfl ?_
        refine s_rd (r_len Try.underlying29 rfl) rfl ?_
        refine s_rd (r_gtr rfl rfl) rfl ?_
        refine s_rd (r_move rfl) rfl ?_
        refine b_split (t := 46) rfl (fun _ => ?_) (fun _ => ?_)
        · refine s_on rfl rfl rfl ?_
          refine pull fun t14 h_t14 => ?_
          refine s_st (s_call (ψ := fun (_ : Unit) => bv t14) (args := []) Try.call16 rfl (law27_awake_ok h_t14) trivial (fun _ _ _ _ h => h)) rfl (fun _ => ?_)
          refine s_rd (r_pickT rfl rfl) rfl ?_
          refine s_rd (r_assign rfl) rfl ?_
          refine l_nil ?_
          refine n_then ?_
          refine ref_ret ?_
          refine r_then ?_
          exact fin1 (.inl rfl) () [] rfl trivial rfl (rv_tmp rfl)
        · refine s_off rfl rfl rfl rfl rfl ?_
          refine s_rd (r_pickF rfl rfl) rfl ?_
          refine s_rd (r_assign rfl) rfl ?_
          refine l_nil ?_
          refine n_then ?_
          refine ref_ret ?_
          refine r_then ?_
          exact fin1 (.inl rfl) () [] rfl trivial rfl (rv_tmp rfl)
      · refine ref_skip ?_
        refine n_then ?_
        refine ref_seq ?_
        refine ref_region ?_
        refine s_rd (r_cloadS Try.isAgg27 Try.sizeOf27 rfl (j := 1) rfl rfl rfl) rfl ?_
        refine pull fun t15 h_t15 => ?_
        refine s_st (s_call (ψ := fun (x16 : (Value × List Nat) × (Value × List Nat)) => tup [pv x16.1.1, pv x16.2.1]) (args := [.tmp 50]) Try.call21 rfl (net_Grounded_ok h_t15) ⟨arg rfl, trivial⟩ (fun _ _ _ _ h => h)) rfl (fun x16 => ?_)
        refine s_rd (r_move rfl) rfl ?_
        refine s_rd (r_extract rfl rfl) rfl ?_
        refine s_rd (r_extract rfl rfl) rfl ?_
        refine s_rd (r_assign rfl) rfl ?_
        refine s_rd (r_assign rfl) rfl ?_
        refine l_nil ?_
        refine n_then ?_
        refine ref_seq ?_
        refine ref_draw [0, 1, 2, 3, 4, 5, 6, 7, 8, 9, 11] rfl (by kernel_rfl) (fun hok => ?_)
        refine a_rd (i := 0) hok rfl (by kernel_rfl) rfl (r_faddr (fo := 0) Try.underlying50 rfl rfl Try.sizeOf3 rfl) rfl ?_
        refine a_rd (i := 1) hok rfl (by kernel_rfl) rfl (r_cload Try.isAgg3 rfl (j := 3) rfl rfl) rfl ?_
        refine a_rd (i := 2) hok rfl (by kernel_rfl) rfl (r_eql rfl rfl) rfl ?_
        refine a_rd (i := 3) hok rfl (by kernel_rfl) rfl (r_move rfl) rfl ?_
        refine a_rd (i := 4) hok rfl (by kernel_rfl) rfl (r_move rfl) rfl ?_
        refine pull fun t17 h_t17 => ?_
        refine a_rd (i := 5) hok rfl (by kernel_rfl) rfl (r_oindex h_t17 Try.underlying22 el_3 rfl (j := 4) rfl rfl) rfl ?_
        refine a_rd (i := 6) hok rfl (by kernel_rfl) rfl (r_oload h_t17 el_3 rfl (j := 4) rfl) rfl ?_
        refine a_rd (i := 7) hok rfl (by kernel_rfl) rfl (r_eql rfl rfl) rfl ?_
        refine a_rd (i := 8) hok rfl (by kernel_rfl) rfl (r_beql Try.underlying4 rfl rfl) rfl ?_
        refine a_rd (i := 9) hok rfl (by kernel_rfl) rfl (r_move rfl) rfl ?_
        refine b_split (t := 63) rfl (fun _ => ?_) (fun _ => ?_)
        · refine pull fun t18 h_t18 => ?_
          refine a_next hok 10 [] (by kernel_rfl) ?_ trivial
          refine a_stOn (i := 10) hok rfl rfl rfl rfl rfl (s_call (ψ := fun (_ : Unit) => bv t18) (args := []) Try.call16 rfl (law27_awake_ok h_t18) trivial (fun _ _ _ _ h => h)) (by intro _ h; cases h; rfl) (fun _ => ⟨trivial, ⟨trivial, ⟨trivial, ⟨⟨⟨rfl, rfl⟩, trivial⟩, ⟨trivial, ⟨trivial, ⟨trivial, ⟨trivial, ⟨⟨⟨rfl, rfl⟩, trivial⟩, ⟨trivial, trivial⟩⟩⟩⟩⟩⟩⟩⟩⟩⟩) (fun _ => ?_)
          refine a_rd (i := 11) hok rfl (by kernel_rfl) rfl (r_pickT rfl rfl) rfl ?_
          refine a_next hok 12 [] (by kernel_rfl) ?_ trivial
          refine a_st (i := 12) hok rfl rfl (St.ofRd (r_assign rfl)) (by intro _ h; cases h; rfl) (fun _ => ⟨trivial, ⟨trivial, ⟨trivial, ⟨trivial, ⟨trivial, ⟨trivial, ⟨trivial, ⟨trivial, ⟨trivial, ⟨trivial, ⟨trivial, trivial⟩⟩⟩⟩⟩⟩⟩⟩⟩⟩⟩) (fun _ => ?_)
          refine a_fin hok (by kernel_rfl) ?_
          refine n_then ?_
          refine ref_ret ?_
          exact fin1 (.inl rfl) () [] rfl trivial rfl (rv_tmp rfl)
        · refine a_next hok 10 [] (by kernel_rfl) ?_ trivial
          refine a_stOff (i := 10) hok rfl rfl rfl rfl rfl rfl (by intro _ h; cases h; rfl) ⟨trivial, ⟨trivial, ⟨trivial, ⟨⟨⟨rfl, rfl⟩, trivial⟩, ⟨trivial, ⟨trivial, ⟨trivial, ⟨trivial, ⟨⟨⟨rfl, rfl⟩, trivial⟩, ⟨trivial, trivial⟩⟩⟩⟩⟩⟩⟩⟩⟩⟩ ?_
          refine a_rd (i := 11) hok rfl (by kernel_rfl) rfl (r_pickF rfl rfl) rfl ?_
          refine a_next hok 12 [] (by kernel_rfl) ?_ trivial
          refine a_st (i := 12) hok rfl rfl (St.ofRd (r_assign rfl)) (by intro _ h; cases h; rfl) (fun _ => ⟨trivial, ⟨trivial, ⟨trivial, ⟨trivial, ⟨trivial, ⟨trivial, ⟨trivial, ⟨trivial, ⟨trivial, ⟨trivial, ⟨trivial, trivial⟩⟩⟩⟩⟩⟩⟩⟩⟩⟩⟩) (fun _ => ?_)
          refine a_fin hok (by kernel_rfl) ?_
          refine n_then ?_
          refine ref_ret ?_
          exact fin1 (.inl rfl) () [] rfl trivial rfl (rv_tmp rfl)

end Go.Dc
