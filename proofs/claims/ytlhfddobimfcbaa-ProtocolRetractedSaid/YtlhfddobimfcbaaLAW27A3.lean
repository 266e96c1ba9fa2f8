/- Part LAW27.A3 of a proof that a law of the program returns true: general lemmas, no condition. -/
import Derived.Test.YtlhfddobimfcbaaLAW27A2
import Derived.Test.YtlhfddobimfcbaaProg
set_option linter.unusedVariables false
set_option maxRecDepth 100000
set_option maxHeartbeats 4000000
namespace Go.Dc
open Go.Proofs
open Go.Proofs.Try (prog)

/-! deliberation/deliberationlaw27.move -/
noncomputable def law27_move_m (s_0 : T_deliberationkeep_Src) (d_1 : T_api_Dialogue) : Option (T_api_Move × T_deliberationkeep_Src) :=
  Option.bind (ref27_Legal_m d_1) fun l3 =>
  Option.bind (keep_Src_Range_m s_0 1 2) fun t6 =>
  Option.bind (keep_Src_Pick_m t6.2 [2, 2, 3, 4, 1, 0]) fun t7 =>
  Option.bind (keep_Src_N_m t7.2 6) fun t8 =>
  Option.bind (keep_Src_Range_m t8.2 (-1) (d_1.Moves.length : Int)) fun t9 =>
  Option.bind (keep_Src_N_m t9.2 12) fun k11 =>
  bif k11.1 == 0 then
    some ((T_api_Move.mk t6.1 t7.1 t8.1 t9.1), k11.2)
  else
    bif k11.1 == 1 then
      Option.bind (ref27_Turn_m d_1) fun t14 =>
      some ((T_api_Move.mk t14 3 t8.1 t9.1), k11.2)
    else
      letM (decide ((l3.length : Int) > 0)) fun t15 =>
      bif t15 then
        Option.bind (keep_Src_N_m k11.2 (l3.length : Int)) fun t17 =>
        Option.bind (idxM l3 t17.1) fun t18 =>
        some (t18, t17.2)
      else
        some ((T_api_Move.mk t6.1 t7.1 t8.1 t9.1), k11.2)

theorem law27_move_ok {s_0 : T_deliberationkeep_Src} {d_1 : T_api_Dialogue} {b_0 : Nat} {r : T_api_Move × T_deliberationkeep_Src} (hm : law27_move_m s_0 d_1 = some r) :
    FnOk prog 24 [pv (ptr b_0 0), ag [iv .i64 d_1.Graph.N, slv rT_api_Pair d_1.Graph.L, iv .i64 d_1.Root, iv .i64 d_1.Limits.i0, iv .i64 d_1.Limits.i1, slv rT_api_Move d_1.Moves]] [oc b_0 [slv (rI .i64) s_0.L, iv .i64 s_0.At]] (fun (x : Unit) => [ag [iv .i64 r.1.By, iv .i64 r.1.Kind, iv .i64 r.1.Node, iv .i64 r.1.Target]]) (fun (x : Unit) => [oc b_0 [slv (rI .i64) r.2.L, iv .i64 r.2.At]]) := by
  refine fn_ok (X := Unit) (fn := Try.f24) (N := 49) (m := law27_move_m s_0 d_1) (res := fun r x => [ag [iv .i64 r.1.By, iv .i64 r.1.Kind, iv .i64 r.1.Node, iv .i64 r.1.Target]]) (Ω1 := fun r x => [oc b_0 [slv (rI .i64) r.2.L, iv .i64 r.2.At]]) Try.func24 rfl rfl hm rfl (fun E hM => ?_)
  unfold law27_move_m
  refine ref_seq ?_
  refine ref_region ?_
  refine s_st (s_box (part_ag (ψs := [iv .i64 d_1.Graph.N, slv rT_api_Pair d_1.Graph.L, iv .i64 d_1.Root, iv .i64 d_1.Limits.i0, iv .i64 d_1.Limits.i1, slv rT_api_Move d_1.Moves]) rfl (by intro φ h; simp only [List.mem_cons, List.not_mem_nil, or_false] at h; rcases h with rfl | rfl | rfl | rfl | rfl | rfl <;> first | exact iv_at | exact bv_at | exact sv_at | exact slv_at | exact pv_at rfl))) rfl (fun b1 => ?_)
  refine s_st (s_alloc zt_38) rfl (fun b2 => ?_)
  refine l_nil ?_
  refine n_then ?_
  refine ref_seq ?_
  refine ref_region ?_
  refine s_rd (r_cloadS Try.isAgg31 Try.sizeOf31 rfl (j := 1) rfl rfl rfl) rfl ?_
  refine pull fun l3 h_l3 => ?_
  refine s_st (s_call (ψ := fun (x4 : (Value × List Nat)) => pv x4.1) (args := [.tmp 8]) Try.call9 rfl (ref27_Legal_ok h_l3) ⟨arg rfl, trivial⟩ (fun _ _ _ _ h => h)) rfl (fun x4 => ?_)
  refine s_rd (r_assign rfl) rfl ?_
  refine l_nil ?_
  refine n_then ?_
  refine ref_seq ?_
  refine pull fun t6 h_t6 => ?_
  refine pull fun t7 h_t7 => ?_
  refine pull fun t8 h_t8 => ?_
  refine pull fun t9 h_t9 => ?_
  refine ref_drawI 1 [⟨[], [], [], [], [], fun us u => pv (ptr b_0 0), fun us u => []⟩, ⟨[0], [], [0], [0], [0], fun us u => iv .i64 t6.1, fun us u => [oc b_0 [slv (rI .i64) t6.2.L, iv .i64 t6.2.At]]⟩, ⟨[], [], [], [], [], fun us u => pv (ptr b_0 0), fun us u => []⟩, ⟨[], [], [], [], [], fun us u => slv (rI .i64) [2, 2, 3, 4, 1, 0], fun us u => []⟩, ⟨[0, 1, 2, 3], [], [0], [0], [0], fun us u => iv .i64 t7.1, fun us u => [oc b_0 [slv (rI .i64) t7.2.L, iv .i64 t7.2.At]]⟩, ⟨[], [], [], [], [], fun us u => pv (ptr b_0 0), fun us u => []⟩, ⟨[0, 1, 2, 3, 4, 5], [], [0], [0], [0], fun us u => iv .i64 t8.1, fun us u => [oc b_0 [slv (rI .i64) t8.2.L, iv .i64 t8.2.At]]⟩, ⟨[], [], [], [], [], fun us u => pv (ptr b_0 0), fun us u => []⟩, ⟨[], [], [], [], [], fun us u => pv (ptr b1 5), fun us u => []⟩, ⟨[8], [], [], [1], [], fun us u => slv rT_api_Move d_1.Moves, fun us u => []⟩, ⟨[8, 9], [], [], [], [], fun us u => iv .i64 (d_1.Moves.length : Int), fun us u => []⟩, ⟨[0, 1, 2, 3, 4, 5, 6, 7, 8, 9, 10], [], [0], [0], [0], fun us u => iv .i64 t9.1, fun us u => [oc b_0 [slv (rI .i64) t9.2.L, iv .i64 t9.2.At]]⟩, ⟨[0, 1, 2, 3, 4, 5, 6, 7, 8, 9, 10, 11], [], [], [], [], fun us u => ag [iv .i64 t6.1, iv .i64 t7.1, iv .i64 t8.1, iv .i64 t9.1], fun us u => []⟩, ⟨[], [], [4], [4], [], fun us u => pv (ptr u.Nn 0), fun us u => [oc u.Nn [iv .i64 0, iv .i64 0, iv .i64 0, iv .i64 0]]⟩, ⟨[0, 1, 2, 3, 4, 5, 6, 7, 8, 9, 10, 11, 12, 13], [13], [4], [4], [4], fun us u => pv undef, fun us u => [oc (us.getD 0 .none).Nn [iv .i64 t6.1, iv .i64 t7.1, iv .i64 t8.1, iv .i64 t9.1]]⟩] (fun χ5 => [(0, pv (ptr b_0 0)), (3, pv (ptr b1 0)), (4, pv (ptr b2 0)), (5, pv x4.1), (6, pv (ptr (χ5 13).Nn 0))]) (fun χ5 => [oc b_0 [slv (rI .i64) t9.2.L, iv .i64 t9.2.At], oc b1 [iv .i64 d_1.Graph.N, slv rT_api_Pair d_1.Graph.L, iv .i64 d_1.Root, iv .i64 d_1.Limits.i0, iv .i64 d_1.Limits.i1, slv rT_api_Move d_1.Moves], oc b2 [iv .i64 0, iv .i64 0, iv .i64 0, iv .i64 0], oa rT_api_Move x4.1 x4.2 l3, oc (χ5 13).Nn [iv .i64 t6.1, iv .i64 t7.1, iv .i64 t8.1, iv .i64 t9.1]]) rfl (by kernel_rfl) ⟨fun χ5 Ω _ => St.toR (r_move rfl) (fun _ => rfl) (fun _ => rfl), (by intro _ h; cases h; rfl), ⟨fun χ5 Ω ⟨h0, _⟩ => St.to XU.U XU.hU (St.placeL [] (s_callI (js := [0]) (os := fun (_ : Unit) => [oc b_0 [slv (rI .i64) t6.2.L, iv .i64 t6.2.At]]) (ex := fun (_ : Unit) => []) (ψ := fun (_ : Unit) => iv .i64 t6.1) (args := [.tmp 10, .const (.int .i64 (1)), .const (.int .i64 (2))]) Try.call40 rfl (keep_Src_Range_ok h_t6) ⟨h0, rfl, trivial⟩ (fun _ => rfl) (fun _ => rfl) ⟨arg rfl, arg rfl, arg rfl, trivial⟩ (fun _ _ _ _ h => h)) (fun _ => rfl) (fun _ => trivial)) (fun _ => rfl) (fun _ => rfl), (by intro _ h; cases h; rfl), ⟨fun χ5 Ω _ => St.toR (r_move rfl) (fun _ => rfl) (fun _ => rfl), (by intro _ h; cases h; rfl), ⟨fun χ5 Ω _ => St.to XU.U XU.hU (s_bslice (xs := [.const (.int .i64 (2)), .const (.int .i64 (2)), .const (.int .i64 (3)), .const (.int .i64 (4)), .const (.int .i64 (1)), .const (.int .i64 (0))]) (ds := [2, 2, 3, 4, 1, 0]) Try.underlying22 el_3 rfl (Nat.le_of_ble_eq_true rfl) ⟨(part_at rfl iv_at), ⟨(part_at rfl iv_at), ⟨(part_at rfl iv_at), ⟨(part_at rfl iv_at), ⟨(part_at rfl iv_at), ⟨(part_at rfl iv_at), trivial⟩⟩⟩⟩⟩⟩) (fun _ => rfl) (fun _ => rfl), (by intro _ h; cases h; rfl), ⟨fun χ5 Ω ⟨h0, _⟩ => St.to XU.U XU.hU (St.placeL [] (s_callI (js := [0]) (os := fun (_ : Unit) => [oc b_0 [slv (rI .i64) t7.2.L, iv .i64 t7.2.At]]) (ex := fun (_ : Unit) => []) (ψ := fun (_ : Unit) => iv .i64 t7.1) (args := [.tmp 12, .tmp 13]) Try.call29 rfl (keep_Src_Pick_ok h_t7) ⟨h0, rfl, trivial⟩ (fun _ => rfl) (fun _ => rfl) ⟨arg rfl, arg rfl, trivial⟩ (fun _ _ _ _ h => h)) (fun _ => rfl) (fun _ => trivial)) (fun _ => rfl) (fun _ => rfl), (by intro _ h; cases h; rfl), ⟨fun χ5 Ω _ => St.toR (r_move rfl) (fun _ => rfl) (fun _ => rfl), (by intro _ h; cases h; rfl), ⟨fun χ5 Ω ⟨h0, _⟩ => St.to XU.U XU.hU (St.placeL [] (s_callI (js := [0]) (os := fun (_ : Unit) => [oc b_0 [slv (rI .i64) t8.2.L, iv .i64 t8.2.At]]) (ex := fun (_ : Unit) => []) (ψ := fun (_ : Unit) => iv .i64 t8.1) (args := [.tmp 15, .const (.int .i64 (6))]) Try.call11 rfl (keep_Src_N_ok h_t8) ⟨h0, rfl, trivial⟩ (fun _ => rfl) (fun _ => rfl) ⟨arg rfl, arg rfl, trivial⟩ (fun _ _ _ _ h => h)) (fun _ => rfl) (fun _ => trivial)) (fun _ => rfl) (fun _ => rfl), (by intro _ h; cases h; rfl), ⟨fun χ5 Ω _ => St.toR (r_move rfl) (fun _ => rfl) (fun _ => rfl), (by intro _ h; cases h; rfl), ⟨fun χ5 Ω _ => St.toR (r_faddr (fo := 5) Try.underlying31 rfl rfl Try.sizeOf29 rfl) (fun _ => rfl) (fun _ => rfl), (by intro _ h; cases h; rfl), ⟨fun χ5 Ω ⟨h1, _⟩ => St.toR (r_cload Try.isAgg29 rfl (j := 1) h1 rfl) (fun _ => rfl) (fun _ => rfl), (by intro _ h; cases h; rfl), ⟨fun χ5 Ω _ => St.toR (r_len Try.underlying29 rfl) (fun _ => rfl) (fun _ => rfl), (by intro _ h; cases h; rfl), ⟨fun χ5 Ω ⟨h0, _⟩ => St.to XU.U XU.hU (St.placeL [] (s_callI (js := [0]) (os := fun (_ : Unit) => [oc b_0 [slv (rI .i64) t9.2.L, iv .i64 t9.2.At]]) (ex := fun (_ : Unit) => []) (ψ := fun (_ : Unit) => iv .i64 t9.1) (args := [.tmp 17, .const (.int .i64 (-1)), .tmp 20]) Try.call40 rfl (keep_Src_Range_ok h_t9) ⟨h0, rfl, trivial⟩ (fun _ => rfl) (fun _ => rfl) ⟨arg rfl, arg rfl, arg rfl, trivial⟩ (fun _ _ _ _ h => h)) (fun _ => rfl) (fun _ => trivial)) (fun _ => rfl) (fun _ => rfl), (by intro _ h; cases h; rfl), ⟨fun χ5 Ω _ => St.toR (r_build (ps := [(0, .tmp 11), (1, .tmp 14), (2, .tmp 16), (3, .tmp 21)]) (rs := [(0, [iv .i64 t6.1]), (1, [iv .i64 t7.1]), (2, [iv .i64 t8.1]), (3, [iv .i64 t9.1])]) st_38 zs_38 ⟨rfl, (part_at rfl iv_at), ⟨rfl, (part_at rfl iv_at), ⟨rfl, (part_at rfl iv_at), ⟨rfl, (part_at rfl iv_at), trivial⟩⟩⟩⟩ rfl rfl) (fun _ => rfl) (fun _ => rfl), (by intro _ h; cases h; rfl), ⟨fun χ5 Ω ⟨h4, _⟩ => St.to XU.Nn XU.hN (St.placeL (os := fun _ => [_]) [4] (s_alloc zt_38) (fun _ => rfl) (fun _ => ⟨h4, rfl, trivial⟩)) (fun _ => rfl) (fun _ => rfl), (by intro _ h; cases h; rfl), ⟨fun χ5 Ω ⟨h4, _⟩ => St.to XU.U XU.hU (s_cstore (out := [iv .i64 t6.1, iv .i64 t7.1, iv .i64 t8.1, iv .i64 t9.1]) Try.sizeOf38 rfl (j := 4) h4 (part_ag (ψs := [iv .i64 t6.1, iv .i64 t7.1, iv .i64 t8.1, iv .i64 t9.1]) rfl (by intro φ h; simp only [List.mem_cons, List.not_mem_nil, or_false] at h; rcases h with rfl | rfl | rfl | rfl <;> first | exact iv_at | exact bv_at | exact sv_at | exact slv_at | exact pv_at rfl)) rfl rfl rfl) (fun _ => rfl) (fun _ => rfl), (by intro _ h; cases h), trivial⟩⟩⟩⟩⟩⟩⟩⟩⟩⟩⟩⟩⟩⟩⟩ (fun _ => ⟨rfl, rfl, rfl, rfl, rfl, trivial⟩) (fun _ => rfl) (fun χ5 => ?_)
  refine n_then ?_
  refine ref_seq ?_
  refine ref_seq ?_
  refine ref_region ?_
  refine s_rd (r_move rfl) rfl ?_
  refine pull fun k11 h_k11 => ?_
  refine s_st (s_callO (js := [0]) (os := fun (_ : Unit) => [oc b_0 [slv (rI .i64) k11.2.L, iv .i64 k11.2.At]]) (ex := fun (_ : Unit) => []) (ψ := fun (_ : Unit) => iv .i64 k11.1) (args := [.tmp 23, .const (.int .i64 (12))]) Try.call11 rfl (keep_Src_N_ok h_k11) ⟨rfl, trivial⟩ (fun _ => rfl) (fun _ => ⟨rfl, trivial⟩) ⟨arg rfl, arg rfl, trivial⟩ (fun _ _ _ _ h => h)) rfl (fun _ => ?_)
  refine s_rd (r_assign rfl) rfl ?_
  refine l_nil ?_
  refine n_then ?_
  refine ref_block ?_
  refine ref_seq ?_
  refine ref_region ?_
  refine s_rd (r_move rfl) rfl ?_
  refine s_rd (r_eql rfl rfl) rfl ?_
  refine s_rd (r_assign rfl) rfl ?_
  refine l_nil ?_
  refine n_then ?_
  refine ref_cond rfl (fun hb12 => ?_) (fun hb12 => ?_)
  · refine ref_seq ?_
    refine ref_region ?_
    refine s_rd (r_cloadS Try.isAgg38 Try.sizeOf38 rfl (j := 4) rfl rfl rfl) rfl ?_
    refine s_st0 (s_cstore (out := [iv .i64 t6.1, iv .i64 t7.1, iv .i64 t8.1, iv .i64 t9.1]) Try.sizeOf38 rfl (j := 2) rfl (part_ag (ψs := [iv .i64 t6.1, iv .i64 t7.1, iv .i64 t8.1, iv .i64 t9.1]) rfl (by intro φ h; simp only [List.mem_cons, List.not_mem_nil, or_false] at h; rcases h with rfl | rfl | rfl | rfl <;> first | exact iv_at | exact bv_at | exact sv_at | exact slv_at | exact pv_at rfl)) rfl rfl rfl) (fun _ => ?_)
    refine l_nil ?_
    refine n_then ?_
    refine ref_ret ?_
    refine r_block ?_
    refine r_then ?_
    exact fin1 (.inl rfl) () [0] rfl ⟨rfl, trivial⟩ rfl (rv_cell rfl (j := 2) rfl Try.isAgg38 Try.sizeOf38 rfl rfl)
  · refine ref_seq ?_
    refine ref_region ?_
    refine s_rd (r_move rfl) rfl ?_
    refine s_rd (r_eql rfl rfl) rfl ?_
    refine s_rd (r_assign rfl) rfl ?_
    refine l_nil ?_
    refine n_then ?_
    refine ref_cond rfl (fun hb13 => ?_) (fun hb13 => ?_)
    · refine ref_seq ?_
      refine ref_region ?_
      refine s_rd (r_cloadS Try.isAgg31 Try.sizeOf31 rfl (j := 1) rfl rfl rfl) rfl ?_
      refine pull fun t14 h_t14 => ?_
      refine s_st (s_call (ψ := fun (_ : Unit) => iv .i64 t14) (args := [.tmp 32]) Try.call12 rfl (ref27_Turn_ok h_t14) ⟨arg rfl, trivial⟩ (fun _ _ _ _ h => h)) rfl (fun _ => ?_)
      refine s_rd (r_faddr (fo := 0) Try.underlying38 rfl rfl Try.sizeOf3 rfl) rfl ?_
      refine s_st0 (s_cstore (out := [iv .i64 t14, iv .i64 t7.1, iv .i64 t8.1, iv .i64 t9.1]) Try.sizeOf3 rfl (j := 4) rfl (part_at rfl iv_at) rfl rfl rfl) (fun _ => ?_)
      refine s_rd (r_faddr (fo := 1) Try.underlying38 rfl rfl Try.sizeOf3 rfl) rfl ?_
      refine s_st0 (s_cstore (out := [iv .i64 t14, iv .i64 3, iv .i64 t8.1, iv .i64 t9.1]) Try.sizeOf3 rfl (j := 4) rfl (part_at rfl iv_at) rfl rfl rfl) (fun _ => ?_)
      refine l_nil ?_
      refine b_of (nrm [oc b_0 [slv (rI .i64) k11.2.L, iv .i64 k11.2.At], oc b1 [iv .i64 d_1.Graph.N, slv rT_api_Pair d_1.Graph.L, iv .i64 d_1.Root, iv .i64 d_1.Limits.i0, iv .i64 d_1.Limits.i1, slv rT_api_Move d_1.Moves], oc b2 [iv .i64 0, iv .i64 0, iv .i64 0, iv .i64 0], oa rT_api_Move x4.1 x4.2 l3, oc (χ5 13).Nn [iv .i64 t14, iv .i64 3, iv .i64 t8.1, iv .i64 t9.1]] rfl) ?_
      refine n_then ?_
      refine ref_seq ?_
      refine ref_region ?_
      refine s_rd (r_cloadS Try.isAgg38 Try.sizeOf38 rfl (j := 4) rfl rfl rfl) rfl ?_
      refine s_st0 (s_cstore (out := [iv .i64 t14, iv .i64 3, iv .i64 t8.1, iv .i64 t9.1]) Try.sizeOf38 rfl (j := 2) rfl (part_ag (ψs := [iv .i64 t14, iv .i64 3, iv .i64 t8.1, iv .i64 t9.1]) rfl (by intro φ h; simp only [List.mem_cons, List.not_mem_nil, or_false] at h; rcases h with rfl | rfl | rfl | rfl <;> first | exact iv_at | exact bv_at | exact sv_at | exact slv_at | exact pv_at rfl)) rfl rfl rfl) (fun _ => ?_)
      refine l_nil ?_
      refine n_then ?_
      refine ref_ret ?_
      refine r_block ?_
      refine r_then ?_
      exact fin1 (.inl rfl) () [0] rfl ⟨rfl, trivial⟩ rfl (rv_cell rfl (j := 2) rfl Try.isAgg38 Try.sizeOf38 rfl rfl)
    · refine ref_seq ?_
      refine ref_region ?_
      refine s_rd (r_move rfl) rfl ?_
      refine s_rd (r_olen Try.underlying29 rfl (j := 3) rfl) rfl ?_
      refine s_rd (r_gtr rfl rfl) rfl ?_
      refine s_rd (r_assign rfl) rfl ?_
      refine b_let (f := bv) (t := 37) rfl fun t15 => ?_
      refine l_nil ?_
      refine n_then ?_
      refine ref_cond rfl (fun hb16 => ?_) (fun hb16 => ?_)
      · refine ref_seq ?_
        refine ref_region ?_
        refine s_rd (r_move rfl) rfl ?_
        refine s_rd (r_move rfl) rfl ?_
        refine s_rd (r_move rfl) rfl ?_
        refine s_rd (r_olen Try.underlying29 rfl (j := 3) rfl) rfl ?_
        refine pull fun t17 h_t17 => ?_
        refine s_st (s_callO (js := [0]) (os := fun (_ : Unit) => [oc b_0 [slv (rI .i64) t17.2.L, iv .i64 t17.2.At]]) (ex := fun (_ : Unit) => []) (ψ := fun (_ : Unit) => iv .i64 t17.1) (args := [.tmp 42, .tmp 44]) Try.call11 rfl (keep_Src_N_ok h_t17) ⟨rfl, trivial⟩ (fun _ => rfl) (fun _ => ⟨rfl, trivial⟩) ⟨arg rfl, arg rfl, trivial⟩ (fun _ _ _ _ h => h)) rfl (fun _ => ?_)
        refine pull fun t18 h_t18 => ?_
        refine s_rd (r_oindex h_t18 Try.underlying29 el_38 rfl (j := 3) rfl rfl) rfl ?_
        refine s_rd (r_oload h_t18 el_38 rfl (j := 3) rfl) rfl ?_
        refine s_st0 (s_cstore (out := [iv .i64 t18.By, iv .i64 t18.Kind, iv .i64 t18.Node, iv .i64 t18.Target]) Try.sizeOf38 rfl (j := 2) rfl (part_ag (ψs := [iv .i64 t18.By, iv .i64 t18.Kind, iv .i64 t18.Node, iv .i64 t18.Target]) rfl (by intro φ h; simp only [List.mem_cons, List.not_mem_nil, or_false] at h; rcases h with rfl | rfl | rfl | rfl <;> first | exact iv_at | exact bv_at | exact sv_at | exact slv_at | exact pv_at rfl)) rfl rfl rfl) (fun _ => ?_)
        refine l_nil ?_
        refine n_then ?_
        refine ref_ret ?_
        refine r_block ?_
        refine r_then ?_
        exact fin1 (.inl rfl) () [0] rfl ⟨rfl, trivial⟩ rfl (rv_cell rfl (j := 2) rfl Try.isAgg38 Try.sizeOf38 rfl rfl)
      · refine ref_skip ?_
        refine n_block ?_
        refine n_then ?_
        refine ref_seq ?_
        refine ref_region ?_
        refine s_rd (r_cloadS Try.isAgg38 Try.sizeOf38 rfl (j := 4) rfl rfl rfl) rfl ?_
        refine s_st0 (s_cstore (out := [iv .i64 t6.1, iv .i64 t7.1, iv .i64 t8.1, iv .i64 t9.1]) Try.sizeOf38 rfl (j := 2) rfl (part_ag (ψs := [iv .i64 t6.1, iv .i64 t7.1, iv .i64 t8.1, iv .i64 t9.1]) rfl (by intro φ h; simp only [List.mem_cons, List.not_mem_nil, or_false] at h; rcases h with rfl | rfl | rfl | rfl <;> first | exact iv_at | exact bv_at | exact sv_at | exact slv_at | exact pv_at rfl)) rfl rfl rfl) (fun _ => ?_)
        refine l_nil ?_
        refine n_then ?_
        refine ref_ret ?_
        exact fin1 (.inl rfl) () [0] rfl ⟨rfl, trivial⟩ rfl (rv_cell rfl (j := 2) rfl Try.isAgg38 Try.sizeOf38 rfl rfl)

/-! deliberation/deliberationlaw27.ProtocolEnds -/
noncomputable def law27_ProtocolEnds_l1  (s27 : Int × T_deliberationkeep_Src × T_api_Dialogue) : Option (Sum ((Sum (Bool) (T_api_Dialogue))) (Int × T_deliberationkeep_Src × T_api_Dialogue)) :=
  bif decide (s27.1 < 40) then
    Option.bind (protocol_Turn_m s27.2.2) fun t29 =>
    bif t29 != 0 then
      Option.bind (law27_move_m s27.2.1 s27.2.2) fun t31 =>
      Option.bind (protocol_Apply_m s27.2.2 t31.1) fun t33 =>
      bif t33.2 == 0 then
        letM (iadd .i64 s27.1 1) fun i42 =>
        some (Sum.inr (i42, t31.2, t33.1))
      else
        Option.bind (protocol_Legal_m s27.2.2) fun l36 =>
        bif (l36.length : Int) == 0 then
          some (Sum.inl (Sum.inl false))
        else
          Option.bind (idxM l36 0) fun t39 =>
          Option.bind (protocol_Apply_m s27.2.2 t39) fun t40 =>
          bif t40.2 != 0 then
            some (Sum.inl (Sum.inl false))
          else
            letM (iadd .i64 s27.1 1) fun i43 =>
            some (Sum.inr (i43, t31.2, t40.1))
    else
      some (Sum.inl (Sum.inr s27.2.2))
  else
    some (Sum.inl (Sum.inr s27.2.2))

noncomputable def law27_ProtocolEnds_l2 (q44 : T_api_Dialogue) (s63 : Int × Int × Int × Int) : Option (Sum ((Sum (Bool) (Int × Int × Int))) (Int × Int × Int × Int)) :=
  bif decide (s63.1 < (q44.Moves.length : Int)) then
    Option.bind (idxM q44.Moves s63.1) fun t66 =>
    bif decide (t66.By < 1) then
      some (Sum.inl (Sum.inl false))
    else
      bif decide (t66.By > 2) then
        some (Sum.inl (Sum.inl false))
      else
        Option.bind (idxM [s63.2.1, s63.2.2.1, s63.2.2.2] t66.By) fun t69 =>
        Option.bind (idxM [s63.2.1, s63.2.2.1, s63.2.2.2] t66.By) fun t70 =>
        some (Sum.inr (iadd .i64 s63.1 1, aset t66.By 0 (iadd .i64 t69 1) s63.2.1, aset t66.By 1 (iadd .i64 t69 1) s63.2.2.1, aset t66.By 2 (iadd .i64 t69 1) s63.2.2.2))
  else
    some (Sum.inl (Sum.inr (s63.2.1, s63.2.2.1, s63.2.2.2)))

noncomputable def law27_ProtocolEnds_m (l_0 : (List Int)) (a__1 : Int) (b_2 : Int) : Option (Bool) :=
  Option.bind (keep_New_m l_0) fun s1 =>
  Option.bind (net_Graph_m s1 4) fun t3 =>
  Option.bind (keep_Src_N_m t3.2 t3.1.N) fun t6 =>
  Option.bind (keep_Mod_m a__1 12) fun t7 =>
  Option.bind (keep_Mod_m b_2 12) fun t8 =>
  Option.bind (protocol_New_m t3.1 t6.1 (T_arr2_3.mk (iadd .i64 1 t7) t8)) fun t9 =>
  bif t9.2 != 0 then
    some false
  else
    Option.bind (loopC (law27_ProtocolEnds_l1) (0, t6.2, t9.1)) (sumK (fun a : Bool => some a) fun q44 : T_api_Dialogue =>
      Option.bind (loopC (law27_ProtocolEnds_l2 q44) (0, 0, 0, 0)) (sumK (fun a : Bool => some a) fun q71 : Int × Int × Int =>
        Option.bind (protocol_Turn_m q44) fun t73 =>
        bif t73 == 0 then
          Option.bind (protocol_End_m q44) fun t74 =>
          bif t74.Reason != 0 then
            bif decide (q71.2.1 ≤ q44.Limits.i0) then
              bif decide (q71.2.2 ≤ q44.Limits.i1) then
                Option.bind (law27_awake_m ) fun t75 =>
                some t75
              else
                some false
            else
              some false
          else
            some false
        else
          some false))

theorem law27_ProtocolEnds_ok {l_0 : (List Int)} {a__1 : Int} {b_2 : Int} {r : Bool} (hm : law27_ProtocolEnds_m l_0 a__1 b_2 = some r) :
    FnOk prog 5 [slv (rI .i64) l_0, iv .i64 a__1, iv .i64 b_2] [] (fun (x : Unit) => [bv r]) (fun (x : Unit) => []) := by
  refine fn_ok (X := Unit) (fn := Try.f5) (N := 126) (m := law27_ProtocolEnds_m l_0 a__1 b_2) (res := fun r x => [bv r]) (Ω1 := fun r x => []) Try.func5 rfl rfl hm rfl (fun E hM => ?_)
  unfold law27_ProtocolEnds_m
  refine ref_seq ?_
  refine ref_region ?_
  refine s_rd (r_assign rfl) rfl ?_
  refine l_nil ?_
  refine n_then ?_
  refine ref_seq ?_
  refine ref_region ?_
  refine s_rd (r_move rfl) rfl ?_
  refine pull fun s1 h_s1 => ?_
  refine s_st (s_call (ψ := fun (x2 : Nat) => pv (ptr x2 0)) (args := [.tmp 19]) Try.call7 rfl (keep_New_ok h_s1) ⟨arg rfl, trivial⟩ (fun _ _ _ _ h => h)) rfl (fun x2 => ?_)
  refine s_rd (r_assign rfl) rfl ?_
  refine l_nil ?_
  refine n_then ?_
  refine ref_seq ?_
  refine ref_region ?_
  refine s_rd (r_move rfl) rfl ?_
  refine pull fun t3 h_t3 => ?_
  refine s_st (s_callO (js := [0]) (os := fun (_ : Unit) => [oc x2 [slv (rI .i64) t3.2.L, iv .i64 t3.2.At]]) (ex := fun (_ : Unit) => []) (ψ := fun (_ : Unit) => ag [iv .i64 t3.1.N, slv rT_api_Pair t3.1.L]) (args := [.tmp 21, .const (.int .i64 (4))]) Try.call17 rfl (net_Graph_ok h_t3) ⟨rfl, trivial⟩ (fun _ => rfl) (fun _ => ⟨rfl, trivial⟩) ⟨arg rfl, arg rfl, trivial⟩ (fun _ _ _ _ h => h)) rfl (fun _ => ?_)
  refine s_st (s_alloc zt_27) rfl (fun b4 => ?_)
  refine s_st0 (s_cstore (out := [iv .i64 t3.1.N, slv rT_api_Pair t3.1.L]) Try.sizeOf27 rfl (j := 1) rfl (part_ag (ψs := [iv .i64 t3.1.N, slv rT_api_Pair t3.1.L]) rfl (by intro φ h; simp only [List.mem_cons, List.not_mem_nil, or_false] at h; rcases h with rfl | rfl <;> first | exact iv_at | exact bv_at | exact sv_at | exact slv_at | exact pv_at rfl)) rfl rfl rfl) (fun _ => ?_)
  refine l_nil ?_
  refine b_of (nrm [oc x2 [slv (rI .i64) t3.2.L, iv .i64 t3.2.At], oc b4 [iv .i64 t3.1.N, slv rT_api_Pair t3.1.L]] rfl) ?_
  refine n_then ?_
  refine ref_seq ?_
  refine pull fun t6 h_t6 => ?_
  refine pull fun t7 h_t7 => ?_
  refine pull fun t8 h_t8 => ?_
  refine pull fun t9 h_t9 => ?_
  refine ref_drawI 1 [⟨[], [], [], [1], [], fun us u => ag [iv .i64 t3.1.N, slv rT_api_Pair t3.1.L], fun us u => []⟩, ⟨[], [], [], [], [], fun us u => pv (ptr x2 0), fun us u => []⟩, ⟨[], [], [], [], [], fun us u => pv (ptr b4 0), fun us u => []⟩, ⟨[2], [], [], [1], [], fun us u => iv .i64 t3.1.N, fun us u => []⟩, ⟨[1, 2, 3], [], [0], [0], [0], fun us u => iv .i64 t6.1, fun us u => [oc x2 [slv (rI .i64) t6.2.L, iv .i64 t6.2.At]]⟩, ⟨[], [], [], [], [], fun us u => iv .i64 a__1, fun us u => []⟩, ⟨[1, 2, 3, 4, 5], [], [], [], [], fun us u => iv .i64 t7, fun us u => []⟩, ⟨[1, 2, 3, 4, 5, 6], [], [], [], [], fun us u => iv .i64 (iadd .i64 1 t7), fun us u => []⟩, ⟨[], [], [], [], [], fun us u => iv .i64 b_2, fun us u => []⟩, ⟨[1, 2, 3, 4, 5, 6, 8], [], [], [], [], fun us u => iv .i64 t8, fun us u => []⟩, ⟨[1, 2, 3, 4, 5, 6, 7, 8, 9], [], [], [], [], fun us u => ag [iv .i64 (iadd .i64 1 t7), iv .i64 t8], fun us u => []⟩, ⟨[0, 1, 2, 3, 4, 5, 6, 7, 8, 9, 10], [], [], [], [], fun us u => tup [ag [iv .i64 t9.1.Graph.N, slv rT_api_Pair t9.1.Graph.L, iv .i64 t9.1.Root, iv .i64 t9.1.Limits.i0, iv .i64 t9.1.Limits.i1, slv rT_api_Move t9.1.Moves], iv .i64 t9.2], fun us u => []⟩, ⟨[0, 1, 2, 3, 4, 5, 6, 7, 8, 9, 10, 11], [], [], [], [], fun us u => tup [ag [iv .i64 t9.1.Graph.N, slv rT_api_Pair t9.1.Graph.L, iv .i64 t9.1.Root, iv .i64 t9.1.Limits.i0, iv .i64 t9.1.Limits.i1, slv rT_api_Move t9.1.Moves], iv .i64 t9.2], fun us u => []⟩, ⟨[0, 1, 2, 3, 4, 5, 6, 7, 8, 9, 10, 11, 12], [], [], [], [], fun us u => ag [iv .i64 t9.1.Graph.N, slv rT_api_Pair t9.1.Graph.L, iv .i64 t9.1.Root, iv .i64 t9.1.Limits.i0, iv .i64 t9.1.Limits.i1, slv rT_api_Move t9.1.Moves], fun us u => []⟩, ⟨[0, 1, 2, 3, 4, 5, 6, 7, 8, 9, 10, 11, 12], [], [], [], [], fun us u => iv .i64 t9.2, fun us u => []⟩, ⟨[], [], [2], [2], [], fun us u => pv (ptr u.Nn 0), fun us u => [oc u.Nn [iv .i64 0, pv (.slice none 0 0), iv .i64 0, iv .i64 0, iv .i64 0, pv (.slice none 0 0)]]⟩, ⟨[0, 1, 2, 3, 4, 5, 6, 7, 8, 9, 10, 11, 12, 13, 15], [15], [2], [2], [2], fun us u => pv undef, fun us u => [oc (us.getD 0 .none).Nn [iv .i64 t9.1.Graph.N, slv rT_api_Pair t9.1.Graph.L, iv .i64 t9.1.Root, iv .i64 t9.1.Limits.i0, iv .i64 t9.1.Limits.i1, slv rT_api_Move t9.1.Moves]]⟩, ⟨[0, 1, 2, 3, 4, 5, 6, 7, 8, 9, 10, 11, 12, 13, 14, 15, 16], [], [], [], [], fun us u => iv .i64 t9.2, fun us u => []⟩] (fun χ5 => [(7, pv (ptr x2 0)), (9, pv (ptr (χ5 15).Nn 0)), (10, iv .i64 t9.2)]) (fun χ5 => [oc x2 [slv (rI .i64) t6.2.L, iv .i64 t6.2.At], oc b4 [iv .i64 t3.1.N, slv rT_api_Pair t3.1.L], oc (χ5 15).Nn [iv .i64 t9.1.Graph.N, slv rT_api_Pair t9.1.Graph.L, iv .i64 t9.1.Root, iv .i64 t9.1.Limits.i0, iv .i64 t9.1.Limits.i1, slv rT_api_Move t9.1.Moves]]) rfl (by kernel_rfl) ⟨fun χ5 Ω ⟨h1, _⟩ => St.toR (r_cloadS Try.isAgg27 Try.sizeOf27 rfl (j := 1) h1 rfl rfl) (fun _ => rfl) (fun _ => rfl), (by intro _ h; cases h; rfl), ⟨fun χ5 Ω _ => St.toR (r_move rfl) (fun _ => rfl) (fun _ => rfl), (by intro _ h; cases h; rfl), ⟨fun χ5 Ω _ => St.toR (r_faddr (fo := 0) Try.underlying27 rfl rfl Try.sizeOf3 rfl) (fun _ => rfl) (fun _ => rfl), (by intro _ h; cases h; rfl), ⟨fun χ5 Ω ⟨h1, _⟩ => St.toR (r_cload Try.isAgg3 rfl (j := 1) h1 rfl) (fun _ => rfl) (fun _ => rfl), (by intro _ h; cases h; rfl), ⟨fun χ5 Ω ⟨h0, _⟩ => St.to XU.U XU.hU (St.placeL [] (s_callI (js := [0]) (os := fun (_ : Unit) => [oc x2 [slv (rI .i64) t6.2.L, iv .i64 t6.2.At]]) (ex := fun (_ : Unit) => []) (ψ := fun (_ : Unit) => iv .i64 t6.1) (args := [.tmp 25, .tmp 27]) Try.call11 rfl (keep_Src_N_ok h_t6) ⟨h0, rfl, trivial⟩ (fun _ => rfl) (fun _ => rfl) ⟨arg rfl, arg rfl, trivial⟩ (fun _ _ _ _ h => h)) (fun _ => rfl) (fun _ => trivial)) (fun _ => rfl) (fun _ => rfl), (by intro _ h; cases h; rfl), ⟨fun χ5 Ω _ => St.toR (r_move rfl) (fun _ => rfl) (fun _ => rfl), (by intro _ h; cases h; rfl), ⟨fun χ5 Ω _ => St.to XU.U XU.hU (St.placeL [] (s_call (ψ := fun (_ : Unit) => iv .i64 t7) (args := [.tmp 29, .const (.int .i64 (12))]) Try.call22 rfl (keep_Mod_ok h_t7) ⟨arg rfl, arg rfl, trivial⟩ (fun _ _ _ _ h => h)) (fun _ => rfl) (fun _ => trivial)) (fun _ => rfl) (fun _ => rfl), (by intro _ h; cases h; rfl), ⟨fun χ5 Ω _ => St.toR (r_add rfl rfl) (fun _ => rfl) (fun _ => rfl), (by intro _ h; cases h; rfl), ⟨fun χ5 Ω _ => St.toR (r_move rfl) (fun _ => rfl) (fun _ => rfl), (by intro _ h; cases h; rfl), ⟨fun χ5 Ω _ => St.to XU.U XU.hU (St.placeL [] (s_call (ψ := fun (_ : Unit) => iv .i64 t8) (args := [.tmp 32, .const (.int .i64 (12))]) Try.call22 rfl (keep_Mod_ok h_t8) ⟨arg rfl, arg rfl, trivial⟩ (fun _ _ _ _ h => h)) (fun _ => rfl) (fun _ => trivial)) (fun _ => rfl) (fun _ => rfl), (by intro _ h; cases h; rfl), ⟨fun χ5 Ω _ => St.toR (r_buildA (ps := [(0, .tmp 31), (1, .tmp 33)]) (rs := [(0, [iv .i64 (iadd .i64 1 t7)]), (1, [iv .i64 t8])]) (sz := 1) Try.underlying28 Try.sizeOf3 ⟨_, _, Try.type28, rfl⟩ zs_28 ⟨rfl, (part_at rfl iv_at), ⟨rfl, (part_at rfl iv_at), trivial⟩⟩ rfl rfl) (fun _ => rfl) (fun _ => rfl), (by intro _ h; cases h; rfl), ⟨fun χ5 Ω _ => St.to XU.U XU.hU (St.placeL [] (s_call (ψ := fun (_ : Unit) => tup [ag [iv .i64 t9.1.Graph.N, slv rT_api_Pair t9.1.Graph.L, iv .i64 t9.1.Root, iv .i64 t9.1.Limits.i0, iv .i64 t9.1.Limits.i1, slv rT_api_Move t9.1.Moves], iv .i64 t9.2]) (args := [.tmp 24, .tmp 28, .tmp 34]) Try.call18 rfl (protocol_New_ok h_t9) ⟨arg rfl, arg rfl, arg rfl, trivial⟩ (fun _ _ _ _ h => h)) (fun _ => rfl) (fun _ => trivial)) (fun _ => rfl) (fun _ => rfl), (by intro _ h; cases h; rfl), ⟨fun χ5 Ω _ => St.toR (r_move rfl) (fun _ => rfl) (fun _ => rfl), (by intro _ h; cases h; rfl), ⟨fun χ5 Ω _ => St.toR (r_extract rfl rfl) (fun _ => rfl) (fun _ => rfl), (by intro _ h; cases h; rfl), ⟨fun χ5 Ω _ => St.toR (r_extract rfl rfl) (fun _ => rfl) (fun _ => rfl), (by intro _ h; cases h; rfl), ⟨fun χ5 Ω ⟨h2, _⟩ => St.to XU.Nn XU.hN (St.placeL (os := fun _ => [_]) [2] (s_alloc zt_31) (fun _ => rfl) (fun _ => ⟨h2, rfl, trivial⟩)) (fun _ => rfl) (fun _ => rfl), (by intro _ h; cases h; rfl), ⟨fun χ5 Ω ⟨h2, _⟩ => St.to XU.U XU.hU (s_cstore (out := [iv .i64 t9.1.Graph.N, slv rT_api_Pair t9.1.Graph.L, iv .i64 t9.1.Root, iv .i64 t9.1.Limits.i0, iv .i64 t9.1.Limits.i1, slv rT_api_Move t9.1.Moves]) Try.sizeOf31 rfl (j := 2) h2 (part_ag (ψs := [iv .i64 t9.1.Graph.N, slv rT_api_Pair t9.1.Graph.L, iv .i64 t9.1.Root, iv .i64 t9.1.Limits.i0, iv .i64 t9.1.Limits.i1, slv rT_api_Move t9.1.Moves]) rfl (by intro φ h; simp only [List.mem_cons, List.not_mem_nil, or_false] at h; rcases h with rfl | rfl | rfl | rfl | rfl | rfl <;> first | exact iv_at | exact bv_at | exact sv_at | exact slv_at | exact pv_at rfl)) rfl rfl rfl) (fun _ => rfl) (fun _ => rfl), (by intro _ h; cases h), ⟨fun χ5 Ω _ => St.toR (r_assign rfl) (fun _ => rfl) (fun _ => rfl), (by intro _ h; cases h; rfl), trivial⟩⟩⟩⟩⟩⟩⟩⟩⟩⟩⟩⟩⟩⟩⟩⟩⟩⟩ (fun _ => ⟨rfl, rfl, rfl, trivial⟩) (fun _ => rfl) (fun χ5 => ?_)
  refine n_then ?_
  refine ref_seq ?_
  refine ref_seq ?_
  refine ref_region ?_
  refine s_rd (r_move rfl) rfl ?_
  refine s_rd (r_neq rfl rfl) rfl ?_
  refine l_nil ?_
  refine n_then ?_
  refine ref_cond rfl (fun hb11 => ?_) (fun hb11 => ?_)
  · refine ref_seq ?_
    refine ref_region ?_
    refine s_rd (r_assign rfl) rfl ?_
    refine l_nil ?_
    refine n_then ?_
    refine ref_ret ?_
    refine r_then ?_
    exact fin1 (.inl rfl) () [] rfl trivial rfl (rv_tmp rfl)
  · refine ref_skip ?_
    refine n_then ?_
    refine ref_seq ?_
    refine ref_seq ?_
    refine ref_region ?_
    refine s_rd (r_assign rfl) rfl ?_
    refine l_nil ?_
    refine n_then ?_
    refine ref_loopX (f := (law27_ProtocolEnds_l1)) (Γl := (fun (s27 : Int × T_deliberationkeep_Src × T_api_Dialogue) (x28 : Unit) => [(7, pv (ptr x2 0)), (9, pv (ptr (χ5 15).Nn 0)), (11, iv .i64 s27.1)])) (Ωl := (fun (s27 : Int × T_deliberationkeep_Src × T_api_Dialogue) (x28 : Unit) => [oc x2 [slv (rI .i64) s27.2.1.L, iv .i64 s27.2.1.At], oc (χ5 15).Nn [iv .i64 s27.2.2.Graph.N, slv rT_api_Pair s27.2.2.Graph.L, iv .i64 s27.2.2.Root, iv .i64 s27.2.2.Limits.i0, iv .i64 s27.2.2.Limits.i1, slv rT_api_Move s27.2.2.Moves]])) (Γb := (fun (q44 : T_api_Dialogue) (y45 : Unit) => [(9, pv (ptr (χ5 15).Nn 0))])) (Ωb := (fun (q44 : T_api_Dialogue) (y45 : Unit) => [oc (χ5 15).Nn [iv .i64 q44.Graph.N, slv rT_api_Pair q44.Graph.L, iv .i64 q44.Root, iv .i64 q44.Limits.i0, iv .i64 q44.Limits.i1, slv rT_api_Move q44.Moves]])) (kr := (fun a : Bool => some a)) (0, t6.2, t9.1) () (weak [0, 2] ⟨rfl, rfl, rfl, trivial⟩ ⟨rfl, rfl, trivial⟩) (fun s27 x28 => ?_) (fun q44 y45 => ?_)
    · unfold law27_ProtocolEnds_l1
      refine ref_seq ?_
      refine ref_seq ?_
      refine ref_region ?_
      refine s_rd (r_move rfl) rfl ?_
      refine s_rd (r_lss rfl rfl) rfl ?_
      refine s_rd (r_move rfl) rfl ?_
      refine b_split (t := 42) rfl (fun _ => ?_) (fun _ => ?_)
      · refine s_on rfl rfl rfl ?_
        refine s_rd (r_cloadS Try.isAgg31 Try.sizeOf31 rfl (j := 1) rfl rfl rfl) rfl ?_
        refine s_on rfl rfl rfl ?_
        refine pull fun t29 h_t29 => ?_
        refine s_st (s_call (ψ := fun (_ : Unit) => iv .i64 t29) (args := [.tmp 43]) Try.call23 rfl (protocol_Turn_ok h_t29) ⟨arg rfl, trivial⟩ (fun _ _ _ _ h => h)) rfl (fun _ => ?_)
        refine s_on rfl rfl rfl ?_
        refine s_rd (r_neq rfl rfl) rfl ?_
        refine s_rd (r_pickT rfl rfl) rfl ?_
        refine l_nil ?_
        refine n_then ?_
        refine ref_cond rfl (fun hb30 => ?_) (fun hb30 => ?_)
        · refine ref_skip ?_
          refine n_then ?_
          refine ref_seq ?_
          refine ref_block ?_
          refine ref_seq ?_
          refine ref_region ?_
          refine s_rd (r_move rfl) rfl ?_
          refine s_rd (r_cloadS Try.isAgg31 Try.sizeOf31 rfl (j := 1) rfl rfl rfl) rfl ?_
          refine pull fun t31 h_t31 => ?_
          refine s_st (s_callO (js := [0]) (os := fun (_ : Unit) => [oc x2 [slv (rI .i64) t31.2.L, iv .i64 t31.2.At]]) (ex := fun (_ : Unit) => []) (ψ := fun (_ : Unit) => ag [iv .i64 t31.1.By, iv .i64 t31.1.Kind, iv .i64 t31.1.Node, iv .i64 t31.1.Target]) (args := [.tmp 49, .tmp 50]) Try.call24 rfl (law27_move_ok h_t31) ⟨rfl, trivial⟩ (fun _ => rfl) (fun _ => ⟨rfl, trivial⟩) ⟨arg rfl, arg rfl, trivial⟩ (fun _ _ _ _ h => h)) rfl (fun _ => ?_)
          refine s_st (s_alloc zt_38) rfl (fun b32 => ?_)
          refine s_st0 (s_cstore (out := [iv .i64 t31.1.By, iv .i64 t31.1.Kind, iv .i64 t31.1.Node, iv .i64 t31.1.Target]) Try.sizeOf38 rfl (j := 2) rfl (part_ag (ψs := [iv .i64 t31.1.By, iv .i64 t31.1.Kind, iv .i64 t31.1.Node, iv .i64 t31.1.Target]) rfl (by intro φ h; simp only [List.mem_cons, List.not_mem_nil, or_false] at h; rcases h with rfl | rfl | rfl | rfl <;> first | exact iv_at | exact bv_at | exact sv_at | exact slv_at | exact pv_at rfl)) rfl rfl rfl) (fun _ => ?_)
          refine l_nil ?_
          refine b_of (nrm [oc x2 [slv (rI .i64) t31.2.L, iv .i64 t31.2.At], oc (χ5 15).Nn [iv .i64 s27.2.2.Graph.N, slv rT_api_Pair s27.2.2.Graph.L, iv .i64 s27.2.2.Root, iv .i64 s27.2.2.Limits.i0, iv .i64 s27.2.2.Limits.i1, slv rT_api_Move s27.2.2.Moves], oc b32 [iv .i64 t31.1.By, iv .i64 t31.1.Kind, iv .i64 t31.1.Node, iv .i64 t31.1.Target]] rfl) ?_
          refine n_then ?_
          refine ref_seq ?_
          refine ref_region ?_
          refine s_rd (r_cloadS Try.isAgg31 Try.sizeOf31 rfl (j := 1) rfl rfl rfl) rfl ?_
          refine s_rd (r_cloadS Try.isAgg38 Try.sizeOf38 rfl (j := 2) rfl rfl rfl) rfl ?_
          refine pull fun t33 h_t33 => ?_
          refine s_st (s_call (ψ := fun (_ : Unit) => tup [ag [iv .i64 t33.1.Graph.N, slv rT_api_Pair t33.1.Graph.L, iv .i64 t33.1.Root, iv .i64 t33.1.Limits.i0, iv .i64 t33.1.Limits.i1, slv rT_api_Move t33.1.Moves], iv .i64 t33.2]) (args := [.tmp 53, .tmp 54]) Try.call13 rfl (protocol_Apply_ok h_t33) ⟨arg rfl, arg rfl, trivial⟩ (fun _ _ _ _ h => h)) rfl (fun _ => ?_)
          refine s_rd (r_move rfl) rfl ?_
          refine s_rd (r_extract rfl rfl) rfl ?_
          refine s_rd (r_extract rfl rfl) rfl ?_
          refine s_st (s_alloc zt_31) rfl (fun b34 => ?_)
          refine s_st0 (s_cstore (out := [iv .i64 t33.1.Graph.N, slv rT_api_Pair t33.1.Graph.L, iv .i64 t33.1.Root, iv .i64 t33.1.Limits.i0, iv .i64 t33.1.Limits.i1, slv rT_api_Move t33.1.Moves]) Try.sizeOf31 rfl (j := 3) rfl (part_ag (ψs := [iv .i64 t33.1.Graph.N, slv rT_api_Pair t33.1.Graph.L, iv .i64 t33.1.Root, iv .i64 t33.1.Limits.i0, iv .i64 t33.1.Limits.i1, slv rT_api_Move t33.1.Moves]) rfl (by intro φ h; simp only [List.mem_cons, List.not_mem_nil, or_false] at h; rcases h with rfl | rfl | rfl | rfl | rfl | rfl <;> first | exact iv_at | exact bv_at | exact sv_at | exact slv_at | exact pv_at rfl)) rfl rfl rfl) (fun _ => ?_)
          refine s_rd (r_assign rfl) rfl ?_
          refine l_nil ?_
          refine n_then ?_
          refine ref_seq ?_
          refine ref_seq ?_
          refine ref_region ?_
          refine s_rd (r_move rfl) rfl ?_
          refine s_rd (r_eql rfl rfl) rfl ?_
          refine l_nil ?_
          refine n_then ?_
          refine ref_cond rfl (fun hb35 => ?_) (fun hb35 => ?_)
          · refine ref_seq ?_
            refine ref_region ?_
            refine s_rd (r_cloadS Try.isAgg31 Try.sizeOf31 rfl (j := 3) rfl rfl rfl) rfl ?_
            refine s_st0 (s_cstore (out := [iv .i64 t33.1.Graph.N, slv rT_api_Pair t33.1.Graph.L, iv .i64 t33.1.Root, iv .i64 t33.1.Limits.i0, iv .i64 t33.1.Limits.i1, slv rT_api_Move t33.1.Moves]) Try.sizeOf31 rfl (j := 1) rfl (part_ag (ψs := [iv .i64 t33.1.Graph.N, slv rT_api_Pair t33.1.Graph.L, iv .i64 t33.1.Root, iv .i64 t33.1.Limits.i0, iv .i64 t33.1.Limits.i1, slv rT_api_Move t33.1.Moves]) rfl (by intro φ h; simp only [List.mem_cons, List.not_mem_nil, or_false] at h; rcases h with rfl | rfl | rfl | rfl | rfl | rfl <;> first | exact iv_at | exact bv_at | exact sv_at | exact slv_at | exact pv_at rfl)) rfl rfl rfl) (fun _ => ?_)
            refine l_nil ?_
            refine b_of (nrm [oc x2 [slv (rI .i64) t31.2.L, iv .i64 t31.2.At], oc (χ5 15).Nn [iv .i64 t33.1.Graph.N, slv rT_api_Pair t33.1.Graph.L, iv .i64 t33.1.Root, iv .i64 t33.1.Limits.i0, iv .i64 t33.1.Limits.i1, slv rT_api_Move t33.1.Moves], oc b32 [iv .i64 t31.1.By, iv .i64 t31.1.Kind, iv .i64 t31.1.Node, iv .i64 t31.1.Target], oc b34 [iv .i64 t33.1.Graph.N, slv rT_api_Pair t33.1.Graph.L, iv .i64 t33.1.Root, iv .i64 t33.1.Limits.i0, iv .i64 t33.1.Limits.i1, slv rT_api_Move t33.1.Moves]] rfl) ?_
            refine n_then ?_
            refine ref_exit ?_
            refine x_then ?_
            refine x_eq ?_
            refine n_then ?_
            refine ref_region ?_
            refine s_rd (r_move rfl) rfl ?_
            refine s_rd (r_add rfl rfl) rfl ?_
            refine s_rd (r_assign rfl) rfl ?_
            refine b_let (f := iv .i64) (t := 11) rfl fun i42 => ?_
            refine l_nil ?_
            exact goX () (weak [0, 1] ⟨rfl, rfl, rfl, trivial⟩ ⟨rfl, rfl, trivial⟩)
          · refine ref_skip ?_
            refine n_then ?_
            refine ref_seq ?_
            refine ref_region ?_
            refine s_rd (r_cloadS Try.isAgg31 Try.sizeOf31 rfl (j := 1) rfl rfl rfl) rfl ?_
            refine pull fun l36 h_l36 => ?_
            refine s_st (s_call (ψ := fun (x37 : (Value × List Nat)) => pv x37.1) (args := [.tmp 61]) Try.call25 rfl (protocol_Legal_ok h_l36) ⟨arg rfl, trivial⟩ (fun _ _ _ _ h => h)) rfl (fun x37 => ?_)
            refine s_rd (r_assign rfl) rfl ?_
            refine l_nil ?_
            refine b_of (nrm [oc x2 [slv (rI .i64) t31.2.L, iv .i64 t31.2.At], oc (χ5 15).Nn [iv .i64 s27.2.2.Graph.N, slv rT_api_Pair s27.2.2.Graph.L, iv .i64 s27.2.2.Root, iv .i64 s27.2.2.Limits.i0, iv .i64 s27.2.2.Limits.i1, slv rT_api_Move s27.2.2.Moves], oc b32 [iv .i64 t31.1.By, iv .i64 t31.1.Kind, iv .i64 t31.1.Node, iv .i64 t31.1.Target], oc b34 [iv .i64 t33.1.Graph.N, slv rT_api_Pair t33.1.Graph.L, iv .i64 t33.1.Root, iv .i64 t33.1.Limits.i0, iv .i64 t33.1.Limits.i1, slv rT_api_Move t33.1.Moves], oa rT_api_Move x37.1 x37.2 l36] rfl) ?_
            refine n_then ?_
            refine ref_seq ?_
            refine ref_seq ?_
            refine ref_region ?_
            refine s_rd (r_move rfl) rfl ?_
            refine s_rd (r_olen Try.underlying29 rfl (j := 4) rfl) rfl ?_
            refine s_rd (r_eql rfl rfl) rfl ?_
            refine l_nil ?_
            refine n_then ?_
            refine ref_cond rfl (fun hb38 => ?_) (fun hb38 => ?_)
            · refine ref_seq ?_
              refine ref_region ?_
              refine s_rd (r_assign rfl) rfl ?_
              refine l_nil ?_
              refine n_then ?_
              refine ref_ret ?_
              refine r_then ?_
              refine r_block ?_
              refine r_then ?_
              refine retX ?_
              refine r_block ?_
              refine r_then ?_
              exact fin1 (.inl rfl) () [] rfl trivial rfl (rv_tmp rfl)
            · refine ref_skip ?_
              refine n_then ?_
              refine ref_seq ?_
              refine ref_draw [0, 1, 2, 3, 5, 6, 7] rfl (by kernel_rfl) (fun hok => ?_)
              refine a_rd (i := 0) hok rfl (by kernel_rfl) rfl (r_cloadS Try.isAgg31 Try.sizeOf31 rfl (j := 1) rfl rfl rfl) rfl ?_
              refine a_rd (i := 1) hok rfl (by kernel_rfl) rfl (r_move rfl) rfl ?_
              refine pull fun t39 h_t39 => ?_
              refine a_rd (i := 2) hok rfl (by kernel_rfl) rfl (r_oindex h_t39 Try.underlying29 el_38 rfl (j := 4) rfl rfl) rfl ?_
              refine a_rd (i := 3) hok rfl (by kernel_rfl) rfl (r_oload h_t39 el_38 rfl (j := 4) rfl) rfl ?_
              refine pull fun t40 h_t40 => ?_
              refine a_next hok 4 [] (by kernel_rfl) ?_ trivial
              refine a_st (i := 4) hok rfl rfl (s_call (ψ := fun (_ : Unit) => tup [ag [iv .i64 t40.1.Graph.N, slv rT_api_Pair t40.1.Graph.L, iv .i64 t40.1.Root, iv .i64 t40.1.Limits.i0, iv .i64 t40.1.Limits.i1, slv rT_api_Move t40.1.Moves], iv .i64 t40.2]) (args := [.tmp 67, .tmp 70]) Try.call13 rfl (protocol_Apply_ok h_t40) ⟨arg rfl, arg rfl, trivial⟩ (fun _ _ _ _ h => h)) (by intro _ h; cases h; rfl) (fun _ => ⟨trivial, ⟨trivial, ⟨trivial, ⟨trivial, trivial⟩⟩⟩⟩) (fun _ => ?_)
              refine a_rd (i := 5) hok rfl (by kernel_rfl) rfl (r_move rfl) rfl ?_
              refine a_rd (i := 6) hok rfl (by kernel_rfl) rfl (r_extract rfl rfl) rfl ?_
              refine a_rd (i := 7) hok rfl (by kernel_rfl) rfl (r_extract rfl rfl) rfl ?_
              refine a_next hok 8 [] (by kernel_rfl) ?_ trivial
              refine a_st (i := 8) hok rfl rfl (s_cstore (out := [iv .i64 t40.1.Graph.N, slv rT_api_Pair t40.1.Graph.L, iv .i64 t40.1.Root, iv .i64 t40.1.Limits.i0, iv .i64 t40.1.Limits.i1, slv rT_api_Move t40.1.Moves]) Try.sizeOf31 rfl (j := 1) rfl (part_ag (ψs := [iv .i64 t40.1.Graph.N, slv rT_api_Pair t40.1.Graph.L, iv .i64 t40.1.Root, iv .i64 t40.1.Limits.i0, iv .i64 t40.1.Limits.i1, slv rT_api_Move t40.1.Moves]) rfl (by intro φ h; simp only [List.mem_cons, List.not_mem_nil, or_false] at h; rcases h with rfl | rfl | rfl | rfl | rfl | rfl <;> first | exact iv_at | exact bv_at | exact sv_at | exact slv_at | exact pv_at rfl)) rfl rfl rfl) (by intro _ h; cases h) (fun _ => ⟨trivial, ⟨trivial, ⟨trivial, ⟨trivial, ⟨trivial, ⟨trivial, ⟨trivial, trivial⟩⟩⟩⟩⟩⟩⟩) (fun _ => ?_)
              refine a_next hok 9 [] (by kernel_rfl) ?_ trivial
              refine a_st (i := 9) hok rfl rfl (St.ofRd (r_assign rfl)) (by intro _ h; cases h; rfl) (fun _ => ⟨trivial, ⟨trivial, ⟨trivial, ⟨trivial, ⟨trivial, ⟨trivial, ⟨trivial, trivial⟩⟩⟩⟩⟩⟩⟩) (fun _ => ?_)
              refine a_fin hok (by kernel_rfl) ?_
              refine n_then ?_
              refine ref_seq ?_
              refine ref_region ?_
              refine s_rd (r_move rfl) rfl ?_
              refine s_rd (r_neq rfl rfl) rfl ?_
              refine l_nil ?_
              refine n_then ?_
              refine ref_cond rfl (fun hb41 => ?_) (fun hb41 => ?_)
              · refine ref_seq ?_
                refine ref_region ?_
                refine s_rd (r_assign rfl) rfl ?_
                refine l_nil ?_
                refine n_then ?_
                refine ref_ret ?_
                refine r_block ?_
                refine r_then ?_
                refine retX ?_
                refine r_block ?_
                refine r_then ?_
                exact fin1 (.inl rfl) () [] rfl trivial rfl (rv_tmp rfl)
              · refine ref_skip ?_
                refine n_block ?_
                refine n_then ?_
                refine ref_region ?_
                refine s_rd (r_move rfl) rfl ?_
                refine s_rd (r_add rfl rfl) rfl ?_
                refine s_rd (r_assign rfl) rfl ?_
                refine b_let (f := iv .i64) (t := 11) rfl fun i43 => ?_
                refine l_nil ?_
                exact goX () (weak [0, 1] ⟨rfl, rfl, rfl, trivial⟩ ⟨rfl, rfl, trivial⟩)
        · refine ref_exit ?_
          refine x_then ?_
          exact brkX () (weak [1] ⟨rfl, trivial⟩ ⟨rfl, trivial⟩)
      · refine s_off rfl rfl rfl rfl rfl ?_
        refine s_off rfl rfl rfl rfl rfl ?_
        refine s_off rfl rfl rfl rfl rfl ?_
        refine s_rd (r_pickF rfl rfl) rfl ?_
        refine l_nil ?_
        refine n_then ?_
        refine ref_condF rfl rfl ?_
        refine ref_exit ?_
        refine x_then ?_
        exact brkX () (weak [1] ⟨rfl, trivial⟩ ⟨rfl, trivial⟩)
    · refine n_then ?_
      refine ref_seq ?_
      refine ref_region ?_
      refine s_st (s_alloc zt_56) rfl (fun b46 => ?_)
      refine l_nil ?_
      refine n_then ?_
      refine ref_seq ?_
      refine ref_seq ?_
      refine ref_region ?_
      refine s_rd (r_faddr (fo := 5) Try.underlying31 rfl rfl Try.sizeOf29 rfl) rfl ?_
      refine s_rd (r_cload Try.isAgg29 rfl (j := 0) rfl rfl) rfl ?_
      refine s_rd (r_len Try.underlying29 rfl) rfl ?_
      refine s_rd (r_move rfl) rfl ?_
      refine l_nil ?_
      refine n_then ?_
      refine ref_loopX (f := (law27_ProtocolEnds_l2 q44)) (Γl := (fun (s63 : Int × Int × Int × Int) (x64 : Unit) => [(9, pv (ptr (χ5 15).Nn 0)), (16, pv (ptr b46 0)), (77, slv rT_api_Move q44.Moves), (78, iv .i64 (q44.Moves.length : Int)), (79, iv .i64 s63.1)])) (Ωl := (fun (s63 : Int × Int × Int × Int) (x64 : Unit) => [oc (χ5 15).Nn [iv .i64 q44.Graph.N, slv rT_api_Pair q44.Graph.L, iv .i64 q44.Root, iv .i64 q44.Limits.i0, iv .i64 q44.Limits.i1, slv rT_api_Move q44.Moves], oc b46 [iv .i64 s63.2.1, iv .i64 s63.2.2.1, iv .i64 s63.2.2.2]])) (Γb := (fun (q71 : Int × Int × Int) (y72 : Unit) => [(9, pv (ptr (χ5 15).Nn 0)), (16, pv (ptr b46 0))])) (Ωb := (fun (q71 : Int × Int × Int) (y72 : Unit) => [oc (χ5 15).Nn [iv .i64 q44.Graph.N, slv rT_api_Pair q44.Graph.L, iv .i64 q44.Root, iv .i64 q44.Limits.i0, iv .i64 q44.Limits.i1, slv rT_api_Move q44.Moves], oc b46 [iv .i64 q71.1, iv .i64 q71.2.1, iv .i64 q71.2.2]])) (kr := (fun a : Bool => some a)) (0, 0, 0, 0) () (weak [0, 1] ⟨rfl, rfl, rfl, rfl, rfl, trivial⟩ ⟨rfl, rfl, trivial⟩) (fun s63 x64 => ?_) (fun q71 y72 => ?_)
      · unfold law27_ProtocolEnds_l2
        refine ref_seq ?_
        refine ref_region ?_
        refine s_rd (r_lss rfl rfl) rfl ?_
        refine l_nil ?_
        refine n_then ?_
        refine ref_seq ?_
        refine ref_cond rfl (fun hb65 => ?_) (fun hb65 => ?_)
        · refine ref_skip ?_
          refine n_then ?_
          refine ref_seq ?_
          refine ref_block ?_
          refine ref_seq ?_
          refine ref_region ?_
          refine pull fun t66 h_t66 => ?_
          refine s_rd (r_index h_t66 Try.underlying29 el_38 rfl rfl) rfl ?_
          refine s_rd (r_load el_38 rfl) rfl ?_
          refine s_st (s_alloc zt_38) rfl (fun b67 => ?_)
          refine s_st0 (s_cstore (out := [iv .i64 t66.By, iv .i64 t66.Kind, iv .i64 t66.Node, iv .i64 t66.Target]) Try.sizeOf38 rfl (j := 2) rfl (part_ag (ψs := [iv .i64 t66.By, iv .i64 t66.Kind, iv .i64 t66.Node, iv .i64 t66.Target]) rfl (by intro φ h; simp only [List.mem_cons, List.not_mem_nil, or_false] at h; rcases h with rfl | rfl | rfl | rfl <;> first | exact iv_at | exact bv_at | exact sv_at | exact slv_at | exact pv_at rfl)) rfl rfl rfl) (fun _ => ?_)
          refine l_nil ?_
          refine n_then ?_
          refine ref_seq ?_
          refine ref_seq ?_
          refine ref_region ?_
          refine s_rd (r_faddr (fo := 0) Try.underlying38 rfl rfl Try.sizeOf3 rfl) rfl ?_
          refine s_rd (r_cload Try.isAgg3 rfl (j := 2) rfl rfl) rfl ?_
          refine s_rd (r_lss rfl rfl) rfl ?_
          refine s_rd (r_move rfl) rfl ?_
          refine b_split (t := 86) rfl (fun _ => ?_) (fun _ => ?_)
          · refine s_off rfl rfl rfl rfl rfl ?_
            refine s_off rfl rfl rfl rfl rfl ?_
            refine s_off rfl rfl rfl rfl rfl ?_
            refine s_rd (r_pickT rfl rfl) rfl ?_
            refine l_nil ?_
            refine n_then ?_
            refine ref_condT rfl rfl ?_
            refine ref_seq ?_
            refine ref_region ?_
            refine s_rd (r_assign rfl) rfl ?_
            refine l_nil ?_
            refine n_then ?_
            refine ref_ret ?_
            refine r_then ?_
            refine r_block ?_
            refine r_then ?_
            refine retX ?_
            refine r_block ?_
            refine r_then ?_
            exact fin1 (.inl rfl) () [] rfl trivial rfl (rv_tmp rfl)
          · refine s_on rfl rfl rfl ?_
            refine s_rd (r_faddr (fo := 0) Try.underlying38 rfl rfl Try.sizeOf3 rfl) rfl ?_
            refine s_on rfl rfl rfl ?_
            refine s_rd (r_cload Try.isAgg3 rfl (j := 2) rfl rfl) rfl ?_
            refine s_on rfl rfl rfl ?_
            refine s_rd (r_gtr rfl rfl) rfl ?_
            refine s_rd (r_pickF rfl rfl) rfl ?_
            refine l_nil ?_
            refine n_then ?_
            refine ref_cond rfl (fun hb68 => ?_) (fun hb68 => ?_)
            · refine ref_seq ?_
              refine ref_region ?_
              refine s_rd (r_assign rfl) rfl ?_
              refine l_nil ?_
              refine n_then ?_
              refine ref_ret ?_
              refine r_then ?_
              refine r_block ?_
              refine r_then ?_
              refine retX ?_
              refine r_block ?_
              refine r_then ?_
              exact fin1 (.inl rfl) () [] rfl trivial rfl (rv_tmp rfl)
            · refine ref_skip ?_
              refine n_then ?_
              refine ref_region ?_
              refine s_rd (r_faddr (fo := 0) Try.underlying38 rfl rfl Try.sizeOf3 rfl) rfl ?_
              refine s_rd (r_cload Try.isAgg3 rfl (j := 2) rfl rfl) rfl ?_
              refine pull fun t69 h_t69 => ?_
              refine s_rd (r_aaddrV h_t69 rfl Try.underlying56 Try.sizeOf3 rfl rfl) rfl ?_
              refine s_rd (r_acload (ρ := (rI .i64)) (off := 0) h_t69 Try.isAgg3 rfl (j := 1) rfl rfl rfl rfl) rfl ?_
              refine s_rd (r_add rfl rfl) rfl ?_
              refine pull fun t70 h_t70 => ?_
              refine s_rd (r_aaddrV h_t70 rfl Try.underlying56 Try.sizeOf3 rfl rfl) rfl ?_
              refine s_st0 (s_acstore (off := 0) (φ := iv .i64 (iadd .i64 t69 1)) (out := [iv .i64 (aset t66.By 0 (iadd .i64 t69 1) s63.2.1), iv .i64 (aset t66.By 1 (iadd .i64 t69 1) s63.2.2.1), iv .i64 (aset t66.By 2 (iadd .i64 t69 1) s63.2.2.2)]) h_t70 Try.sizeOf3 rfl (j := 1) rfl (part_at rfl iv_at) rfl (fun i hl hi => by simp only [hi]; match i, hl with | 0, _ => rfl | 1, _ => rfl | 2, _ => rfl | i + 3, h => exact absurd h (by simp))) (fun _ => ?_)
              refine l_nil ?_
              refine b_of (nrm [oc (χ5 15).Nn [iv .i64 q44.Graph.N, slv rT_api_Pair q44.Graph.L, iv .i64 q44.Root, iv .i64 q44.Limits.i0, iv .i64 q44.Limits.i1, slv rT_api_Move q44.Moves], oc b46 [iv .i64 (aset t66.By 0 (iadd .i64 t69 1) s63.2.1), iv .i64 (aset t66.By 1 (iadd .i64 t69 1) s63.2.2.1), iv .i64 (aset t66.By 2 (iadd .i64 t69 1) s63.2.2.2)], oc b67 [iv .i64 t66.By, iv .i64 t66.Kind, iv .i64 t66.Node, iv .i64 t66.Target]] rfl) ?_
              refine n_block ?_
              refine n_then ?_
              refine ref_region ?_
              refine s_rd (r_add rfl rfl) rfl ?_
              refine s_rd (r_move rfl) rfl ?_
              refine l_nil ?_
              exact goX () (weak [0, 1] ⟨rfl, rfl, rfl, rfl, rfl, trivial⟩ ⟨rfl, rfl, trivial⟩)
        · refine ref_exit ?_
          refine x_then ?_
          exact brkX () (weak [0, 1] ⟨rfl, rfl, trivial⟩ ⟨rfl, rfl, trivial⟩)
      · refine n_then ?_
        refine ref_seq ?_
        refine ref_region ?_
        refine s_rd (r_cloadS Try.isAgg31 Try.sizeOf31 rfl (j := 0) rfl rfl rfl) rfl ?_
        refine pull fun t73 h_t73 => ?_
        refine s_st (s_call (ψ := fun (_ : Unit) => iv .i64 t73) (args := [.tmp 98]) Try.call23 rfl (protocol_Turn_ok h_t73) ⟨arg rfl, trivial⟩ (fun _ _ _ _ h => h)) rfl (fun _ => ?_)
        refine s_rd (r_eql rfl rfl) rfl ?_
        refine s_rd (r_move rfl) rfl ?_
        refine b_split (t := 101) rfl (fun _ => ?_) (fun _ => ?_)
        · refine s_on rfl rfl rfl ?_
          refine s_rd (r_cloadS Try.isAgg31 Try.sizeOf31 rfl (j := 0) rfl rfl rfl) rfl ?_
          refine s_on rfl rfl rfl ?_
          refine pull fun t74 h_t74 => ?_
          refine s_st (s_call (ψ := fun (_ : Unit) => ag [iv .i64 t74.Winner, iv .i64 t74.Reason]) (args := [.tmp 102]) Try.call20 rfl (protocol_End_ok h_t74) ⟨arg rfl, trivial⟩ (fun _ _ _ _ h => h)) rfl (fun _ => ?_)
          refine s_on rfl rfl rfl ?_
          refine s_rd (r_field1 (off := 1) Try.underlying50 rfl rfl Try.isAgg3 rfl rfl) rfl ?_
          refine s_on rfl rfl rfl ?_
          refine s_rd (r_neq rfl rfl) rfl ?_
          refine s_rd (r_pickT rfl rfl) rfl ?_
          refine s_rd (r_move rfl) rfl ?_
          refine b_split (t := 107) rfl (fun _ => ?_) (fun _ => ?_)
          · refine s_on rfl rfl rfl ?_
            refine s_rd (r_aaddr (sz := 1) ⟨by decide, by decide⟩ Try.underlying56 Try.sizeOf3 rfl rfl) rfl ?_
            refine s_on rfl rfl rfl ?_
            refine s_rd (r_cload Try.isAgg3 rfl (j := 1) rfl rfl) rfl ?_
            refine s_on rfl rfl rfl ?_
            refine s_rd (r_faddr (fo := 3) Try.underlying31 rfl rfl Try.sizeOf28 rfl) rfl ?_
            refine s_on rfl rfl rfl ?_
            refine s_rd (r_aaddr (sz := 1) ⟨by decide, by decide⟩ Try.underlying28 Try.sizeOf3 rfl rfl) rfl ?_
            refine s_on rfl rfl rfl ?_
            refine s_rd (r_cload Try.isAgg3 rfl (j := 0) rfl rfl) rfl ?_
            refine s_on rfl rfl rfl ?_
            refine s_rd (r_leq rfl rfl) rfl ?_
            refine s_rd (r_pickT rfl rfl) rfl ?_
            refine s_rd (r_move rfl) rfl ?_
            refine b_split (t := 115) rfl (fun _ => ?_) (fun _ => ?_)
            · refine s_on rfl rfl rfl ?_
              refine s_rd (r_aaddr (sz := 1) ⟨by decide, by decide⟩ Try.underlying56 Try.sizeOf3 rfl rfl) rfl ?_
              refine s_on rfl rfl rfl ?_
              refine s_rd (r_cload Try.isAgg3 rfl (j := 1) rfl rfl) rfl ?_
              refine s_on rfl rfl rfl ?_
              refine s_rd (r_faddr (fo := 3) Try.underlying31 rfl rfl Try.sizeOf28 rfl) rfl ?_
              refine s_on rfl rfl rfl ?_
              refine s_rd (r_aaddr (sz := 1) ⟨by decide, by decide⟩ Try.underlying28 Try.sizeOf3 rfl rfl) rfl ?_
              refine s_on rfl rfl rfl ?_
              refine s_rd (r_cload Try.isAgg3 rfl (j := 0) rfl rfl) rfl ?_
              refine s_on rfl rfl rfl ?_
              refine s_rd (r_leq rfl rfl) rfl ?_
              refine s_rd (r_pickT rfl rfl) rfl ?_
              refine s_rd (r_move rfl) rfl ?_
              refine b_split (t := 123) rfl (fun _ => ?_) (fun _ => ?_)
              · refine s_on rfl rfl rfl ?_
                refine pull fun t75 h_t75 => ?_
                refine s_st (s_call (ψ := fun (_ : Unit) => bv t75) (args := []) Try.call16 rfl (law27_awake_ok h_t75) trivial (fun _ _ _ _ h => h)) rfl (fun _ => ?_)
                refine s_rd (r_pickT rfl rfl) rfl ?_
                refine s_rd (r_assign rfl) rfl ?_
                refine l_nil ?_
                refine n_then ?_
                refine ref_ret ?_
                exact fin1 (.inl rfl) () [] rfl trivial rfl (rv_tmp rfl)
              · refine s_off rfl rfl rfl rfl rfl ?_
                refine s_rd (r_pickF rfl rfl) rfl ?_
                refine s_rd (r_assign rfl) rfl ?_
                refine l_nil ?_
                refine n_then ?_
                refine ref_ret ?_
                exact fin1 (.inl rfl) () [] rfl trivial rfl (rv_tmp rfl)
            · refine s_off rfl rfl rfl rfl rfl ?_
              refine s_off rfl rfl rfl rfl rfl ?_
              refine s_off rfl rfl rfl rfl rfl ?_
              refine s_off rfl rfl rfl rfl rfl ?_
              refine s_off rfl rfl rfl rfl rfl ?_
              refine s_off rfl rfl rfl rfl rfl ?_
              refine s_rd (r_pickF rfl rfl) rfl ?_
              refine s_rd (r_move rfl) rfl ?_
              refine s_off rfl rfl rfl rfl rfl ?_
              refine s_rd (r_pickF rfl rfl) rfl ?_
              refine s_rd (r_assign rfl) rfl ?_
              refine l_nil ?_
              refine n_then ?_
              refine ref_ret ?_
              exact fin1 (.inl rfl) () [] rfl trivial rfl (rv_tmp rfl)
          · refine s_off rfl rfl rfl rfl rfl ?_
            refine s_off rfl rfl rfl rfl rfl ?_
            refine s_off rfl rfl rfl rfl rfl ?_
            refine s_off rfl rfl rfl rfl rfl ?_
            refine s_off rfl rfl rfl rfl rfl ?_
            refine s_off rfl rfl rfl rfl rfl ?_
            refine s_rd (r_pickF rfl rfl) rfl ?_
            refine s_rd (r_move rfl) rfl ?_
            refine s_off rfl rfl rfl rfl rfl ?_
            refine s_off rfl rfl rfl rfl rfl ?_
            refine s_off rfl rfl rfl rfl rfl ?_
            refine s_off rfl rfl rfl rfl rfl ?_
            refine s_off rfl rfl rfl rfl rfl ?_
            refine s_off rfl rfl rfl rfl rfl ?_
            refine s_rd (r_pickF rfl rfl) rfl ?_
            refine s_rd (r_move rfl) rfl ?_
            refine s_off rfl rfl rfl rfl rfl ?_
            refine s_rd (r_pickF rfl rfl) rfl ?_
            refine s_rd (r_assign rfl) rfl ?_
            refine l_nil ?_
            refine n_then ?_
            refine ref_ret ?_
            exact fin1 (.inl rfl) () [] rfl trivial rfl (rv_tmp rfl)
        · refine s_off rfl rfl rfl rfl rfl ?_
          refine s_off rfl rfl rfl rfl rfl ?_
          refine s_off rfl rfl rfl rfl rfl ?_
          refine s_off rfl rfl rfl rfl rfl ?_
          refine s_rd (r_pickF rfl rfl) rfl ?_
          refine s_rd (r_move rfl) rfl ?_
          refine s_off rfl rfl rfl rfl rfl ?_
          refine s_off rfl rfl rfl rfl rfl ?_
          refine s_off rfl rfl rfl rfl rfl ?_
          refine s_off rfl rfl rfl rfl rfl ?_
          refine s_off rfl rfl rfl rfl rfl ?_
          refine s_off rfl rfl rfl rfl rfl ?_
          refine s_rd (r_pickF rfl rfl) rfl ?_
          refine s_rd (r_move rfl) rfl ?_
          refine s_off rfl rfl rfl rfl rfl ?_
          refine s_off rfl rfl rfl rfl rfl ?_
          refine s_off rfl rfl rfl rfl rfl ?_
          refine s_off rfl rfl rfl rfl rfl ?_
          refine s_off rfl rfl rfl rfl rfl ?_
          refine s_off rfl rfl rfl rfl rfl ?_
          refine s_rd (r_pickF rfl rfl) rfl ?_
          refine s_rd (r_move rfl) rfl ?_
          refine s_off rfl rfl rfl rfl rfl ?_
          refine s_rd (r_pickF rfl rfl) rfl ?_
          refine s_rd (r_assign rfl) rfl ?_
          refine l_nil ?_
          refine n_then ?_
          refine ref_ret ?_
          exact fin1 (.inl rfl) () [] rfl trivial rfl (rv_tmp rfl)

/-! deliberation/protocol.Leading -/
noncomputable def protocol_Leading_l1 (t3 : T_protocol_table) (s18 : Int × (List Int)) : Option (Sum ((List Int)) (Int × (List Int))) :=
  bif decide (s18.1 < (t3.leading.length : Int)) then
    Option.bind (idxM t3.leading s18.1) fun ok21 =>
    bif ok21 then
      Option.bind (appM 8 s18.2 [s18.1]) fun out23 =>
      some (Sum.inr (iadd .i64 s18.1 1, out23))
    else
      some (Sum.inr (iadd .i64 s18.1 1, s18.2))
  else
    some (Sum.inl s18.2)

noncomputable def protocol_Leading_m (d_0 : T_api_Dialogue) : Option (List Int) :=
  bif (d_0.Moves.length : Int) == 0 then
    some []
  else
    Option.bind (protocol_of_m d_0) fun t3 =>
    Option.bind (loopC (protocol_Leading_l1 t3) (0, [])) fun q25 : (List Int) =>
    some q25

theorem protocol_Leading_ok {d_0 : T_api_Dialogue} {r : List Int} (hm : protocol_Leading_m d_0 = some r) :
    FnOk prog 26 [ag [iv .i64 d_0.Graph.N, slv rT_api_Pair d_0.Graph.L, iv .i64 d_0.Root, iv .i64 d_0.Limits.i0, iv .i64 d_0.Limits.i1, slv rT_api_Move d_0.Moves]] [] (fun (x : (Value × List Nat)) => [pv x.1]) (fun (x : (Value × List Nat)) => [oa (rI .i64) x.1 x.2 r]) := by
  refine fn_ok (X := (Value × List Nat)) (fn := Try.f26) (N := 26) (m := protocol_Leading_m d_0) (res := fun r x => [pv x.1]) (Ω1 := fun r x => [oa (rI .i64) x.1 x.2 r]) Try.func26 rfl rfl hm rfl (fun E hM => ?_)
  unfold protocol_Leading_m
  refine ref_seq ?_
  refine ref_region ?_
  refine s_st (s_box (part_ag (ψs := [iv .i64 d_0.Graph.N, slv rT_api_Pair d_0.Graph.L, iv .i64 d_0.Root, iv .i64 d_0.Limits.i0, iv .i64 d_0.Limits.i1, slv rT_api_Move d_0.Moves]) rfl (by intro φ h; simp only [List.mem_cons, List.not_mem_nil, or_false] at h; rcases h with rfl | rfl | rfl | rfl | rfl | rfl <;> first | exact iv_at | exact bv_at | exact sv_at | exact slv_at | exact pv_at rfl))) rfl (fun b1 => ?_)
  refine s_rd (r_assign rfl) rfl ?_
  refine l_nil ?_
  refine n_then ?_
  refine ref_seq ?_
  refine ref_seq ?_
  refine ref_region ?_
  refine s_rd (r_faddr (fo := 5) Try.underlying31 rfl rfl Try.sizeOf29 rfl) rfl ?_
  refine s_rd (r_cload Try.isAgg29 rfl (j := 0) rfl rfl) rfl ?_
  refine s_rd (r_len Try.underlying29 rfl) rfl ?_
  refine s_rd (r_eql rfl rfl) rfl ?_
  refine l_nil ?_
  refine n_then ?_
  refine ref_cond rfl (fun hb2 => ?_) (fun hb2 => ?_)
  · refine ref_seq ?_
    refine ref_region ?_
    refine s_rd (r_assign rfl) rfl ?_
    refine l_nil ?_
    refine n_then ?_
    refine ref_ret ?_
    refine r_then ?_
    refine b_of (own_nil (rI .i64)) ?_
    exact fin1 (.inl rfl) ((.slice none 0 0), []) [1] rfl ⟨rfl, trivial⟩ rfl (rv_tmp rfl)
  · refine ref_skip ?_
    refine n_then ?_
    refine ref_seq ?_
    refine ref_region ?_
    refine s_rd (r_assign rfl) rfl ?_
    refine l_nil ?_
    refine n_then ?_
    refine ref_seq ?_
    refine ref_seq ?_
    refine ref_region ?_
    refine s_rd (r_cloadS Try.isAgg31 Try.sizeOf31 rfl (j := 0) rfl rfl rfl) rfl ?_
    refine pull fun t3 h_t3 => ?_
    refine s_st (s_call (ψ := fun (_ : Unit) => ag [iv .i64 t3.d.Graph.N, slv rT_api_Pair t3.d.Graph.L, iv .i64 t3.d.Root, iv .i64 t3.d.Limits.i0, iv .i64 t3.d.Limits.i1, slv rT_api_Move t3.d.Moves, slv (rI .i64) t3.status, iv .i64 t3.leader, slv rB t3.leading]) (args := [.tmp 10]) Try.call35 rfl (protocol_of_ok h_t3) ⟨arg rfl, trivial⟩ (fun _ _ _ _ h => h)) rfl (fun _ => ?_)
    refine s_rd (r_field1 (off := 8) Try.underlying66 rfl rfl Try.isAgg64 rfl rfl) rfl ?_
    refine s_rd (r_len Try.underlying64 rfl) rfl ?_
    refine s_rd (r_move rfl) rfl ?_
    refine l_nil ?_
    refine n_then ?_
    refine b_of (own_nil (rI .i64)) ?_
    refine ref_loopB (f := (protocol_Leading_l1 t3)) (Γl := (fun (s18 : Int × (List Int)) (x19 : (Value × List Nat)) => [(3, pv x19.1), (12, slv rB t3.leading), (13, iv .i64 (t3.leading.length : Int)), (14, iv .i64 s18.1)])) (Ωl := (fun (s18 : Int × (List Int)) (x19 : (Value × List Nat)) => [oa (rI .i64) x19.1 x19.2 s18.2])) (Γb := (fun (q25 : (List Int)) (y26 : (Value × List Nat)) => [(3, pv y26.1)])) (Ωb := (fun (q25 : (List Int)) (y26 : (Value × List Nat)) => [oa (rI .i64) y26.1 y26.2 q25])) (0, []) ((.slice none 0 0), []) (weak [1] ⟨rfl, rfl, rfl, rfl, trivial⟩ ⟨rfl, trivial⟩) (fun s18 x19 => ?_) (fun q25 y26 => ?_)
    · unfold protocol_Leading_l1
      refine ref_seq ?_
      refine ref_region ?_
      refine s_rd (r_lss rfl rfl) rfl ?_
      refine l_nil ?_
      refine n_then ?_
      refine ref_seq ?_
      refine ref_cond rfl (fun hb20 => ?_) (fun hb20 => ?_)
      · refine ref_skip ?_
        refine n_then ?_
        refine ref_seq ?_
        refine ref_block ?_
        refine ref_seq ?_
        refine ref_region ?_
        refine s_rd (r_move rfl) rfl ?_
        refine pull fun ok21 h_ok21 => ?_
        refine s_rd (r_index h_ok21 Try.underlying64 el_4 rfl rfl) rfl ?_
        refine s_rd (r_load el_4 rfl) rfl ?_
        refine s_rd (r_assign rfl) rfl ?_
        refine s_rd (r_assign rfl) rfl ?_
        refine l_nil ?_
        refine n_then ?_
        refine ref_seq ?_
        refine ref_region ?_
        refine s_rd (r_move rfl) rfl ?_
        refine l_nil ?_
        refine n_then ?_
        refine ref_cond rfl (fun hb22 => ?_) (fun hb22 => ?_)
        · refine ref_region ?_
          refine s_rd (r_move rfl) rfl ?_
          refine s_rd (r_move rfl) rfl ?_
          refine s_st (s_bslice (xs := [.tmp 21]) (ds := [s18.1]) Try.underlying22 el_3 rfl (Nat.le_of_ble_eq_true rfl) ⟨(part_at rfl iv_at), trivial⟩) rfl (fun _ => ?_)
          refine pull fun out23 h_out23 => ?_
          refine s_st (s_append h_out23 Try.underlying22 el_3 rfl (j := 0) rfl rfl) rfl (fun o24 => ?_)
          refine s_rd (r_assign rfl) rfl ?_
          refine l_nil ?_
          refine b_of (nrm [oa (rI .i64) o24.1 o24.2 out23] rfl) ?_
          refine n_block ?_
          refine n_then ?_
          refine ref_region ?_
          refine s_rd (r_add rfl rfl) rfl ?_
          refine s_rd (r_move rfl) rfl ?_
          refine l_nil ?_
          exact goB o24 (weak [0] ⟨rfl, rfl, rfl, rfl, trivial⟩ ⟨rfl, trivial⟩)
        · refine ref_skip ?_
          refine n_block ?_
          refine n_then ?_
          refine ref_region ?_
          refine s_rd (r_add rfl rfl) rfl ?_
          refine s_rd (r_move rfl) rfl ?_
          refine l_nil ?_
          exact goB x19 (weak [0] ⟨rfl, rfl, rfl, rfl, trivial⟩ ⟨rfl, trivial⟩)
      · refine ref_exit ?_
        refine x_then ?_
        exact brkB x19 (weak [0] ⟨rfl, trivial⟩ ⟨rfl, trivial⟩)
    · refine n_then ?_
      refine ref_seq ?_
      refine ref_region ?_
      refine s_rd (r_move rfl) rfl ?_
      refine s_rd (r_assign rfl) rfl ?_
      refine l_nil ?_
      refine n_then ?_
      refine ref_ret ?_
      exact fin1 (.inl rfl) y26 [0] rfl ⟨rfl, trivial⟩ rfl (rv_tmp rfl)

/-! deliberation/deliberationkeep.In -/
noncomputable def keep_In_l1 (l_0 : (List Int)) (x_1 : Int) (s6 : Int) : Option (Sum ((Sum (Bool) (Unit))) (Int)) :=
  bif decide (s6 < (l_0.length : Int)) then
    Option.bind (idxM l_0 s6) fun t9 =>
    bif t9 == x_1 then
      some (Sum.inl (Sum.inl true))
    else
      some (Sum.inr (iadd .i64 s6 1))
  else
    some (Sum.inl (Sum.inr ()))

noncomputable def keep_In_m (l_0 : (List Int)) (x_1 : Int) : Option (Bool) :=
  Option.bind (loopC (keep_In_l1 l_0 x_1) 0) (sumK (fun a : Bool => some a) fun q11 : Unit =>
    some false)

theorem keep_In_ok {l_0 : (List Int)} {x_1 : Int} {r : Bool} (hm : keep_In_m l_0 x_1 = some r) :
    FnOk prog 27 [slv (rI .i64) l_0, iv .i64 x_1] [] (fun (x : Unit) => [bv r]) (fun (x : Unit) => []) := by
  refine fn_ok (X := Unit) (fn := Try.f27) (N := 18) (m := keep_In_m l_0 x_1) (res := fun r x => [bv r]) (Ω1 := fun r x => []) Try.func27 rfl rfl hm rfl (fun E hM => ?_)
  unfold keep_In_m
  refine ref_seq ?_
  refine ref_region ?_
  refine s_rd (r_assign rfl) rfl ?_
  refine l_nil ?_
  refine n_then ?_
  refine ref_seq ?_
  refine ref_seq ?_
  refine ref_region ?_
  refine s_rd (r_move rfl) rfl ?_
  refine s_rd (r_len Try.underlying22 rfl) rfl ?_
  refine s_rd (r_move rfl) rfl ?_
  refine l_nil ?_
  refine n_then ?_
  refine ref_loopX (f := (keep_In_l1 l_0 x_1)) (Γl := (fun (s6 : Int) (x7 : Unit) => [(0, slv (rI .i64) l_0), (1, iv .i64 x_1), (7, iv .i64 (l_0.length : Int)), (8, iv .i64 s6)])) (Ωl := (fun (s6 : Int) (x7 : Unit) => [])) (Γb := (fun (q11 : Unit) (y12 : Unit) => [])) (Ωb := (fun (q11 : Unit) (y12 : Unit) => [])) (kr := (fun a : Bool => some a)) 0 () (weak [] ⟨rfl, rfl, rfl, rfl, trivial⟩ trivial) (fun s6 x7 => ?_) (fun q11 y12 => ?_)
  · unfold keep_In_l1
    refine ref_seq ?_
    refine ref_region ?_
    refine s_rd (r_lss rfl rfl) rfl ?_
    refine l_nil ?_
    refine n_then ?_
    refine ref_seq ?_
    refine ref_cond rfl (fun hb8 => ?_) (fun hb8 => ?_)
    · refine ref_skip ?_
      refine n_then ?_
      refine ref_seq ?_
      refine ref_block ?_
      refine ref_seq ?_
      refine ref_region ?_
      refine s_rd (r_move rfl) rfl ?_
      refine s_rd (r_assign rfl) rfl ?_
      refine l_nil ?_
      refine n_then ?_
      refine ref_seq ?_
      refine ref_region ?_
      refine s_rd (r_move rfl) rfl ?_
      refine s_rd (r_move rfl) rfl ?_
      refine pull fun t9 h_t9 => ?_
      refine s_rd (r_index h_t9 Try.underlying22 el_3 rfl rfl) rfl ?_
      refine s_rd (r_load el_3 rfl) rfl ?_
      refine s_rd (r_move rfl) rfl ?_
      refine s_rd (r_eql rfl rfl) rfl ?_
      refine l_nil ?_
      refine n_then ?_
      refine ref_cond rfl (fun hb10 => ?_) (fun hb10 => ?_)
      · refine ref_seq ?_
        refine ref_region ?_
        refine s_rd (r_assign rfl) rfl ?_
        refine l_nil ?_
        refine n_then ?_
        refine ref_ret ?_
        refine r_block ?_
        refine r_then ?_
        refine retX ?_
        refine r_block ?_
        refine r_then ?_
        exact fin1 (.inl rfl) () [] rfl trivial rfl (rv_tmp rfl)
      · refine ref_skip ?_
        refine n_block ?_
        refine n_then ?_
        refine ref_region ?_
        refine s_rd (r_add rfl rfl) rfl ?_
        refine s_rd (r_move rfl) rfl ?_
        refine l_nil ?_
        exact goX () (weak [] ⟨rfl, rfl, rfl, rfl, trivial⟩ trivial)
    · refine ref_exit ?_
      refine x_then ?_
      exact brkX () (weak [] trivial trivial)
  · refine n_then ?_
    refine ref_seq ?_
    refine ref_region ?_
    refine s_rd (r_assign rfl) rfl ?_
    refine l_nil ?_
    refine n_then ?_
    refine ref_ret ?_
    exact fin1 (.inl rfl) () [] rfl trivial rfl (rv_tmp rfl)

/-! deliberation/deliberationlaw27.ProtocolLeading -/
noncomputable def law27_ProtocolLeading_l2 (s368 : Int × T_deliberationkeep_Src × T_api_Dialogue) (status371 : List Int) (part373 : List Int) (j379 : Int) (s389 : Int) : Option (Sum ((Sum (Bool) (Unit))) (Int)) :=
  bif decide (s389 < (part373.length : Int)) then
    Option.bind (idxM part373 s389) fun k392 =>
    bif decide (k392 < 0) then
      some (Sum.inl (Sum.inl false))
    else
      bif decide (k392 ≥ (status371.length : Int)) then
        some (Sum.inl (Sum.inl false))
      else
        Option.bind (idxM s368.2.2.Moves k392) fun t393 =>
        Option.bind (idxM status371 k392) fun t394 =>
        bif !((t393.By == j379) == (t394 == 1)) then
          some (Sum.inl (Sum.inl false))
        else
          some (Sum.inr (iadd .i64 s389 1))
  else
    some (Sum.inl (Sum.inr ()))

noncomputable def law27_ProtocolLeading_l5 (legal398 : List T_api_Move) (turn400 : Int) (s470 : Int) (s504 : Int) (s514 : Bool × Int) : Option (Sum (Bool) (Bool × Int)) :=
  bif decide (s514.2 < (legal398.length : Int)) then
    Option.bind (idxM legal398 s514.2) fun t517 =>
    bif s514.1 then
      some (Sum.inr (true, iadd .i64 s514.2 1))
    else
      letM (decide (t517 = (T_api_Move.mk turn400 2 s504 s470))) fun is_519 =>
      some (Sum.inr (is_519, iadd .i64 s514.2 1))
  else
    some (Sum.inl s514.1)

noncomputable def law27_ProtocolLeading_l4 (s368 : Int × T_deliberationkeep_Src × T_api_Dialogue) (part373 : List Int) (legal398 : List T_api_Move) (turn400 : Int) (s470 : Int) (s504 : Int) : Option (Sum ((Sum (Bool) (Unit))) (Int)) :=
  bif decide (s504 < s368.2.2.Graph.N) then
    Option.bind (loopC (law27_ProtocolLeading_l5 legal398 turn400 s470 s504) (false, 0)) fun q520 : Bool =>
    Option.bind (protocol_Apply_m s368.2.2 (T_api_Move.mk turn400 2 s504 s470)) fun t522 =>
    joinM (fun j526 : Bool × Bool =>
        bif !q520 then
          letM (iadd .i64 s504 1) fun a_535 =>
          some (Sum.inr a_535)
        else
          Option.bind (protocol_Status_m t522.1) fun after530 =>
          bif (after530.length : Int) != (t522.1.Moves.length : Int) then
            some (Sum.inl (Sum.inl false))
          else
            Option.bind (idxM after530 s470) fun t532 =>
            bif t532 != 2 then
              some (Sum.inl (Sum.inl false))
            else
              Option.bind (idxM after530 (isub .i64 (after530.length : Int) 1)) fun t533 =>
              bif t533 != 1 then
                some (Sum.inl (Sum.inl false))
              else
                letM (iadd .i64 s504 1) fun a_536 =>
                some (Sum.inr a_536)) fun k528 =>
    bif !((t522.2 == 0) == q520) then
      some (Sum.inl (Sum.inl false))
    else
      bif q520 then
        Option.bind (keep_In_m part373 s470) fun t524 =>
        bif !t524 then
          some (Sum.inl (Sum.inl false))
        else
          bif (t522.1.Moves.length : Int) != (iadd .i64 (s368.2.2.Moves.length : Int) 1) then
            some (Sum.inl (Sum.inl false))
          else
            k528 (true, (t522.1.Moves.length : Int) != (iadd .i64 (s368.2.2.Moves.length : Int) 1))
      else
        k528 (false, false)
  else
    some (Sum.inl (Sum.inr ()))

noncomputable def law27_ProtocolLeading_l3 (s368 : Int × T_deliberationkeep_Src × T_api_Dialogue) (part373 : List Int) (legal398 : List T_api_Move) (turn400 : Int) (s470 : Int) : Option (Sum ((Sum (Bool) (Unit))) (Int)) :=
  bif decide (s470 < (s368.2.2.Moves.length : Int)) then
    Option.bind (loopC (law27_ProtocolLeading_l4 s368 part373 legal398 turn400 s470) 0) (sumK (fun a : Bool => some (Sum.inl (Sum.inl a))) fun q537 : Unit =>
      letM (iadd .i64 s470 1) fun t539 =>
      some (Sum.inr t539))
  else
    some (Sum.inl (Sum.inr ()))

noncomputable def law27_ProtocolLeading_l1  (s368 : Int × T_deliberationkeep_Src × T_api_Dialogue) : Option (Sum ((Sum (Bool) (Unit))) (Int × T_deliberationkeep_Src × T_api_Dialogue)) :=
  bif decide (s368.1 < 12) then
    Option.bind (protocol_Status_m s368.2.2) fun status371 =>
    Option.bind (protocol_Leading_m s368.2.2) fun part373 =>
    bif (status371.length : Int) != (s368.2.2.Moves.length : Int) then
      some (Sum.inl (Sum.inl false))
    else
      bif (part373.length : Int) == 0 then
        some (Sum.inl (Sum.inl false))
      else
        Option.bind (idxM part373 0) fun t375 =>
        bif t375 != 0 then
          some (Sum.inl (Sum.inl false))
        else
          joinM (fun j379 : Int =>
              Option.bind (loopC (law27_ProtocolLeading_l2 s368 status371 part373 j379) 0) (sumK (fun a : Bool => some (Sum.inl (Sum.inl a))) fun q396 : Unit =>
                Option.bind (protocol_Legal_m s368.2.2) fun legal398 =>
                Option.bind (protocol_Turn_m s368.2.2) fun turn400 =>
                Option.bind (loopC (law27_ProtocolLeading_l3 s368 part373 legal398 turn400) 0) (sumK (fun a : Bool => some (Sum.inl (Sum.inl a))) fun q540 : Unit =>
                  bif (legal398.length : Int) == 0 then
                    some (Sum.inl (Sum.inr ()))
                  else
                    Option.bind (keep_Src_N_m s368.2.1 (legal398.length : Int)) fun t544 =>
                    Option.bind (idxM legal398 t544.1) fun t545 =>
                    Option.bind (protocol_Apply_m s368.2.2 t545) fun t546 =>
                    bif t546.2 != 0 then
                      some (Sum.inl (Sum.inl false))
                    else
                      letM (iadd .i64 s368.1 1) fun i549 =>
                      some (Sum.inr (i549, t544.2, t546.1))))) fun k381 =>
          Option.bind (idxM status371 0) fun t377 =>
          bif t377 == 1 then
            k381 1
          else
            k381 2
  else
    some (Sum.inl (Sum.inr ()))

noncomputable def law27_ProtocolLeading_m (l_0 : (List Int)) : Option (Bool) :=
  Option.bind (keep_New_m l_0) fun s1 =>
  Option.bind (law27_begun_m s1 6) fun t3 =>
  Option.bind (loopC (law27_ProtocolLeading_l1) (0, t3.2, t3.1)) (sumK (fun a : Bool => some a) fun q550 : Unit =>
    Option.bind (law27_awake_m ) fun t552 =>
    some t552)

theorem law27_ProtocolLeading_ok {l_0 : (List Int)} {r : Bool} (hm : law27_ProtocolLeading_m l_0 = some r) :
    FnOk prog 6 [slv (rI .i64) l_0] [] (fun (x : Unit) => [bv r]) (fun (x : Unit) => []) := by
  refine fn_ok (X := Unit) (fn := Try.f6) (N := 197) (m := law27_ProtocolLeading_m l_0) (res := fun r x => [bv r]) (Ω1 := fun r x => []) Try.func6 rfl rfl hm rfl (fun E hM => ?_)
  unfold law27_ProtocolLeading_m
  refine ref_seq ?_
  refine ref_region ?_
  refine s_rd (r_assign rfl) rfl ?_
  refine l_nil ?_
  refine n_then ?_
  refine ref_seq ?_
  refine ref_region ?_
  refine s_rd (r_move rfl) rfl ?_
  refine pull fun s1 h_s1 => ?_
  refine s_st (s_call (ψ := fun (x2 : Nat) => pv (ptr x2 0)) (args := [.tmp 24]) Try.call7 rfl (keep_New_ok h_s1) ⟨arg rfl, trivial⟩ (fun _ _ _ _ h => h)) rfl (fun x2 => ?_)
  refine s_rd (r_assign rfl) rfl ?_
  refine l_nil ?_
  refine n_then ?_
  refine ref_seq ?_
  refine ref_region ?_
  refine s_rd (r_move rfl) rfl ?_
  refine pull fun t3 h_t3 => ?_
  refine s_st (s_callO (js := [0]) (os := fun (_ : Unit) => [oc x2 [slv (rI .i64) t3.2.L, iv .i64 t3.2.At]]) (ex := fun (_ : Unit) => []) (ψ := fun (_ : Unit) => ag [iv .i64 t3.1.Graph.N, slv rT_api_Pair t3.1.Graph.L, iv .i64 t3.1.Root, iv .i64 t3.1.Limits.i0, iv .i64 t3.1.Limits.i1, slv rT_api_Move t3.1.Moves]) (args := [.tmp 26, .const (.int .i64 (6))]) Try.call8 rfl (law27_begun_ok h_t3) ⟨rfl, trivial⟩ (fun _ => rfl) (fun _ => ⟨rfl, trivial⟩) ⟨arg rfl, arg rfl, trivial⟩ (fun _ _ _ _ h => h)) rfl (fun _ => ?_)
  refine s_st (s_alloc zt_31) rfl (fun b4 => ?_)
  refine s_st0 (s_cstore (out := [iv .i64 t3.1.Graph.N, slv rT_api_Pair t3.1.Graph.L, iv .i64 t3.1.Root, iv .i64 t3.1.Limits.i0, iv .i64 t3.1.Limits.i1, slv rT_api_Move t3.1.Moves]) Try.sizeOf31 rfl (j := 1) rfl (part_ag (ψs := [iv .i64 t3.1.Graph.N, slv rT_api_Pair t3.1.Graph.L, iv .i64 t3.1.Root, iv .i64 t3.1.Limits.i0, iv .i64 t3.1.Limits.i1, slv rT_api_Move t3.1.Moves]) rfl (by intro φ h; simp only [List.mem_cons, List.not_mem_nil, or_false] at h; rcases h with rfl | rfl | rfl | rfl | rfl | rfl <;> first | exact iv_at | exact bv_at | exact sv_at | exact slv_at | exact pv_at rfl)) rfl rfl rfl) (fun _ => ?_)
  refine l_nil ?_
  refine b_of (nrm [oc x2 [slv (rI .i64) t3.2.L, iv .i64 t3.2.At], oc b4 [iv .i64 t3.1.Graph.N, slv rT_api_Pair t3.1.Graph.L, iv .i64 t3.1.Root, iv .i64 t3.1.Limits.i0, iv .i64 t3.1.Limits.i1, slv rT_api_Move t3.1.Moves]] rfl) ?_
  refine n_then ?_
  refine ref_seq ?_
  refine ref_seq ?_
  refine ref_region ?_
  refine s_rd (r_assign rfl) rfl ?_
  refine l_nil ?_
  refine n_then ?_
  refine ref_loopX (f := (law27_ProtocolLeading_l1)) (Γl := (fun (s368 : Int × T_deliberationkeep_Src × T_api_Dialogue) (x369 : Unit) => [(3, pv (ptr x2 0)), (4, pv (ptr b4 0)), (5, iv .i64 s368.1)])) (Ωl := (fun (s368 : Int × T_deliberationkeep_Src × T_api_Dialogue) (x369 : Unit) => [oc x2 [slv (rI .i64) s368.2.1.L, iv .i64 s368.2.1.At], oc b4 [iv .i64 s368.2.2.Graph.N, slv rT_api_Pair s368.2.2.Graph.L, iv .i64 s368.2.2.Root, iv .i64 s368.2.2.Limits.i0, iv .i64 s368.2.2.Limits.i1, slv rT_api_Move s368.2.2.Moves]])) (Γb := (fun (q550 : Unit) (y551 : Unit) => [])) (Ωb := (fun (q550 : Unit) (y551 : Unit) => [])) (kr := (fun a : Bool => some a)) (0, t3.2, t3.1) () (weak [0, 1] ⟨rfl, rfl, rfl, trivial⟩ ⟨rfl, rfl, trivial⟩) (fun s368 x369 => ?_) (fun q550 y551 => ?_)
  · unfold law27_ProtocolLeading_l1
    refine ref_seq ?_
    refine ref_seq ?_
    refine ref_region ?_
    refine s_rd (r_move rfl) rfl ?_
    refine s_rd (r_lss rfl rfl) rfl ?_
    refine l_nil ?_
    refine n_then ?_
    refine ref_cond rfl (fun hb370 => ?_) (fun hb370 => ?_)
    · refine ref_skip ?_
      refine n_then ?_
      refine ref_seq ?_
      refine ref_block ?_
      refine ref_seq ?_
      refine ref_draw [0, 2] rfl (by kernel_rfl) (fun hok => ?_)
      refine a_rd (i := 0) hok rfl (by kernel_rfl) rfl (r_cloadS Try.isAgg31 Try.sizeOf31 rfl (j := 1) rfl rfl rfl) rfl ?_
      refine a_rd (i := 2) hok rfl (by kernel_rfl) rfl (r_cloadS Try.isAgg31 Try.sizeOf31 rfl (j := 1) rfl rfl rfl) rfl ?_
      refine pull fun status371 h_status371 => ?_
      refine a_next hok 1 [] (by kernel_rfl) ?_ trivial
      refine a_st (i := 1) hok rfl rfl (s_call (ψ := fun (x372 : (Value × List Nat)) => pv x372.1) (args := [.tmp 32]) Try.call14 rfl (protocol_Status_ok h_status371) ⟨arg rfl, trivial⟩ (fun _ _ _ _ h => h)) (by intro _ h; cases h; rfl) (fun _ => ⟨⟨⟨rfl, rfl⟩, trivial⟩, ⟨trivial, trivial⟩⟩) (fun x372 => ?_)
      refine pull fun part373 h_part373 => ?_
      refine a_next hok 3 [] (by kernel_rfl) ?_ trivial
      refine a_st (i := 3) hok rfl rfl (s_call (ψ := fun (x374 : (Value × List Nat)) => pv x374.1) (args := [.tmp 34]) Try.call26 rfl (protocol_Leading_ok h_part373) ⟨arg rfl, trivial⟩ (fun _ _ _ _ h => h)) (by intro _ h; cases h; rfl) (fun _ => ⟨trivial, ⟨⟨⟨rfl, rfl⟩, trivial⟩, trivial⟩⟩) (fun x374 => ?_)
      refine a_next hok 4 [] (by kernel_rfl) ?_ trivial
      refine a_st (i := 4) hok rfl rfl (St.ofRd (r_assign rfl)) (by intro _ h; cases h; rfl) (fun _ => ⟨⟨⟨rfl, rfl⟩, trivial⟩, ⟨trivial, trivial⟩⟩) (fun _ => ?_)
      refine a_next hok 5 [] (by kernel_rfl) ?_ trivial
      refine a_st (i := 5) hok rfl rfl (St.ofRd (r_assign rfl)) (by intro _ h; cases h; rfl) (fun _ => ⟨trivial, ⟨trivial, trivial⟩⟩) (fun _ => ?_)
      refine a_fin hok (by kernel_rfl) ?_
      refine b_of (nrm [oc x2 [slv (rI .i64) s368.2.1.L, iv .i64 s368.2.1.At], oc b4 [iv .i64 s368.2.2.Graph.N, slv rT_api_Pair s368.2.2.Graph.L, iv .i64 s368.2.2.Root, iv .i64 s368.2.2.Limits.i0, iv .i64 s368.2.2.Limits.i1, slv rT_api_Move s368.2.2.Moves], oa (rI .i64) x372.1 x372.2 status371, oa (rI .i64) x374.1 x374.2 part373] rfl) ?_
      refine n_then ?_
      refine ref_seq ?_
      refine ref_seq ?_
      refine ref_region ?_
      refine s_rd (r_move rfl) rfl ?_
      refine s_rd (r_olen Try.underlying22 rfl (j := 2) rfl) rfl ?_
      refine s_rd (r_faddr (fo := 5) Try.underlying31 rfl rfl Try.sizeOf29 rfl) rfl ?_
      refine s_rd (r_cload Try.isAgg29 rfl (j := 1) rfl rfl) rfl ?_
      refine s_rd (r_len Try.underlying29 rfl) rfl ?_
      refine s_rd (r_neq rfl rfl) rfl ?_
      refine s_rd (r_move rfl) rfl ?_
      refine b_split (t := 42) rfl (fun _ => ?_) (fun _ => ?_)
      · refine s_off rfl rfl rfl rfl rfl ?_
        refine s_off rfl rfl rfl rfl rfl ?_
        refine s_off rfl rfl rfl rfl rfl ?_
        refine s_rd (r_pickT rfl rfl) rfl ?_
        refine s_rd (r_move rfl) rfl ?_
        refine s_off rfl rfl rfl rfl rfl ?_
        refine s_off rfl rfl rfl rfl rfl ?_
        refine s_off rfl rfl rfl rfl rfl ?_
        refine s_off rfl rfl rfl rfl rfl ?_
        refine s_rd (r_pickT rfl rfl) rfl ?_
        refine l_nil ?_
        refine n_then ?_
        refine ref_condT rfl rfl ?_
        refine ref_seq ?_
        refine ref_region ?_
        refine s_rd (r_assign rfl) rfl ?_
        refine l_nil ?_
        refine n_then ?_
        refine ref_ret ?_
        refine r_then ?_
        refine r_block ?_
        refine r_then ?_
        refine retX ?_
        refine r_block ?_
        refine r_then ?_
        exact fin1 (.inl rfl) () [] rfl trivial rfl (rv_tmp rfl)
      · refine s_on rfl rfl rfl ?_
        refine s_rd (r_move rfl) rfl ?_
        refine s_on rfl rfl rfl ?_
        refine s_rd (r_olen Try.underlying22 rfl (j := 3) rfl) rfl ?_
        refine s_on rfl rfl rfl ?_
        refine s_rd (r_eql rfl rfl) rfl ?_
        refine s_rd (r_pickF rfl rfl) rfl ?_
        refine s_rd (r_move rfl) rfl ?_
        refine b_split (t := 47) rfl (fun _ => ?_) (fun _ => ?_)
        · refine s_off rfl rfl rfl rfl rfl ?_
          refine s_off rfl rfl rfl rfl rfl ?_
          refine s_off rfl rfl rfl rfl rfl ?_
          refine s_off rfl rfl rfl rfl rfl ?_
          refine s_rd (r_pickT rfl rfl) rfl ?_
          refine l_nil ?_
          refine n_then ?_
          refine ref_condT rfl rfl ?_
          refine ref_seq ?_
          refine ref_region ?_
          refine s_rd (r_assign rfl) rfl ?_
          refine l_nil ?_
          refine n_then ?_
          refine ref_ret ?_
          refine r_then ?_
          refine r_block ?_
          refine r_then ?_
          refine retX ?_
          refine r_block ?_
          refine r_then ?_
          exact fin1 (.inl rfl) () [] rfl trivial rfl (rv_tmp rfl)
        · refine s_on rfl rfl rfl ?_
          refine s_rd (r_move rfl) rfl ?_
          refine s_on rfl rfl rfl ?_
          refine pull fun t375 h_t375 => ?_
          refine s_rd (r_oindex h_t375 Try.underlying22 el_3 rfl (j := 3) rfl rfl) rfl ?_
          refine s_on rfl rfl rfl ?_
          refine s_rd (r_oload h_t375 el_3 rfl (j := 3) rfl) rfl ?_
          refine s_on rfl rfl rfl ?_
          refine s_rd (r_neq rfl rfl) rfl ?_
          refine s_rd (r_pickF rfl rfl) rfl ?_
          refine l_nil ?_
          refine n_then ?_
          refine ref_cond rfl (fun hb376 => ?_) (fun hb376 => ?_)
          · refine ref_seq ?_
            refine ref_region ?_
            refine s_rd (r_assign rfl) rfl ?_
            refine l_nil ?_
            refine n_then ?_
            refine ref_ret ?_
            refine r_then ?_
            refine r_block ?_
            refine r_then ?_
            refine retX ?_
            refine r_block ?_
            refine r_then ?_
            exact fin1 (.inl rfl) () [] rfl trivial rfl (rv_tmp rfl)
          · refine ref_skip ?_
            refine n_then ?_
            refine ref_seq ?_
            refine ref_region ?_
            refine s_rd (r_assign rfl) rfl ?_
            refine l_nil ?_
            refine n_then ?_
            refine ref_seq ?_
            refine ref_join (fun (j379 : Int) (x380 : Unit) => [(3, pv (ptr x2 0)), (4, pv (ptr b4 0)), (5, iv .i64 s368.1), (6, pv x372.1), (7, pv x374.1), (8, iv .i64 j379), (43, pv x374.1), (44, iv .i64 (part373.length : Int)), (45, bv ((part373.length : Int) == 0)), (48, pv x374.1), (50, iv .i64 t375), (51, bv (t375 != 0))]) (fun (j379 : Int) (x380 : Unit) => [oc x2 [slv (rI .i64) s368.2.1.L, iv .i64 s368.2.1.At], oc b4 [iv .i64 s368.2.2.Graph.N, slv rT_api_Pair s368.2.2.Graph.L, iv .i64 s368.2.2.Root, iv .i64 s368.2.2.Limits.i0, iv .i64 s368.2.2.Limits.i1, slv rT_api_Move s368.2.2.Moves], oa (rI .i64) x372.1 x372.2 status371, oa (rI .i64) x374.1 x374.2 part373]) (fun k381 hk381 => ?_) (fun j379 x380 => ?_)
            · refine ref_seq ?_
              refine ref_region ?_
              refine s_rd (r_move rfl) rfl ?_
              refine pull fun t377 h_t377 => ?_
              refine s_rd (r_oindex h_t377 Try.underlying22 el_3 rfl (j := 2) rfl rfl) rfl ?_
              refine s_rd (r_oload h_t377 el_3 rfl (j := 2) rfl) rfl ?_
              refine s_rd (r_eql rfl rfl) rfl ?_
              refine l_nil ?_
              refine n_then ?_
              refine ref_cond rfl (fun hb378 => ?_) (fun hb378 => ?_)
              · refine ref_region ?_
                refine s_rd (r_assign rfl) rfl ?_
                refine l_nil ?_
                exact b_to (hk381 1 ()) (weak [0, 1, 2, 3] ⟨rfl, rfl, rfl, rfl, rfl, rfl, rfl, rfl, rfl, rfl, rfl, rfl, trivial⟩ ⟨rfl, rfl, rfl, rfl, trivial⟩)
              · refine ref_skip ?_
                exact b_to (hk381 2 ()) (weak [0, 1, 2, 3] ⟨rfl, rfl, rfl, rfl, rfl, rfl, rfl, rfl, rfl, rfl, rfl, rfl, trivial⟩ ⟨rfl, rfl, rfl, rfl, trivial⟩)
            · refine n_then ?_
              refine ref_seq ?_
              refine ref_seq ?_
              refine ref_region ?_
              refine s_rd (r_move rfl) rfl ?_
              refine s_rd (r_olen Try.underlying22 rfl (j := 3) rfl) rfl ?_
              refine s_rd (r_move rfl) rfl ?_
              refine l_nil ?_
              refine n_then ?_
              refine ref_loopX (f := (law27_ProtocolLeading_l2 s368 status371 part373 j379)) (Γl := (fun (s389 : Int) (x390 : Unit) => [(3, pv (ptr x2 0)), (4, pv (ptr b4 0)), (5, iv .i64 s368.1), (6, pv x372.1), (7, pv x374.1), (8, iv .i64 j379), (43, pv x374.1), (44, iv .i64 (part373.length : Int)), (45, bv ((part373.length : Int) == 0)), (48, pv x374.1), (50, iv .i64 t375), (51, bv (t375 != 0)), (57, pv x374.1), (58, iv .i64 (part373.length : Int)), (59, iv .i64 s389)])) (Ωl := (fun (s389 : Int) (x390 : Unit) => [oc x2 [slv (rI .i64) s368.2.1.L, iv .i64 s368.2.1.At], oc b4 [iv .i64 s368.2.2.Graph.N, slv rT_api_Pair s368.2.2.Graph.L, iv .i64 s368.2.2.Root, iv .i64 s368.2.2.Limits.i0, iv .i64 s368.2.2.Limits.i1, slv rT_api_Move s368.2.2.Moves], oa (rI .i64) x372.1 x372.2 status371, oa (rI .i64) x374.1 x374.2 part373])) (Γb := (fun (q396 : Unit) (y397 : Unit) => [(3, pv (ptr x2 0)), (4, pv (ptr b4 0)), (5, iv .i64 s368.1), (7, pv x374.1), (43, pv x374.1), (44, iv .i64 (part373.length : Int)), (45, bv ((part373.length : Int) == 0)), (48, pv x374.1), (50, iv .i64 t375), (51, bv (t375 != 0))])) (Ωb := (fun (q396 : Unit) (y397 : Unit) => [oc x2 [slv (rI .i64) s368.2.1.L, iv .i64 s368.2.1.At], oc b4 [iv .i64 s368.2.2.Graph.N, slv rT_api_Pair s368.2.2.Graph.L, iv .i64 s368.2.2.Root, iv .i64 s368.2.2.Limits.i0, iv .i64 s368.2.2.Limits.i1, slv rT_api_Move s368.2.2.Moves], oa (rI .i64) x374.1 x374.2 part373])) (kr := (fun a : Bool => some (Sum.inl (Sum.inl a)))) 0 () (weak [0, 1, 2, 3] ⟨rfl, rfl, rfl, rfl, rfl, rfl, rfl, rfl, rfl, rfl, rfl, rfl, rfl, rfl, rfl, trivial⟩ ⟨rfl, rfl, rfl, rfl, trivial⟩) (fun s389 x390 => ?_) (fun q396 y397 => ?_)
              · unfold law27_ProtocolLeading_l2
                refine ref_seq ?_
                refine ref_region ?_
                refine s_rd (r_lss rfl rfl) rfl ?_
                refine l_nil ?_
                refine n_then ?_
                refine ref_seq ?_
                refine ref_cond rfl (fun hb391 => ?_) (fun hb391 => ?_)
                · refine ref_skip ?_
                  refine n_then ?_
                  refine ref_seq ?_
                  refine ref_block ?_
                  refine ref_seq ?_
                  refine ref_region ?_
                  refine pull fun k392 h_k392 => ?_
                  refine s_rd (r_oindex h_k392 Try.underlying22 el_3 rfl (j := 3) rfl rfl) rfl ?_
                  refine s_rd (r_oload h_k392 el_3 rfl (j := 3) rfl) rfl ?_
                  refine s_rd (r_assign rfl) rfl ?_
                  refine l_nil ?_
                  refine n_then ?_
                  refine ref_seq ?_
                  refine ref_draw [0, 1, 2, 3, 4, 5, 6, 7, 8, 9, 10, 11, 12, 13, 14, 15, 16, 17, 18, 19, 20, 21, 22, 23] rfl (by kernel_rfl) (fun hok => ?_)
                  refine a_rd (i := 0) hok rfl (by kernel_rfl) rfl (r_move rfl) rfl ?_
                  refine a_rd (i := 1) hok rfl (by kernel_rfl) rfl (r_lss rfl rfl) rfl ?_
                  refine a_rd (i := 2) hok rfl (by kernel_rfl) rfl (r_move rfl) rfl ?_
                  refine b_split (t := 65) rfl (fun _ => ?_) (fun _ => ?_)
                  · refine a_off (i := 3) hok rfl rfl rfl rfl rfl (by kernel_rfl) rfl rfl ?_
                    refine a_off (i := 4) hok rfl rfl rfl rfl rfl (by kernel_rfl) rfl rfl ?_
                    refine a_off (i := 5) hok rfl rfl rfl rfl rfl (by kernel_rfl) rfl rfl ?_
                    refine a_off (i := 6) hok rfl rfl rfl rfl rfl (by kernel_rfl) rfl rfl ?_
                    refine a_rd (i := 7) hok rfl (by kernel_rfl) rfl (r_pickT rfl rfl) rfl ?_
                    refine a_rd (i := 8) hok rfl (by kernel_rfl) rfl (r_move rfl) rfl ?_
                    refine a_off (i := 9) hok rfl rfl rfl rfl rfl (by kernel_rfl) rfl rfl ?_
                    refine a_off (i := 10) hok rfl rfl rfl rfl rfl (by kernel_rfl) rfl rfl ?_
                    refine a_off (i := 11) hok rfl rfl rfl rfl rfl (by kernel_rfl) rfl rfl ?_
                    refine a_off (i := 12) hok rfl rfl rfl rfl rfl (by kernel_rfl) rfl rfl ?_
                    refine a_off (i := 13) hok rfl rfl rfl rfl rfl (by kernel_rfl) rfl rfl ?_
                    refine a_off (i := 14) hok rfl rfl rfl rfl rfl (by kernel_rfl) rfl rfl ?_
                    refine a_off (i := 15) hok rfl rfl rfl rfl rfl (by kernel_rfl) rfl rfl ?_
                    refine a_off (i := 16) hok rfl rfl rfl rfl rfl (by kernel_rfl) rfl rfl ?_
                    refine a_off (i := 17) hok rfl rfl rfl rfl rfl (by kernel_rfl) rfl rfl ?_
                    refine a_off (i := 18) hok rfl rfl rfl rfl rfl (by kernel_rfl) rfl rfl ?_
                    refine a_off (i := 19) hok rfl rfl rfl rfl rfl (by kernel_rfl) rfl rfl ?_
                    refine a_off (i := 20) hok rfl rfl rfl rfl rfl (by kernel_rfl) rfl rfl ?_
                    refine a_off (i := 21) hok rfl rfl rfl rfl rfl (by kernel_rfl) rfl rfl ?_
                    refine a_off (i := 22) hok rfl rfl rfl rfl rfl (by kernel_rfl) rfl rfl ?_
                    refine a_rd (i := 23) hok rfl (by kernel_rfl) rfl (r_pickT rfl rfl) rfl ?_
                    refine a_fin hok (by kernel_rfl) ?_
                    refine n_then ?_
                    refine ref_condT rfl rfl ?_
                    refine ref_seq ?_
                    refine ref_region ?_
                    refine s_rd (r_assign rfl) rfl ?_
                    refine l_nil ?_
                    refine n_then ?_
                    refine ref_ret ?_
                    refine r_block ?_
                    refine r_then ?_
                    refine retX ?_
                    refine r_block ?_
                    refine r_then ?_
                    refine r_block ?_
                    refine r_then ?_
                    refine retX ?_
                    refine r_block ?_
                    refine r_then ?_
                    exact fin1 (.inl rfl) () [] rfl trivial rfl (rv_tmp rfl)
                  · refine a_rdOn (i := 3) hok rfl rfl rfl rfl (by kernel_rfl) rfl (r_move rfl) rfl ?_
                    refine a_rdOn (i := 4) hok rfl rfl rfl rfl (by kernel_rfl) rfl (r_move rfl) rfl ?_
                    refine a_rdOn (i := 5) hok rfl rfl rfl rfl (by kernel_rfl) rfl (r_olen Try.underlying22 rfl (j := 2) rfl) rfl ?_
                    refine a_rdOn (i := 6) hok rfl rfl rfl rfl (by kernel_rfl) rfl (r_geq rfl rfl) rfl ?_
                    refine a_rd (i := 7) hok rfl (by kernel_rfl) rfl (r_pickF rfl rfl) rfl ?_
                    refine a_rd (i := 8) hok rfl (by kernel_rfl) rfl (r_move rfl) rfl ?_
                    refine b_split (t := 71) rfl (fun _ => ?_) (fun _ => ?_)
                    · refine a_off (i := 9) hok rfl rfl rfl rfl rfl (by kernel_rfl) rfl rfl ?_
                      refine a_off (i := 10) hok rfl rfl rfl rfl rfl (by kernel_rfl) rfl rfl ?_
                      refine a_off (i := 11) hok rfl rfl rfl rfl rfl (by kernel_rfl) rfl rfl ?_
                      refine a_off (i := 12) hok rfl rfl rfl rfl rfl (by kernel_rfl) rfl rfl ?_
                      refine a_off (i := 13) hok rfl rfl rfl rfl rfl (by kernel_rfl) rfl rfl ?_
                      refine a_off (i := 14) hok rfl rfl rfl rfl rfl (by kernel_rfl) rfl rfl ?_
                      refine a_off (i := 15) hok rfl rfl rfl rfl rfl (by kernel_rfl) rfl rfl ?_
                      refine a_off (i := 16) hok rfl rfl rfl rfl rfl (by kernel_rfl) rfl rfl ?_
                      refine a_off (i := 17) hok rfl rfl rfl rfl rfl (by kernel_rfl) rfl rfl ?_
                      refine a_off (i := 18) hok rfl rfl rfl rfl rfl (by kernel_rfl) rfl rfl ?_
                      refine a_off (i := 19) hok rfl rfl rfl rfl rfl (by kernel_rfl) rfl rfl ?_
                      refine a_off (i := 20) hok rfl rfl rfl rfl rfl (by kernel_rfl) rfl rfl ?_
                      refine a_off (i := 21) hok rfl rfl rfl rfl rfl (by kernel_rfl) rfl rfl ?_
                      refine a_off (i := 22) hok rfl rfl rfl rfl rfl (by kernel_rfl) rfl rfl ?_
                      refine a_rd (i := 23) hok rfl (by kernel_rfl) rfl (r_pickT rfl rfl) rfl ?_
                      refine a_fin hok (by kernel_rfl) ?_
                      refine n_then ?_
                      refine ref_condT rfl rfl ?_
                      refine ref_seq ?_
                      refine ref_region ?_
                      refine s_rd (r_assign rfl) rfl ?_
                      refine l_nil ?_
                      refine n_then ?_
                      refine ref_ret ?_
                      refine r_block ?_
                      refine r_then ?_
                      refine retX ?_
                      refine r_block ?_
                      refine r_then ?_
                      refine r_block ?_
                      refine r_then ?_
                      refine retX ?_
                      refine r_block ?_
                      refine r_then ?_
                      exact fin1 (.inl rfl) () [] rfl trivial rfl (rv_tmp rfl)
                    · refine a_rdOn (i := 9) hok rfl rfl rfl rfl (by kernel_rfl) rfl (r_faddr (fo := 5) Try.underlying31 rfl rfl Try.sizeOf29 rfl) rfl ?_
                      refine a_rdOn (i := 10) hok rfl rfl rfl rfl (by kernel_rfl) rfl (r_cload Try.isAgg29 rfl (j := 1) rfl rfl) rfl ?_
                      refine a_rdOn (i := 11) hok rfl rfl rfl rfl (by kernel_rfl) rfl (r_move rfl) rfl ?_
                      refine pull fun t393 h_t393 => ?_
                      refine a_rdOn (i := 12) hok rfl rfl rfl rfl (by kernel_rfl) rfl (r_index h_t393 Try.underlying29 el_38 rfl rfl) rfl ?_
                      refine a_rdOn (i := 13) hok rfl rfl rfl rfl (by kernel_rfl) rfl (r_fea (fo := 0) (ρ := rT_api_Move) (y := t393) (ρ' := (rI .i64)) (z := t393.By) Try.underlying38 rfl rfl Try.sizeOf3 rfl rfl rfl) rfl ?_
                      refine a_rdOn (i := 14) hok rfl rfl rfl rfl (by kernel_rfl) rfl (r_load el_3 rfl) rfl ?_
                      refine a_rdOn (i := 15) hok rfl rfl rfl rfl (by kernel_rfl) rfl (r_move rfl) rfl ?_
                      refine a_rdOn (i := 16) hok rfl rfl rfl rfl (by kernel_rfl) rfl (r_eql rfl rfl) rfl ?_
                      refine a_rdOn (i := 17) hok rfl rfl rfl rfl (by kernel_rfl) rfl (r_move rfl) rfl ?_
                      refine a_rdOn (i := 18) hok rfl rfl rfl rfl (by kernel_rfl) rfl (r_move rfl) rfl ?_
                      refine pull fun t394 h_t394 => ?_
                      refine a_rdOn (i := 19) hok rfl rfl rfl rfl (by kernel_rfl) rfl (r_oindex h_t394 Try.underlying22 el_3 rfl (j := 2) rfl rfl) rfl ?_
                      refine a_rdOn (i := 20) hok rfl rfl rfl rfl (by kernel_rfl) rfl (r_oload h_t394 el_3 rfl (j := 2) rfl) rfl ?_
                      refine a_rdOn (i := 21) hok rfl rfl rfl rfl (by kernel_rfl) rfl (r_eql rfl rfl) rfl ?_
                      refine a_rdOn (i := 22) hok rfl rfl rfl rfl (by kernel_rfl) rfl (r_bneq Try.underlying4 rfl rfl) rfl ?_
                      refine a_rd (i := 23) hok rfl (by kernel_rfl) rfl (r_pickF rfl rfl) rfl ?_
                      refine a_fin hok (by kernel_rfl) ?_
                      refine n_then ?_
                      refine ref_cond rfl (fun hb395 => ?_) (fun hb395 => ?_)
                      · refine ref_seq ?_
                        refine ref_region ?_
                        refine s_rd (r_assign rfl) rfl ?_
                        refine l_nil ?_
                        refine n_then ?_
                        refine ref_ret ?_
                        refine r_block ?_
                        refine r_then ?_
                        refine retX ?_
                        refine r_block ?_
                        refine r_then ?_
                        refine r_block ?_
                        refine r_then ?_
                        refine retX ?_
                        refine r_block ?_
                        refine r_then ?_
                        exact fin1 (.inl rfl) () [] rfl trivial rfl (rv_tmp rfl)
                      · refine ref_skip ?_
                        refine n_block ?_
                        refine n_then ?_
                        refine ref_region ?_
                        refine s_rd (r_add rfl rfl) rfl ?_
                        refine s_rd (r_move rfl) rfl ?_
                        refine l_nil ?_
                        exact goX () (weak [0, 1, 2, 3] ⟨rfl, rfl, rfl, rfl, rfl, rfl, rfl, rfl, rfl, rfl, rfl, rfl, rfl, rfl, rfl, trivial⟩ ⟨rfl, rfl, rfl, rfl, trivial⟩)
                · refine ref_exit ?_
                  refine x_then ?_
                  exact brkX () (weak [0, 1, 3] ⟨rfl, rfl, rfl, rfl, rfl, rfl, rfl, rfl, rfl, rfl, trivial⟩ ⟨rfl, rfl, rfl, trivial⟩)
              · refine n_then ?_
                refine ref_seq ?_
                refine ref_region ?_
                refine s_rd (r_cloadS Try.isAgg31 Try.sizeOf31 rfl (j := 1) rfl rfl rfl) rfl ?_
                refine pull fun legal398 h_legal398 => ?_
                refine s_st (s_call (ψ := fun (x399 : (Value × List Nat)) => pv x399.1) (args := [.tmp 88]) Try.call25 rfl (protocol_Legal_ok h_legal398) ⟨arg rfl, trivial⟩ (fun _ _ _ _ h => h)) rfl (fun x399 => ?_)
                refine s_rd (r_assign rfl) rfl ?_
                refine l_nil ?_
                refine n_then ?_
                refine ref_seq ?_
                refine ref_region ?_
                refine s_rd (r_cloadS Try.isAgg31 Try.sizeOf31 rfl (j := 1) rfl rfl rfl) rfl ?_
                refine pull fun turn400 h_turn400 => ?_
                refine s_st (s_call (ψ := fun (_ : Unit) => iv .i64 turn400) (args := [.tmp 90]) Try.call23 rfl (protocol_Turn_ok h_turn400) ⟨arg rfl, trivial⟩ (fun _ _ _ _ h => h)) rfl (fun _ => ?_)
                refine s_rd (r_assign rfl) rfl ?_
                refine l_nil ?_
                refine n_then ?_
                refine ref_seq ?_
                refine ref_seq ?_
                refine ref_region ?_
                refine s_rd (r_assign rfl) rfl ?_
                refine l_nil ?_
                refine n_then ?_
                refine ref_loopX (f := (law27_ProtocolLeading_l3 s368 part373 legal398 turn400)) (Γl := (fun (s470 : Int) (x471 : Unit) => [(3, pv (ptr x2 0)), (4, pv (ptr b4 0)), (5, iv .i64 s368.1), (7, pv x374.1), (11, pv x399.1), (12, iv .i64 turn400), (13, iv .i64 s470), (43, pv x374.1), (44, iv .i64 (part373.length : Int)), (45, bv ((part373.length : Int) == 0)), (48, pv x374.1), (50, iv .i64 t375), (51, bv (t375 != 0))])) (Ωl := (fun (s470 : Int) (x471 : Unit) => [oc x2 [slv (rI .i64) s368.2.1.L, iv .i64 s368.2.1.At], oc b4 [iv .i64 s368.2.2.Graph.N, slv rT_api_Pair s368.2.2.Graph.L, iv .i64 s368.2.2.Root, iv .i64 s368.2.2.Limits.i0, iv .i64 s368.2.2.Limits.i1, slv rT_api_Move s368.2.2.Moves], oa (rI .i64) x374.1 x374.2 part373, oa rT_api_Move x399.1 x399.2 legal398])) (Γb := (fun (q540 : Unit) (y541 : Unit) => [(3, pv (ptr x2 0)), (4, pv (ptr b4 0)), (5, iv .i64 s368.1), (11, pv x399.1), (43, pv x374.1), (44, iv .i64 (part373.length : Int)), (45, bv ((part373.length : Int) == 0)), (48, pv x374.1), (50, iv .i64 t375), (51, bv (t375 != 0))])) (Ωb := (fun (q540 : Unit) (y541 : Unit) => [oc x2 [slv (rI .i64) s368.2.1.L, iv .i64 s368.2.1.At], oc b4 [iv .i64 s368.2.2.Graph.N, slv rT_api_Pair s368.2.2.Graph.L, iv .i64 s368.2.2.Root, iv .i64 s368.2.2.Limits.i0, iv .i64 s368.2.2.Limits.i1, slv rT_api_Move s368.2.2.Moves], oa rT_api_Move x399.1 x399.2 legal398, oa (rI .i64) x374.1 x374.2 part373])) (kr := (fun a : Bool => some (Sum.inl (Sum.inl a)))) 0 () (weak [0, 1, 2, 3] ⟨rfl, rfl, rfl, rfl, rfl, rfl, rfl, rfl, rfl, rfl, rfl, rfl, rfl, trivial⟩ ⟨rfl, rfl, rfl, rfl, trivial⟩) (fun s470 x471 => ?_) (fun q540 y541 => ?_)
                · unfold law27_ProtocolLeading_l3
                  refine ref_seq ?_
                  refine ref_seq ?_
                  refine ref_region ?_
                  refine s_rd (r_move rfl) rfl ?_
                  refine s_rd (r_faddr (fo := 5) Try.underlying31 rfl rfl Try.sizeOf29 rfl) rfl ?_
                  refine s_rd (r_cload Try.isAgg29 rfl (j := 1) rfl rfl) rfl ?_
                  refine s_rd (r_len Try.underlying29 rfl) rfl ?_
                  refine s_rd (r_lss rfl rfl) rfl ?_
                  refine l_nil ?_
                  refine n_then ?_
                  refine ref_cond rfl (fun hb472 => ?_) (fun hb472 => ?_)
                  · refine ref_skip ?_
                    refine n_then ?_
                    refine ref_seq ?_
                    refine ref_block ?_
                    refine ref_seq ?_
                    refine ref_region ?_
                    refine s_rd (r_assign rfl) rfl ?_
                    refine l_nil ?_
                    refine n_then ?_
                    refine ref_loopX (f := (law27_ProtocolLeading_l4 s368 part373 legal398 turn400 s470)) (Γl := (fun (s504 : Int) (x505 : Unit) => [(3, pv (ptr x2 0)), (4, pv (ptr b4 0)), (5, iv .i64 s368.1), (7, pv x374.1), (11, pv x399.1), (12, iv .i64 turn400), (13, iv .i64 s470), (14, iv .i64 s504), (43, pv x374.1), (44, iv .i64 (part373.length : Int)), (45, bv ((part373.length : Int) == 0)), (48, pv x374.1), (50, iv .i64 t375), (51, bv (t375 != 0))])) (Ωl := (fun (s504 : Int) (x505 : Unit) => [oc x2 [slv (rI .i64) s368.2.1.L, iv .i64 s368.2.1.At], oc b4 [iv .i64 s368.2.2.Graph.N, slv rT_api_Pair s368.2.2.Graph.L, iv .i64 s368.2.2.Root, iv .i64 s368.2.2.Limits.i0, iv .i64 s368.2.2.Limits.i1, slv rT_api_Move s368.2.2.Moves], oa (rI .i64) x374.1 x374.2 part373, oa rT_api_Move x399.1 x399.2 legal398])) (Γb := (fun (q537 : Unit) (y538 : Unit) => [(3, pv (ptr x2 0)), (4, pv (ptr b4 0)), (5, iv .i64 s368.1), (7, pv x374.1), (11, pv x399.1), (12, iv .i64 turn400), (13, iv .i64 s470), (43, pv x374.1), (44, iv .i64 (part373.length : Int)), (45, bv ((part373.length : Int) == 0)), (48, pv x374.1), (50, iv .i64 t375), (51, bv (t375 != 0))])) (Ωb := (fun (q537 : Unit) (y538 : Unit) => [oc x2 [slv (rI .i64) s368.2.1.L, iv .i64 s368.2.1.At], oc b4 [iv .i64 s368.2.2.Graph.N, slv rT_api_Pair s368.2.2.Graph.L, iv .i64 s368.2.2.Root, iv .i64 s368.2.2.Limits.i0, iv .i64 s368.2.2.Limits.i1, slv rT_api_Move s368.2.2.Moves], oa (rI .i64) x374.1 x374.2 part373, oa rT_api_Move x399.1 x399.2 legal398])) (kr := (fun a : Bool => some (Sum.inl (Sum.inl a)))) 0 () (weak [0, 1, 2, 3] ⟨rfl, rfl, rfl, rfl, rfl, rfl, rfl, rfl, rfl, rfl, rfl, rfl, rfl, rfl, trivial⟩ ⟨rfl, rfl, rfl, rfl, trivial⟩) (fun s504 x505 => ?_) (fun q537 y538 => ?_)
                    · unfold law27_ProtocolLeading_l4
                      refine ref_seq ?_
                      refine ref_seq ?_
                      refine ref_region ?_
                      refine s_rd (r_move rfl) rfl ?_
                      refine s_rd (r_faddr (fo := 0) Try.underlying31 rfl rfl Try.sizeOf27 rfl) rfl ?_
                      refine s_rd (r_faddr (fo := 0) Try.underlying27 rfl rfl Try.sizeOf3 rfl) rfl ?_
                      refine s_rd (r_cload Try.isAgg3 rfl (j := 1) rfl rfl) rfl ?_
                      refine s_rd (r_lss rfl rfl) rfl ?_
                      refine l_nil ?_
                      refine n_then ?_
                      refine ref_cond rfl (fun hb506 => ?_) (fun hb506 => ?_)
                      · refine ref_skip ?_
                        refine n_then ?_
                        refine ref_seq ?_
                        refine ref_block ?_
                        refine ref_seq ?_
                        refine ref_region ?_
                        refine s_rd (r_move rfl) rfl ?_
                        refine s_rd (r_move rfl) rfl ?_
                        refine s_rd (r_move rfl) rfl ?_
                        refine s_rd (r_build (ps := [(0, .tmp 106), (1, .const (.int .i64 (2))), (2, .tmp 107), (3, .tmp 108)]) (rs := [(0, [iv .i64 turn400]), (1, [iv .i64 2]), (2, [iv .i64 s504]), (3, [iv .i64 s470])]) st_38 zs_38 ⟨rfl, (part_at rfl iv_at), ⟨rfl, (part_at rfl iv_at), ⟨rfl, (part_at rfl iv_at), ⟨rfl, (part_at rfl iv_at), trivial⟩⟩⟩⟩ rfl rfl) rfl ?_
                        refine s_st (s_alloc zt_38) rfl (fun b507 => ?_)
                        refine s_st0 (s_cstore (out := [iv .i64 turn400, iv .i64 2, iv .i64 s504, iv .i64 s470]) Try.sizeOf38 rfl (j := 4) rfl (part_ag (ψs := [iv .i64 turn400, iv .i64 2, iv .i64 s504, iv .i64 s470]) rfl (by intro φ h; simp only [List.mem_cons, List.not_mem_nil, or_false] at h; rcases h with rfl | rfl | rfl | rfl <;> first | exact iv_at | exact bv_at | exact sv_at | exact slv_at | exact pv_at rfl)) rfl rfl rfl) (fun _ => ?_)
                        refine l_nil ?_
                        refine b_of (nrm [oc x2 [slv (rI .i64) s368.2.1.L, iv .i64 s368.2.1.At], oc b4 [iv .i64 s368.2.2.Graph.N, slv rT_api_Pair s368.2.2.Graph.L, iv .i64 s368.2.2.Root, iv .i64 s368.2.2.Limits.i0, iv .i64 s368.2.2.Limits.i1, slv rT_api_Move s368.2.2.Moves], oa (rI .i64) x374.1 x374.2 part373, oa rT_api_Move x399.1 x399.2 legal398, oc b507 [iv .i64 turn400, iv .i64 2, iv .i64 s504, iv .i64 s470]] rfl) ?_
                        refine n_then ?_
                        refine ref_seq ?_
                        refine ref_region ?_
                        refine s_rd (r_assign rfl) rfl ?_
                        refine l_nil ?_
                        refine n_then ?_
                        refine ref_seq ?_
                        refine ref_seq ?_
                        refine ref_region ?_
                        refine s_rd (r_move rfl) rfl ?_
                        refine s_rd (r_olen Try.underlying29 rfl (j := 3) rfl) rfl ?_
                        refine s_rd (r_move rfl) rfl ?_
                        refine l_nil ?_
                        refine n_then ?_
                        refine ref_loopB (f := (law27_ProtocolLeading_l5 legal398 turn400 s470 s504)) (Γl := (fun (s514 : Bool × Int) (x515 : Unit) => [(3, pv (ptr x2 0)), (4, pv (ptr b4 0)), (5, iv .i64 s368.1), (7, pv x374.1), (11, pv x399.1), (12, iv .i64 turn400), (13, iv .i64 s470), (14, iv .i64 s504), (15, pv (ptr b507 0)), (16, bv s514.1), (43, pv x374.1), (44, iv .i64 (part373.length : Int)), (45, bv ((part373.length : Int) == 0)), (48, pv x374.1), (50, iv .i64 t375), (51, bv (t375 != 0)), (110, pv x399.1), (111, iv .i64 (legal398.length : Int)), (112, iv .i64 s514.2)])) (Ωl := (fun (s514 : Bool × Int) (x515 : Unit) => [oc x2 [slv (rI .i64) s368.2.1.L, iv .i64 s368.2.1.At], oc b4 [iv .i64 s368.2.2.Graph.N, slv rT_api_Pair s368.2.2.Graph.L, iv .i64 s368.2.2.Root, iv .i64 s368.2.2.Limits.i0, iv .i64 s368.2.2.Limits.i1, slv rT_api_Move s368.2.2.Moves], oa (rI .i64) x374.1 x374.2 part373, oa rT_api_Move x399.1 x399.2 legal398, oc b507 [iv .i64 turn400, iv .i64 2, iv .i64 s504, iv .i64 s470]])) (Γb := (fun (q520 : Bool) (y521 : Unit) => [(3, pv (ptr x2 0)), (4, pv (ptr b4 0)), (5, iv .i64 s368.1), (7, pv x374.1), (11, pv x399.1), (12, iv .i64 turn400), (13, iv .i64 s470), (14, iv .i64 s504), (15, pv (ptr b507 0)), (16, bv q520), (43, pv x374.1), (44, iv .i64 (part373.length : Int)), (45, bv ((part373.length : Int) == 0)), (48, pv x374.1), (50, iv .i64 t375), (51, bv (t375 != 0))])) (Ωb := (fun (q520 : Bool) (y521 : Unit) => [oc x2 [slv (rI .i64) s368.2.1.L, iv .i64 s368.2.1.At], oc b4 [iv .i64 s368.2.2.Graph.N, slv rT_api_Pair s368.2.2.Graph.L, iv .i64 s368.2.2.Root, iv .i64 s368.2.2.Limits.i0, iv .i64 s368.2.2.Limits.i1, slv rT_api_Move s368.2.2.Moves], oa (rI .i64) x374.1 x374.2 part373, oa rT_api_Move x399.1 x399.2 legal398, oc b507 [iv .i64 turn400, iv .i64 2, iv .i64 s504, iv .i64 s470]])) (false, 0) () (weak [0, 1, 2, 3, 4] ⟨rfl, rfl, rfl, rfl, rfl, rfl, rfl, rfl, rfl, rfl, rfl, rfl, rfl, rfl, rfl, rfl, rfl, rfl, rfl, trivial⟩ ⟨rfl, rfl, rfl, rfl, rfl, trivial⟩) (fun s514 x515 => ?_) (fun q520 y521 => ?_)
                        · unfold law27_ProtocolLeading_l5
                          refine ref_seq ?_
                          refine ref_region ?_
                          refine s_rd (r_lss rfl rfl) rfl ?_
                          refine l_nil ?_
                          refine n_then ?_
                          refine ref_seq ?_
                          refine ref_cond rfl (fun hb516 => ?_) (fun hb516 => ?_)
                          · refine ref_skip ?_
                            refine n_then ?_
                            refine ref_seq ?_
                            refine ref_block ?_
                            refine ref_seq ?_
                            refine ref_region ?_
                            refine pull fun t517 h_t517 => ?_
                            refine s_rd (r_oindex h_t517 Try.underlying29 el_38 rfl (j := 3) rfl rfl) rfl ?_
                            refine s_rd (r_oload h_t517 el_38 rfl (j := 3) rfl) rfl ?_
                            refine s_st (s_alloc zt_38) rfl (fun b518 => ?_)
                            refine s_st0 (s_cstore (out := [iv .i64 t517.By, iv .i64 t517.Kind, iv .i64 t517.Node, iv .i64 t517.Target]) Try.sizeOf38 rfl (j := 5) rfl (part_ag (ψs := [iv .i64 t517.By, iv .i64 t517.Kind, iv .i64 t517.Node, iv .i64 t517.Target]) rfl (by intro φ h; simp only [List.mem_cons, List.not_mem_nil, or_false] at h; rcases h with rfl | rfl | rfl | rfl <;> first | exact iv_at | exact bv_at | exact sv_at | exact slv_at | exact pv_at rfl)) rfl rfl rfl) (fun _ => ?_)
                            refine l_nil ?_
                            refine n_then ?_
                            refine ref_region ?_
                            refine s_rd (r_move rfl) rfl ?_
                            refine s_rd (r_move rfl) rfl ?_
                            refine b_split (t := 117) rfl (fun _ => ?_) (fun _ => ?_)
                            · refine s_off rfl rfl rfl rfl rfl ?_
                              refine s_off rfl rfl rfl rfl rfl ?_
                              refine s_off rfl rfl rfl rfl rfl ?_
                              refine s_rd (r_pickT rfl rfl) rfl ?_
                              refine s_rd (r_assign rfl) rfl ?_
                              refine l_nil ?_
                              refine n_block ?_
                              refine n_then ?_
                              refine ref_region ?_
                              refine s_rd (r_add rfl rfl) rfl ?_
                              refine s_rd (r_move rfl) rfl ?_
                              refine l_nil ?_
                              exact goB () (weak [0, 1, 2, 3, 4] ⟨rfl, rfl, rfl, rfl, rfl, rfl, rfl, rfl, rfl, rfl, rfl, rfl, rfl, rfl, rfl, rfl, rfl, rfl, rfl, trivial⟩ ⟨rfl, rfl, rfl, rfl, rfl, trivial⟩)
                            · refine s_on rfl rfl rfl ?_
                              refine s_rd (r_cloadS Try.isAgg38 Try.sizeOf38 rfl (j := 5) rfl rfl rfl) rfl ?_
                              refine s_on rfl rfl rfl ?_
                              refine s_rd (r_cloadS Try.isAgg38 Try.sizeOf38 rfl (j := 4) rfl rfl rfl) rfl ?_
                              refine s_on rfl rfl rfl ?_
                              refine s_rd (r_steql (u := t517) (v := (T_api_Move.mk turn400 2 s504 s470)) eq_38 rfl rfl rfl rfl) rfl ?_
                              refine s_rd (r_pickF rfl rfl) rfl ?_
                              refine s_rd (r_assign rfl) rfl ?_
                              refine b_let (f := bv) (t := 16) rfl fun is_519 => ?_
                              refine l_nil ?_
                              refine n_block ?_
                              refine n_then ?_
                              refine ref_region ?_
                              refine s_rd (r_add rfl rfl) rfl ?_
                              refine s_rd (r_move rfl) rfl ?_
                              refine l_nil ?_
                              exact goB () (weak [0, 1, 2, 3, 4] ⟨rfl, rfl, rfl, rfl, rfl, rfl, rfl, rfl, rfl, rfl, rfl, rfl, rfl, rfl, rfl, rfl, rfl, rfl, rfl, trivial⟩ ⟨rfl, rfl, rfl, rfl, rfl, trivial⟩)
                          · refine ref_exit ?_
                            refine x_then ?_
                            exact brkB () (weak [0, 1, 2, 3, 4] ⟨rfl, rfl, rfl, rfl, rfl, rfl, rfl, rfl, rfl, rfl, rfl, rfl, rfl, rfl, rfl, rfl, trivial⟩ ⟨rfl, rfl, rfl, rfl, rfl, trivial⟩)
                        · refine n_then ?_
                          refine ref_seq ?_
                          refine ref_region ?_
                          refine s_rd (r_cloadS Try.isAgg31 Try.sizeOf31 rfl (j := 1) rfl rfl rfl) rfl ?_
                          refine s_rd (r_cloadS Try.isAgg38 Try.sizeOf38 rfl (j := 4) rfl rfl rfl) rfl ?_
                          refine pull fun t522 h_t522 => ?_
                          refine s_st (s_call (ψ := fun (_ : Unit) => tup [ag [iv .i64 t522.1.Graph.N, slv rT_api_Pair t522.1.Graph.L, iv .i64 t522.1.Root, iv .i64 t522.1.Limits.i0, iv .i64 t522.1.Limits.i1, slv rT_api_Move t522.1.Moves], iv .i64 t522.2]) (args := [.tmp 124, .tmp 125]) Try.call13 rfl (protocol_Apply_ok h_t522) ⟨arg rfl, arg rfl, trivial⟩ (fun _ _ _ _ h => h)) rfl (fun _ => ?_)
                          refine s_rd (r_move rfl) rfl ?_
                          refine s_rd (r_extract rfl rfl) rfl ?_
                          refine s_rd (r_extract rfl rfl) rfl ?_
                          refine s_st (s_alloc zt_31) rfl (fun b523 => ?_)
                          refine s_st0 (s_cstore (out := [iv .i64 t522.1.Graph.N, slv rT_api_Pair t522.1.Graph.L, iv .i64 t522.1.Root, iv .i64 t522.1.Limits.i0, iv .i64 t522.1.Limits.i1, slv rT_api_Move t522.1.Moves]) Try.sizeOf31 rfl (j := 5) rfl (part_ag (ψs := [iv .i64 t522.1.Graph.N, slv rT_api_Pair t522.1.Graph.L, iv .i64 t522.1.Root, iv .i64 t522.1.Limits.i0, iv .i64 t522.1.Limits.i1, slv rT_api_Move t522.1.Moves]) rfl (by intro φ h; simp only [List.mem_cons, List.not_mem_nil, or_false] at h; rcases h with rfl | rfl | rfl | rfl | rfl | rfl <;> first | exact iv_at | exact bv_at | exact sv_at | exact slv_at | exact pv_at rfl)) rfl rfl rfl) (fun _ => ?_)
                          refine s_rd (r_assign rfl) rfl ?_
                          refine l_nil ?_
                          refine n_then ?_
                          refine ref_seq ?_
                          refine ref_join (fun (j526 : Bool × Bool) (x527 : Unit) => [(3, pv (ptr x2 0)), (4, pv (ptr b4 0)), (5, iv .i64 s368.1), (7, pv x374.1), (11, pv x399.1), (12, iv .i64 turn400), (13, iv .i64 s470), (14, iv .i64 s504), (16, bv q520), (19, pv (ptr b523 0)), (43, pv x374.1), (44, iv .i64 (part373.length : Int)), (45, bv ((part373.length : Int) == 0)), (48, pv x374.1), (50, iv .i64 t375), (51, bv (t375 != 0)), (134, bv q520), (135, bv j526.1), (150, bv j526.2)]) (fun (j526 : Bool × Bool) (x527 : Unit) => [oc x2 [slv (rI .i64) s368.2.1.L, iv .i64 s368.2.1.At], oc b4 [iv .i64 s368.2.2.Graph.N, slv rT_api_Pair s368.2.2.Graph.L, iv .i64 s368.2.2.Root, iv .i64 s368.2.2.Limits.i0, iv .i64 s368.2.2.Limits.i1, slv rT_api_Move s368.2.2.Moves], oa (rI .i64) x374.1 x374.2 part373, oa rT_api_Move x399.1 x399.2 legal398, oc b523 [iv .i64 t522.1.Graph.N, slv rT_api_Pair t522.1.Graph.L, iv .i64 t522.1.Root, iv .i64 t522.1.Limits.i0, iv .i64 t522.1.Limits.i1, slv rT_api_Move t522.1.Moves]]) (fun k528 hk528 => ?_) (fun j526 x527 => ?_)
                          · refine ref_seq ?_
                            refine ref_region ?_
                            refine s_rd (r_move rfl) rfl ?_
                            refine s_rd (r_eql rfl rfl) rfl ?_
                            refine s_rd (r_move rfl) rfl ?_
                            refine s_rd (r_bneq Try.underlying4 rfl rfl) rfl ?_
                            refine s_rd (r_move rfl) rfl ?_
                            refine b_split (t := 133) rfl (fun _ => ?_) (fun _ => ?_)
                            · refine s_off rfl rfl rfl rfl rfl ?_
                              refine s_off rfl rfl rfl rfl rfl ?_
                              refine s_offU rfl rfl rfl ?_
                              refine s_offU rfl rfl rfl ?_
                              refine s_offU rfl rfl rfl ?_
                              refine s_offU rfl rfl rfl ?_
                              refine s_offU rfl rfl rfl ?_
                              refine s_offU rfl rfl rfl ?_
                              refine s_offU rfl rfl rfl ?_
                              refine s_offU rfl rfl rfl ?_
                              refine s_offU rfl rfl rfl ?_
                              refine s_offU rfl rfl rfl ?_
                              refine s_offU rfl rfl rfl ?_
                              refine s_offU rfl rfl rfl ?_
                              refine s_offU rfl rfl rfl ?_
                              refine s_offU rfl rfl rfl ?_
                              refine s_off rfl rfl rfl rfl rfl ?_
                              refine s_rd (r_pickT rfl rfl) rfl ?_
                              refine l_nil ?_
                              refine n_then ?_
                              refine ref_condT rfl rfl ?_
                              refine ref_seq ?_
                              refine ref_region ?_
                              refine s_rd (r_assign rfl) rfl ?_
                              refine l_nil ?_
                              refine n_then ?_
                              refine ref_ret ?_
                              refine r_then ?_
                              refine r_block ?_
                              refine r_then ?_
                              refine retX ?_
                              refine r_block ?_
                              refine r_block ?_
                              refine r_then ?_
                              refine retX ?_
                              refine r_block ?_
                              refine r_then ?_
                              refine r_block ?_
                              refine r_then ?_
                              refine retX ?_
                              refine r_block ?_
                              refine r_then ?_
                              exact fin1 (.inl rfl) () [] rfl trivial rfl (rv_tmp rfl)
                            · refine s_on rfl rfl rfl ?_
                              refine s_rd (r_move rfl) rfl ?_
                              refine s_on rfl rfl rfl ?_
                              refine s_rd (r_move rfl) rfl ?_
                              refine b_split (t := 135) rfl (fun _ => ?_) (fun _ => ?_)
                              · refine s_on rfl rfl rfl ?_
                                refine s_rd (r_move rfl) rfl ?_
                                refine s_on rfl rfl rfl ?_
                                refine s_rd (r_move rfl) rfl ?_
                                refine s_on rfl rfl rfl ?_
                                refine pull fun t524 h_t524 => ?_
                                refine s_st (s_callB (ψ := fun (_ : Unit) => bv t524) (args := [.tmp 136, .tmp 137]) Try.call27 rfl (keep_In_ok h_t524) ⟨argO rfl (j := 2) rfl, argB rfl, trivial⟩ (fun _ _ _ _ _ h => h)) rfl (fun _ => ?_)
                                refine s_on rfl rfl rfl ?_
                                refine s_rd (r_not rfl) rfl ?_
                                refine s_on rfl rfl rfl ?_
                                refine s_rd (r_move rfl) rfl ?_
                                refine b_split (t := 140) rfl (fun _ => ?_) (fun _ => ?_)
                                · refine s_off rfl rfl rfl rfl rfl ?_
                                  refine s_off rfl rfl rfl rfl rfl ?_
                                  refine s_off rfl rfl rfl rfl rfl ?_
                                  refine s_off rfl rfl rfl rfl rfl ?_
                                  refine s_off rfl rfl rfl rfl rfl ?_
                                  refine s_off rfl rfl rfl rfl rfl ?_
                                  refine s_off rfl rfl rfl rfl rfl ?_
                                  refine s_off rfl rfl rfl rfl rfl ?_
                                  refine s_on rfl rfl rfl ?_
                                  refine s_rd (r_pickT rfl rfl) rfl ?_
                                  refine s_on rfl rfl rfl ?_
                                  refine s_rd (r_pickT rfl rfl) rfl ?_
                                  refine s_rd (r_pickF rfl rfl) rfl ?_
                                  refine l_nil ?_
                                  refine b_of (nrm [oc x2 [slv (rI .i64) s368.2.1.L, iv .i64 s368.2.1.At], oc b4 [iv .i64 s368.2.2.Graph.N, slv rT_api_Pair s368.2.2.Graph.L, iv .i64 s368.2.2.Root, iv .i64 s368.2.2.Limits.i0, iv .i64 s368.2.2.Limits.i1, slv rT_api_Move s368.2.2.Moves], oa (rI .i64) x374.1 x374.2 part373, oa rT_api_Move x399.1 x399.2 legal398, oc b507 [iv .i64 turn400, iv .i64 2, iv .i64 s504, iv .i64 s470], oc b523 [iv .i64 t522.1.Graph.N, slv rT_api_Pair t522.1.Graph.L, iv .i64 t522.1.Root, iv .i64 t522.1.Limits.i0, iv .i64 t522.1.Limits.i1, slv rT_api_Move t522.1.Moves]] rfl) ?_
                                  refine n_then ?_
                                  refine ref_condT rfl rfl ?_
                                  refine ref_seq ?_
                                  refine ref_region ?_
                                  refine s_rd (r_assign rfl) rfl ?_
                                  refine l_nil ?_
                                  refine n_then ?_
                                  refine ref_ret ?_
                                  refine r_then ?_
                                  refine r_block ?_
                                  refine r_then ?_
                                  refine retX ?_
                                  refine r_block ?_
                                  refine r_block ?_
                                  refine r_then ?_
                                  refine retX ?_
                                  refine r_block ?_
                                  refine r_then ?_
                                  refine r_block ?_
                                  refine r_then ?_
                                  refine retX ?_
                                  refine r_block ?_
                                  refine r_then ?_
                                  exact fin1 (.inl rfl) () [] rfl trivial rfl (rv_tmp rfl)
                                · refine s_on rfl rfl rfl ?_
                                  refine s_rd (r_faddr (fo := 5) Try.underlying31 rfl rfl Try.sizeOf29 rfl) rfl ?_
                                  refine s_on rfl rfl rfl ?_
                                  refine s_rd (r_cload Try.isAgg29 rfl (j := 5) rfl rfl) rfl ?_
                                  refine s_on rfl rfl rfl ?_
                                  refine s_rd (r_len Try.underlying29 rfl) rfl ?_
                                  refine s_on rfl rfl rfl ?_
                                  refine s_rd (r_faddr (fo := 5) Try.underlying31 rfl rfl Try.sizeOf29 rfl) rfl ?_
                                  refine s_on rfl rfl rfl ?_
                                  refine s_rd (r_cload Try.isAgg29 rfl (j := 1) rfl rfl) rfl ?_
                                  refine s_on rfl rfl rfl ?_
                                  refine s_rd (r_len Try.underlying29 rfl) rfl ?_
                                  refine s_on rfl rfl rfl ?_
                                  refine s_rd (r_add rfl rfl) rfl ?_
                                  refine s_on rfl rfl rfl ?_
                                  refine s_rd (r_neq rfl rfl) rfl ?_
                                  refine s_on rfl rfl rfl ?_
                                  refine s_rd (r_pickF rfl rfl) rfl ?_
                                  refine s_on rfl rfl rfl ?_
                                  refine s_rd (r_pickT rfl rfl) rfl ?_
                                  refine s_rd (r_pickF rfl rfl) rfl ?_
                                  refine l_nil ?_
                                  refine b_of (nrm [oc x2 [slv (rI .i64) s368.2.1.L, iv .i64 s368.2.1.At], oc b4 [iv .i64 s368.2.2.Graph.N, slv rT_api_Pair s368.2.2.Graph.L, iv .i64 s368.2.2.Root, iv .i64 s368.2.2.Limits.i0, iv .i64 s368.2.2.Limits.i1, slv rT_api_Move s368.2.2.Moves], oa (rI .i64) x374.1 x374.2 part373, oa rT_api_Move x399.1 x399.2 legal398, oc b507 [iv .i64 turn400, iv .i64 2, iv .i64 s504, iv .i64 s470], oc b523 [iv .i64 t522.1.Graph.N, slv rT_api_Pair t522.1.Graph.L, iv .i64 t522.1.Root, iv .i64 t522.1.Limits.i0, iv .i64 t522.1.Limits.i1, slv rT_api_Move t522.1.Moves]] rfl) ?_
                                  refine n_then ?_
                                  refine ref_cond rfl (fun hb525 => ?_) (fun hb525 => ?_)
                                  · refine ref_seq ?_
                                    refine ref_region ?_
                                    refine s_rd (r_assign rfl) rfl ?_
                                    refine l_nil ?_
                                    refine n_then ?_
                                    refine ref_ret ?_
                                    refine r_then ?_
                                    refine r_block ?_
                                    refine r_then ?_
                                    refine retX ?_
                                    refine r_block ?_
                                    refine r_block ?_
                                    refine r_then ?_
                                    refine retX ?_
                                    refine r_block ?_
                                    refine r_then ?_
                                    refine r_block ?_
                                    refine r_then ?_
                                    refine retX ?_
                                    refine r_block ?_
                                    refine r_then ?_
                                    exact fin1 (.inl rfl) () [] rfl trivial rfl (rv_tmp rfl)
                                  · refine ref_skip ?_
                                    exact b_to (hk528 (true, (t522.1.Moves.length : Int) != (iadd .i64 (s368.2.2.Moves.length : Int) 1)) ()) (weak [0, 1, 2, 3, 5] ⟨rfl, rfl, rfl, rfl, rfl, rfl, rfl, rfl, rfl, rfl, rfl, rfl, rfl, rfl, rfl, rfl, rfl, rfl, rfl, trivial⟩ ⟨rfl, rfl, rfl, rfl, rfl, trivial⟩)
                              · refine s_off rfl rfl rfl rfl rfl ?_
                                refine s_off rfl rfl rfl rfl rfl ?_
                                refine s_off rfl rfl rfl rfl rfl ?_
                                refine s_off rfl rfl rfl rfl rfl ?_
                                refine s_off rfl rfl rfl rfl rfl ?_
                                refine s_offU rfl rfl rfl ?_
                                refine s_offU rfl rfl rfl ?_
                                refine s_offU rfl rfl rfl ?_
                                refine s_offU rfl rfl rfl ?_
                                refine s_offU rfl rfl rfl ?_
                                refine s_offU rfl rfl rfl ?_
                                refine s_offU rfl rfl rfl ?_
                                refine s_offU rfl rfl rfl ?_
                                refine s_off rfl rfl rfl rfl rfl ?_
                                refine s_on rfl rfl rfl ?_
                                refine s_rd (r_pickF rfl rfl) rfl ?_
                                refine s_rd (r_pickF rfl rfl) rfl ?_
                                refine l_nil ?_
                                refine n_then ?_
                                refine ref_condF rfl rfl ?_
                                refine ref_skip ?_
                                exact b_to (hk528 (false, false) ()) (weak [0, 1, 2, 3, 5] ⟨rfl, rfl, rfl, rfl, rfl, rfl, rfl, rfl, rfl, rfl, rfl, rfl, rfl, rfl, rfl, rfl, rfl, rfl, rfl, trivial⟩ ⟨rfl, rfl, rfl, rfl, rfl, trivial⟩)
                          · refine n_then ?_
                            refine ref_seq ?_
                            refine ref_seq ?_
                            refine ref_region ?_
                            refine s_rd (r_move rfl) rfl ?_
                            refine s_rd (r_not rfl) rfl ?_
                            refine l_nil ?_
                            refine n_then ?_
                            refine ref_cond rfl (fun hb529 => ?_) (fun hb529 => ?_)
                            · refine ref_exit ?_
                              refine x_then ?_
                              refine x_eq ?_
                              refine n_then ?_
                              refine ref_region ?_
                              refine s_rd (r_move rfl) rfl ?_
                              refine s_rd (r_add rfl rfl) rfl ?_
                              refine s_rd (r_assign rfl) rfl ?_
                              refine b_let (f := iv .i64) (t := 14) rfl fun a_535 => ?_
                              refine l_nil ?_
                              exact goX () (weak [0, 1, 2, 3] ⟨rfl, rfl, rfl, rfl, rfl, rfl, rfl, rfl, rfl, rfl, rfl, rfl, rfl, rfl, trivial⟩ ⟨rfl, rfl, rfl, rfl, trivial⟩)
                            · refine ref_skip ?_
                              refine n_then ?_
                              refine ref_seq ?_
                              refine ref_region ?_
                              refine s_rd (r_cloadS Try.isAgg31 Try.sizeOf31 rfl (j := 4) rfl rfl rfl) rfl ?_
                              refine pull fun after530 h_after530 => ?_
                              refine s_st (s_call (ψ := fun (x531 : (Value × List Nat)) => pv x531.1) (args := [.tmp 154]) Try.call14 rfl (protocol_Status_ok h_after530) ⟨arg rfl, trivial⟩ (fun _ _ _ _ h => h)) rfl (fun x531 => ?_)
                              refine s_rd (r_assign rfl) rfl ?_
                              refine l_nil ?_
                              refine n_then ?_
                              refine ref_seq ?_
                              refine ref_region ?_
                              refine s_rd (r_move rfl) rfl ?_
                              refine s_rd (r_olen Try.underlying22 rfl (j := 5) rfl) rfl ?_
                              refine s_rd (r_faddr (fo := 5) Try.underlying31 rfl rfl Try.sizeOf29 rfl) rfl ?_
                              refine s_rd (r_cload Try.isAgg29 rfl (j := 4) rfl rfl) rfl ?_
                              refine s_rd (r_len Try.underlying29 rfl) rfl ?_
                              refine s_rd (r_neq rfl rfl) rfl ?_
                              refine s_rd (r_move rfl) rfl ?_
                              refine b_split (t := 162) rfl (fun _ => ?_) (fun _ => ?_)
                              · refine s_off rfl rfl rfl rfl rfl ?_
                                refine s_off rfl rfl rfl rfl rfl ?_
                                refine s_off rfl rfl rfl rfl rfl ?_
                                refine s_off rfl rfl rfl rfl rfl ?_
                                refine s_off rfl rfl rfl rfl rfl ?_
                                refine s_rd (r_pickT rfl rfl) rfl ?_
                                refine s_rd (r_move rfl) rfl ?_
                                refine s_off rfl rfl rfl rfl rfl ?_
                                refine s_off rfl rfl rfl rfl rfl ?_
                                refine s_off rfl rfl rfl rfl rfl ?_
                                refine s_off rfl rfl rfl rfl rfl ?_
                                refine s_off rfl rfl rfl rfl rfl ?_
                                refine s_off rfl rfl rfl rfl rfl ?_
                                refine s_off rfl rfl rfl rfl rfl ?_
                                refine s_rd (r_pickT rfl rfl) rfl ?_
                                refine l_nil ?_
                                refine n_then ?_
                                refine ref_condT rfl rfl ?_
                                refine ref_seq ?_
                                refine ref_region ?_
                                refine s_rd (r_assign rfl) rfl ?_
                                refine l_nil ?_
                                refine n_then ?_
                                refine ref_ret ?_
                                refine r_block ?_
                                refine r_then ?_
                                refine retX ?_
                                refine r_block ?_
                                refine r_block ?_
                                refine r_then ?_
                                refine retX ?_
                                refine r_block ?_
                                refine r_then ?_
                                refine r_block ?_
                                refine r_then ?_
                                refine retX ?_
                                refine r_block ?_
                                refine r_then ?_
                                exact fin1 (.inl rfl) () [] rfl trivial rfl (rv_tmp rfl)
                              · refine s_on rfl rfl rfl ?_
                                refine s_rd (r_move rfl) rfl ?_
                                refine s_on rfl rfl rfl ?_
                                refine s_rd (r_move rfl) rfl ?_
                                refine s_on rfl rfl rfl ?_
                                refine pull fun t532 h_t532 => ?_
                                refine s_rd (r_oindex h_t532 Try.underlying22 el_3 rfl (j := 5) rfl rfl) rfl ?_
                                refine s_on rfl rfl rfl ?_
                                refine s_rd (r_oload h_t532 el_3 rfl (j := 5) rfl) rfl ?_
                                refine s_on rfl rfl rfl ?_
                                refine s_rd (r_neq rfl rfl) rfl ?_
                                refine s_rd (r_pickF rfl rfl) rfl ?_
                                refine s_rd (r_move rfl) rfl ?_
                                refine b_split (t := 169) rfl (fun _ => ?_) (fun _ => ?_)
                                · refine s_off rfl rfl rfl rfl rfl ?_
                                  refine s_off rfl rfl rfl rfl rfl ?_
                                  refine s_off rfl rfl rfl rfl rfl ?_
                                  refine s_off rfl rfl rfl rfl rfl ?_
                                  refine s_off rfl rfl rfl rfl rfl ?_
                                  refine s_off rfl rfl rfl rfl rfl ?_
                                  refine s_off rfl rfl rfl rfl rfl ?_
                                  refine s_rd (r_pickT rfl rfl) rfl ?_
                                  refine l_nil ?_
                                  refine n_then ?_
                                  refine ref_condT rfl rfl ?_
                                  refine ref_seq ?_
                                  refine ref_region ?_
                                  refine s_rd (r_assign rfl) rfl ?_
                                  refine l_nil ?_
                                  refine n_then ?_
                                  refine ref_ret ?_
                                  refine r_block ?_
                                  refine r_then ?_
                                  refine retX ?_
                                  refine r_block ?_
                                  refine r_block ?_
                                  refine r_then ?_
                                  refine retX ?_
                                  refine r_block ?_
                                  refine r_then ?_
                                  refine r_block ?_
                                  refine r_then ?_
                                  refine retX ?_
                                  refine r_block ?_
                                  refine r_then ?_
                                  exact fin1 (.inl rfl) () [] rfl trivial rfl (rv_tmp rfl)
                                · refine s_on rfl rfl rfl ?_
                                  refine s_rd (r_move rfl) rfl ?_
                                  refine s_on rfl rfl rfl ?_
                                  refine s_rd (r_move rfl) rfl ?_
                                  refine s_on rfl rfl rfl ?_
                                  refine s_rd (r_olen Try.underlying22 rfl (j := 5) rfl) rfl ?_
                                  refine s_on rfl rfl rfl ?_
                                  refine s_rd (r_sub rfl rfl) rfl ?_
                                  refine s_on rfl rfl rfl ?_
                                  refine pull fun t533 h_t533 => ?_
                                  refine s_rd (r_oindex h_t533 Try.underlying22 el_3 rfl (j := 5) rfl rfl) rfl ?_
                                  refine s_on rfl rfl rfl ?_
                                  refine s_rd (r_oload h_t533 el_3 rfl (j := 5) rfl) rfl ?_
                                  refine s_on rfl rfl rfl ?_
                                  refine s_rd (r_neq rfl rfl) rfl ?_
                                  refine s_rd (r_pickF rfl rfl) rfl ?_
                                  refine l_nil ?_
                                  refine n_then ?_
                                  refine ref_cond rfl (fun hb534 => ?_) (fun hb534 => ?_)
                                  · refine ref_seq ?_
                                    refine ref_region ?_
                                    refine s_rd (r_assign rfl) rfl ?_
                                    refine l_nil ?_
                                    refine n_then ?_
                                    refine ref_ret ?_
                                    refine r_block ?_
                                    refine r_then ?_
                                    refine retX ?_
                                    refine r_block ?_
                                    refine r_block ?_
                                    refine r_then ?_
                                    refine retX ?_
                                    refine r_block ?_
                                    refine r_then ?_
                                    refine r_block ?_
                                    refine r_then ?_
                                    refine retX ?_
                                    refine r_block ?_
                                    refine r_then ?_
                                    exact fin1 (.inl rfl) () [] rfl trivial rfl (rv_tmp rfl)
                                  · refine ref_skip ?_
                                    refine n_block ?_
                                    refine n_then ?_
                                    refine ref_region ?_
                                    refine s_rd (r_move rfl) rfl ?_
                                    refine s_rd (r_add rfl rfl) rfl ?_
                                    refine s_rd (r_assign rfl) rfl ?_
                                    refine b_let (f := iv .i64) (t := 14) rfl fun a_536 => ?_
                                    refine l_nil ?_
                                    exact goX () (weak [0, 1, 2, 3] ⟨rfl, rfl, rfl, rfl, rfl, rfl, rfl, rfl, rfl, rfl, rfl, rfl, rfl, rfl, trivial⟩ ⟨rfl, rfl, rfl, rfl, trivial⟩)
                      · refine ref_exit ?_
                        refine x_then ?_
                        exact brkX () (weak [0, 1, 2, 3] ⟨rfl, rfl, rfl, rfl, rfl, rfl, rfl, rfl, rfl, rfl, rfl, rfl, rfl, trivial⟩ ⟨rfl, rfl, rfl, rfl, trivial⟩)
                    · refine n_block ?_
                      refine n_then ?_
                      refine ref_region ?_
                      refine s_rd (r_move rfl) rfl ?_
                      refine s_rd (r_add rfl rfl) rfl ?_
                      refine s_rd (r_assign rfl) rfl ?_
                      refine b_let (f := iv .i64) (t := 13) rfl fun t539 => ?_
                      refine l_nil ?_
                      exact goX () (weak [0, 1, 2, 3] ⟨rfl, rfl, rfl, rfl, rfl, rfl, rfl, rfl, rfl, rfl, rfl, rfl, rfl, trivial⟩ ⟨rfl, rfl, rfl, rfl, trivial⟩)
                  · refine ref_exit ?_
                    refine x_then ?_
                    exact brkX () (weak [0, 1, 3, 2] ⟨rfl, rfl, rfl, rfl, rfl, rfl, rfl, rfl, rfl, rfl, trivial⟩ ⟨rfl, rfl, rfl, rfl, trivial⟩)
                · refine n_then ?_
                  refine ref_seq ?_
                  refine ref_seq ?_
                  refine ref_region ?_
                  refine s_rd (r_move rfl) rfl ?_
                  refine s_rd (r_olen Try.underlying29 rfl (j := 2) rfl) rfl ?_
                  refine s_rd (r_eql rfl rfl) rfl ?_
                  refine l_nil ?_
                  refine n_then ?_
                  refine ref_cond rfl (fun hb542 => ?_) (fun hb542 => ?_)
                  · refine ref_exit ?_
                    refine x_then ?_
                    refine x_ne rfl ?_
                    refine x_then ?_
                    exact brkX () (weak [] trivial trivial)
                  · refine ref_skip ?_
                    refine n_then ?_
                    refine ref_seq ?_
                    refine pull fun t544 h_t544 => ?_
                    refine pull fun t545 h_t545 => ?_
                    refine pull fun t546 h_t546 => ?_
                    refine ref_drawI 1 [⟨[], [], [], [1], [], fun us u => ag [iv .i64 s368.2.2.Graph.N, slv rT_api_Pair s368.2.2.Graph.L, iv .i64 s368.2.2.Root, iv .i64 s368.2.2.Limits.i0, iv .i64 s368.2.2.Limits.i1, slv rT_api_Move s368.2.2.Moves], fun us u => []⟩, ⟨[], [], [], [], [], fun us u => pv x399.1, fun us u => []⟩, ⟨[], [], [], [], [], fun us u => pv (ptr x2 0), fun us u => []⟩, ⟨[], [], [], [], [], fun us u => pv x399.1, fun us u => []⟩, ⟨[3], [], [], [2], [], fun us u => iv .i64 (legal398.length : Int), fun us u => []⟩, ⟨[2, 3, 4], [], [0], [0], [0], fun us u => iv .i64 t544.1, fun us u => [oc x2 [slv (rI .i64) t544.2.L, iv .i64 t544.2.At]]⟩, ⟨[1, 2, 3, 4, 5], [], [], [2], [], fun us u => pv (elA x399.1 (rT_api_Move).size t544.1), fun us u => []⟩, ⟨[1, 2, 3, 4, 5, 6], [], [], [2], [], fun us u => ag [iv .i64 t545.By, iv .i64 t545.Kind, iv .i64 t545.Node, iv .i64 t545.Target], fun us u => []⟩, ⟨[0, 1, 2, 3, 4, 5, 6, 7], [], [], [], [], fun us u => tup [ag [iv .i64 t546.1.Graph.N, slv rT_api_Pair t546.1.Graph.L, iv .i64 t546.1.Root, iv .i64 t546.1.Limits.i0, iv .i64 t546.1.Limits.i1, slv rT_api_Move t546.1.Moves], iv .i64 t546.2], fun us u => []⟩, ⟨[0, 1, 2, 3, 4, 5, 6, 7, 8], [], [], [], [], fun us u => tup [ag [iv .i64 t546.1.Graph.N, slv rT_api_Pair t546.1.Graph.L, iv .i64 t546.1.Root, iv .i64 t546.1.Limits.i0, iv .i64 t546.1.Limits.i1, slv rT_api_Move t546.1.Moves], iv .i64 t546.2], fun us u => []⟩, ⟨[0, 1, 2, 3, 4, 5, 6, 7, 8, 9], [], [], [], [], fun us u => ag [iv .i64 t546.1.Graph.N, slv rT_api_Pair t546.1.Graph.L, iv .i64 t546.1.Root, iv .i64 t546.1.Limits.i0, iv .i64 t546.1.Limits.i1, slv rT_api_Move t546.1.Moves], fun us u => []⟩, ⟨[0, 1, 2, 3, 4, 5, 6, 7, 8, 9], [], [], [], [], fun us u => iv .i64 t546.2, fun us u => []⟩, ⟨[], [], [4], [4], [], fun us u => pv (ptr u.Nn 0), fun us u => [oc u.Nn [iv .i64 0, pv (.slice none 0 0), iv .i64 0, iv .i64 0, iv .i64 0, pv (.slice none 0 0)]]⟩, ⟨[0, 1, 2, 3, 4, 5, 6, 7, 8, 9, 10, 12], [12], [4], [4], [4], fun us u => pv undef, fun us u => [oc (us.getD 0 .none).Nn [iv .i64 t546.1.Graph.N, slv rT_api_Pair t546.1.Graph.L, iv .i64 t546.1.Root, iv .i64 t546.1.Limits.i0, iv .i64 t546.1.Limits.i1, slv rT_api_Move t546.1.Moves]]⟩, ⟨[0, 1, 2, 3, 4, 5, 6, 7, 8, 9, 10, 11, 12, 13], [], [], [], [], fun us u => iv .i64 t546.2, fun us u => []⟩] (fun χ543 => [(3, pv (ptr x2 0)), (4, pv (ptr b4 0)), (5, iv .i64 s368.1), (22, pv (ptr (χ543 12).Nn 0)), (23, iv .i64 t546.2), (43, pv x374.1), (44, iv .i64 (part373.length : Int)), (45, bv ((part373.length : Int) == 0)), (48, pv x374.1), (50, iv .i64 t375), (51, bv (t375 != 0))]) (fun χ543 => [oc x2 [slv (rI .i64) t544.2.L, iv .i64 t544.2.At], oc b4 [iv .i64 s368.2.2.Graph.N, slv rT_api_Pair s368.2.2.Graph.L, iv .i64 s368.2.2.Root, iv .i64 s368.2.2.Limits.i0, iv .i64 s368.2.2.Limits.i1, slv rT_api_Move s368.2.2.Moves], oa rT_api_Move x399.1 x399.2 legal398, oa (rI .i64) x374.1 x374.2 part373, oc (χ543 12).Nn [iv .i64 t546.1.Graph.N, slv rT_api_Pair t546.1.Graph.L, iv .i64 t546.1.Root, iv .i64 t546.1.Limits.i0, iv .i64 t546.1.Limits.i1, slv rT_api_Move t546.1.Moves]]) rfl (by kernel_rfl) ⟨fun χ543 Ω ⟨h1, _⟩ => St.toR (r_cloadS Try.isAgg31 Try.sizeOf31 rfl (j := 1) h1 rfl rfl) (fun _ => rfl) (fun _ => rfl), (by intro _ h; cases h; rfl), ⟨fun χ543 Ω _ => St.toR (r_move rfl) (fun _ => rfl) (fun _ => rfl), (by intro _ h; cases h; rfl), ⟨fun χ543 Ω _ => St.toR (r_move rfl) (fun _ => rfl) (fun _ => rfl), (by intro _ h; cases h; rfl), ⟨fun χ543 Ω _ => St.toR (r_move rfl) (fun _ => rfl) (fun _ => rfl), (by intro _ h; cases h; rfl), ⟨fun χ543 Ω ⟨h2, _⟩ => St.toR (r_olen Try.underlying29 rfl (j := 2) h2) (fun _ => rfl) (fun _ => rfl), (by intro _ h; cases h; rfl), ⟨fun χ543 Ω ⟨h0, _⟩ => St.to XU.U XU.hU (St.placeL [] (s_callI (js := [0]) (os := fun (_ : Unit) => [oc x2 [slv (rI .i64) t544.2.L, iv .i64 t544.2.At]]) (ex := fun (_ : Unit) => []) (ψ := fun (_ : Unit) => iv .i64 t544.1) (args := [.tmp 184, .tmp 186]) Try.call11 rfl (keep_Src_N_ok h_t544) ⟨h0, rfl, trivial⟩ (fun _ => rfl) (fun _ => rfl) ⟨arg rfl, arg rfl, trivial⟩ (fun _ _ _ _ h => h)) (fun _ => rfl) (fun _ => trivial)) (fun _ => rfl) (fun _ => rfl), (by intro _ h; cases h; rfl), ⟨fun χ543 Ω ⟨h2, _⟩ => St.toR (r_oindex h_t545 Try.underlying29 el_38 rfl (j := 2) h2 rfl) (fun _ => rfl) (fun _ => rfl), (by intro _ h; cases h; rfl), ⟨fun χ543 Ω ⟨h2, _⟩ => St.toR (r_oload h_t545 el_38 rfl (j := 2) h2) (fun _ => rfl) (fun _ => rfl), (by intro _ h; cases h; rfl), ⟨fun χ543 Ω _ => St.to XU.U XU.hU (St.placeL [] (s_call (ψ := fun (_ : Unit) => tup [ag [iv .i64 t546.1.Graph.N, slv rT_api_Pair t546.1.Graph.L, iv .i64 t546.1.Root, iv .i64 t546.1.Limits.i0, iv .i64 t546.1.Limits.i1, slv rT_api_Move t546.1.Moves], iv .i64 t546.2]) (args := [.tmp 182, .tmp 189]) Try.call13 rfl (protocol_Apply_ok h_t546) ⟨arg rfl, arg rfl, trivial⟩ (fun _ _ _ _ h => h)) (fun _ => rfl) (fun _ => trivial)) (fun _ => rfl) (fun _ => rfl), (by intro _ h; cases h; rfl), ⟨fun χ543 Ω _ => St.toR (r_move rfl) (fun _ => rfl) (fun _ => rfl), (by intro _ h; cases h; rfl), ⟨fun χ543 Ω _ => St.toR (r_extract rfl rfl) (fun _ => rfl) (fun _ => rfl), (by intro _ h; cases h; rfl), ⟨fun χ543 Ω _ => St.toR (r_extract rfl rfl) (fun _ => rfl) (fun _ => rfl), (by intro _ h; cases h; rfl), ⟨fun χ543 Ω ⟨h4, _⟩ => St.to XU.Nn XU.hN (St.placeL (os := fun _ => [_]) [4] (s_alloc zt_31) (fun _ => rfl) (fun _ => ⟨h4, rfl, trivial⟩)) (fun _ => rfl) (fun _ => rfl), (by intro _ h; cases h; rfl), ⟨fun χ543 Ω ⟨h4, _⟩ => St.to XU.U XU.hU (s_cstore (out := [iv .i64 t546.1.Graph.N, slv rT_api_Pair t546.1.Graph.L, iv .i64 t546.1.Root, iv .i64 t546.1.Limits.i0, iv .i64 t546.1.Limits.i1, slv rT_api_Move t546.1.Moves]) Try.sizeOf31 rfl (j := 4) h4 (part_ag (ψs := [iv .i64 t546.1.Graph.N, slv rT_api_Pair t546.1.Graph.L, iv .i64 t546.1.Root, iv .i64 t546.1.Limits.i0, iv .i64 t546.1.Limits.i1, slv rT_api_Move t546.1.Moves]) rfl (by intro φ h; simp only [List.mem_cons, List.not_mem_nil, or_false] at h; rcases h with rfl | rfl | rfl | rfl | rfl | rfl <;> first | exact iv_at | exact bv_at | exact sv_at | exact slv_at | exact pv_at rfl)) rfl rfl rfl) (fun _ => rfl) (fun _ => rfl), (by intro _ h; cases h), ⟨fun χ543 Ω _ => St.toR (r_assign rfl) (fun _ => rfl) (fun _ => rfl), (by intro _ h; cases h; rfl), trivial⟩⟩⟩⟩⟩⟩⟩⟩⟩⟩⟩⟩⟩⟩⟩ (fun _ => ⟨rfl, rfl, rfl, rfl, rfl, rfl, rfl, rfl, rfl, rfl, rfl, trivial⟩) (fun _ => rfl) (fun χ543 => ?_)
                    refine n_then ?_
                    refine ref_seq ?_
                    refine ref_seq ?_
                    refine ref_region ?_
                    refine s_rd (r_move rfl) rfl ?_
                    refine s_rd (r_neq rfl rfl) rfl ?_
                    refine l_nil ?_
                    refine n_then ?_
                    refine ref_cond rfl (fun hb548 => ?_) (fun hb548 => ?_)
                    · refine ref_seq ?_
                      refine ref_region ?_
                      refine s_rd (r_assign rfl) rfl ?_
                      refine l_nil ?_
                      refine n_then ?_
                      refine ref_ret ?_
                      refine r_then ?_
                      refine r_block ?_
                      refine r_then ?_
                      refine retX ?_
                      refine r_block ?_
                      refine r_then ?_
                      exact fin1 (.inl rfl) () [] rfl trivial rfl (rv_tmp rfl)
                    · refine ref_skip ?_
                      refine n_then ?_
                      refine ref_region ?_
                      refine s_rd (r_cloadS Try.isAgg31 Try.sizeOf31 rfl (j := 4) rfl rfl rfl) rfl ?_
                      refine s_st0 (s_cstore (out := [iv .i64 t546.1.Graph.N, slv rT_api_Pair t546.1.Graph.L, iv .i64 t546.1.Root, iv .i64 t546.1.Limits.i0, iv .i64 t546.1.Limits.i1, slv rT_api_Move t546.1.Moves]) Try.sizeOf31 rfl (j := 1) rfl (part_ag (ψs := [iv .i64 t546.1.Graph.N, slv rT_api_Pair t546.1.Graph.L, iv .i64 t546.1.Root, iv .i64 t546.1.Limits.i0, iv .i64 t546.1.Limits.i1, slv rT_api_Move t546.1.Moves]) rfl (by intro φ h; simp only [List.mem_cons, List.not_mem_nil, or_false] at h; rcases h with rfl | rfl | rfl | rfl | rfl | rfl <;> first | exact iv_at | exact bv_at | exact sv_at | exact slv_at | exact pv_at rfl)) rfl rfl rfl) (fun _ => ?_)
                      refine l_nil ?_
                      refine n_block ?_
                      refine n_then ?_
                      refine ref_region ?_
                      refine s_rd (r_move rfl) rfl ?_
                      refine s_rd (r_add rfl rfl) rfl ?_
                      refine s_rd (r_assign rfl) rfl ?_
                      refine b_let (f := iv .i64) (t := 5) rfl fun i549 => ?_
                      refine l_nil ?_
                      exact goX () (weak [0, 1] ⟨rfl, rfl, rfl, trivial⟩ ⟨rfl, rfl, trivial⟩)
    · refine ref_exit ?_
      refine x_then ?_
      exact brkX () (weak [] trivial trivial)
  · refine n_then ?_
    refine ref_seq ?_
    refine ref_region ?_
    refine pull fun t552 h_t552 => ?_
    refine s_st (s_call (ψ := fun (_ : Unit) => bv t552) (args := []) Try.call16 rfl (law27_awake_ok h_t552) trivial (fun _ _ _ _ h => h)) rfl (fun _ => ?_)
    refine s_rd (r_assign rfl) rfl ?_
    refine l_nil ?_
    refine n_then ?_
    refine ref_ret ?_
    exact fin1 (.inl rfl) () [] rfl trivial rfl (rv_tmp rfl)

end Go.Dc
