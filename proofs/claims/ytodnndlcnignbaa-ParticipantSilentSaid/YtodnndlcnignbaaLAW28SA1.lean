/- Part LAW28S.A1 of a proof that a law of the program returns true: general lemmas, no condition. -/
import Derived.Test.YtodnndlcnignbaaLAW28SA0
import Derived.Test.YtodnndlcnignbaaProg
set_option linter.unusedVariables false
set_option maxRecDepth 100000
set_option maxHeartbeats 4000000
namespace Go.Dc
open Go.Proofs
open Go.Proofs.Try (prog)

/-! (deliberation/protocol.table).legal -/
noncomputable def protocol_table_legal_l2 (t_0 : T_protocol_table) (behind2 : Int) (s86 : Int × (List T_api_Move)) (t89 : T_api_Move) (s106 : Int × (List T_api_Move)) : Option (Sum ((List T_api_Move)) (Int × (List T_api_Move))) :=
  bif decide (s106.1 < (t_0.d.Graph.L.length : Int)) then
    Option.bind (idxM t_0.d.Graph.L s106.1) fun t109 =>
    bif t109.To != t89.Node then
      some (Sum.inr (iadd .i64 s106.1 1, s106.2))
    else
      Option.bind (slices_Contains_api_Move_api_Move_m t_0.d.Moves (T_api_Move.mk behind2 2 t109.From s86.1)) fun t112 =>
      bif t112 then
        some (Sum.inr (iadd .i64 s106.1 1, s106.2))
      else
        bif behind2 == 1 then
          Option.bind (protocol_table_moved_m t_0 s86.1 t109.From) fun t113 =>
          bif t113 then
            some (Sum.inr (iadd .i64 s106.1 1, s106.2))
          else
            Option.bind (appM 32 s106.2 [(T_api_Move.mk behind2 2 t109.From s86.1)]) fun out115 =>
            some (Sum.inr (iadd .i64 s106.1 1, out115))
        else
          Option.bind (appM 32 s106.2 [(T_api_Move.mk behind2 2 t109.From s86.1)]) fun out117 =>
          some (Sum.inr (iadd .i64 s106.1 1, out117))
  else
    some (Sum.inl s106.2)

noncomputable def protocol_table_legal_l1 (t_0 : T_protocol_table) (behind2 : Int) (s86 : Int × (List T_api_Move)) : Option (Sum ((List T_api_Move)) (Int × (List T_api_Move))) :=
  bif decide (s86.1 < (t_0.d.Moves.length : Int)) then
    Option.bind (idxM t_0.d.Moves s86.1) fun t89 =>
    Option.bind (idxM t_0.leading s86.1) fun t91 =>
    bif !t91 then
      some (Sum.inr (iadd .i64 s86.1 1, s86.2))
    else
      bif t89.By != t_0.leader then
        some (Sum.inr (iadd .i64 s86.1 1, s86.2))
      else
        Option.bind (loopC (protocol_table_legal_l2 t_0 behind2 s86 t89) (0, s86.2)) fun q119 : (List T_api_Move) =>
        some (Sum.inr (iadd .i64 s86.1 1, q119))
  else
    some (Sum.inl s86.2)

noncomputable def protocol_table_legal_m (t_0 : T_protocol_table) : Option (List T_api_Move) :=
  Option.bind (protocol_other_m t_0.leader) fun behind2 =>
  Option.bind (loopC (protocol_table_legal_l1 t_0 behind2) (0, [])) fun q121 : (List T_api_Move) =>
  some q121

theorem protocol_table_legal_ok {t_0 : T_protocol_table} {r : List T_api_Move} (hm : protocol_table_legal_m t_0 = some r) :
    FnOk prog 65 [ag [iv .i64 t_0.d.Graph.N, slv rT_api_Pair t_0.d.Graph.L, iv .i64 t_0.d.Root, iv .i64 t_0.d.Limits.i0, iv .i64 t_0.d.Limits.i1, slv rT_api_Move t_0.d.Moves, slv (rI .i64) t_0.status, iv .i64 t_0.leader, slv rB t_0.leading]] [] (fun (x : (Value × List Nat)) => [pv x.1]) (fun (x : (Value × List Nat)) => [oa rT_api_Move x.1 x.2 r]) := by
  refine fn_ok (X := (Value × List Nat)) (fn := Try.f65) (N := 79) (m := protocol_table_legal_m t_0) (res := fun r x => [pv x.1]) (Ω1 := fun r x => [oa rT_api_Move x.1 x.2 r]) Try.func65 rfl rfl hm rfl (fun E hM => ?_)
  unfold protocol_table_legal_m
  refine ref_seq ?_
  refine ref_region ?_
  refine s_st (s_box (part_ag (ψs := [iv .i64 t_0.d.Graph.N, slv rT_api_Pair t_0.d.Graph.L, iv .i64 t_0.d.Root, iv .i64 t_0.d.Limits.i0, iv .i64 t_0.d.Limits.i1, slv rT_api_Move t_0.d.Moves, slv (rI .i64) t_0.status, iv .i64 t_0.leader, slv rB t_0.leading]) rfl (by intro φ h; simp only [List.mem_cons, List.not_mem_nil, or_false] at h; rcases h with rfl | rfl | rfl | rfl | rfl | rfl | rfl | rfl | rfl <;> first | exact iv_at | exact bv_at | exact sv_at | exact slv_at | exact pv_at rfl))) rfl (fun b1 => ?_)
  refine s_rd (r_assign rfl) rfl ?_
  refine l_nil ?_
  refine n_then ?_
  refine ref_seq ?_
  refine ref_region ?_
  refine s_rd (r_faddr (fo := 7) Try.underlying95 rfl rfl Try.sizeOf3 rfl) rfl ?_
  refine s_rd (r_cload Try.isAgg3 rfl (j := 0) rfl rfl) rfl ?_
  refine pull fun behind2 h_behind2 => ?_
  refine s_st (s_call (ψ := fun (_ : Unit) => iv .i64 behind2) (args := [.tmp 11]) Try.call61 rfl (protocol_other_ok h_behind2) ⟨arg rfl, trivial⟩ (fun _ _ _ _ h => h)) rfl (fun _ => ?_)
  refine s_rd (r_assign rfl) rfl ?_
  refine l_nil ?_
  refine n_then ?_
  refine ref_seq ?_
  refine ref_region ?_
  refine s_rd (r_assign rfl) rfl ?_
  refine l_nil ?_
  refine n_then ?_
  refine ref_seq ?_
  refine ref_seq ?_
  refine ref_region ?_
  refine s_rd (r_faddr (fo := 0) Try.underlying95 rfl rfl Try.sizeOf35 rfl) rfl ?_
  refine s_rd (r_faddr (fo := 5) Try.underlying35 rfl rfl Try.sizeOf23 rfl) rfl ?_
  refine s_rd (r_cload Try.isAgg23 rfl (j := 0) rfl rfl) rfl ?_
  refine s_rd (r_len Try.underlying23 rfl) rfl ?_
  refine s_rd (r_move rfl) rfl ?_
  refine l_nil ?_
  refine n_then ?_
  refine b_of (own_nil rT_api_Move) ?_
  refine ref_loopB (f := (protocol_table_legal_l1 t_0 behind2)) (Γl := (fun (s86 : Int × (List T_api_Move)) (x87 : (Value × List Nat)) => [(1, pv (ptr b1 0)), (3, iv .i64 behind2), (4, pv x87.1), (15, slv rT_api_Move t_0.d.Moves), (16, iv .i64 (t_0.d.Moves.length : Int)), (17, iv .i64 s86.1)])) (Ωl := (fun (s86 : Int × (List T_api_Move)) (x87 : (Value × List Nat)) => [oc b1 [iv .i64 t_0.d.Graph.N, slv rT_api_Pair t_0.d.Graph.L, iv .i64 t_0.d.Root, iv .i64 t_0.d.Limits.i0, iv .i64 t_0.d.Limits.i1, slv rT_api_Move t_0.d.Moves, slv (rI .i64) t_0.status, iv .i64 t_0.leader, slv rB t_0.leading], oa rT_api_Move x87.1 x87.2 s86.2])) (Γb := (fun (q121 : (List T_api_Move)) (y122 : (Value × List Nat)) => [(4, pv y122.1)])) (Ωb := (fun (q121 : (List T_api_Move)) (y122 : (Value × List Nat)) => [oa rT_api_Move y122.1 y122.2 q121])) (0, []) ((.slice none 0 0), []) (weak [0, 1] ⟨rfl, rfl, rfl, rfl, rfl, rfl, trivial⟩ ⟨rfl, rfl, trivial⟩) (fun s86 x87 => ?_) (fun q121 y122 => ?_)
  · unfold protocol_table_legal_l1
    refine ref_seq ?_
    refine ref_region ?_
    refine s_rd (r_lss rfl rfl) rfl ?_
    refine l_nil ?_
    refine n_then ?_
    refine ref_seq ?_
    refine ref_cond rfl (fun hb88 => ?_) (fun hb88 => ?_)
    · refine ref_skip ?_
      refine n_then ?_
      refine ref_seq ?_
      refine ref_block ?_
      refine ref_seq ?_
      refine ref_region ?_
      refine s_rd (r_move rfl) rfl ?_
      refine pull fun t89 h_t89 => ?_
      refine s_rd (r_index h_t89 Try.underlying23 el_40 rfl rfl) rfl ?_
      refine s_rd (r_load el_40 rfl) rfl ?_
      refine s_st (s_alloc zt_40) rfl (fun b90 => ?_)
      refine s_rd (r_assign rfl) rfl ?_
      refine s_st0 (s_cstore (out := [iv .i64 t89.By, iv .i64 t89.Kind, iv .i64 t89.Node, iv .i64 t89.Target]) Try.sizeOf40 rfl (j := 2) rfl (part_ag (ψs := [iv .i64 t89.By, iv .i64 t89.Kind, iv .i64 t89.Node, iv .i64 t89.Target]) rfl (by intro φ h; simp only [List.mem_cons, List.not_mem_nil, or_false] at h; rcases h with rfl | rfl | rfl | rfl <;> first | exact iv_at | exact bv_at | exact sv_at | exact slv_at | exact pv_at rfl)) rfl rfl rfl) (fun _ => ?_)
      refine l_nil ?_
      refine b_of (nrm [oc b1 [iv .i64 t_0.d.Graph.N, slv rT_api_Pair t_0.d.Graph.L, iv .i64 t_0.d.Root, iv .i64 t_0.d.Limits.i0, iv .i64 t_0.d.Limits.i1, slv rT_api_Move t_0.d.Moves, slv (rI .i64) t_0.status, iv .i64 t_0.leader, slv rB t_0.leading], oa rT_api_Move x87.1 x87.2 s86.2, oc b90 [iv .i64 t89.By, iv .i64 t89.Kind, iv .i64 t89.Node, iv .i64 t89.Target]] rfl) ?_
      refine n_then ?_
      refine ref_seq ?_
      refine ref_seq ?_
      refine ref_region ?_
      refine s_rd (r_faddr (fo := 8) Try.underlying95 rfl rfl Try.sizeOf93 rfl) rfl ?_
      refine s_rd (r_cload Try.isAgg93 rfl (j := 0) rfl rfl) rfl ?_
      refine s_rd (r_move rfl) rfl ?_
      refine pull fun t91 h_t91 => ?_
      refine s_rd (r_index h_t91 Try.underlying93 el_4 rfl rfl) rfl ?_
      refine s_rd (r_load el_4 rfl) rfl ?_
      refine s_rd (r_not rfl) rfl ?_
      refine s_rd (r_move rfl) rfl ?_
      refine b_split (t := 28) rfl (fun _ => ?_) (fun _ => ?_)
      · refine s_off rfl rfl rfl rfl rfl ?_
        refine s_off rfl rfl rfl rfl rfl ?_
        refine s_off rfl rfl rfl rfl rfl ?_
        refine s_off rfl rfl rfl rfl rfl ?_
        refine s_off rfl rfl rfl rfl rfl ?_
        refine s_rd (r_pickT rfl rfl) rfl ?_
        refine l_nil ?_
        refine n_then ?_
        refine ref_condT rfl rfl ?_
        refine ref_exit ?_
        refine x_then ?_
        refine x_eq ?_
        refine n_then ?_
        refine ref_region ?_
        refine s_rd (r_add rfl rfl) rfl ?_
        refine s_rd (r_move rfl) rfl ?_
        refine l_nil ?_
        exact goB x87 (weak [0, 1] ⟨rfl, rfl, rfl, rfl, rfl, rfl, trivial⟩ ⟨rfl, rfl, trivial⟩)
      · refine s_on rfl rfl rfl ?_
        refine s_rd (r_faddr (fo := 0) Try.underlying40 rfl rfl Try.sizeOf3 rfl) rfl ?_
        refine s_on rfl rfl rfl ?_
        refine s_rd (r_cload Try.isAgg3 rfl (j := 2) rfl rfl) rfl ?_
        refine s_on rfl rfl rfl ?_
        refine s_rd (r_faddr (fo := 7) Try.underlying95 rfl rfl Try.sizeOf3 rfl) rfl ?_
        refine s_on rfl rfl rfl ?_
        refine s_rd (r_cload Try.isAgg3 rfl (j := 0) rfl rfl) rfl ?_
        refine s_on rfl rfl rfl ?_
        refine s_rd (r_neq rfl rfl) rfl ?_
        refine s_rd (r_pickF rfl rfl) rfl ?_
        refine l_nil ?_
        refine n_then ?_
        refine ref_cond rfl (fun hb92 => ?_) (fun hb92 => ?_)
        · refine ref_exit ?_
          refine x_then ?_
          refine x_eq ?_
          refine n_then ?_
          refine ref_region ?_
          refine s_rd (r_add rfl rfl) rfl ?_
          refine s_rd (r_move rfl) rfl ?_
          refine l_nil ?_
          exact goB x87 (weak [0, 1] ⟨rfl, rfl, rfl, rfl, rfl, rfl, trivial⟩ ⟨rfl, rfl, trivial⟩)
        · refine ref_skip ?_
          refine n_then ?_
          refine ref_seq ?_
          refine ref_region ?_
          refine s_rd (r_faddr (fo := 0) Try.underlying95 rfl rfl Try.sizeOf35 rfl) rfl ?_
          refine s_rd (r_faddr (fo := 0) Try.underlying35 rfl rfl Try.sizeOf28 rfl) rfl ?_
          refine s_rd (r_faddr (fo := 1) Try.underlying28 rfl rfl Try.sizeOf26 rfl) rfl ?_
          refine s_rd (r_cload Try.isAgg26 rfl (j := 0) rfl rfl) rfl ?_
          refine s_rd (r_len Try.underlying26 rfl) rfl ?_
          refine s_rd (r_move rfl) rfl ?_
          refine l_nil ?_
          refine n_then ?_
          refine ref_loopB (f := (protocol_table_legal_l2 t_0 behind2 s86 t89)) (Γl := (fun (s106 : Int × (List T_api_Move)) (x107 : (Value × List Nat)) => [(1, pv (ptr b1 0)), (3, iv .i64 behind2), (4, pv x107.1), (5, iv .i64 s86.1), (6, pv (ptr b90 0)), (15, slv rT_api_Move t_0.d.Moves), (16, iv .i64 (t_0.d.Moves.length : Int)), (17, iv .i64 s86.1), (29, pv (ptr b90 0)), (30, iv .i64 t89.By), (31, pv (ptr b1 7)), (32, iv .i64 t_0.leader), (33, bv (t89.By != t_0.leader)), (38, slv rT_api_Pair t_0.d.Graph.L), (39, iv .i64 (t_0.d.Graph.L.length : Int)), (40, iv .i64 s106.1)])) (Ωl := (fun (s106 : Int × (List T_api_Move)) (x107 : (Value × List Nat)) => [oc b1 [iv .i64 t_0.d.Graph.N, slv rT_api_Pair t_0.d.Graph.L, iv .i64 t_0.d.Root, iv .i64 t_0.d.Limits.i0, iv .i64 t_0.d.Limits.i1, slv rT_api_Move t_0.d.Moves, slv (rI .i64) t_0.status, iv .i64 t_0.leader, slv rB t_0.leading], oa rT_api_Move x107.1 x107.2 s106.2, oc b90 [iv .i64 t89.By, iv .i64 t89.Kind, iv .i64 t89.Node, iv .i64 t89.Target]])) (Γb := (fun (q119 : (List T_api_Move)) (y120 : (Value × List Nat)) => [(1, pv (ptr b1 0)), (3, iv .i64 behind2), (4, pv y120.1), (15, slv rT_api_Move t_0.d.Moves), (16, iv .i64 (t_0.d.Moves.length : Int)), (17, iv .i64 s86.1), (29, pv (ptr b90 0)), (30, iv .i64 t89.By), (31, pv (ptr b1 7)), (32, iv .i64 t_0.leader), (33, bv (t89.By != t_0.leader))])) (Ωb := (fun (q119 : (List T_api_Move)) (y120 : (Value × List Nat)) => [oc b1 [iv .i64 t_0.d.Graph.N, slv rT_api_Pair t_0.d.Graph.L, iv .i64 t_0.d.Root, iv .i64 t_0.d.Limits.i0, iv .i64 t_0.d.Limits.i1, slv rT_api_Move t_0.d.Moves, slv (rI .i64) t_0.status, iv .i64 t_0.leader, slv rB t_0.leading], oa rT_api_Move y120.1 y120.2 q119, oc b90 [iv .i64 t89.By, iv .i64 t89.Kind, iv .i64 t89.Node, iv .i64 t89.Target]])) (0, s86.2) x87 (weak [0, 1, 2] ⟨rfl, rfl, rfl, rfl, rfl, rfl, rfl, rfl, rfl, rfl, rfl, rfl, rfl, rfl, rfl, rfl, trivial⟩ ⟨rfl, rfl, rfl, trivial⟩) (fun s106 x107 => ?_) (fun q119 y120 => ?_)
          · unfold protocol_table_legal_l2
            refine ref_seq ?_
            refine ref_region ?_
            refine s_rd (r_lss rfl rfl) rfl ?_
            refine l_nil ?_
            refine n_then ?_
            refine ref_seq ?_
            refine ref_cond rfl (fun hb108 => ?_) (fun hb108 => ?_)
            · refine ref_skip ?_
              refine n_then ?_
              refine ref_seq ?_
              refine ref_block ?_
              refine ref_seq ?_
              refine ref_region ?_
              refine pull fun t109 h_t109 => ?_
              refine s_rd (r_index h_t109 Try.underlying26 el_67 rfl rfl) rfl ?_
              refine s_rd (r_load el_67 rfl) rfl ?_
              refine s_st (s_alloc zt_67) rfl (fun b110 => ?_)
              refine s_st0 (s_cstore (out := [iv .i64 t109.From, iv .i64 t109.To]) Try.sizeOf67 rfl (j := 3) rfl (part_ag (ψs := [iv .i64 t109.From, iv .i64 t109.To]) rfl (by intro φ h; simp only [List.mem_cons, List.not_mem_nil, or_false] at h; rcases h with rfl | rfl <;> first | exact iv_at | exact bv_at | exact sv_at | exact slv_at | exact pv_at rfl)) rfl rfl rfl) (fun _ => ?_)
              refine l_nil ?_
              refine n_then ?_
              refine ref_seq ?_
              refine ref_region ?_
              refine s_rd (r_move rfl) rfl ?_
              refine s_rd (r_faddr (fo := 0) Try.underlying67 rfl rfl Try.sizeOf3 rfl) rfl ?_
              refine s_rd (r_cload Try.isAgg3 rfl (j := 3) rfl rfl) rfl ?_
              refine s_rd (r_move rfl) rfl ?_
              refine s_rd (r_build (ps := [(0, .tmp 44), (1, .const (.int .i64 (2))), (2, .tmp 46), (3, .tmp 47)]) (rs := [(0, [iv .i64 behind2]), (1, [iv .i64 2]), (2, [iv .i64 t109.From]), (3, [iv .i64 s86.1])]) st_40 zs_40 ⟨rfl, (part_at rfl iv_at), ⟨rfl, (part_at rfl iv_at), ⟨rfl, (part_at rfl iv_at), ⟨rfl, (part_at rfl iv_at), trivial⟩⟩⟩⟩ rfl rfl) rfl ?_
              refine s_st (s_alloc zt_40) rfl (fun b111 => ?_)
              refine s_st0 (s_cstore (out := [iv .i64 behind2, iv .i64 2, iv .i64 t109.From, iv .i64 s86.1]) Try.sizeOf40 rfl (j := 4) rfl (part_ag (ψs := [iv .i64 behind2, iv .i64 2, iv .i64 t109.From, iv .i64 s86.1]) rfl (by intro φ h; simp only [List.mem_cons, List.not_mem_nil, or_false] at h; rcases h with rfl | rfl | rfl | rfl <;> first | exact iv_at | exact bv_at | exact sv_at | exact slv_at | exact pv_at rfl)) rfl rfl rfl) (fun _ => ?_)
              refine l_nil ?_
              refine b_of (nrm [oc b1 [iv .i64 t_0.d.Graph.N, slv rT_api_Pair t_0.d.Graph.L, iv .i64 t_0.d.Root, iv .i64 t_0.d.Limits.i0, iv .i64 t_0.d.Limits.i1, slv rT_api_Move t_0.d.Moves, slv (rI .i64) t_0.status, iv .i64 t_0.leader, slv rB t_0.leading], oa rT_api_Move x107.1 x107.2 s106.2, oc b90 [iv .i64 t89.By, iv .i64 t89.Kind, iv .i64 t89.Node, iv .i64 t89.Target], oc b110 [iv .i64 t109.From, iv .i64 t109.To], oc b111 [iv .i64 behind2, iv .i64 2, iv .i64 t109.From, iv .i64 s86.1]] rfl) ?_
              refine n_then ?_
              refine ref_seq ?_
              refine ref_seq ?_
              refine ref_region ?_
              refine s_rd (r_faddr (fo := 1) Try.underlying67 rfl rfl Try.sizeOf3 rfl) rfl ?_
              refine s_rd (r_cload Try.isAgg3 rfl (j := 3) rfl rfl) rfl ?_
              refine s_rd (r_faddr (fo := 2) Try.underlying40 rfl rfl Try.sizeOf3 rfl) rfl ?_
              refine s_rd (r_cload Try.isAgg3 rfl (j := 2) rfl rfl) rfl ?_
              refine s_rd (r_neq rfl rfl) rfl ?_
              refine s_rd (r_move rfl) rfl ?_
              refine b_split (t := 54) rfl (fun _ => ?_) (fun _ => ?_)
              · refine s_off rfl rfl rfl rfl rfl ?_
                refine s_off rfl rfl rfl rfl rfl ?_
                refine s_off rfl rfl rfl rfl rfl ?_
                refine s_off rfl rfl rfl rfl rfl ?_
                refine s_off rfl rfl rfl rfl rfl ?_
                refine s_rd (r_pickT rfl rfl) rfl ?_
                refine s_rd (r_move rfl) rfl ?_
                refine s_off rfl rfl rfl rfl rfl ?_
                refine s_off rfl rfl rfl rfl rfl ?_
                refine s_off rfl rfl rfl rfl rfl ?_
                refine s_offU rfl rfl rfl ?_
                refine s_offU rfl rfl rfl ?_
                refine s_offU rfl rfl rfl ?_
                refine s_offU rfl rfl rfl ?_
                refine s_offU rfl rfl rfl ?_
                refine s_off rfl rfl rfl rfl rfl ?_
                refine s_rd (r_pickT rfl rfl) rfl ?_
                refine l_nil ?_
                refine n_then ?_
                refine ref_condT rfl rfl ?_
                refine ref_exit ?_
                refine x_then ?_
                refine x_eq ?_
                refine n_then ?_
                refine ref_region ?_
                refine s_rd (r_add rfl rfl) rfl ?_
                refine s_rd (r_move rfl) rfl ?_
                refine l_nil ?_
                exact goB x107 (weak [0, 1, 2] ⟨rfl, rfl, rfl, rfl, rfl, rfl, rfl, rfl, rfl, rfl, rfl, rfl, rfl, rfl, rfl, rfl, trivial⟩ ⟨rfl, rfl, rfl, trivial⟩)
              · refine s_on rfl rfl rfl ?_
                refine s_rd (r_faddr (fo := 0) Try.underlying95 rfl rfl Try.sizeOf35 rfl) rfl ?_
                refine s_on rfl rfl rfl ?_
                refine s_rd (r_faddr (fo := 5) Try.underlying35 rfl rfl Try.sizeOf23 rfl) rfl ?_
                refine s_on rfl rfl rfl ?_
                refine s_rd (r_cload Try.isAgg23 rfl (j := 0) rfl rfl) rfl ?_
                refine s_on rfl rfl rfl ?_
                refine s_rd (r_cloadS Try.isAgg40 Try.sizeOf40 rfl (j := 4) rfl rfl rfl) rfl ?_
                refine s_on rfl rfl rfl ?_
                refine pull fun t112 h_t112 => ?_
                refine s_st (s_call (ψ := fun (_ : Unit) => bv t112) (args := [.tmp 57, .tmp 58]) Try.call67 rfl (slices_Contains_api_Move_api_Move_ok h_t112) ⟨arg rfl, arg rfl, trivial⟩ (fun _ _ _ _ h => h)) rfl (fun _ => ?_)
                refine s_rd (r_pickF rfl rfl) rfl ?_
                refine s_rd (r_move rfl) rfl ?_
                refine b_split (t := 61) rfl (fun _ => ?_) (fun _ => ?_)
                · refine s_off rfl rfl rfl rfl rfl ?_
                  refine s_off rfl rfl rfl rfl rfl ?_
                  refine s_off rfl rfl rfl rfl rfl ?_
                  refine s_offU rfl rfl rfl ?_
                  refine s_offU rfl rfl rfl ?_
                  refine s_offU rfl rfl rfl ?_
                  refine s_offU rfl rfl rfl ?_
                  refine s_offU rfl rfl rfl ?_
                  refine s_off rfl rfl rfl rfl rfl ?_
                  refine s_rd (r_pickT rfl rfl) rfl ?_
                  refine l_nil ?_
                  refine n_then ?_
                  refine ref_condT rfl rfl ?_
                  refine ref_exit ?_
                  refine x_then ?_
                  refine x_eq ?_
                  refine n_then ?_
                  refine ref_region ?_
                  refine s_rd (r_add rfl rfl) rfl ?_
                  refine s_rd (r_move rfl) rfl ?_
                  refine l_nil ?_
                  exact goB x107 (weak [0, 1, 2] ⟨rfl, rfl, rfl, rfl, rfl, rfl, rfl, rfl, rfl, rfl, rfl, rfl, rfl, rfl, rfl, rfl, trivial⟩ ⟨rfl, rfl, rfl, trivial⟩)
                · refine s_on rfl rfl rfl ?_
                  refine s_rd (r_move rfl) rfl ?_
                  refine s_on rfl rfl rfl ?_
                  refine s_rd (r_eql rfl rfl) rfl ?_
                  refine s_on rfl rfl rfl ?_
                  refine s_rd (r_move rfl) rfl ?_
                  refine b_split (t := 64) rfl (fun _ => ?_) (fun _ => ?_)
                  · refine s_on rfl rfl rfl ?_
                    refine s_rd (r_cloadS Try.isAgg95 Try.sizeOf95 rfl (j := 0) rfl rfl rfl) rfl ?_
                    refine s_on rfl rfl rfl ?_
                    refine s_rd (r_move rfl) rfl ?_
                    refine s_on rfl rfl rfl ?_
                    refine s_rd (r_faddr (fo := 0) Try.underlying67 rfl rfl Try.sizeOf3 rfl) rfl ?_
                    refine s_on rfl rfl rfl ?_
                    refine s_rd (r_cload Try.isAgg3 rfl (j := 3) rfl rfl) rfl ?_
                    refine s_on rfl rfl rfl ?_
                    refine pull fun t113 h_t113 => ?_
                    refine s_st (s_call (ψ := fun (_ : Unit) => bv t113) (args := [.tmp 65, .tmp 66, .tmp 68]) Try.call82 rfl (protocol_table_moved_ok h_t113) ⟨arg rfl, arg rfl, arg rfl, trivial⟩ (fun _ _ _ _ h => h)) rfl (fun _ => ?_)
                    refine s_on rfl rfl rfl ?_
                    refine s_rd (r_pickT rfl rfl) rfl ?_
                    refine s_rd (r_pickF rfl rfl) rfl ?_
                    refine l_nil ?_
                    refine n_then ?_
                    refine ref_cond rfl (fun hb114 => ?_) (fun hb114 => ?_)
                    · refine ref_exit ?_
                      refine x_then ?_
                      refine x_eq ?_
                      refine n_then ?_
                      refine ref_region ?_
                      refine s_rd (r_add rfl rfl) rfl ?_
                      refine s_rd (r_move rfl) rfl ?_
                      refine l_nil ?_
                      exact goB x107 (weak [0, 1, 2] ⟨rfl, rfl, rfl, rfl, rfl, rfl, rfl, rfl, rfl, rfl, rfl, rfl, rfl, rfl, rfl, rfl, trivial⟩ ⟨rfl, rfl, rfl, trivial⟩)
                    · refine ref_skip ?_
                      refine n_then ?_
                      refine ref_region ?_
                      refine s_rd (r_move rfl) rfl ?_
                      refine s_rd (r_cloadS Try.isAgg40 Try.sizeOf40 rfl (j := 4) rfl rfl rfl) rfl ?_
                      refine s_st (s_bslice (xs := [.tmp 73]) (ds := [(T_api_Move.mk behind2 2 t109.From s86.1)]) Try.underlying23 el_40 rfl (Nat.le_of_ble_eq_true rfl) ⟨(part_ag (ψs := [iv .i64 behind2, iv .i64 2, iv .i64 t109.From, iv .i64 s86.1]) rfl (by intro φ h; simp only [List.mem_cons, List.not_mem_nil, or_false] at h; rcases h with rfl | rfl | rfl | rfl <;> first | exact iv_at | exact bv_at | exact sv_at | exact slv_at | exact pv_at rfl)), trivial⟩) rfl (fun _ => ?_)
                      refine pull fun out115 h_out115 => ?_
                      refine s_st (s_append h_out115 Try.underlying23 el_40 rfl (j := 1) rfl rfl) rfl (fun o116 => ?_)
                      refine s_rd (r_assign rfl) rfl ?_
                      refine l_nil ?_
                      refine b_of (nrm [oc b1 [iv .i64 t_0.d.Graph.N, slv rT_api_Pair t_0.d.Graph.L, iv .i64 t_0.d.Root, iv .i64 t_0.d.Limits.i0, iv .i64 t_0.d.Limits.i1, slv rT_api_Move t_0.d.Moves, slv (rI .i64) t_0.status, iv .i64 t_0.leader, slv rB t_0.leading], oa rT_api_Move o116.1 o116.2 out115, oc b90 [iv .i64 t89.By, iv .i64 t89.Kind, iv .i64 t89.Node, iv .i64 t89.Target], oc b110 [iv .i64 t109.From, iv .i64 t109.To], oc b111 [iv .i64 behind2, iv .i64 2, iv .i64 t109.From, iv .i64 s86.1]] rfl) ?_
                      refine n_block ?_
                      refine n_then ?_
                      refine ref_region ?_
                      refine s_rd (r_add rfl rfl) rfl ?_
                      refine s_rd (r_move rfl) rfl ?_
                      refine l_nil ?_
                      exact goB o116 (weak [0, 1, 2] ⟨rfl, rfl, rfl, rfl, rfl, rfl, rfl, rfl, rfl, rfl, rfl, rfl, rfl, rfl, rfl, rfl, trivial⟩ ⟨rfl, rfl, rfl, trivial⟩)
                  · refine s_off rfl rfl rfl rfl rfl ?_
                    refine s_off rfl rfl rfl rfl rfl ?_
                    refine s_off rfl rfl rfl rfl rfl ?_
                    refine s_off rfl rfl rfl rfl rfl ?_
                    refine s_off rfl rfl rfl rfl rfl ?_
                    refine s_on rfl rfl rfl ?_
                    refine s_rd (r_pickF rfl rfl) rfl ?_
                    refine s_rd (r_pickF rfl rfl) rfl ?_
                    refine l_nil ?_
                    refine n_then ?_
                    refine ref_condF rfl rfl ?_
                    refine ref_skip ?_
                    refine n_then ?_
                    refine ref_region ?_
                    refine s_rd (r_move rfl) rfl ?_
                    refine s_rd (r_cloadS Try.isAgg40 Try.sizeOf40 rfl (j := 4) rfl rfl rfl) rfl ?_
                    refine s_st (s_bslice (xs := [.tmp 73]) (ds := [(T_api_Move.mk behind2 2 t109.From s86.1)]) Try.underlying23 el_40 rfl (Nat.le_of_ble_eq_true rfl) ⟨(part_ag (ψs := [iv .i64 behind2, iv .i64 2, iv .i64 t109.From, iv .i64 s86.1]) rfl (by intro φ h; simp only [List.mem_cons, List.not_mem_nil, or_false] at h; rcases h with rfl | rfl | rfl | rfl <;> first | exact iv_at | exact bv_at | exact sv_at | exact slv_at | exact pv_at rfl)), trivial⟩) rfl (fun _ => ?_)
                    refine pull fun out117 h_out117 => ?_
                    refine s_st (s_append h_out117 Try.underlying23 el_40 rfl (j := 1) rfl rfl) rfl (fun o118 => ?_)
                    refine s_rd (r_assign rfl) rfl ?_
                    refine l_nil ?_
                    refine n_block ?_
                    refine n_then ?_
                    refine ref_region ?_
                    refine s_rd (r_add rfl rfl) rfl ?_
                    refine s_rd (r_move rfl) rfl ?_
                    refine l_nil ?_
                    exact goB o118 (weak [0, 1, 2] ⟨rfl, rfl, rfl, rfl, rfl, rfl, rfl, rfl, rfl, rfl, rfl, rfl, rfl, rfl, rfl, rfl, trivial⟩ ⟨rfl, rfl, rfl, trivial⟩)
            · refine ref_exit ?_
              refine x_then ?_
              exact brkB x107 (weak [0, 1, 2] ⟨rfl, rfl, rfl, rfl, rfl, rfl, rfl, rfl, rfl, rfl, rfl, trivial⟩ ⟨rfl, rfl, rfl, trivial⟩)
          · refine n_block ?_
            refine n_then ?_
            refine ref_region ?_
            refine s_rd (r_add rfl rfl) rfl ?_
            refine s_rd (r_move rfl) rfl ?_
            refine l_nil ?_
            exact goB y120 (weak [0, 1] ⟨rfl, rfl, rfl, rfl, rfl, rfl, trivial⟩ ⟨rfl, rfl, trivial⟩)
    · refine ref_exit ?_
      refine x_then ?_
      exact brkB x87 (weak [1] ⟨rfl, trivial⟩ ⟨rfl, trivial⟩)
  · refine n_then ?_
    refine ref_seq ?_
    refine ref_region ?_
    refine s_rd (r_move rfl) rfl ?_
    refine s_rd (r_assign rfl) rfl ?_
    refine l_nil ?_
    refine n_then ?_
    refine ref_ret ?_
    exact fin1 (.inl rfl) y122 [0] rfl ⟨rfl, trivial⟩ rfl (rv_tmp rfl)

/-! (deliberation/protocol.table).end -/
noncomputable def protocol_table_end_l1 (t_0 : T_protocol_table) (s10 : Int × Int) : Option (Sum (Int) (Int × Int)) :=
  bif decide (s10.2 < (t_0.d.Moves.length : Int)) then
    Option.bind (idxM t_0.d.Moves s10.2) fun t13 =>
    Option.bind (protocol_other_m t_0.leader) fun t15 =>
    bif t13.By == t15 then
      letM (iadd .i64 s10.1 1) fun made17 =>
      some (Sum.inr (made17, iadd .i64 s10.2 1))
    else
      some (Sum.inr (s10.1, iadd .i64 s10.2 1))
  else
    some (Sum.inl s10.1)

noncomputable def protocol_table_end_m (t_0 : T_protocol_table) : Option (T_api_Outcome) :=
  Option.bind (loopC (protocol_table_end_l1 t_0) (0, 0)) fun q18 : Int =>
  Option.bind (idxM t_0.d.Moves (isub .i64 (t_0.d.Moves.length : Int) 1)) fun t20 =>
  bif t20.Kind == 4 then
    Option.bind (protocol_other_m t20.By) fun t23 =>
    some (T_api_Outcome.mk t23 3)
  else
    letM (decide ((t_0.d.Moves.length : Int) ≥ 200)) fun t24 =>
    bif t24 then
      some (T_api_Outcome.mk t_0.leader 4)
    else
      Option.bind (protocol_other_m t_0.leader) fun t26 =>
      Option.bind (idxM [t_0.d.Limits.i0, t_0.d.Limits.i1] (isub .i64 t26 1)) fun t27 =>
      letM (decide (q18 ≥ t27)) fun t28 =>
      bif t28 then
        some (T_api_Outcome.mk t_0.leader 2)
      else
        Option.bind (protocol_table_legal_m t_0) fun t30 =>
        letM ((t30.length : Int) == 0) fun t32 =>
        bif t32 then
          some (T_api_Outcome.mk t_0.leader 1)
        else
          some (T_api_Outcome.mk 0 0)

theorem protocol_table_end_ok {t_0 : T_protocol_table} {r : T_api_Outcome} (hm : protocol_table_end_m t_0 = some r) :
    FnOk prog 80 [ag [iv .i64 t_0.d.Graph.N, slv rT_api_Pair t_0.d.Graph.L, iv .i64 t_0.d.Root, iv .i64 t_0.d.Limits.i0, iv .i64 t_0.d.Limits.i1, slv rT_api_Move t_0.d.Moves, slv (rI .i64) t_0.status, iv .i64 t_0.leader, slv rB t_0.leading]] [] (fun (x : Unit) => [ag [iv .i64 r.Winner, iv .i64 r.Reason]]) (fun (x : Unit) => []) := by
  refine fn_ok (X := Unit) (fn := Try.f80) (N := 70) (m := protocol_table_end_m t_0) (res := fun r x => [ag [iv .i64 r.Winner, iv .i64 r.Reason]]) (Ω1 := fun r x => []) Try.func80 rfl rfl hm rfl (fun E hM => ?_)
  unfold protocol_table_end_m
  refine ref_seq ?_
  refine ref_region ?_
  refine s_st (s_box (part_ag (ψs := [iv .i64 t_0.d.Graph.N, slv rT_api_Pair t_0.d.Graph.L, iv .i64 t_0.d.Root, iv .i64 t_0.d.Limits.i0, iv .i64 t_0.d.Limits.i1, slv rT_api_Move t_0.d.Moves, slv (rI .i64) t_0.status, iv .i64 t_0.leader, slv rB t_0.leading]) rfl (by intro φ h; simp only [List.mem_cons, List.not_mem_nil, or_false] at h; rcases h with rfl | rfl | rfl | rfl | rfl | rfl | rfl | rfl | rfl <;> first | exact iv_at | exact bv_at | exact sv_at | exact slv_at | exact pv_at rfl))) rfl (fun b1 => ?_)
  refine s_st (s_alloc zt_57) rfl (fun b2 => ?_)
  refine l_nil ?_
  refine n_then ?_
  refine ref_seq ?_
  refine ref_region ?_
  refine s_rd (r_faddr (fo := 0) Try.underlying95 rfl rfl Try.sizeOf35 rfl) rfl ?_
  refine s_rd (r_faddr (fo := 5) Try.underlying35 rfl rfl Try.sizeOf23 rfl) rfl ?_
  refine s_rd (r_cload Try.isAgg23 rfl (j := 0) rfl rfl) rfl ?_
  refine s_rd (r_assign rfl) rfl ?_
  refine l_nil ?_
  refine n_then ?_
  refine ref_seq ?_
  refine ref_region ?_
  refine s_rd (r_assign rfl) rfl ?_
  refine l_nil ?_
  refine n_then ?_
  refine ref_seq ?_
  refine ref_seq ?_
  refine ref_region ?_
  refine s_rd (r_move rfl) rfl ?_
  refine s_rd (r_len Try.underlying23 rfl) rfl ?_
  refine s_rd (r_move rfl) rfl ?_
  refine l_nil ?_
  refine n_then ?_
  refine ref_loopB (f := (protocol_table_end_l1 t_0)) (Γl := (fun (s10 : Int × Int) (x11 : Unit) => [(1, pv (ptr b1 0)), (2, pv (ptr b2 0)), (3, slv rT_api_Move t_0.d.Moves), (4, iv .i64 s10.1), (11, slv rT_api_Move t_0.d.Moves), (12, iv .i64 (t_0.d.Moves.length : Int)), (13, iv .i64 s10.2)])) (Ωl := (fun (s10 : Int × Int) (x11 : Unit) => [oc b1 [iv .i64 t_0.d.Graph.N, slv rT_api_Pair t_0.d.Graph.L, iv .i64 t_0.d.Root, iv .i64 t_0.d.Limits.i0, iv .i64 t_0.d.Limits.i1, slv rT_api_Move t_0.d.Moves, slv (rI .i64) t_0.status, iv .i64 t_0.leader, slv rB t_0.leading], oc b2 [iv .i64 0, iv .i64 0]])) (Γb := (fun (q18 : Int) (y19 : Unit) => [(1, pv (ptr b1 0)), (2, pv (ptr b2 0)), (3, slv rT_api_Move t_0.d.Moves), (4, iv .i64 q18)])) (Ωb := (fun (q18 : Int) (y19 : Unit) => [oc b1 [iv .i64 t_0.d.Graph.N, slv rT_api_Pair t_0.d.Graph.L, iv .i64 t_0.d.Root, iv .i64 t_0.d.Limits.i0, iv .i64 t_0.d.Limits.i1, slv rT_api_Move t_0.d.Moves, slv (rI .i64) t_0.status, iv .i64 t_0.leader, slv rB t_0.leading], oc b2 [iv .i64 0, iv .i64 0]])) (0, 0) () (weak [0, 1] ⟨rfl, rfl, rfl, rfl, rfl, rfl, rfl, trivial⟩ ⟨rfl, rfl, trivial⟩) (fun s10 x11 => ?_) (fun q18 y19 => ?_)
  · unfold protocol_table_end_l1
    refine ref_seq ?_
    refine ref_region ?_
    refine s_rd (r_lss rfl rfl) rfl ?_
    refine l_nil ?_
    refine n_then ?_
    refine ref_seq ?_
    refine ref_cond rfl (fun hb12 => ?_) (fun hb12 => ?_)
    · refine ref_skip ?_
      refine n_then ?_
      refine ref_seq ?_
      refine ref_block ?_
      refine ref_seq ?_
      refine ref_region ?_
      refine pull fun t13 h_t13 => ?_
      refine s_rd (r_index h_t13 Try.underlying23 el_40 rfl rfl) rfl ?_
      refine s_rd (r_load el_40 rfl) rfl ?_
      refine s_st (s_alloc zt_40) rfl (fun b14 => ?_)
      refine s_st0 (s_cstore (out := [iv .i64 t13.By, iv .i64 t13.Kind, iv .i64 t13.Node, iv .i64 t13.Target]) Try.sizeOf40 rfl (j := 2) rfl (part_ag (ψs := [iv .i64 t13.By, iv .i64 t13.Kind, iv .i64 t13.Node, iv .i64 t13.Target]) rfl (by intro φ h; simp only [List.mem_cons, List.not_mem_nil, or_false] at h; rcases h with rfl | rfl | rfl | rfl <;> first | exact iv_at | exact bv_at | exact sv_at | exact slv_at | exact pv_at rfl)) rfl rfl rfl) (fun _ => ?_)
      refine l_nil ?_
      refine b_of (nrm [oc b1 [iv .i64 t_0.d.Graph.N, slv rT_api_Pair t_0.d.Graph.L, iv .i64 t_0.d.Root, iv .i64 t_0.d.Limits.i0, iv .i64 t_0.d.Limits.i1, slv rT_api_Move t_0.d.Moves, slv (rI .i64) t_0.status, iv .i64 t_0.leader, slv rB t_0.leading], oc b2 [iv .i64 0, iv .i64 0], oc b14 [iv .i64 t13.By, iv .i64 t13.Kind, iv .i64 t13.Node, iv .i64 t13.Target]] rfl) ?_
      refine n_then ?_
      refine ref_seq ?_
      refine ref_draw [0, 1, 2, 3, 5] rfl (by kernel_rfl) (fun hok => ?_)
      refine a_rd (i := 0) hok rfl (by kernel_rfl) rfl (r_faddr (fo := 0) Try.underlying40 rfl rfl Try.sizeOf3 rfl) rfl ?_
      refine a_rd (i := 1) hok rfl (by kernel_rfl) rfl (r_cload Try.isAgg3 rfl (j := 2) rfl rfl) rfl ?_
      refine a_rd (i := 2) hok rfl (by kernel_rfl) rfl (r_faddr (fo := 7) Try.underlying95 rfl rfl Try.sizeOf3 rfl) rfl ?_
      refine a_rd (i := 3) hok rfl (by kernel_rfl) rfl (r_cload Try.isAgg3 rfl (j := 0) rfl rfl) rfl ?_
      refine pull fun t15 h_t15 => ?_
      refine a_next hok 4 [] (by kernel_rfl) ?_ trivial
      refine a_st (i := 4) hok rfl rfl (s_call (ψ := fun (_ : Unit) => iv .i64 t15) (args := [.tmp 20]) Try.call61 rfl (protocol_other_ok h_t15) ⟨arg rfl, trivial⟩ (fun _ _ _ _ h => h)) (by intro _ h; cases h; rfl) (fun _ => ⟨trivial, ⟨trivial, ⟨⟨⟨rfl, rfl⟩, trivial⟩, ⟨trivial, trivial⟩⟩⟩⟩) (fun _ => ?_)
      refine a_rd (i := 5) hok rfl (by kernel_rfl) rfl (r_eql rfl rfl) rfl ?_
      refine a_fin hok (by kernel_rfl) ?_
      refine n_then ?_
      refine ref_cond rfl (fun hb16 => ?_) (fun hb16 => ?_)
      · refine ref_region ?_
        refine s_rd (r_move rfl) rfl ?_
        refine s_rd (r_add rfl rfl) rfl ?_
        refine s_rd (r_assign rfl) rfl ?_
        refine b_let (f := iv .i64) (t := 4) rfl fun made17 => ?_
        refine l_nil ?_
        refine n_block ?_
        refine n_then ?_
        refine ref_region ?_
        refine s_rd (r_add rfl rfl) rfl ?_
        refine s_rd (r_move rfl) rfl ?_
        refine l_nil ?_
        exact goB () (weak [0, 1] ⟨rfl, rfl, rfl, rfl, rfl, rfl, rfl, trivial⟩ ⟨rfl, rfl, trivial⟩)
      · refine ref_skip ?_
        refine n_block ?_
        refine n_then ?_
        refine ref_region ?_
        refine s_rd (r_add rfl rfl) rfl ?_
        refine s_rd (r_move rfl) rfl ?_
        refine l_nil ?_
        exact goB () (weak [0, 1] ⟨rfl, rfl, rfl, rfl, rfl, rfl, rfl, trivial⟩ ⟨rfl, rfl, trivial⟩)
    · refine ref_exit ?_
      refine x_then ?_
      exact brkB () (weak [0, 1] ⟨rfl, rfl, rfl, rfl, trivial⟩ ⟨rfl, rfl, trivial⟩)
  · refine n_then ?_
    refine ref_seq ?_
    refine ref_region ?_
    refine s_rd (r_move rfl) rfl ?_
    refine s_rd (r_move rfl) rfl ?_
    refine s_rd (r_len Try.underlying23 rfl) rfl ?_
    refine s_rd (r_sub rfl rfl) rfl ?_
    refine pull fun t20 h_t20 => ?_
    refine s_rd (r_index h_t20 Try.underlying23 el_40 rfl rfl) rfl ?_
    refine s_rd (r_load el_40 rfl) rfl ?_
    refine s_st (s_alloc zt_40) rfl (fun b21 => ?_)
    refine s_st0 (s_cstore (out := [iv .i64 t20.By, iv .i64 t20.Kind, iv .i64 t20.Node, iv .i64 t20.Target]) Try.sizeOf40 rfl (j := 2) rfl (part_ag (ψs := [iv .i64 t20.By, iv .i64 t20.Kind, iv .i64 t20.Node, iv .i64 t20.Target]) rfl (by intro φ h; simp only [List.mem_cons, List.not_mem_nil, or_false] at h; rcases h with rfl | rfl | rfl | rfl <;> first | exact iv_at | exact bv_at | exact sv_at | exact slv_at | exact pv_at rfl)) rfl rfl rfl) (fun _ => ?_)
    refine l_nil ?_
    refine n_then ?_
    refine ref_seq ?_
    refine ref_block ?_
    refine ref_seq ?_
    refine ref_region ?_
    refine s_rd (r_faddr (fo := 1) Try.underlying40 rfl rfl Try.sizeOf3 rfl) rfl ?_
    refine s_rd (r_cload Try.isAgg3 rfl (j := 2) rfl rfl) rfl ?_
    refine s_rd (r_eql rfl rfl) rfl ?_
    refine s_rd (r_assign rfl) rfl ?_
    refine l_nil ?_
    refine n_then ?_
    refine ref_cond rfl (fun hb22 => ?_) (fun hb22 => ?_)
    · refine ref_seq ?_
      refine ref_region ?_
      refine s_rd (r_faddr (fo := 0) Try.underlying40 rfl rfl Try.sizeOf3 rfl) rfl ?_
      refine s_rd (r_cload Try.isAgg3 rfl (j := 2) rfl rfl) rfl ?_
      refine pull fun t23 h_t23 => ?_
      refine s_st (s_call (ψ := fun (_ : Unit) => iv .i64 t23) (args := [.tmp 37]) Try.call61 rfl (protocol_other_ok h_t23) ⟨arg rfl, trivial⟩ (fun _ _ _ _ h => h)) rfl (fun _ => ?_)
      refine s_rd (r_build (ps := [(0, .tmp 38), (1, .const (.int .i64 (3)))]) (rs := [(0, [iv .i64 t23]), (1, [iv .i64 3])]) st_57 zs_57 ⟨rfl, (part_at rfl iv_at), ⟨rfl, (part_at rfl iv_at), trivial⟩⟩ rfl rfl) rfl ?_
      refine s_st0 (s_cstore (out := [iv .i64 t23, iv .i64 3]) Try.sizeOf57 rfl (j := 1) rfl (part_ag (ψs := [iv .i64 t23, iv .i64 3]) rfl (by intro φ h; simp only [List.mem_cons, List.not_mem_nil, or_false] at h; rcases h with rfl | rfl <;> first | exact iv_at | exact bv_at | exact sv_at | exact slv_at | exact pv_at rfl)) rfl rfl rfl) (fun _ => ?_)
      refine l_nil ?_
      refine b_of (nrm [oc b1 [iv .i64 t_0.d.Graph.N, slv rT_api_Pair t_0.d.Graph.L, iv .i64 t_0.d.Root, iv .i64 t_0.d.Limits.i0, iv .i64 t_0.d.Limits.i1, slv rT_api_Move t_0.d.Moves, slv (rI .i64) t_0.status, iv .i64 t_0.leader, slv rB t_0.leading], oc b2 [iv .i64 t23, iv .i64 3], oc b21 [iv .i64 t20.By, iv .i64 t20.Kind, iv .i64 t20.Node, iv .i64 t20.Target]] rfl) ?_
      refine n_then ?_
      refine ref_ret ?_
      refine r_block ?_
      refine r_then ?_
      exact fin1 (.inl rfl) () [] rfl trivial rfl (rv_cell rfl (j := 1) rfl Try.isAgg57 Try.sizeOf57 rfl rfl)
    · refine ref_seq ?_
      refine ref_region ?_
      refine s_rd (r_move rfl) rfl ?_
      refine s_rd (r_len Try.underlying23 rfl) rfl ?_
      refine s_rd (r_geq rfl rfl) rfl ?_
      refine s_rd (r_assign rfl) rfl ?_
      refine b_let (f := bv) (t := 40) rfl fun t24 => ?_
      refine l_nil ?_
      refine n_then ?_
      refine ref_cond rfl (fun hb25 => ?_) (fun hb25 => ?_)
      · refine ref_seq ?_
        refine ref_region ?_
        refine s_rd (r_faddr (fo := 7) Try.underlying95 rfl rfl Try.sizeOf3 rfl) rfl ?_
        refine s_rd (r_cload Try.isAgg3 rfl (j := 0) rfl rfl) rfl ?_
        refine s_rd (r_build (ps := [(0, .tmp 45), (1, .const (.int .i64 (4)))]) (rs := [(0, [iv .i64 t_0.leader]), (1, [iv .i64 4])]) st_57 zs_57 ⟨rfl, (part_at rfl iv_at), ⟨rfl, (part_at rfl iv_at), trivial⟩⟩ rfl rfl) rfl ?_
        refine s_st0 (s_cstore (out := [iv .i64 t_0.leader, iv .i64 4]) Try.sizeOf57 rfl (j := 1) rfl (part_ag (ψs := [iv .i64 t_0.leader, iv .i64 4]) rfl (by intro φ h; simp only [List.mem_cons, List.not_mem_nil, or_false] at h; rcases h with rfl | rfl <;> first | exact iv_at | exact bv_at | exact sv_at | exact slv_at | exact pv_at rfl)) rfl rfl rfl) (fun _ => ?_)
        refine l_nil ?_
        refine n_then ?_
        refine ref_ret ?_
        refine r_block ?_
        refine r_then ?_
        exact fin1 (.inl rfl) () [] rfl trivial rfl (rv_cell rfl (j := 1) rfl Try.isAgg57 Try.sizeOf57 rfl rfl)
      · refine ref_seq ?_
        refine ref_region ?_
        refine s_rd (r_move rfl) rfl ?_
        refine s_rd (r_faddr (fo := 7) Try.underlying95 rfl rfl Try.sizeOf3 rfl) rfl ?_
        refine s_rd (r_cload Try.isAgg3 rfl (j := 0) rfl rfl) rfl ?_
        refine pull fun t26 h_t26 => ?_
        refine s_st (s_call (ψ := fun (_ : Unit) => iv .i64 t26) (args := [.tmp 50]) Try.call61 rfl (protocol_other_ok h_t26) ⟨arg rfl, trivial⟩ (fun _ _ _ _ h => h)) rfl (fun _ => ?_)
        refine s_rd (r_sub rfl rfl) rfl ?_
        refine s_rd (r_faddr (fo := 0) Try.underlying95 rfl rfl Try.sizeOf35 rfl) rfl ?_
        refine s_rd (r_faddr (fo := 3) Try.underlying35 rfl rfl Try.sizeOf33 rfl) rfl ?_
        refine pull fun t27 h_t27 => ?_
        refine s_rd (r_aaddrV h_t27 rfl Try.underlying33 Try.sizeOf3 rfl rfl) rfl ?_
        refine s_rd (r_acload (ρ := (rI .i64)) (off := 3) h_t27 Try.isAgg3 rfl (j := 0) rfl rfl rfl rfl) rfl ?_
        refine s_rd (r_geq rfl rfl) rfl ?_
        refine s_rd (r_assign rfl) rfl ?_
        refine b_let (f := bv) (t := 47) rfl fun t28 => ?_
        refine l_nil ?_
        refine n_then ?_
        refine ref_cond rfl (fun hb29 => ?_) (fun hb29 => ?_)
        · refine ref_seq ?_
          refine ref_region ?_
          refine s_rd (r_faddr (fo := 7) Try.underlying95 rfl rfl Try.sizeOf3 rfl) rfl ?_
          refine s_rd (r_cload Try.isAgg3 rfl (j := 0) rfl rfl) rfl ?_
          refine s_rd (r_build (ps := [(0, .tmp 59), (1, .const (.int .i64 (2)))]) (rs := [(0, [iv .i64 t_0.leader]), (1, [iv .i64 2])]) st_57 zs_57 ⟨rfl, (part_at rfl iv_at), ⟨rfl, (part_at rfl iv_at), trivial⟩⟩ rfl rfl) rfl ?_
          refine s_st0 (s_cstore (out := [iv .i64 t_0.leader, iv .i64 2]) Try.sizeOf57 rfl (j := 1) rfl (part_ag (ψs := [iv .i64 t_0.leader, iv .i64 2]) rfl (by intro φ h; simp only [List.mem_cons, List.not_mem_nil, or_false] at h; rcases h with rfl | rfl <;> first | exact iv_at | exact bv_at | exact sv_at | exact slv_at | exact pv_at rfl)) rfl rfl rfl) (fun _ => ?_)
          refine l_nil ?_
          refine b_of (nrm [oc b1 [iv .i64 t_0.d.Graph.N, slv rT_api_Pair t_0.d.Graph.L, iv .i64 t_0.d.Root, iv .i64 t_0.d.Limits.i0, iv .i64 t_0.d.Limits.i1, slv rT_api_Move t_0.d.Moves, slv (rI .i64) t_0.status, iv .i64 t_0.leader, slv rB t_0.leading], oc b2 [iv .i64 t_0.leader, iv .i64 2], oc b21 [iv .i64 t20.By, iv .i64 t20.Kind, iv .i64 t20.Node, iv .i64 t20.Target]] rfl) ?_
          refine n_then ?_
          refine ref_ret ?_
          refine r_block ?_
          refine r_then ?_
          exact fin1 (.inl rfl) () [] rfl trivial rfl (rv_cell rfl (j := 1) rfl Try.isAgg57 Try.sizeOf57 rfl rfl)
        · refine ref_seq ?_
          refine ref_region ?_
          refine s_rd (r_cloadS Try.isAgg95 Try.sizeOf95 rfl (j := 0) rfl rfl rfl) rfl ?_
          refine pull fun t30 h_t30 => ?_
          refine s_st (s_call (ψ := fun (x31 : (Value × List Nat)) => pv x31.1) (args := [.tmp 62]) Try.call65 rfl (protocol_table_legal_ok h_t30) ⟨arg rfl, trivial⟩ (fun _ _ _ _ h => h)) rfl (fun x31 => ?_)
          refine s_rd (r_olen Try.underlying23 rfl (j := 3) rfl) rfl ?_
          refine s_rd (r_eql rfl rfl) rfl ?_
          refine s_rd (r_assign rfl) rfl ?_
          refine b_let (f := bv) (t := 61) rfl fun t32 => ?_
          refine l_nil ?_
          refine b_of (nrm [oc b1 [iv .i64 t_0.d.Graph.N, slv rT_api_Pair t_0.d.Graph.L, iv .i64 t_0.d.Root, iv .i64 t_0.d.Limits.i0, iv .i64 t_0.d.Limits.i1, slv rT_api_Move t_0.d.Moves, slv (rI .i64) t_0.status, iv .i64 t_0.leader, slv rB t_0.leading], oc b2 [iv .i64 0, iv .i64 0], oc b21 [iv .i64 t20.By, iv .i64 t20.Kind, iv .i64 t20.Node, iv .i64 t20.Target], oa rT_api_Move x31.1 x31.2 t30] rfl) ?_
          refine n_then ?_
          refine ref_cond rfl (fun hb33 => ?_) (fun hb33 => ?_)
          · refine ref_seq ?_
            refine ref_region ?_
            refine s_rd (r_faddr (fo := 7) Try.underlying95 rfl rfl Try.sizeOf3 rfl) rfl ?_
            refine s_rd (r_cload Try.isAgg3 rfl (j := 0) rfl rfl) rfl ?_
            refine s_rd (r_build (ps := [(0, .tmp 67), (1, .const (.int .i64 (1)))]) (rs := [(0, [iv .i64 t_0.leader]), (1, [iv .i64 1])]) st_57 zs_57 ⟨rfl, (part_at rfl iv_at), ⟨rfl, (part_at rfl iv_at), trivial⟩⟩ rfl rfl) rfl ?_
            refine s_st0 (s_cstore (out := [iv .i64 t_0.leader, iv .i64 1]) Try.sizeOf57 rfl (j := 1) rfl (part_ag (ψs := [iv .i64 t_0.leader, iv .i64 1]) rfl (by intro φ h; simp only [List.mem_cons, List.not_mem_nil, or_false] at h; rcases h with rfl | rfl <;> first | exact iv_at | exact bv_at | exact sv_at | exact slv_at | exact pv_at rfl)) rfl rfl rfl) (fun _ => ?_)
            refine l_nil ?_
            refine n_then ?_
            refine ref_ret ?_
            refine r_block ?_
            refine r_then ?_
            exact fin1 (.inl rfl) () [] rfl trivial rfl (rv_cell rfl (j := 1) rfl Try.isAgg57 Try.sizeOf57 rfl rfl)
          · refine ref_skip ?_
            refine n_block ?_
            refine n_then ?_
            refine ref_seq ?_
            refine ref_region ?_
            refine s_rd (r_build (ps := []) (rs := []) st_57 zs_57 trivial rfl rfl) rfl ?_
            refine s_st0 (s_cstore (out := [iv .i64 0, iv .i64 0]) Try.sizeOf57 rfl (j := 1) rfl (part_ag (ψs := [iv .i64 0, iv .i64 0]) rfl (by intro φ h; simp only [List.mem_cons, List.not_mem_nil, or_false] at h; rcases h with rfl | rfl <;> first | exact iv_at | exact bv_at | exact sv_at | exact slv_at | exact pv_at rfl)) rfl rfl rfl) (fun _ => ?_)
            refine l_nil ?_
            refine n_then ?_
            refine ref_ret ?_
            exact fin1 (.inl rfl) () [] rfl trivial rfl (rv_cell rfl (j := 1) rfl Try.isAgg57 Try.sizeOf57 rfl rfl)

/-! deliberation/protocol.End -/
noncomputable def protocol_End_m (d_0 : T_api_Dialogue) : Option (T_api_Outcome) :=
  bif (d_0.Moves.length : Int) == 0 then
    some (T_api_Outcome.mk 0 0)
  else
    Option.bind (protocol_of_m d_0) fun t4 =>
    Option.bind (protocol_table_end_m t4) fun t5 =>
    some t5

theorem protocol_End_ok {d_0 : T_api_Dialogue} {r : T_api_Outcome} (hm : protocol_End_m d_0 = some r) :
    FnOk prog 60 [ag [iv .i64 d_0.Graph.N, slv rT_api_Pair d_0.Graph.L, iv .i64 d_0.Root, iv .i64 d_0.Limits.i0, iv .i64 d_0.Limits.i1, slv rT_api_Move d_0.Moves]] [] (fun (x : Unit) => [ag [iv .i64 r.Winner, iv .i64 r.Reason]]) (fun (x : Unit) => []) := by
  refine fn_ok (X := Unit) (fn := Try.f60) (N := 11) (m := protocol_End_m d_0) (res := fun r x => [ag [iv .i64 r.Winner, iv .i64 r.Reason]]) (Ω1 := fun r x => []) Try.func60 rfl rfl hm rfl (fun E hM => ?_)
  unfold protocol_End_m
  refine ref_seq ?_
  refine ref_region ?_
  refine s_st (s_box (part_ag (ψs := [iv .i64 d_0.Graph.N, slv rT_api_Pair d_0.Graph.L, iv .i64 d_0.Root, iv .i64 d_0.Limits.i0, iv .i64 d_0.Limits.i1, slv rT_api_Move d_0.Moves]) rfl (by intro φ h; simp only [List.mem_cons, List.not_mem_nil, or_false] at h; rcases h with rfl | rfl | rfl | rfl | rfl | rfl <;> first | exact iv_at | exact bv_at | exact sv_at | exact slv_at | exact pv_at rfl))) rfl (fun b1 => ?_)
  refine s_st (s_alloc zt_57) rfl (fun b2 => ?_)
  refine l_nil ?_
  refine n_then ?_
  refine ref_seq ?_
  refine ref_seq ?_
  refine ref_region ?_
  refine s_rd (r_faddr (fo := 5) Try.underlying35 rfl rfl Try.sizeOf23 rfl) rfl ?_
  refine s_rd (r_cload Try.isAgg23 rfl (j := 0) rfl rfl) rfl ?_
  refine s_rd (r_len Try.underlying23 rfl) rfl ?_
  refine s_rd (r_eql rfl rfl) rfl ?_
  refine l_nil ?_
  refine n_then ?_
  refine ref_cond rfl (fun hb3 => ?_) (fun hb3 => ?_)
  · refine ref_seq ?_
    refine ref_region ?_
    refine s_rd (r_build (ps := []) (rs := []) st_57 zs_57 trivial rfl rfl) rfl ?_
    refine s_st0 (s_cstore (out := [iv .i64 0, iv .i64 0]) Try.sizeOf57 rfl (j := 1) rfl (part_ag (ψs := [iv .i64 0, iv .i64 0]) rfl (by intro φ h; simp only [List.mem_cons, List.not_mem_nil, or_false] at h; rcases h with rfl | rfl <;> first | exact iv_at | exact bv_at | exact sv_at | exact slv_at | exact pv_at rfl)) rfl rfl rfl) (fun _ => ?_)
    refine l_nil ?_
    refine n_then ?_
    refine ref_ret ?_
    refine r_then ?_
    exact fin1 (.inl rfl) () [] rfl trivial rfl (rv_cell rfl (j := 1) rfl Try.isAgg57 Try.sizeOf57 rfl rfl)
  · refine ref_skip ?_
    refine n_then ?_
    refine ref_seq ?_
    refine ref_region ?_
    refine s_rd (r_cloadS Try.isAgg35 Try.sizeOf35 rfl (j := 0) rfl rfl rfl) rfl ?_
    refine pull fun t4 h_t4 => ?_
    refine s_st (s_call (ψ := fun (_ : Unit) => ag [iv .i64 t4.d.Graph.N, slv rT_api_Pair t4.d.Graph.L, iv .i64 t4.d.Root, iv .i64 t4.d.Limits.i0, iv .i64 t4.d.Limits.i1, slv rT_api_Move t4.d.Moves, slv (rI .i64) t4.status, iv .i64 t4.leader, slv rB t4.leading]) (args := [.tmp 8]) Try.call62 rfl (protocol_of_ok h_t4) ⟨arg rfl, trivial⟩ (fun _ _ _ _ h => h)) rfl (fun _ => ?_)
    refine pull fun t5 h_t5 => ?_
    refine s_st (s_call (ψ := fun (_ : Unit) => ag [iv .i64 t5.Winner, iv .i64 t5.Reason]) (args := [.tmp 9]) Try.call80 rfl (protocol_table_end_ok h_t5) ⟨arg rfl, trivial⟩ (fun _ _ _ _ h => h)) rfl (fun _ => ?_)
    refine s_st0 (s_cstore (out := [iv .i64 t5.Winner, iv .i64 t5.Reason]) Try.sizeOf57 rfl (j := 1) rfl (part_ag (ψs := [iv .i64 t5.Winner, iv .i64 t5.Reason]) rfl (by intro φ h; simp only [List.mem_cons, List.not_mem_nil, or_false] at h; rcases h with rfl | rfl <;> first | exact iv_at | exact bv_at | exact sv_at | exact slv_at | exact pv_at rfl)) rfl rfl rfl) (fun _ => ?_)
    refine l_nil ?_
    refine b_of (nrm [oc b1 [iv .i64 d_0.Graph.N, slv rT_api_Pair d_0.Graph.L, iv .i64 d_0.Root, iv .i64 d_0.Limits.i0, iv .i64 d_0.Limits.i1, slv rT_api_Move d_0.Moves], oc b2 [iv .i64 t5.Winner, iv .i64 t5.Reason]] rfl) ?_
    refine n_then ?_
    refine ref_ret ?_
    exact fin1 (.inl rfl) () [] rfl trivial rfl (rv_cell rfl (j := 1) rfl Try.isAgg57 Try.sizeOf57 rfl rfl)

/-! deliberation/protocol.Turn -/
noncomputable def protocol_Turn_m (d_0 : T_api_Dialogue) : Option (Int) :=
  bif (d_0.Moves.length : Int) == 0 then
    some 0
  else
    Option.bind (protocol_End_m d_0) fun t2 =>
    bif t2.Reason != 0 then
      some 0
    else
      Option.bind (protocol_of_m d_0) fun t4 =>
      Option.bind (protocol_other_m t4.leader) fun t5 =>
      some t5

theorem protocol_Turn_ok {d_0 : T_api_Dialogue} {r : Int} (hm : protocol_Turn_m d_0 = some r) :
    FnOk prog 32 [ag [iv .i64 d_0.Graph.N, slv rT_api_Pair d_0.Graph.L, iv .i64 d_0.Root, iv .i64 d_0.Limits.i0, iv .i64 d_0.Limits.i1, slv rT_api_Move d_0.Moves]] [] (fun (x : Unit) => [iv .i64 r]) (fun (x : Unit) => []) := by
  refine fn_ok (X := Unit) (fn := Try.f32) (N := 17) (m := protocol_Turn_m d_0) (res := fun r x => [iv .i64 r]) (Ω1 := fun r x => []) Try.func32 rfl rfl hm rfl (fun E hM => ?_)
  unfold protocol_Turn_m
  refine ref_seq ?_
  refine ref_region ?_
  refine s_st (s_box (part_ag (ψs := [iv .i64 d_0.Graph.N, slv rT_api_Pair d_0.Graph.L, iv .i64 d_0.Root, iv .i64 d_0.Limits.i0, iv .i64 d_0.Limits.i1, slv rT_api_Move d_0.Moves]) rfl (by intro φ h; simp only [List.mem_cons, List.not_mem_nil, or_false] at h; rcases h with rfl | rfl | rfl | rfl | rfl | rfl <;> first | exact iv_at | exact bv_at | exact sv_at | exact slv_at | exact pv_at rfl))) rfl (fun b1 => ?_)
  refine s_rd (r_assign rfl) rfl ?_
  refine l_nil ?_
  refine n_then ?_
  refine ref_seq ?_
  refine ref_seq ?_
  refine ref_region ?_
  refine s_rd (r_faddr (fo := 5) Try.underlying35 rfl rfl Try.sizeOf23 rfl) rfl ?_
  refine s_rd (r_cload Try.isAgg23 rfl (j := 0) rfl rfl) rfl ?_
  refine s_rd (r_len Try.underlying23 rfl) rfl ?_
  refine s_rd (r_eql rfl rfl) rfl ?_
  refine s_rd (r_move rfl) rfl ?_
  refine b_split (t := 7) rfl (fun _ => ?_) (fun _ => ?_)
  · refine s_off rfl rfl rfl rfl rfl ?_
    refine s_off rfl rfl rfl rfl rfl ?_
    refine s_off rfl rfl rfl rfl rfl ?_
    refine s_off rfl rfl rfl rfl rfl ?_
    refine s_rd (r_pickT rfl rfl) rfl ?_
    refine l_nil ?_
    refine n_then ?_
    refine ref_condT rfl rfl ?_
    refine ref_seq ?_
    refine ref_region ?_
    refine s_rd (r_assign rfl) rfl ?_
    refine l_nil ?_
    refine n_then ?_
    refine ref_ret ?_
    refine r_then ?_
    exact fin1 (.inl rfl) () [] rfl trivial rfl (rv_tmp rfl)
  · refine s_on rfl rfl rfl ?_
    refine s_rd (r_cloadS Try.isAgg35 Try.sizeOf35 rfl (j := 0) rfl rfl rfl) rfl ?_
    refine s_on rfl rfl rfl ?_
    refine pull fun t2 h_t2 => ?_
    refine s_st (s_call (ψ := fun (_ : Unit) => ag [iv .i64 t2.Winner, iv .i64 t2.Reason]) (args := [.tmp 8]) Try.call60 rfl (protocol_End_ok h_t2) ⟨arg rfl, trivial⟩ (fun _ _ _ _ h => h)) rfl (fun _ => ?_)
    refine s_on rfl rfl rfl ?_
    refine s_rd (r_field1 (off := 1) Try.underlying57 rfl rfl Try.isAgg3 rfl rfl) rfl ?_
    refine s_on rfl rfl rfl ?_
    refine s_rd (r_neq rfl rfl) rfl ?_
    refine s_rd (r_pickF rfl rfl) rfl ?_
    refine l_nil ?_
    refine n_then ?_
    refine ref_cond rfl (fun hb3 => ?_) (fun hb3 => ?_)
    · refine ref_seq ?_
      refine ref_region ?_
      refine s_rd (r_assign rfl) rfl ?_
      refine l_nil ?_
      refine n_then ?_
      refine ref_ret ?_
      refine r_then ?_
      exact fin1 (.inl rfl) () [] rfl trivial rfl (rv_tmp rfl)
    · refine ref_skip ?_
      refine n_then ?_
      refine ref_seq ?_
      refine ref_region ?_
      refine s_rd (r_cloadS Try.isAgg35 Try.sizeOf35 rfl (j := 0) rfl rfl rfl) rfl ?_
      refine pull fun t4 h_t4 => ?_
      refine s_st (s_call (ψ := fun (_ : Unit) => ag [iv .i64 t4.d.Graph.N, slv rT_api_Pair t4.d.Graph.L, iv .i64 t4.d.Root, iv .i64 t4.d.Limits.i0, iv .i64 t4.d.Limits.i1, slv rT_api_Move t4.d.Moves, slv (rI .i64) t4.status, iv .i64 t4.leader, slv rB t4.leading]) (args := [.tmp 13]) Try.call62 rfl (protocol_of_ok h_t4) ⟨arg rfl, trivial⟩ (fun _ _ _ _ h => h)) rfl (fun _ => ?_)
      refine s_rd (r_field1 (off := 7) Try.underlying95 rfl rfl Try.isAgg3 rfl rfl) rfl ?_
      refine pull fun t5 h_t5 => ?_
      refine s_st (s_call (ψ := fun (_ : Unit) => iv .i64 t5) (args := [.tmp 15]) Try.call61 rfl (protocol_other_ok h_t5) ⟨arg rfl, trivial⟩ (fun _ _ _ _ h => h)) rfl (fun _ => ?_)
      refine s_rd (r_assign rfl) rfl ?_
      refine l_nil ?_
      refine b_of (nrm [oc b1 [iv .i64 d_0.Graph.N, slv rT_api_Pair d_0.Graph.L, iv .i64 d_0.Root, iv .i64 d_0.Limits.i0, iv .i64 d_0.Limits.i1, slv rT_api_Move d_0.Moves]] rfl) ?_
      refine n_then ?_
      refine ref_ret ?_
      exact fin1 (.inl rfl) () [] rfl trivial rfl (rv_tmp rfl)

/-! deliberation/protocol.Legal -/
noncomputable def protocol_Legal_m (d_0 : T_api_Dialogue) : Option (List T_api_Move) :=
  Option.bind (protocol_Turn_m d_0) fun t2 =>
  bif t2 == 0 then
    some []
  else
    Option.bind (protocol_of_m d_0) fun t4 =>
    Option.bind (protocol_table_legal_m t4) fun t5 =>
    some t5

theorem protocol_Legal_ok {d_0 : T_api_Dialogue} {r : List T_api_Move} (hm : protocol_Legal_m d_0 = some r) :
    FnOk prog 35 [ag [iv .i64 d_0.Graph.N, slv rT_api_Pair d_0.Graph.L, iv .i64 d_0.Root, iv .i64 d_0.Limits.i0, iv .i64 d_0.Limits.i1, slv rT_api_Move d_0.Moves]] [] (fun (x : (Value × List Nat)) => [pv x.1]) (fun (x : (Value × List Nat)) => [oa rT_api_Move x.1 x.2 r]) := by
  refine fn_ok (X := (Value × List Nat)) (fn := Try.f35) (N := 9) (m := protocol_Legal_m d_0) (res := fun r x => [pv x.1]) (Ω1 := fun r x => [oa rT_api_Move x.1 x.2 r]) Try.func35 rfl rfl hm rfl (fun E hM => ?_)
  unfold protocol_Legal_m
  refine ref_seq ?_
  refine ref_region ?_
  refine s_st (s_box (part_ag (ψs := [iv .i64 d_0.Graph.N, slv rT_api_Pair d_0.Graph.L, iv .i64 d_0.Root, iv .i64 d_0.Limits.i0, iv .i64 d_0.Limits.i1, slv rT_api_Move d_0.Moves]) rfl (by intro φ h; simp only [List.mem_cons, List.not_mem_nil, or_false] at h; rcases h with rfl | rfl | rfl | rfl | rfl | rfl <;> first | exact iv_at | exact bv_at | exact sv_at | exact slv_at | exact pv_at rfl))) rfl (fun b1 => ?_)
  refine s_rd (r_assign rfl) rfl ?_
  refine l_nil ?_
  refine n_then ?_
  refine ref_seq ?_
  refine ref_seq ?_
  refine ref_region ?_
  refine s_rd (r_cloadS Try.isAgg35 Try.sizeOf35 rfl (j := 0) rfl rfl rfl) rfl ?_
  refine pull fun t2 h_t2 => ?_
  refine s_st (s_call (ψ := fun (_ : Unit) => iv .i64 t2) (args := [.tmp 3]) Try.call32 rfl (protocol_Turn_ok h_t2) ⟨arg rfl, trivial⟩ (fun _ _ _ _ h => h)) rfl (fun _ => ?_)
  refine s_rd (r_eql rfl rfl) rfl ?_
  refine l_nil ?_
  refine n_then ?_
  refine ref_cond rfl (fun hb3 => ?_) (fun hb3 => ?_)
  · refine ref_seq ?_
    refine ref_region ?_
    refine s_rd (r_assign rfl) rfl ?_
    refine l_nil ?_
    refine n_then ?_
    refine ref_ret ?_
    refine r_then ?_
    refine b_of (own_nil rT_api_Move) ?_
    exact fin1 (.inl rfl) ((.slice none 0 0), []) [1] rfl ⟨rfl, trivial⟩ rfl (rv_tmp rfl)
  · refine ref_skip ?_
    refine n_then ?_
    refine ref_seq ?_
    refine ref_region ?_
    refine s_rd (r_cloadS Try.isAgg35 Try.sizeOf35 rfl (j := 0) rfl rfl rfl) rfl ?_
    refine pull fun t4 h_t4 => ?_
    refine s_st (s_call (ψ := fun (_ : Unit) => ag [iv .i64 t4.d.Graph.N, slv rT_api_Pair t4.d.Graph.L, iv .i64 t4.d.Root, iv .i64 t4.d.Limits.i0, iv .i64 t4.d.Limits.i1, slv rT_api_Move t4.d.Moves, slv (rI .i64) t4.status, iv .i64 t4.leader, slv rB t4.leading]) (args := [.tmp 6]) Try.call62 rfl (protocol_of_ok h_t4) ⟨arg rfl, trivial⟩ (fun _ _ _ _ h => h)) rfl (fun _ => ?_)
    refine pull fun t5 h_t5 => ?_
    refine s_st (s_call (ψ := fun (x6 : (Value × List Nat)) => pv x6.1) (args := [.tmp 7]) Try.call65 rfl (protocol_table_legal_ok h_t5) ⟨arg rfl, trivial⟩ (fun _ _ _ _ h => h)) rfl (fun x6 => ?_)
    refine s_rd (r_assign rfl) rfl ?_
    refine l_nil ?_
    refine b_of (nrm [oc b1 [iv .i64 d_0.Graph.N, slv rT_api_Pair d_0.Graph.L, iv .i64 d_0.Root, iv .i64 d_0.Limits.i0, iv .i64 d_0.Limits.i1, slv rT_api_Move d_0.Moves], oa rT_api_Move x6.1 x6.2 t5] rfl) ?_
    refine n_then ?_
    refine ref_ret ?_
    exact fin1 (.inl rfl) x6 [1] rfl ⟨rfl, trivial⟩ rfl (rv_tmp rfl)

/-! (deliberation/protocol.table).judged -/
noncomputable def protocol_table_judged_m (t_0 : T_protocol_table) (m_1 : T_api_Move) : Option (T_api_Move × Int) :=
  joinM (fun j9 : Unit =>
      Option.bind (protocol_other_m t_0.leader) fun t12 =>
      bif m_1.By != t12 then
        some (m_1, 8)
      else
        bif m_1.Kind == 4 then
          some ((T_api_Move.mk m_1.By m_1.Kind 0 0), 0)
        else
          joinM (fun j16 : Unit =>
              bif m_1.Kind == 2 then
                Option.bind (protocol_table_legal_m t_0) fun t20 =>
                Option.bind (slices_Contains_api_Move_api_Move_m t20 m_1) fun t22 =>
                bif !t22 then
                  some (m_1, 9)
                else
                  some (m_1, 0)
              else
                Option.bind (idxM t_0.d.Moves m_1.Target) fun t24 =>
                bif t24.By != m_1.By then
                  some (m_1, 6)
                else
                  bif t24.Kind != 2 then
                    some (m_1, 6)
                  else
                    Option.bind (idxM t_0.status m_1.Target) fun t26 =>
                    bif t26 == 0 then
                      some (m_1, 6)
                    else
                      some ((T_api_Move.mk m_1.By m_1.Kind 0 m_1.Target), 0)) fun k18 =>
          bif decide (m_1.Target < 0) then
            some (m_1, 1)
          else
            bif decide (m_1.Target ≥ (t_0.d.Moves.length : Int)) then
              some (m_1, 1)
            else
              bif m_1.Kind == 2 then
                bif decide (m_1.Node < 0) then
                  some (m_1, 1)
                else
                  bif decide (m_1.Node ≥ t_0.d.Graph.N) then
                    some (m_1, 1)
                  else
                    k18 ()
              else
                k18 ()) fun k11 =>
  bif m_1.Kind == 2 then
    bif m_1.Kind == 2 then
      k11 ()
    else
      some (m_1, 4)
  else
    bif m_1.Kind == 3 then
      bif m_1.Kind == 3 then
        k11 ()
      else
        some (m_1, 4)
    else
      bif m_1.Kind == 4 then
        k11 ()
      else
        some (m_1, 4)

theorem protocol_table_judged_ok {t_0 : T_protocol_table} {m_1 : T_api_Move} {r : T_api_Move × Int} (hm : protocol_table_judged_m t_0 m_1 = some r) :
    FnOk prog 74 [ag [iv .i64 t_0.d.Graph.N, slv rT_api_Pair t_0.d.Graph.L, iv .i64 t_0.d.Root, iv .i64 t_0.d.Limits.i0, iv .i64 t_0.d.Limits.i1, slv rT_api_Move t_0.d.Moves, slv (rI .i64) t_0.status, iv .i64 t_0.leader, slv rB t_0.leading], ag [iv .i64 m_1.By, iv .i64 m_1.Kind, iv .i64 m_1.Node, iv .i64 m_1.Target]] [] (fun (x : Unit) => [ag [iv .i64 r.1.By, iv .i64 r.1.Kind, iv .i64 r.1.Node, iv .i64 r.1.Target], iv .i64 r.2]) (fun (x : Unit) => []) := by
  refine fn_ok (X := Unit) (fn := Try.f74) (N := 100) (m := protocol_table_judged_m t_0 m_1) (res := fun r x => [ag [iv .i64 r.1.By, iv .i64 r.1.Kind, iv .i64 r.1.Node, iv .i64 r.1.Target], iv .i64 r.2]) (Ω1 := fun r x => []) Try.func74 rfl rfl hm rfl (fun E hM => ?_)
  unfold protocol_table_judged_m
  refine ref_seq ?_
  refine ref_region ?_
  refine s_st (s_box (part_ag (ψs := [iv .i64 t_0.d.Graph.N, slv rT_api_Pair t_0.d.Graph.L, iv .i64 t_0.d.Root, iv .i64 t_0.d.Limits.i0, iv .i64 t_0.d.Limits.i1, slv rT_api_Move t_0.d.Moves, slv (rI .i64) t_0.status, iv .i64 t_0.leader, slv rB t_0.leading]) rfl (by intro φ h; simp only [List.mem_cons, List.not_mem_nil, or_false] at h; rcases h with rfl | rfl | rfl | rfl | rfl | rfl | rfl | rfl | rfl <;> first | exact iv_at | exact bv_at | exact sv_at | exact slv_at | exact pv_at rfl))) rfl (fun b1 => ?_)
  refine s_st (s_box (part_ag (ψs := [iv .i64 m_1.By, iv .i64 m_1.Kind, iv .i64 m_1.Node, iv .i64 m_1.Target]) rfl (by intro φ h; simp only [List.mem_cons, List.not_mem_nil, or_false] at h; rcases h with rfl | rfl | rfl | rfl <;> first | exact iv_at | exact bv_at | exact sv_at | exact slv_at | exact pv_at rfl))) rfl (fun b2 => ?_)
  refine s_st (s_alloc zt_40) rfl (fun b3 => ?_)
  refine s_rd (r_assign rfl) rfl ?_
  refine l_nil ?_
  refine n_then ?_
  refine ref_seq ?_
  refine ref_region ?_
  refine s_rd (r_faddr (fo := 0) Try.underlying95 rfl rfl Try.sizeOf35 rfl) rfl ?_
  refine s_rd (r_faddr (fo := 5) Try.underlying35 rfl rfl Try.sizeOf23 rfl) rfl ?_
  refine s_rd (r_cload Try.isAgg23 rfl (j := 0) rfl rfl) rfl ?_
  refine s_rd (r_assign rfl) rfl ?_
  refine l_nil ?_
  refine n_then ?_
  refine ref_seq ?_
  refine ref_join (fun (j9 : Unit) (x10 : Unit) => [(2, pv (ptr b1 0)), (3, pv (ptr b2 0)), (4, pv (ptr b3 0)), (6, slv rT_api_Move t_0.d.Moves)]) (fun (j9 : Unit) (x10 : Unit) => [oc b1 [iv .i64 t_0.d.Graph.N, slv rT_api_Pair t_0.d.Graph.L, iv .i64 t_0.d.Root, iv .i64 t_0.d.Limits.i0, iv .i64 t_0.d.Limits.i1, slv rT_api_Move t_0.d.Moves, slv (rI .i64) t_0.status, iv .i64 t_0.leader, slv rB t_0.leading], oc b2 [iv .i64 m_1.By, iv .i64 m_1.Kind, iv .i64 m_1.Node, iv .i64 m_1.Target], oc b3 [iv .i64 0, iv .i64 0, iv .i64 0, iv .i64 0]]) (fun k11 hk11 => ?_) (fun j9 x10 => ?_)
  · refine ref_seq ?_
    refine ref_region ?_
    refine s_rd (r_faddr (fo := 1) Try.underlying40 rfl rfl Try.sizeOf3 rfl) rfl ?_
    refine s_rd (r_cload Try.isAgg3 rfl (j := 1) rfl rfl) rfl ?_
    refine l_nil ?_
    refine n_then ?_
    refine ref_block ?_
    refine ref_seq ?_
    refine ref_seq ?_
    refine ref_region ?_
    refine s_rd (r_eql rfl rfl) rfl ?_
    refine s_rd (r_assign rfl) rfl ?_
    refine l_nil ?_
    refine n_then ?_
    refine ref_cond rfl (fun hb4 => ?_) (fun hb4 => ?_)
    · refine ref_skip ?_
      refine n_then ?_
      refine ref_cond rfl (fun hb6 => ?_) (fun hb6 => ?_)
      · refine ref_skip ?_
        refine n_block ?_
        exact b_to (hk11 () ()) (weak [0, 1, 2] ⟨rfl, rfl, rfl, rfl, trivial⟩ ⟨rfl, rfl, rfl, trivial⟩)
      · refine ref_seq ?_
        refine ref_region ?_
        refine s_rd (r_cloadS Try.isAgg40 Try.sizeOf40 rfl (j := 1) rfl rfl rfl) rfl ?_
        refine s_st0 (s_cstore (out := [iv .i64 m_1.By, iv .i64 m_1.Kind, iv .i64 m_1.Node, iv .i64 m_1.Target]) Try.sizeOf40 rfl (j := 2) rfl (part_ag (ψs := [iv .i64 m_1.By, iv .i64 m_1.Kind, iv .i64 m_1.Node, iv .i64 m_1.Target]) rfl (by intro φ h; simp only [List.mem_cons, List.not_mem_nil, or_false] at h; rcases h with rfl | rfl | rfl | rfl <;> first | exact iv_at | exact bv_at | exact sv_at | exact slv_at | exact pv_at rfl)) rfl rfl rfl) (fun _ => ?_)
        refine s_rd (r_assign rfl) rfl ?_
        refine l_nil ?_
        refine b_of (nrm [oc b1 [iv .i64 t_0.d.Graph.N, slv rT_api_Pair t_0.d.Graph.L, iv .i64 t_0.d.Root, iv .i64 t_0.d.Limits.i0, iv .i64 t_0.d.Limits.i1, slv rT_api_Move t_0.d.Moves, slv (rI .i64) t_0.status, iv .i64 t_0.leader, slv rB t_0.leading], oc b2 [iv .i64 m_1.By, iv .i64 m_1.Kind, iv .i64 m_1.Node, iv .i64 m_1.Target], oc b3 [iv .i64 m_1.By, iv .i64 m_1.Kind, iv .i64 m_1.Node, iv .i64 m_1.Target]] rfl) ?_
        refine n_then ?_
        refine ref_ret ?_
        refine r_block ?_
        refine r_then ?_
        exact fin2 (.inl rfl) () [] rfl trivial rfl (rv_cell rfl (j := 2) rfl Try.isAgg40 Try.sizeOf40 rfl rfl) (rv_tmp rfl)
    · refine ref_seq ?_
      refine ref_region ?_
      refine s_rd (r_eql rfl rfl) rfl ?_
      refine s_rd (r_assign rfl) rfl ?_
      refine l_nil ?_
      refine n_then ?_
      refine ref_cond rfl (fun hb5 => ?_) (fun hb5 => ?_)
      · refine ref_skip ?_
        refine n_then ?_
        refine ref_cond rfl (fun hb7 => ?_) (fun hb7 => ?_)
        · refine ref_skip ?_
          refine n_block ?_
          exact b_to (hk11 () ()) (weak [0, 1, 2] ⟨rfl, rfl, rfl, rfl, trivial⟩ ⟨rfl, rfl, rfl, trivial⟩)
        · refine ref_seq ?_
          refine ref_region ?_
          refine s_rd (r_cloadS Try.isAgg40 Try.sizeOf40 rfl (j := 1) rfl rfl rfl) rfl ?_
          refine s_st0 (s_cstore (out := [iv .i64 m_1.By, iv .i64 m_1.Kind, iv .i64 m_1.Node, iv .i64 m_1.Target]) Try.sizeOf40 rfl (j := 2) rfl (part_ag (ψs := [iv .i64 m_1.By, iv .i64 m_1.Kind, iv .i64 m_1.Node, iv .i64 m_1.Target]) rfl (by intro φ h; simp only [List.mem_cons, List.not_mem_nil, or_false] at h; rcases h with rfl | rfl | rfl | rfl <;> first | exact iv_at | exact bv_at | exact sv_at | exact slv_at | exact pv_at rfl)) rfl rfl rfl) (fun _ => ?_)
          refine s_rd (r_assign rfl) rfl ?_
          refine l_nil ?_
          refine b_of (nrm [oc b1 [iv .i64 t_0.d.Graph.N, slv rT_api_Pair t_0.d.Graph.L, iv .i64 t_0.d.Root, iv .i64 t_0.d.Limits.i0, iv .i64 t_0.d.Limits.i1, slv rT_api_Move t_0.d.Moves, slv (rI .i64) t_0.status, iv .i64 t_0.leader, slv rB t_0.leading], oc b2 [iv .i64 m_1.By, iv .i64 m_1.Kind, iv .i64 m_1.Node, iv .i64 m_1.Target], oc b3 [iv .i64 m_1.By, iv .i64 m_1.Kind, iv .i64 m_1.Node, iv .i64 m_1.Target]] rfl) ?_
          refine n_then ?_
          refine ref_ret ?_
          refine r_block ?_
          refine r_then ?_
          exact fin2 (.inl rfl) () [] rfl trivial rfl (rv_cell rfl (j := 2) rfl Try.isAgg40 Try.sizeOf40 rfl rfl) (rv_tmp rfl)
      · refine ref_region ?_
        refine s_rd (r_eql rfl rfl) rfl ?_
        refine s_rd (r_assign rfl) rfl ?_
        refine l_nil ?_
        refine n_then ?_
        refine ref_cond rfl (fun hb8 => ?_) (fun hb8 => ?_)
        · refine ref_skip ?_
          refine n_block ?_
          exact b_to (hk11 () ()) (weak [0, 1, 2] ⟨rfl, rfl, rfl, rfl, trivial⟩ ⟨rfl, rfl, rfl, trivial⟩)
        · refine ref_seq ?_
          refine ref_region ?_
          refine s_rd (r_cloadS Try.isAgg40 Try.sizeOf40 rfl (j := 1) rfl rfl rfl) rfl ?_
          refine s_st0 (s_cstore (out := [iv .i64 m_1.By, iv .i64 m_1.Kind, iv .i64 m_1.Node, iv .i64 m_1.Target]) Try.sizeOf40 rfl (j := 2) rfl (part_ag (ψs := [iv .i64 m_1.By, iv .i64 m_1.Kind, iv .i64 m_1.Node, iv .i64 m_1.Target]) rfl (by intro φ h; simp only [List.mem_cons, List.not_mem_nil, or_false] at h; rcases h with rfl | rfl | rfl | rfl <;> first | exact iv_at | exact bv_at | exact sv_at | exact slv_at | exact pv_at rfl)) rfl rfl rfl) (fun _ => ?_)
          refine s_rd (r_assign rfl) rfl ?_
          refine l_nil ?_
          refine b_of (nrm [oc b1 [iv .i64 t_0.d.Graph.N, slv rT_api_Pair t_0.d.Graph.L, iv .i64 t_0.d.Root, iv .i64 t_0.d.Limits.i0, iv .i64 t_0.d.Limits.i1, slv rT_api_Move t_0.d.Moves, slv (rI .i64) t_0.status, iv .i64 t_0.leader, slv rB t_0.leading], oc b2 [iv .i64 m_1.By, iv .i64 m_1.Kind, iv .i64 m_1.Node, iv .i64 m_1.Target], oc b3 [iv .i64 m_1.By, iv .i64 m_1.Kind, iv .i64 m_1.Node, iv .i64 m_1.Target]] rfl) ?_
          refine n_then ?_
          refine ref_ret ?_
          refine r_block ?_
          refine r_then ?_
          exact fin2 (.inl rfl) () [] rfl trivial rfl (rv_cell rfl (j := 2) rfl Try.isAgg40 Try.sizeOf40 rfl rfl) (rv_tmp rfl)
  · refine n_then ?_
    refine ref_seq ?_
    refine ref_seq ?_
    refine ref_draw [0, 1, 2, 3, 5] rfl (by kernel_rfl) (fun hok => ?_)
    refine a_rd (i := 0) hok rfl (by kernel_rfl) rfl (r_faddr (fo := 0) Try.underlying40 rfl rfl Try.sizeOf3 rfl) rfl ?_
    refine a_rd (i := 1) hok rfl (by kernel_rfl) rfl (r_cload Try.isAgg3 rfl (j := 1) rfl rfl) rfl ?_
    refine a_rd (i := 2) hok rfl (by kernel_rfl) rfl (r_faddr (fo := 7) Try.underlying95 rfl rfl Try.sizeOf3 rfl) rfl ?_
    refine a_rd (i := 3) hok rfl (by kernel_rfl) rfl (r_cload Try.isAgg3 rfl (j := 0) rfl rfl) rfl ?_
    refine pull fun t12 h_t12 => ?_
    refine a_next hok 4 [] (by kernel_rfl) ?_ trivial
    refine a_st (i := 4) hok rfl rfl (s_call (ψ := fun (_ : Unit) => iv .i64 t12) (args := [.tmp 21]) Try.call61 rfl (protocol_other_ok h_t12) ⟨arg rfl, trivial⟩ (fun _ _ _ _ h => h)) (by intro _ h; cases h; rfl) (fun _ => ⟨trivial, ⟨trivial, ⟨⟨⟨rfl, rfl⟩, trivial⟩, ⟨trivial, trivial⟩⟩⟩⟩) (fun _ => ?_)
    refine a_rd (i := 5) hok rfl (by kernel_rfl) rfl (r_neq rfl rfl) rfl ?_
    refine a_fin hok (by kernel_rfl) ?_
    refine n_then ?_
    refine ref_cond rfl (fun hb13 => ?_) (fun hb13 => ?_)
    · refine ref_seq ?_
      refine ref_region ?_
      refine s_rd (r_cloadS Try.isAgg40 Try.sizeOf40 rfl (j := 1) rfl rfl rfl) rfl ?_
      refine s_st0 (s_cstore (out := [iv .i64 m_1.By, iv .i64 m_1.Kind, iv .i64 m_1.Node, iv .i64 m_1.Target]) Try.sizeOf40 rfl (j := 2) rfl (part_ag (ψs := [iv .i64 m_1.By, iv .i64 m_1.Kind, iv .i64 m_1.Node, iv .i64 m_1.Target]) rfl (by intro φ h; simp only [List.mem_cons, List.not_mem_nil, or_false] at h; rcases h with rfl | rfl | rfl | rfl <;> first | exact iv_at | exact bv_at | exact sv_at | exact slv_at | exact pv_at rfl)) rfl rfl rfl) (fun _ => ?_)
      refine s_rd (r_assign rfl) rfl ?_
      refine l_nil ?_
      refine n_then ?_
      refine ref_ret ?_
      refine r_then ?_
      exact fin2 (.inl rfl) () [] rfl trivial rfl (rv_cell rfl (j := 2) rfl Try.isAgg40 Try.sizeOf40 rfl rfl) (rv_tmp rfl)
    · refine ref_skip ?_
      refine n_then ?_
      refine ref_seq ?_
      refine ref_seq ?_
      refine ref_region ?_
      refine s_rd (r_faddr (fo := 1) Try.underlying40 rfl rfl Try.sizeOf3 rfl) rfl ?_
      refine s_rd (r_cload Try.isAgg3 rfl (j := 1) rfl rfl) rfl ?_
      refine s_rd (r_eql rfl rfl) rfl ?_
      refine l_nil ?_
      refine n_then ?_
      refine ref_cond rfl (fun hb14 => ?_) (fun hb14 => ?_)
      · refine ref_seq ?_
        refine ref_region ?_
        refine s_rd (r_faddr (fo := 0) Try.underlying40 rfl rfl Try.sizeOf3 rfl) rfl ?_
        refine s_rd (r_cload Try.isAgg3 rfl (j := 1) rfl rfl) rfl ?_
        refine s_rd (r_faddr (fo := 1) Try.underlying40 rfl rfl Try.sizeOf3 rfl) rfl ?_
        refine s_rd (r_cload Try.isAgg3 rfl (j := 1) rfl rfl) rfl ?_
        refine s_rd (r_build (ps := [(0, .tmp 29), (1, .tmp 31)]) (rs := [(0, [iv .i64 m_1.By]), (1, [iv .i64 m_1.Kind])]) st_40 zs_40 ⟨rfl, (part_at rfl iv_at), ⟨rfl, (part_at rfl iv_at), trivial⟩⟩ rfl rfl) rfl ?_
        refine s_st0 (s_cstore (out := [iv .i64 m_1.By, iv .i64 m_1.Kind, iv .i64 0, iv .i64 0]) Try.sizeOf40 rfl (j := 2) rfl (part_ag (ψs := [iv .i64 m_1.By, iv .i64 m_1.Kind, iv .i64 0, iv .i64 0]) rfl (by intro φ h; simp only [List.mem_cons, List.not_mem_nil, or_false] at h; rcases h with rfl | rfl | rfl | rfl <;> first | exact iv_at | exact bv_at | exact sv_at | exact slv_at | exact pv_at rfl)) rfl rfl rfl) (fun _ => ?_)
        refine s_rd (r_assign rfl) rfl ?_
        refine l_nil ?_
        refine n_then ?_
        refine ref_ret ?_
        refine r_then ?_
        exact fin2 (.inl rfl) () [] rfl trivial rfl (rv_cell rfl (j := 2) rfl Try.isAgg40 Try.sizeOf40 rfl rfl) (rv_tmp rfl)
      · refine ref_skip ?_
        refine n_then ?_
        refine ref_seq ?_
        refine ref_join (fun (j16 : Unit) (x17 : Unit) => [(2, pv (ptr b1 0)), (3, pv (ptr b2 0)), (4, pv (ptr b3 0)), (6, slv rT_api_Move t_0.d.Moves)]) (fun (j16 : Unit) (x17 : Unit) => [oc b1 [iv .i64 t_0.d.Graph.N, slv rT_api_Pair t_0.d.Graph.L, iv .i64 t_0.d.Root, iv .i64 t_0.d.Limits.i0, iv .i64 t_0.d.Limits.i1, slv rT_api_Move t_0.d.Moves, slv (rI .i64) t_0.status, iv .i64 t_0.leader, slv rB t_0.leading], oc b2 [iv .i64 m_1.By, iv .i64 m_1.Kind, iv .i64 m_1.Node, iv .i64 m_1.Target], oc b3 [iv .i64 0, iv .i64 0, iv .i64 0, iv .i64 0]]) (fun k18 hk18 => ?_) (fun j16 x17 => ?_)
        · refine ref_seq ?_
          refine ref_region ?_
          refine s_rd (r_faddr (fo := 3) Try.underlying40 rfl rfl Try.sizeOf3 rfl) rfl ?_
          refine s_rd (r_cload Try.isAgg3 rfl (j := 1) rfl rfl) rfl ?_
          refine s_rd (r_lss rfl rfl) rfl ?_
          refine s_rd (r_move rfl) rfl ?_
          refine b_split (t := 36) rfl (fun _ => ?_) (fun _ => ?_)
          · refine s_off rfl rfl rfl rfl rfl ?_
            refine s_off rfl rfl rfl rfl rfl ?_
            refine s_off rfl rfl rfl rfl rfl ?_
            refine s_off rfl rfl rfl rfl rfl ?_
            refine s_off rfl rfl rfl rfl rfl ?_
            refine s_rd (r_pickT rfl rfl) rfl ?_
            refine s_rd (r_move rfl) rfl ?_
            refine s_off rfl rfl rfl rfl rfl ?_
            refine s_off rfl rfl rfl rfl rfl ?_
            refine s_off rfl rfl rfl rfl rfl ?_
            refine s_off rfl rfl rfl rfl rfl ?_
            refine s_offU rfl rfl rfl ?_
            refine s_offU rfl rfl rfl ?_
            refine s_offU rfl rfl rfl ?_
            refine s_offU rfl rfl rfl ?_
            refine s_offU rfl rfl rfl ?_
            refine s_offU rfl rfl rfl ?_
            refine s_offU rfl rfl rfl ?_
            refine s_offU rfl rfl rfl ?_
            refine s_offU rfl rfl rfl ?_
            refine s_offU rfl rfl rfl ?_
            refine s_offU rfl rfl rfl ?_
            refine s_offU rfl rfl rfl ?_
            refine s_off rfl rfl rfl rfl rfl ?_
            refine s_rd (r_pickT rfl rfl) rfl ?_
            refine l_nil ?_
            refine n_then ?_
            refine ref_condT rfl rfl ?_
            refine ref_seq ?_
            refine ref_region ?_
            refine s_rd (r_cloadS Try.isAgg40 Try.sizeOf40 rfl (j := 1) rfl rfl rfl) rfl ?_
            refine s_st0 (s_cstore (out := [iv .i64 m_1.By, iv .i64 m_1.Kind, iv .i64 m_1.Node, iv .i64 m_1.Target]) Try.sizeOf40 rfl (j := 2) rfl (part_ag (ψs := [iv .i64 m_1.By, iv .i64 m_1.Kind, iv .i64 m_1.Node, iv .i64 m_1.Target]) rfl (by intro φ h; simp only [List.mem_cons, List.not_mem_nil, or_false] at h; rcases h with rfl | rfl | rfl | rfl <;> first | exact iv_at | exact bv_at | exact sv_at | exact slv_at | exact pv_at rfl)) rfl rfl rfl) (fun _ => ?_)
            refine s_rd (r_assign rfl) rfl ?_
            refine l_nil ?_
            refine n_then ?_
            refine ref_ret ?_
            refine r_then ?_
            exact fin2 (.inl rfl) () [] rfl trivial rfl (rv_cell rfl (j := 2) rfl Try.isAgg40 Try.sizeOf40 rfl rfl) (rv_tmp rfl)
          · refine s_on rfl rfl rfl ?_
            refine s_rd (r_faddr (fo := 3) Try.underlying40 rfl rfl Try.sizeOf3 rfl) rfl ?_
            refine s_on rfl rfl rfl ?_
            refine s_rd (r_cload Try.isAgg3 rfl (j := 1) rfl rfl) rfl ?_
            refine s_on rfl rfl rfl ?_
            refine s_rd (r_move rfl) rfl ?_
            refine s_on rfl rfl rfl ?_
            refine s_rd (r_len Try.underlying23 rfl) rfl ?_
            refine s_on rfl rfl rfl ?_
            refine s_rd (r_geq rfl rfl) rfl ?_
            refine s_rd (r_pickF rfl rfl) rfl ?_
            refine s_rd (r_move rfl) rfl ?_
            refine b_split (t := 43) rfl (fun _ => ?_) (fun _ => ?_)
            · refine s_off rfl rfl rfl rfl rfl ?_
              refine s_off rfl rfl rfl rfl rfl ?_
              refine s_off rfl rfl rfl rfl rfl ?_
              refine s_off rfl rfl rfl rfl rfl ?_
              refine s_offU rfl rfl rfl ?_
              refine s_offU rfl rfl rfl ?_
              refine s_offU rfl rfl rfl ?_
              refine s_offU rfl rfl rfl ?_
              refine s_offU rfl rfl rfl ?_
              refine s_offU rfl rfl rfl ?_
              refine s_offU rfl rfl rfl ?_
              refine s_offU rfl rfl rfl ?_
              refine s_offU rfl rfl rfl ?_
              refine s_offU rfl rfl rfl ?_
              refine s_offU rfl rfl rfl ?_
              refine s_offU rfl rfl rfl ?_
              refine s_off rfl rfl rfl rfl rfl ?_
              refine s_rd (r_pickT rfl rfl) rfl ?_
              refine l_nil ?_
              refine n_then ?_
              refine ref_condT rfl rfl ?_
              refine ref_seq ?_
              refine ref_region ?_
              refine s_rd (r_cloadS Try.isAgg40 Try.sizeOf40 rfl (j := 1) rfl rfl rfl) rfl ?_
              refine s_st0 (s_cstore (out := [iv .i64 m_1.By, iv .i64 m_1.Kind, iv .i64 m_1.Node, iv .i64 m_1.Target]) Try.sizeOf40 rfl (j := 2) rfl (part_ag (ψs := [iv .i64 m_1.By, iv .i64 m_1.Kind, iv .i64 m_1.Node, iv .i64 m_1.Target]) rfl (by intro φ h; simp only [List.mem_cons, List.not_mem_nil, or_false] at h; rcases h with rfl | rfl | rfl | rfl <;> first | exact iv_at | exact bv_at | exact sv_at | exact slv_at | exact pv_at rfl)) rfl rfl rfl) (fun _ => ?_)
              refine s_rd (r_assign rfl) rfl ?_
              refine l_nil ?_
              refine n_then ?_
              refine ref_ret ?_
              refine r_then ?_
              exact fin2 (.inl rfl) () [] rfl trivial rfl (rv_cell rfl (j := 2) rfl Try.isAgg40 Try.sizeOf40 rfl rfl) (rv_tmp rfl)
            · refine s_on rfl rfl rfl ?_
              refine s_rd (r_faddr (fo := 1) Try.underlying40 rfl rfl Try.sizeOf3 rfl) rfl ?_
              refine s_on rfl rfl rfl ?_
              refine s_rd (r_cload Try.isAgg3 rfl (j := 1) rfl rfl) rfl ?_
              refine s_on rfl rfl rfl ?_
              refine s_rd (r_eql rfl rfl) rfl ?_
              refine s_on rfl rfl rfl ?_
              refine s_rd (r_move rfl) rfl ?_
              refine b_split (t := 47) rfl (fun _ => ?_) (fun _ => ?_)
              · refine s_on rfl rfl rfl ?_
                refine s_rd (r_faddr (fo := 2) Try.underlying40 rfl rfl Try.sizeOf3 rfl) rfl ?_
                refine s_on rfl rfl rfl ?_
                refine s_rd (r_cload Try.isAgg3 rfl (j := 1) rfl rfl) rfl ?_
                refine s_on rfl rfl rfl ?_
                refine s_rd (r_lss rfl rfl) rfl ?_
                refine s_on rfl rfl rfl ?_
                refine s_rd (r_move rfl) rfl ?_
                refine b_split (t := 51) rfl (fun _ => ?_) (fun _ => ?_)
                · refine s_off rfl rfl rfl rfl rfl ?_
                  refine s_off rfl rfl rfl rfl rfl ?_
                  refine s_off rfl rfl rfl rfl rfl ?_
                  refine s_off rfl rfl rfl rfl rfl ?_
                  refine s_off rfl rfl rfl rfl rfl ?_
                  refine s_off rfl rfl rfl rfl rfl ?_
                  refine s_off rfl rfl rfl rfl rfl ?_
                  refine s_on rfl rfl rfl ?_
                  refine s_rd (r_pickT rfl rfl) rfl ?_
                  refine s_on rfl rfl rfl ?_
                  refine s_rd (r_pickT rfl rfl) rfl ?_
                  refine s_rd (r_pickF rfl rfl) rfl ?_
                  refine l_nil ?_
                  refine n_then ?_
                  refine ref_condT rfl rfl ?_
                  refine ref_seq ?_
                  refine ref_region ?_
                  refine s_rd (r_cloadS Try.isAgg40 Try.sizeOf40 rfl (j := 1) rfl rfl rfl) rfl ?_
                  refine s_st0 (s_cstore (out := [iv .i64 m_1.By, iv .i64 m_1.Kind, iv .i64 m_1.Node, iv .i64 m_1.Target]) Try.sizeOf40 rfl (j := 2) rfl (part_ag (ψs := [iv .i64 m_1.By, iv .i64 m_1.Kind, iv .i64 m_1.Node, iv .i64 m_1.Target]) rfl (by intro φ h; simp only [List.mem_cons, List.not_mem_nil, or_false] at h; rcases h with rfl | rfl | rfl | rfl <;> first | exact iv_at | exact bv_at | exact sv_at | exact slv_at | exact pv_at rfl)) rfl rfl rfl) (fun _ => ?_)
                  refine s_rd (r_assign rfl) rfl ?_
                  refine l_nil ?_
                  refine n_then ?_
                  refine ref_ret ?_
                  refine r_then ?_
                  exact fin2 (.inl rfl) () [] rfl trivial rfl (rv_cell rfl (j := 2) rfl Try.isAgg40 Try.sizeOf40 rfl rfl) (rv_tmp rfl)
                · refine s_on rfl rfl rfl ?_
                  refine s_rd (r_faddr (fo := 2) Try.underlying40 rfl rfl Try.sizeOf3 rfl) rfl ?_
                  refine s_on rfl rfl rfl ?_
                  refine s_rd (r_cload Try.isAgg3 rfl (j := 1) rfl rfl) rfl ?_
                  refine s_on rfl rfl rfl ?_
                  refine s_rd (r_faddr (fo := 0) Try.underlying95 rfl rfl Try.sizeOf35 rfl) rfl ?_
                  refine s_on rfl rfl rfl ?_
                  refine s_rd (r_faddr (fo := 0) Try.underlying35 rfl rfl Try.sizeOf28 rfl) rfl ?_
                  refine s_on rfl rfl rfl ?_
                  refine s_rd (r_faddr (fo := 0) Try.underlying28 rfl rfl Try.sizeOf3 rfl) rfl ?_
                  refine s_on rfl rfl rfl ?_
                  refine s_rd (r_cload Try.isAgg3 rfl (j := 0) rfl rfl) rfl ?_
                  refine s_on rfl rfl rfl ?_
                  refine s_rd (r_geq rfl rfl) rfl ?_
                  refine s_on rfl rfl rfl ?_
                  refine s_rd (r_pickF rfl rfl) rfl ?_
                  refine s_on rfl rfl rfl ?_
                  refine s_rd (r_pickT rfl rfl) rfl ?_
                  refine s_rd (r_pickF rfl rfl) rfl ?_
                  refine l_nil ?_
                  refine n_then ?_
                  refine ref_cond rfl (fun hb15 => ?_) (fun hb15 => ?_)
                  · refine ref_seq ?_
                    refine ref_region ?_
                    refine s_rd (r_cloadS Try.isAgg40 Try.sizeOf40 rfl (j := 1) rfl rfl rfl) rfl ?_
                    refine s_st0 (s_cstore (out := [iv .i64 m_1.By, iv .i64 m_1.Kind, iv .i64 m_1.Node, iv .i64 m_1.Target]) Try.sizeOf40 rfl (j := 2) rfl (part_ag (ψs := [iv .i64 m_1.By, iv .i64 m_1.Kind, iv .i64 m_1.Node, iv .i64 m_1.Target]) rfl (by intro φ h; simp only [List.mem_cons, List.not_mem_nil, or_false] at h; rcases h with rfl | rfl | rfl | rfl <;> first | exact iv_at | exact bv_at | exact sv_at | exact slv_at | exact pv_at rfl)) rfl rfl rfl) (fun _ => ?_)
                    refine s_rd (r_assign rfl) rfl ?_
                    refine l_nil ?_
                    refine n_then ?_
                    refine ref_ret ?_
                    refine r_then ?_
                    exact fin2 (.inl rfl) () [] rfl trivial rfl (rv_cell rfl (j := 2) rfl Try.isAgg40 Try.sizeOf40 rfl rfl) (rv_tmp rfl)
                  · refine ref_skip ?_
                    exact b_to (hk18 () ()) (weak [0, 1, 2] ⟨rfl, rfl, rfl, rfl, trivial⟩ ⟨rfl, rfl, rfl, trivial⟩)
              · refine s_off rfl rfl rfl rfl rfl ?_
                refine s_off rfl rfl rfl rfl rfl ?_
                refine s_off rfl rfl rfl rfl rfl ?_
                refine s_off rfl rfl rfl rfl rfl ?_
                refine s_offU rfl rfl rfl ?_
                refine s_offU rfl rfl rfl ?_
                refine s_offU rfl rfl rfl ?_
                refine s_offU rfl rfl rfl ?_
                refine s_offU rfl rfl rfl ?_
                refine s_offU rfl rfl rfl ?_
                refine s_offU rfl rfl rfl ?_
                refine s_off rfl rfl rfl rfl rfl ?_
                refine s_on rfl rfl rfl ?_
                refine s_rd (r_pickF rfl rfl) rfl ?_
                refine s_rd (r_pickF rfl rfl) rfl ?_
                refine l_nil ?_
                refine n_then ?_
                refine ref_condF rfl rfl ?_
                refine ref_skip ?_
                exact b_to (hk18 () ()) (weak [0, 1, 2] ⟨rfl, rfl, rfl, rfl, trivial⟩ ⟨rfl, rfl, rfl, trivial⟩)
        · refine n_then ?_
          refine ref_seq ?_
          refine ref_seq ?_
          refine ref_region ?_
          refine s_rd (r_faddr (fo := 1) Try.underlying40 rfl rfl Try.sizeOf3 rfl) rfl ?_
          refine s_rd (r_cload Try.isAgg3 rfl (j := 1) rfl rfl) rfl ?_
          refine s_rd (r_eql rfl rfl) rfl ?_
          refine l_nil ?_
          refine n_then ?_
          refine ref_cond rfl (fun hb19 => ?_) (fun hb19 => ?_)
          · refine ref_seq ?_
            refine ref_seq ?_
            refine ref_draw [0, 2, 4] rfl (by kernel_rfl) (fun hok => ?_)
            refine a_rd (i := 0) hok rfl (by kernel_rfl) rfl (r_cloadS Try.isAgg95 Try.sizeOf95 rfl (j := 0) rfl rfl rfl) rfl ?_
            refine a_rd (i := 2) hok rfl (by kernel_rfl) rfl (r_cloadS Try.isAgg40 Try.sizeOf40 rfl (j := 1) rfl rfl rfl) rfl ?_
            refine pull fun t20 h_t20 => ?_
            refine a_next hok 1 [] (by kernel_rfl) ?_ trivial
            refine a_st (i := 1) hok rfl rfl (s_call (ψ := fun (x21 : (Value × List Nat)) => pv x21.1) (args := [.tmp 66]) Try.call65 rfl (protocol_table_legal_ok h_t20) ⟨arg rfl, trivial⟩ (fun _ _ _ _ h => h)) (by intro _ h; cases h; rfl) (fun _ => ⟨⟨⟨rfl, rfl⟩, trivial⟩, ⟨trivial, trivial⟩⟩) (fun x21 => ?_)
            refine pull fun t22 h_t22 => ?_
            refine a_next hok 3 [] (by kernel_rfl) ?_ trivial
            refine a_st (i := 3) hok rfl rfl (s_callB (ψ := fun (_ : Unit) => bv t22) (args := [.tmp 67, .tmp 68]) Try.call67 rfl (slices_Contains_api_Move_api_Move_ok h_t22) ⟨argO rfl (j := 3) rfl, argB rfl, trivial⟩ (fun _ _ _ _ _ h => h)) (by intro _ h; cases h; rfl) (fun _ => ⟨trivial, ⟨⟨⟨rfl, rfl⟩, trivial⟩, trivial⟩⟩) (fun _ => ?_)
            refine a_rd (i := 4) hok rfl (by kernel_rfl) rfl (r_not rfl) rfl ?_
            refine a_fin hok (by kernel_rfl) ?_
            refine n_then ?_
            refine ref_cond rfl (fun hb23 => ?_) (fun hb23 => ?_)
            · refine ref_seq ?_
              refine ref_region ?_
              refine s_rd (r_cloadS Try.isAgg40 Try.sizeOf40 rfl (j := 1) rfl rfl rfl) rfl ?_
              refine s_st0 (s_cstore (out := [iv .i64 m_1.By, iv .i64 m_1.Kind, iv .i64 m_1.Node, iv .i64 m_1.Target]) Try.sizeOf40 rfl (j := 2) rfl (part_ag (ψs := [iv .i64 m_1.By, iv .i64 m_1.Kind, iv .i64 m_1.Node, iv .i64 m_1.Target]) rfl (by intro φ h; simp only [List.mem_cons, List.not_mem_nil, or_false] at h; rcases h with rfl | rfl | rfl | rfl <;> first | exact iv_at | exact bv_at | exact sv_at | exact slv_at | exact pv_at rfl)) rfl rfl rfl) (fun _ => ?_)
              refine s_rd (r_assign rfl) rfl ?_
              refine l_nil ?_
              refine n_then ?_
              refine ref_ret ?_
              refine r_then ?_
              refine r_then ?_
              exact fin2 (.inl rfl) () [] rfl trivial rfl (rv_cell rfl (j := 2) rfl Try.isAgg40 Try.sizeOf40 rfl rfl) (rv_tmp rfl)
            · refine ref_skip ?_
              refine n_then ?_
              refine ref_seq ?_
              refine ref_region ?_
              refine s_rd (r_cloadS Try.isAgg40 Try.sizeOf40 rfl (j := 1) rfl rfl rfl) rfl ?_
              refine s_st0 (s_cstore (out := [iv .i64 m_1.By, iv .i64 m_1.Kind, iv .i64 m_1.Node, iv .i64 m_1.Target]) Try.sizeOf40 rfl (j := 2) rfl (part_ag (ψs := [iv .i64 m_1.By, iv .i64 m_1.Kind, iv .i64 m_1.Node, iv .i64 m_1.Target]) rfl (by intro φ h; simp only [List.mem_cons, List.not_mem_nil, or_false] at h; rcases h with rfl | rfl | rfl | rfl <;> first | exact iv_at | exact bv_at | exact sv_at | exact slv_at | exact pv_at rfl)) rfl rfl rfl) (fun _ => ?_)
              refine s_rd (r_assign rfl) rfl ?_
              refine l_nil ?_
              refine n_then ?_
              refine ref_ret ?_
              refine r_then ?_
              exact fin2 (.inl rfl) () [] rfl trivial rfl (rv_cell rfl (j := 2) rfl Try.isAgg40 Try.sizeOf40 rfl rfl) (rv_tmp rfl)
          · refine ref_skip ?_
            refine n_then ?_
            refine ref_seq ?_
            refine ref_seq ?_
            refine ref_region ?_
            refine s_rd (r_move rfl) rfl ?_
            refine s_rd (r_faddr (fo := 3) Try.underlying40 rfl rfl Try.sizeOf3 rfl) rfl ?_
            refine s_rd (r_cload Try.isAgg3 rfl (j := 1) rfl rfl) rfl ?_
            refine pull fun t24 h_t24 => ?_
            refine s_rd (r_index h_t24 Try.underlying23 el_40 rfl rfl) rfl ?_
            refine s_rd (r_load el_40 rfl) rfl ?_
            refine s_st (s_alloc zt_40) rfl (fun b25 => ?_)
            refine s_st0 (s_cstore (out := [iv .i64 t24.By, iv .i64 t24.Kind, iv .i64 t24.Node, iv .i64 t24.Target]) Try.sizeOf40 rfl (j := 3) rfl (part_ag (ψs := [iv .i64 t24.By, iv .i64 t24.Kind, iv .i64 t24.Node, iv .i64 t24.Target]) rfl (by intro φ h; simp only [List.mem_cons, List.not_mem_nil, or_false] at h; rcases h with rfl | rfl | rfl | rfl <;> first | exact iv_at | exact bv_at | exact sv_at | exact slv_at | exact pv_at rfl)) rfl rfl rfl) (fun _ => ?_)
            refine l_nil ?_
            refine n_then ?_
            refine ref_seq ?_
            refine ref_region ?_
            refine s_rd (r_faddr (fo := 0) Try.underlying40 rfl rfl Try.sizeOf3 rfl) rfl ?_
            refine s_rd (r_cload Try.isAgg3 rfl (j := 3) rfl rfl) rfl ?_
            refine s_rd (r_faddr (fo := 0) Try.underlying40 rfl rfl Try.sizeOf3 rfl) rfl ?_
            refine s_rd (r_cload Try.isAgg3 rfl (j := 1) rfl rfl) rfl ?_
            refine s_rd (r_neq rfl rfl) rfl ?_
            refine s_rd (r_move rfl) rfl ?_
            refine b_split (t := 83) rfl (fun _ => ?_) (fun _ => ?_)
            · refine s_off rfl rfl rfl rfl rfl ?_
              refine s_off rfl rfl rfl rfl rfl ?_
              refine s_off rfl rfl rfl rfl rfl ?_
              refine s_rd (r_pickT rfl rfl) rfl ?_
              refine s_rd (r_move rfl) rfl ?_
              refine s_off rfl rfl rfl rfl rfl ?_
              refine s_off rfl rfl rfl rfl rfl ?_
              refine s_off rfl rfl rfl rfl rfl ?_
              refine s_off rfl rfl rfl rfl rfl ?_
              refine s_off rfl rfl rfl rfl rfl ?_
              refine s_off rfl rfl rfl rfl rfl ?_
              refine s_off rfl rfl rfl rfl rfl ?_
              refine s_rd (r_pickT rfl rfl) rfl ?_
              refine l_nil ?_
              refine n_then ?_
              refine ref_condT rfl rfl ?_
              refine ref_seq ?_
              refine ref_region ?_
              refine s_rd (r_cloadS Try.isAgg40 Try.sizeOf40 rfl (j := 1) rfl rfl rfl) rfl ?_
              refine s_st0 (s_cstore (out := [iv .i64 m_1.By, iv .i64 m_1.Kind, iv .i64 m_1.Node, iv .i64 m_1.Target]) Try.sizeOf40 rfl (j := 2) rfl (part_ag (ψs := [iv .i64 m_1.By, iv .i64 m_1.Kind, iv .i64 m_1.Node, iv .i64 m_1.Target]) rfl (by intro φ h; simp only [List.mem_cons, List.not_mem_nil, or_false] at h; rcases h with rfl | rfl | rfl | rfl <;> first | exact iv_at | exact bv_at | exact sv_at | exact slv_at | exact pv_at rfl)) rfl rfl rfl) (fun _ => ?_)
              refine s_rd (r_assign rfl) rfl ?_
              refine l_nil ?_
              refine n_then ?_
              refine ref_ret ?_
              refine r_then ?_
              exact fin2 (.inl rfl) () [] rfl trivial rfl (rv_cell rfl (j := 2) rfl Try.isAgg40 Try.sizeOf40 rfl rfl) (rv_tmp rfl)
            · refine s_on rfl rfl rfl ?_
              refine s_rd (r_faddr (fo := 1) Try.underlying40 rfl rfl Try.sizeOf3 rfl) rfl ?_
              refine s_on rfl rfl rfl ?_
              refine s_rd (r_cload Try.isAgg3 rfl (j := 3) rfl rfl) rfl ?_
              refine s_on rfl rfl rfl ?_
              refine s_rd (r_neq rfl rfl) rfl ?_
              refine s_rd (r_pickF rfl rfl) rfl ?_
              refine s_rd (r_move rfl) rfl ?_
              refine b_split (t := 88) rfl (fun _ => ?_) (fun _ => ?_)
              · refine s_off rfl rfl rfl rfl rfl ?_
                refine s_off rfl rfl rfl rfl rfl ?_
                refine s_off rfl rfl rfl rfl rfl ?_
                refine s_off rfl rfl rfl rfl rfl ?_
                refine s_off rfl rfl rfl rfl rfl ?_
                refine s_off rfl rfl rfl rfl rfl ?_
                refine s_off rfl rfl rfl rfl rfl ?_
                refine s_rd (r_pickT rfl rfl) rfl ?_
                refine l_nil ?_
                refine n_then ?_
                refine ref_condT rfl rfl ?_
                refine ref_seq ?_
                refine ref_region ?_
                refine s_rd (r_cloadS Try.isAgg40 Try.sizeOf40 rfl (j := 1) rfl rfl rfl) rfl ?_
                refine s_st0 (s_cstore (out := [iv .i64 m_1.By, iv .i64 m_1.Kind, iv .i64 m_1.Node, iv .i64 m_1.Target]) Try.sizeOf40 rfl (j := 2) rfl (part_ag (ψs := [iv .i64 m_1.By, iv .i64 m_1.Kind, iv .i64 m_1.Node, iv .i64 m_1.Target]) rfl (by intro φ h; simp only [List.mem_cons, List.not_mem_nil, or_false] at h; rcases h with rfl | rfl | rfl | rfl <;> first | exact iv_at | exact bv_at | exact sv_at | exact slv_at | exact pv_at rfl)) rfl rfl rfl) (fun _ => ?_)
                refine s_rd (r_assign rfl) rfl ?_
                refine l_nil ?_
                refine n_then ?_
                refine ref_ret ?_
                refine r_then ?_
                exact fin2 (.inl rfl) () [] rfl trivial rfl (rv_cell rfl (j := 2) rfl Try.isAgg40 Try.sizeOf40 rfl rfl) (rv_tmp rfl)
              · refine s_on rfl rfl rfl ?_
                refine s_rd (r_faddr (fo := 6) Try.underlying95 rfl rfl Try.sizeOf22 rfl) rfl ?_
                refine s_on rfl rfl rfl ?_
                refine s_rd (r_cload Try.isAgg22 rfl (j := 0) rfl rfl) rfl ?_
                refine s_on rfl rfl rfl ?_
                refine s_rd (r_faddr (fo := 3) Try.underlying40 rfl rfl Try.sizeOf3 rfl) rfl ?_
                refine s_on rfl rfl rfl ?_
                refine s_rd (r_cload Try.isAgg3 rfl (j := 1) rfl rfl) rfl ?_
                refine s_on rfl rfl rfl ?_
                refine pull fun t26 h_t26 => ?_
                refine s_rd (r_index h_t26 Try.underlying22 el_3 rfl rfl) rfl ?_
                refine s_on rfl rfl rfl ?_
                refine s_rd (r_load el_3 rfl) rfl ?_
                refine s_on rfl rfl rfl ?_
                refine s_rd (r_eql rfl rfl) rfl ?_
                refine s_rd (r_pickF rfl rfl) rfl ?_
                refine l_nil ?_
                refine n_then ?_
                refine ref_cond rfl (fun hb27 => ?_) (fun hb27 => ?_)
                · refine ref_seq ?_
                  refine ref_region ?_
                  refine s_rd (r_cloadS Try.isAgg40 Try.sizeOf40 rfl (j := 1) rfl rfl rfl) rfl ?_
                  refine s_st0 (s_cstore (out := [iv .i64 m_1.By, iv .i64 m_1.Kind, iv .i64 m_1.Node, iv .i64 m_1.Target]) Try.sizeOf40 rfl (j := 2) rfl (part_ag (ψs := [iv .i64 m_1.By, iv .i64 m_1.Kind, iv .i64 m_1.Node, iv .i64 m_1.Target]) rfl (by intro φ h; simp only [List.mem_cons, List.not_mem_nil, or_false] at h; rcases h with rfl | rfl | rfl | rfl <;> first | exact iv_at | exact bv_at | exact sv_at | exact slv_at | exact pv_at rfl)) rfl rfl rfl) (fun _ => ?_)
                  refine s_rd (r_assign rfl) rfl ?_
                  refine l_nil ?_
                  refine n_then ?_
                  refine ref_ret ?_
                  refine r_then ?_
                  exact fin2 (.inl rfl) () [] rfl trivial rfl (rv_cell rfl (j := 2) rfl Try.isAgg40 Try.sizeOf40 rfl rfl) (rv_tmp rfl)
                · refine ref_skip ?_
                  refine n_then ?_
                  refine ref_seq ?_
                  refine ref_region ?_
                  refine s_rd (r_faddr (fo := 2) Try.underlying40 rfl rfl Try.sizeOf3 rfl) rfl ?_
                  refine s_st0 (s_cstore (out := [iv .i64 m_1.By, iv .i64 m_1.Kind, iv .i64 0, iv .i64 m_1.Target]) Try.sizeOf3 rfl (j := 1) rfl (part_at rfl iv_at) rfl rfl rfl) (fun _ => ?_)
                  refine l_nil ?_
                  refine n_then ?_
                  refine ref_seq ?_
                  refine ref_region ?_
                  refine s_rd (r_cloadS Try.isAgg40 Try.sizeOf40 rfl (j := 1) rfl rfl rfl) rfl ?_
                  refine s_st0 (s_cstore (out := [iv .i64 m_1.By, iv .i64 m_1.Kind, iv .i64 0, iv .i64 m_1.Target]) Try.sizeOf40 rfl (j := 2) rfl (part_ag (ψs := [iv .i64 m_1.By, iv .i64 m_1.Kind, iv .i64 0, iv .i64 m_1.Target]) rfl (by intro φ h; simp only [List.mem_cons, List.not_mem_nil, or_false] at h; rcases h with rfl | rfl | rfl | rfl <;> first | exact iv_at | exact bv_at | exact sv_at | exact slv_at | exact pv_at rfl)) rfl rfl rfl) (fun _ => ?_)
                  refine s_rd (r_assign rfl) rfl ?_
                  refine l_nil ?_
                  refine b_of (nrm [oc b1 [iv .i64 t_0.d.Graph.N, slv rT_api_Pair t_0.d.Graph.L, iv .i64 t_0.d.Root, iv .i64 t_0.d.Limits.i0, iv .i64 t_0.d.Limits.i1, slv rT_api_Move t_0.d.Moves, slv (rI .i64) t_0.status, iv .i64 t_0.leader, slv rB t_0.leading], oc b2 [iv .i64 m_1.By, iv .i64 m_1.Kind, iv .i64 0, iv .i64 m_1.Target], oc b3 [iv .i64 m_1.By, iv .i64 m_1.Kind, iv .i64 0, iv .i64 m_1.Target], oc b25 [iv .i64 t24.By, iv .i64 t24.Kind, iv .i64 t24.Node, iv .i64 t24.Target]] rfl) ?_
                  refine n_then ?_
                  refine ref_ret ?_
                  exact fin2 (.inl rfl) () [] rfl trivial rfl (rv_cell rfl (j := 2) rfl Try.isAgg40 Try.sizeOf40 rfl rfl) (rv_tmp rfl)

/-! deliberation/protocol.Apply -/
noncomputable def protocol_Apply_m (d_0 : T_api_Dialogue) (m_1 : T_api_Move) : Option (T_api_Dialogue × Int) :=
  Option.bind (protocol_Turn_m d_0) fun t4 =>
  bif t4 == 0 then
    some ((T_api_Dialogue.mk (T_api_Graph.mk 0 []) 0 (T_arr2_3.mk 0 0) []), 7)
  else
    Option.bind (protocol_of_m d_0) fun t7 =>
    Option.bind (protocol_table_judged_m t7 m_1) fun t8 =>
    bif t8.2 != 0 then
      some ((T_api_Dialogue.mk (T_api_Graph.mk 0 []) 0 (T_arr2_3.mk 0 0) []), t8.2)
    else
      Option.bind (slices_Clone_api_Pair_api_Pair_m d_0.Graph.L) fun t12 =>
      Option.bind (slices_Clone_api_Move_api_Move_m d_0.Moves) fun t15 =>
      Option.bind (appM 32 t15 [t8.1]) fun t17 =>
      some ((T_api_Dialogue.mk (T_api_Graph.mk d_0.Graph.N t12) d_0.Root d_0.Limits t17), 0)

theorem protocol_Apply_ok {d_0 : T_api_Dialogue} {m_1 : T_api_Move} {r : T_api_Dialogue × Int} (hm : protocol_Apply_m d_0 m_1 = some r) :
    FnOk prog 47 [ag [iv .i64 d_0.Graph.N, slv rT_api_Pair d_0.Graph.L, iv .i64 d_0.Root, iv .i64 d_0.Limits.i0, iv .i64 d_0.Limits.i1, slv rT_api_Move d_0.Moves], ag [iv .i64 m_1.By, iv .i64 m_1.Kind, iv .i64 m_1.Node, iv .i64 m_1.Target]] [] (fun (x : Unit) => [ag [iv .i64 r.1.Graph.N, slv rT_api_Pair r.1.Graph.L, iv .i64 r.1.Root, iv .i64 r.1.Limits.i0, iv .i64 r.1.Limits.i1, slv rT_api_Move r.1.Moves], iv .i64 r.2]) (fun (x : Unit) => []) := by
  refine fn_ok (X := Unit) (fn := Try.f47) (N := 39) (m := protocol_Apply_m d_0 m_1) (res := fun r x => [ag [iv .i64 r.1.Graph.N, slv rT_api_Pair r.1.Graph.L, iv .i64 r.1.Root, iv .i64 r.1.Limits.i0, iv .i64 r.1.Limits.i1, slv rT_api_Move r.1.Moves], iv .i64 r.2]) (Ω1 := fun r x => []) Try.func47 rfl rfl hm rfl (fun E hM => ?_)
  unfold protocol_Apply_m
  refine ref_seq ?_
  refine ref_region ?_
  refine s_st (s_box (part_ag (ψs := [iv .i64 d_0.Graph.N, slv rT_api_Pair d_0.Graph.L, iv .i64 d_0.Root, iv .i64 d_0.Limits.i0, iv .i64 d_0.Limits.i1, slv rT_api_Move d_0.Moves]) rfl (by intro φ h; simp only [List.mem_cons, List.not_mem_nil, or_false] at h; rcases h with rfl | rfl | rfl | rfl | rfl | rfl <;> first | exact iv_at | exact bv_at | exact sv_at | exact slv_at | exact pv_at rfl))) rfl (fun b1 => ?_)
  refine s_st (s_box (part_ag (ψs := [iv .i64 m_1.By, iv .i64 m_1.Kind, iv .i64 m_1.Node, iv .i64 m_1.Target]) rfl (by intro φ h; simp only [List.mem_cons, List.not_mem_nil, or_false] at h; rcases h with rfl | rfl | rfl | rfl <;> first | exact iv_at | exact bv_at | exact sv_at | exact slv_at | exact pv_at rfl))) rfl (fun b2 => ?_)
  refine s_st (s_alloc zt_35) rfl (fun b3 => ?_)
  refine s_rd (r_assign rfl) rfl ?_
  refine l_nil ?_
  refine n_then ?_
  refine ref_seq ?_
  refine ref_seq ?_
  refine ref_region ?_
  refine s_rd (r_cloadS Try.isAgg35 Try.sizeOf35 rfl (j := 0) rfl rfl rfl) rfl ?_
  refine pull fun t4 h_t4 => ?_
  refine s_st (s_call (ψ := fun (_ : Unit) => iv .i64 t4) (args := [.tmp 9]) Try.call32 rfl (protocol_Turn_ok h_t4) ⟨arg rfl, trivial⟩ (fun _ _ _ _ h => h)) rfl (fun _ => ?_)
  refine s_rd (r_eql rfl rfl) rfl ?_
  refine l_nil ?_
  refine b_of (nrm [oc b1 [iv .i64 d_0.Graph.N, slv rT_api_Pair d_0.Graph.L, iv .i64 d_0.Root, iv .i64 d_0.Limits.i0, iv .i64 d_0.Limits.i1, slv rT_api_Move d_0.Moves], oc b2 [iv .i64 m_1.By, iv .i64 m_1.Kind, iv .i64 m_1.Node, iv .i64 m_1.Target], oc b3 [iv .i64 0, pv (.slice none 0 0), iv .i64 0, iv .i64 0, iv .i64 0, pv (.slice none 0 0)]] rfl) ?_
  refine n_then ?_
  refine ref_cond rfl (fun hb5 => ?_) (fun hb5 => ?_)
  · refine ref_seq ?_
    refine ref_region ?_
    refine s_rd (r_build (ps := []) (rs := []) st_35 zs_35 trivial rfl rfl) rfl ?_
    refine s_st0 (s_cstore (out := [iv .i64 0, pv (.slice none 0 0), iv .i64 0, iv .i64 0, iv .i64 0, pv (.slice none 0 0)]) Try.sizeOf35 rfl (j := 2) rfl (part_agO (ψs := [iv .i64 0, pv (.slice none 0 0), iv .i64 0, iv .i64 0, iv .i64 0, pv (.slice none 0 0)]) rfl ⟨.inl iv_at, .inl (pv_at rfl), .inl iv_at, .inl iv_at, .inl iv_at, .inl (pv_at rfl), trivial⟩) rfl rfl rfl) (fun _ => ?_)
    refine s_rd (r_assign rfl) rfl ?_
    refine l_nil ?_
    refine n_then ?_
    refine ref_ret ?_
    refine r_then ?_
    refine b_of (ocW 2 [iv .i64 0, slv rT_api_Pair [], iv .i64 0, iv .i64 0, iv .i64 0, slv rT_api_Move []] rfl ⟨imp_rfl, nil_sl, imp_rfl, imp_rfl, imp_rfl, nil_sl, trivial⟩) ?_
    exact fin2 (.inl rfl) () [] rfl trivial rfl (rv_cell rfl (j := 2) rfl Try.isAgg35 Try.sizeOf35 rfl rfl) (rv_tmp rfl)
  · refine ref_skip ?_
    refine n_then ?_
    refine ref_seq ?_
    refine pull fun t7 h_t7 => ?_
    refine pull fun t8 h_t8 => ?_
    refine ref_drawI 1 [⟨[], [], [], [0], [], fun us u => ag [iv .i64 d_0.Graph.N, slv rT_api_Pair d_0.Graph.L, iv .i64 d_0.Root, iv .i64 d_0.Limits.i0, iv .i64 d_0.Limits.i1, slv rT_api_Move d_0.Moves], fun us u => []⟩, ⟨[0], [], [], [], [], fun us u => ag [iv .i64 t7.d.Graph.N, slv rT_api_Pair t7.d.Graph.L, iv .i64 t7.d.Root, iv .i64 t7.d.Limits.i0, iv .i64 t7.d.Limits.i1, slv rT_api_Move t7.d.Moves, slv (rI .i64) t7.status, iv .i64 t7.leader, slv rB t7.leading], fun us u => []⟩, ⟨[], [], [], [1], [], fun us u => ag [iv .i64 m_1.By, iv .i64 m_1.Kind, iv .i64 m_1.Node, iv .i64 m_1.Target], fun us u => []⟩, ⟨[0, 1, 2], [], [], [], [], fun us u => tup [ag [iv .i64 t8.1.By, iv .i64 t8.1.Kind, iv .i64 t8.1.Node, iv .i64 t8.1.Target], iv .i64 t8.2], fun us u => []⟩, ⟨[0, 1, 2, 3], [], [], [], [], fun us u => tup [ag [iv .i64 t8.1.By, iv .i64 t8.1.Kind, iv .i64 t8.1.Node, iv .i64 t8.1.Target], iv .i64 t8.2], fun us u => []⟩, ⟨[0, 1, 2, 3, 4], [], [], [], [], fun us u => ag [iv .i64 t8.1.By, iv .i64 t8.1.Kind, iv .i64 t8.1.Node, iv .i64 t8.1.Target], fun us u => []⟩, ⟨[0, 1, 2, 3, 4], [], [], [], [], fun us u => iv .i64 t8.2, fun us u => []⟩, ⟨[], [], [3], [3], [], fun us u => pv (ptr u.Nn 0), fun us u => [oc u.Nn [iv .i64 0, iv .i64 0, iv .i64 0, iv .i64 0]]⟩, ⟨[0, 1, 2, 3, 4, 5, 7], [7], [3], [3], [3], fun us u => pv undef, fun us u => [oc (us.getD 0 .none).Nn [iv .i64 t8.1.By, iv .i64 t8.1.Kind, iv .i64 t8.1.Node, iv .i64 t8.1.Target]]⟩, ⟨[0, 1, 2, 3, 4, 5, 6, 7, 8], [], [], [], [], fun us u => iv .i64 t8.2, fun us u => []⟩] (fun χ6 => [(2, pv (ptr b1 0)), (4, pv (ptr b3 0)), (6, pv (ptr (χ6 7).Nn 0)), (7, iv .i64 t8.2)]) (fun χ6 => [oc b1 [iv .i64 d_0.Graph.N, slv rT_api_Pair d_0.Graph.L, iv .i64 d_0.Root, iv .i64 d_0.Limits.i0, iv .i64 d_0.Limits.i1, slv rT_api_Move d_0.Moves], oc b2 [iv .i64 m_1.By, iv .i64 m_1.Kind, iv .i64 m_1.Node, iv .i64 m_1.Target], oc b3 [iv .i64 0, pv (.slice none 0 0), iv .i64 0, iv .i64 0, iv .i64 0, pv (.slice none 0 0)], oc (χ6 7).Nn [iv .i64 t8.1.By, iv .i64 t8.1.Kind, iv .i64 t8.1.Node, iv .i64 t8.1.Target]]) rfl (by kernel_rfl) ⟨fun χ6 Ω ⟨h0, _⟩ => St.toR (r_cloadS Try.isAgg35 Try.sizeOf35 rfl (j := 0) h0 rfl rfl) (fun _ => rfl) (fun _ => rfl), (by intro _ h; cases h; rfl), ⟨fun χ6 Ω _ => St.to XU.U XU.hU (St.placeL [] (s_call (ψ := fun (_ : Unit) => ag [iv .i64 t7.d.Graph.N, slv rT_api_Pair t7.d.Graph.L, iv .i64 t7.d.Root, iv .i64 t7.d.Limits.i0, iv .i64 t7.d.Limits.i1, slv rT_api_Move t7.d.Moves, slv (rI .i64) t7.status, iv .i64 t7.leader, slv rB t7.leading]) (args := [.tmp 14]) Try.call62 rfl (protocol_of_ok h_t7) ⟨arg rfl, trivial⟩ (fun _ _ _ _ h => h)) (fun _ => rfl) (fun _ => trivial)) (fun _ => rfl) (fun _ => rfl), (by intro _ h; cases h; rfl), ⟨fun χ6 Ω ⟨h1, _⟩ => St.toR (r_cloadS Try.isAgg40 Try.sizeOf40 rfl (j := 1) h1 rfl rfl) (fun _ => rfl) (fun _ => rfl), (by intro _ h; cases h; rfl), ⟨fun χ6 Ω _ => St.to XU.U XU.hU (St.placeL [] (s_call (ψ := fun (_ : Unit) => tup [ag [iv .i64 t8.1.By, iv .i64 t8.1.Kind, iv .i64 t8.1.Node, iv .i64 t8.1.Target], iv .i64 t8.2]) (args := [.tmp 15, .tmp 16]) Try.call74 rfl (protocol_table_judged_ok h_t8) ⟨arg rfl, arg rfl, trivial⟩ (fun _ _ _ _ h => h)) (fun _ => rfl) (fun _ => trivial)) (fun _ => rfl) (fun _ => rfl), (by intro _ h; cases h; rfl), ⟨fun χ6 Ω _ => St.toR (r_move rfl) (fun _ => rfl) (fun _ => rfl), (by intro _ h; cases h; rfl), ⟨fun χ6 Ω _ => St.toR (r_extract rfl rfl) (fun _ => rfl) (fun _ => rfl), (by intro _ h; cases h; rfl), ⟨fun χ6 Ω _ => St.toR (r_extract rfl rfl) (fun _ => rfl) (fun _ => rfl), (by intro _ h; cases h; rfl), ⟨fun χ6 Ω ⟨h3, _⟩ => St.to XU.Nn XU.hN (St.placeL (os := fun _ => [_]) [3] (s_alloc zt_40) (fun _ => rfl) (fun _ => ⟨h3, rfl, trivial⟩)) (fun _ => rfl) (fun _ => rfl), (by intro _ h; cases h; rfl), ⟨fun χ6 Ω ⟨h3, _⟩ => St.to XU.U XU.hU (s_cstore (out := [iv .i64 t8.1.By, iv .i64 t8.1.Kind, iv .i64 t8.1.Node, iv .i64 t8.1.Target]) Try.sizeOf40 rfl (j := 3) h3 (part_ag (ψs := [iv .i64 t8.1.By, iv .i64 t8.1.Kind, iv .i64 t8.1.Node, iv .i64 t8.1.Target]) rfl (by intro φ h; simp only [List.mem_cons, List.not_mem_nil, or_false] at h; rcases h with rfl | rfl | rfl | rfl <;> first | exact iv_at | exact bv_at | exact sv_at | exact slv_at | exact pv_at rfl)) rfl rfl rfl) (fun _ => rfl) (fun _ => rfl), (by intro _ h; cases h), ⟨fun χ6 Ω _ => St.toR (r_assign rfl) (fun _ => rfl) (fun _ => rfl), (by intro _ h; cases h; rfl), trivial⟩⟩⟩⟩⟩⟩⟩⟩⟩⟩ (fun _ => ⟨rfl, rfl, rfl, rfl, trivial⟩) (fun _ => rfl) (fun χ6 => ?_)
    refine n_then ?_
    refine ref_seq ?_
    refine ref_seq ?_
    refine ref_region ?_
    refine s_rd (r_move rfl) rfl ?_
    refine s_rd (r_neq rfl rfl) rfl ?_
    refine l_nil ?_
    refine n_then ?_
    refine ref_cond rfl (fun hb10 => ?_) (fun hb10 => ?_)
    · refine ref_seq ?_
      refine ref_region ?_
      refine s_rd (r_build (ps := []) (rs := []) st_35 zs_35 trivial rfl rfl) rfl ?_
      refine s_rd (r_move rfl) rfl ?_
      refine s_st0 (s_cstore (out := [iv .i64 0, pv (.slice none 0 0), iv .i64 0, iv .i64 0, iv .i64 0, pv (.slice none 0 0)]) Try.sizeOf35 rfl (j := 2) rfl (part_agO (ψs := [iv .i64 0, pv (.slice none 0 0), iv .i64 0, iv .i64 0, iv .i64 0, pv (.slice none 0 0)]) rfl ⟨.inl iv_at, .inl (pv_at rfl), .inl iv_at, .inl iv_at, .inl iv_at, .inl (pv_at rfl), trivial⟩) rfl rfl rfl) (fun _ => ?_)
      refine s_rd (r_assign rfl) rfl ?_
      refine l_nil ?_
      refine n_then ?_
      refine ref_ret ?_
      refine r_then ?_
      refine b_of (ocW 2 [iv .i64 0, slv rT_api_Pair [], iv .i64 0, iv .i64 0, iv .i64 0, slv rT_api_Move []] rfl ⟨imp_rfl, nil_sl, imp_rfl, imp_rfl, imp_rfl, nil_sl, trivial⟩) ?_
      exact fin2 (.inl rfl) () [] rfl trivial rfl (rv_cell rfl (j := 2) rfl Try.isAgg35 Try.sizeOf35 rfl rfl) (rv_tmp rfl)
    · refine ref_skip ?_
      refine n_then ?_
      refine ref_seq ?_
      refine ref_region ?_
      refine s_rd (r_cloadS Try.isAgg35 Try.sizeOf35 rfl (j := 0) rfl rfl rfl) rfl ?_
      refine s_st (s_alloc zt_35) rfl (fun b11 => ?_)
      refine s_st0 (s_cstore (out := [iv .i64 d_0.Graph.N, slv rT_api_Pair d_0.Graph.L, iv .i64 d_0.Root, iv .i64 d_0.Limits.i0, iv .i64 d_0.Limits.i1, slv rT_api_Move d_0.Moves]) Try.sizeOf35 rfl (j := 4) rfl (part_ag (ψs := [iv .i64 d_0.Graph.N, slv rT_api_Pair d_0.Graph.L, iv .i64 d_0.Root, iv .i64 d_0.Limits.i0, iv .i64 d_0.Limits.i1, slv rT_api_Move d_0.Moves]) rfl (by intro φ h; simp only [List.mem_cons, List.not_mem_nil, or_false] at h; rcases h with rfl | rfl | rfl | rfl | rfl | rfl <;> first | exact iv_at | exact bv_at | exact sv_at | exact slv_at | exact pv_at rfl)) rfl rfl rfl) (fun _ => ?_)
      refine l_nil ?_
      refine n_then ?_
      refine ref_seq ?_
      refine ref_region ?_
      refine s_rd (r_faddr (fo := 0) Try.underlying35 rfl rfl Try.sizeOf28 rfl) rfl ?_
      refine s_rd (r_faddr (fo := 1) Try.underlying28 rfl rfl Try.sizeOf26 rfl) rfl ?_
      refine s_rd (r_cload Try.isAgg26 rfl (j := 0) rfl rfl) rfl ?_
      refine pull fun t12 h_t12 => ?_
      refine s_st (s_call (ψ := fun (x13 : (Value × List Nat)) => pv x13.1) (args := [.tmp 27]) Try.call45 rfl (slices_Clone_api_Pair_api_Pair_ok h_t12) ⟨arg rfl, trivial⟩ (fun _ _ _ _ h => h)) rfl (fun x13 => ?_)
      refine s_rd (r_faddr (fo := 0) Try.underlying35 rfl rfl Try.sizeOf28 rfl) rfl ?_
      refine s_rd (r_faddr (fo := 1) Try.underlying28 rfl rfl Try.sizeOf26 rfl) rfl ?_
      refine s_st0 (s_cstore (out := [iv .i64 d_0.Graph.N, pv x13.1, iv .i64 d_0.Root, iv .i64 d_0.Limits.i0, iv .i64 d_0.Limits.i1, slv rT_api_Move d_0.Moves]) Try.sizeOf26 rfl (j := 4) rfl (part_own rfl (j := 5) rfl) rfl rfl rfl) (fun _ => ?_)
      refine l_nil ?_
      refine b_of (nrm [oc b1 [iv .i64 d_0.Graph.N, slv rT_api_Pair d_0.Graph.L, iv .i64 d_0.Root, iv .i64 d_0.Limits.i0, iv .i64 d_0.Limits.i1, slv rT_api_Move d_0.Moves], oc b2 [iv .i64 m_1.By, iv .i64 m_1.Kind, iv .i64 m_1.Node, iv .i64 m_1.Target], oc b3 [iv .i64 0, pv (.slice none 0 0), iv .i64 0, iv .i64 0, iv .i64 0, pv (.slice none 0 0)], oc (χ6 7).Nn [iv .i64 t8.1.By, iv .i64 t8.1.Kind, iv .i64 t8.1.Node, iv .i64 t8.1.Target], oc b11 [iv .i64 d_0.Graph.N, pv x13.1, iv .i64 d_0.Root, iv .i64 d_0.Limits.i0, iv .i64 d_0.Limits.i1, slv rT_api_Move d_0.Moves], oa rT_api_Pair x13.1 x13.2 t12] rfl) ?_
      refine n_then ?_
      refine ref_seq ?_
      refine pull fun t15 h_t15 => ?_
      refine pull fun t17 h_t17 => ?_
      refine ref_drawI 1 [⟨[], [], [], [], [], fun us u => pv (ptr b1 5), fun us u => []⟩, ⟨[0], [], [], [0], [], fun us u => slv rT_api_Move d_0.Moves, fun us u => []⟩, ⟨[0, 1], [], [6], [6], [], fun us u => pv u.V.1, fun us u => [oa rT_api_Move u.V.1 u.V.2 t15]⟩, ⟨[], [], [], [3], [], fun us u => ag [iv .i64 t8.1.By, iv .i64 t8.1.Kind, iv .i64 t8.1.Node, iv .i64 t8.1.Target], fun us u => []⟩, ⟨[3], [], [], [], [], fun us u => slv rT_api_Move [t8.1], fun us u => []⟩, ⟨[0, 1, 2, 3, 4], [], [6], [6], [6], fun us u => pv u.V.1, fun us u => [oa rT_api_Move u.V.1 u.V.2 t17]⟩, ⟨[0, 1, 2, 3, 4, 5], [], [], [], [], fun us u => pv (ptr b11 5), fun us u => []⟩, ⟨[0, 1, 2, 3, 4, 5, 6], [5], [4], [4, 6], [4], fun us u => pv undef, fun us u => [oc b11 [iv .i64 d_0.Graph.N, pv x13.1, iv .i64 d_0.Root, iv .i64 d_0.Limits.i0, iv .i64 d_0.Limits.i1, pv (us.getD 0 .none).V.1]]⟩] (fun χ14 => [(4, pv (ptr b3 0)), (8, pv (ptr b11 0))]) (fun χ14 => [oc b1 [iv .i64 d_0.Graph.N, slv rT_api_Pair d_0.Graph.L, iv .i64 d_0.Root, iv .i64 d_0.Limits.i0, iv .i64 d_0.Limits.i1, slv rT_api_Move d_0.Moves], oc b2 [iv .i64 m_1.By, iv .i64 m_1.Kind, iv .i64 m_1.Node, iv .i64 m_1.Target], oc b3 [iv .i64 0, pv (.slice none 0 0), iv .i64 0, iv .i64 0, iv .i64 0, pv (.slice none 0 0)], oc (χ6 7).Nn [iv .i64 t8.1.By, iv .i64 t8.1.Kind, iv .i64 t8.1.Node, iv .i64 t8.1.Target], oc b11 [iv .i64 d_0.Graph.N, pv x13.1, iv .i64 d_0.Root, iv .i64 d_0.Limits.i0, iv .i64 d_0.Limits.i1, pv (χ14 5).V.1], oa rT_api_Pair x13.1 x13.2 t12, oa rT_api_Move (χ14 5).V.1 (χ14 5).V.2 t17]) rfl (by kernel_rfl) ⟨fun χ14 Ω _ => St.toR (r_faddr (fo := 5) Try.underlying35 rfl rfl Try.sizeOf23 rfl) (fun _ => rfl) (fun _ => rfl), (by intro _ h; cases h; rfl), ⟨fun χ14 Ω ⟨h0, _⟩ => St.toR (r_cload Try.isAgg23 rfl (j := 0) h0 rfl) (fun _ => rfl) (fun _ => rfl), (by intro _ h; cases h; rfl), ⟨fun χ14 Ω ⟨h6, _⟩ => St.to XU.V XU.hV (St.placeL [6] (s_call (ψ := fun (x16 : (Value × List Nat)) => pv x16.1) (args := [.tmp 32]) Try.call46 rfl (slices_Clone_api_Move_api_Move_ok h_t15) ⟨arg rfl, trivial⟩ (fun _ _ _ _ h => h)) (fun _ => rfl) (fun _ => ⟨h6, rfl, trivial⟩)) (fun _ => rfl) (fun _ => rfl), (by intro _ h; cases h; rfl), ⟨fun χ14 Ω ⟨h3, _⟩ => St.toR (r_cloadS Try.isAgg40 Try.sizeOf40 rfl (j := 3) h3 rfl rfl) (fun _ => rfl) (fun _ => rfl), (by intro _ h; cases h; rfl), ⟨fun χ14 Ω _ => St.to XU.U XU.hU (s_bslice (xs := [.tmp 34]) (ds := [t8.1]) Try.underlying23 el_40 rfl (Nat.le_of_ble_eq_true rfl) ⟨(part_ag (ψs := [iv .i64 t8.1.By, iv .i64 t8.1.Kind, iv .i64 t8.1.Node, iv .i64 t8.1.Target]) rfl (by intro φ h; simp only [List.mem_cons, List.not_mem_nil, or_false] at h; rcases h with rfl | rfl | rfl | rfl <;> first | exact iv_at | exact bv_at | exact sv_at | exact slv_at | exact pv_at rfl)), trivial⟩) (fun _ => rfl) (fun _ => rfl), (by intro _ h; cases h; rfl), ⟨fun χ14 Ω ⟨h6, _⟩ => St.to XU.V XU.hV (s_append h_t17 Try.underlying23 el_40 rfl (j := 6) h6 rfl) (fun _ => rfl) (fun _ => rfl), (by intro _ h; cases h; rfl), ⟨fun χ14 Ω _ => St.toR (r_faddr (fo := 5) Try.underlying35 rfl rfl Try.sizeOf23 rfl) (fun _ => rfl) (fun _ => rfl), (by intro _ h; cases h; rfl), ⟨fun χ14 Ω ⟨h4, h6, _⟩ => St.to XU.U XU.hU (s_cstore (out := [iv .i64 d_0.Graph.N, pv x13.1, iv .i64 d_0.Root, iv .i64 d_0.Limits.i0, iv .i64 d_0.Limits.i1, pv (χ14 5).V.1]) Try.sizeOf23 rfl (j := 4) h4 (part_own rfl (j := 6) h6) rfl rfl rfl) (fun _ => rfl) (fun _ => rfl), (by intro _ h; cases h), trivial⟩⟩⟩⟩⟩⟩⟩⟩ (fun _ => ⟨rfl, rfl, trivial⟩) (fun _ => rfl) (fun χ14 => ?_)
      refine n_then ?_
      refine ref_seq ?_
      refine ref_region ?_
      refine s_rd (r_cloadS Try.isAgg35 Try.sizeOf35 rfl (j := 4) rfl rfl rfl) rfl ?_
      refine s_st0 (s_cstore (out := [iv .i64 d_0.Graph.N, pv x13.1, iv .i64 d_0.Root, iv .i64 d_0.Limits.i0, iv .i64 d_0.Limits.i1, pv (χ14 5).V.1]) Try.sizeOf35 rfl (j := 2) rfl (part_agO (ψs := [iv .i64 d_0.Graph.N, pv x13.1, iv .i64 d_0.Root, iv .i64 d_0.Limits.i0, iv .i64 d_0.Limits.i1, pv (χ14 5).V.1]) rfl ⟨.inl iv_at, .inr ⟨_, _, _, _, _, 5, rfl, rfl⟩, .inl iv_at, .inl iv_at, .inl iv_at, .inr ⟨_, _, _, _, _, 6, rfl, rfl⟩, trivial⟩) rfl rfl rfl) (fun _ => ?_)
      refine s_rd (r_assign rfl) rfl ?_
      refine l_nil ?_
      refine n_then ?_
      refine ref_ret ?_
      refine b_of (frzGL [(38, ag [iv .i64 d_0.Graph.N, slv rT_api_Pair t12, iv .i64 d_0.Root, iv .i64 d_0.Limits.i0, iv .i64 d_0.Limits.i1, pv (χ14 5).V.1])] [(2, b3, [iv .i64 d_0.Graph.N, slv rT_api_Pair t12, iv .i64 d_0.Root, iv .i64 d_0.Limits.i0, iv .i64 d_0.Limits.i1, pv (χ14 5).V.1]), (4, b11, [iv .i64 d_0.Graph.N, slv rT_api_Pair t12, iv .i64 d_0.Root, iv .i64 d_0.Limits.i0, iv .i64 d_0.Limits.i1, pv (χ14 5).V.1])] (j := 5) rfl ⟨⟨_, rfl, .inr ⟨_, _, rfl, rfl, ⟨.inl rfl, .inr ⟨rfl, rfl⟩, .inl rfl, .inl rfl, .inl rfl, .inl rfl, trivial⟩⟩⟩, trivial⟩ ⟨⟨_, rfl, ⟨.inl rfl, .inr ⟨rfl, rfl⟩, .inl rfl, .inl rfl, .inl rfl, .inl rfl, trivial⟩⟩, ⟨_, rfl, ⟨.inl rfl, .inr ⟨rfl, rfl⟩, .inl rfl, .inl rfl, .inl rfl, .inl rfl, trivial⟩⟩, trivial⟩) ?_
      refine b_of (frzGL [(38, ag [iv .i64 d_0.Graph.N, slv rT_api_Pair t12, iv .i64 d_0.Root, iv .i64 d_0.Limits.i0, iv .i64 d_0.Limits.i1, slv rT_api_Move t17])] [(2, b3, [iv .i64 d_0.Graph.N, slv rT_api_Pair t12, iv .i64 d_0.Root, iv .i64 d_0.Limits.i0, iv .i64 d_0.Limits.i1, slv rT_api_Move t17]), (4, b11, [iv .i64 d_0.Graph.N, slv rT_api_Pair t12, iv .i64 d_0.Root, iv .i64 d_0.Limits.i0, iv .i64 d_0.Limits.i1, slv rT_api_Move t17])] (j := 6) rfl ⟨⟨_, rfl, .inr ⟨_, _, rfl, rfl, ⟨.inl rfl, .inl rfl, .inl rfl, .inl rfl, .inl rfl, .inr ⟨rfl, rfl⟩, trivial⟩⟩⟩, trivial⟩ ⟨⟨_, rfl, ⟨.inl rfl, .inl rfl, .inl rfl, .inl rfl, .inl rfl, .inr ⟨rfl, rfl⟩, trivial⟩⟩, ⟨_, rfl, ⟨.inl rfl, .inl rfl, .inl rfl, .inl rfl, .inl rfl, .inr ⟨rfl, rfl⟩, trivial⟩⟩, trivial⟩) ?_
      exact fin2 (.inl rfl) () [] rfl trivial rfl (rv_cell rfl (j := 2) rfl Try.isAgg35 Try.sizeOf35 rfl rfl) (rv_tmp rfl)

/-! deliberation/participant.scripted -/
noncomputable def participant_scripted_l1 (d_0 : T_api_Dialogue) (behind4 : Int) (s11 : Int × Int) : Option (Sum (Int) (Int × Int)) :=
  bif decide (s11.2 < (d_0.Moves.length : Int)) then
    Option.bind (idxM d_0.Moves s11.2) fun t14 =>
    bif t14.By == behind4 then
      bif t14.Kind != 1 then
        letM (iadd .i64 s11.1 1) fun k17 =>
        some (Sum.inr (k17, iadd .i64 s11.2 1))
      else
        some (Sum.inr (s11.1, iadd .i64 s11.2 1))
    else
      some (Sum.inr (s11.1, iadd .i64 s11.2 1))
  else
    some (Sum.inl s11.1)

noncomputable def participant_scripted_m (d_0 : T_api_Dialogue) (p_1 : T_api_Player) (attacks_2 : (List T_api_Move)) : Option (T_api_Move × Bool) :=
  Option.bind (protocol_Turn_m d_0) fun behind4 =>
  Option.bind (loopC (participant_scripted_l1 d_0 behind4) (0, 0)) fun q18 : Int =>
  bif decide (q18 ≥ (p_1.Script.length : Int)) then
    some ((T_api_Move.mk 0 0 0 0), false)
  else
    Option.bind (idxM p_1.Script q18) fun t21 =>
    bif t21.Kind == 2 then
      Option.bind (slices_Contains_api_Move_api_Move_m attacks_2 (T_api_Move.mk behind4 t21.Kind t21.Node t21.Target)) fun t24 =>
      some ((T_api_Move.mk behind4 t21.Kind t21.Node t21.Target), t24)
    else
      Option.bind (protocol_Apply_m d_0 (T_api_Move.mk behind4 t21.Kind t21.Node t21.Target)) fun t25 =>
      bif t25.2 != 0 then
        some ((T_api_Move.mk 0 0 0 0), false)
      else
        Option.bind (idxM t25.1.Moves (isub .i64 (t25.1.Moves.length : Int) 1)) fun t28 =>
        some (t28, true)

theorem participant_scripted_ok {d_0 : T_api_Dialogue} {p_1 : T_api_Player} {attacks_2 : (List T_api_Move)} {r : T_api_Move × Bool} (hm : participant_scripted_m d_0 p_1 attacks_2 = some r) :
    FnOk prog 38 [ag [iv .i64 d_0.Graph.N, slv rT_api_Pair d_0.Graph.L, iv .i64 d_0.Root, iv .i64 d_0.Limits.i0, iv .i64 d_0.Limits.i1, slv rT_api_Move d_0.Moves], ag [slv (rI .i64) p_1.Pool, slv (rI .i64) p_1.Withheld, slv rT_api_Move p_1.Script, iv .i64 p_1.Style], slv rT_api_Move attacks_2] [] (fun (x : Unit) => [ag [iv .i64 r.1.By, iv .i64 r.1.Kind, iv .i64 r.1.Node, iv .i64 r.1.Target], bv r.2]) (fun (x : Unit) => []) := by
  refine fn_ok (X := Unit) (fn := Try.f38) (N := 73) (m := participant_scripted_m d_0 p_1 attacks_2) (res := fun r x => [ag [iv .i64 r.1.By, iv .i64 r.1.Kind, iv .i64 r.1.Node, iv .i64 r.1.Target], bv r.2]) (Ω1 := fun r x => []) Try.func38 rfl rfl hm rfl (fun E hM => ?_)
  unfold participant_scripted_m
  refine ref_seq ?_
  refine ref_region ?_
  refine s_st (s_box (part_ag (ψs := [iv .i64 d_0.Graph.N, slv rT_api_Pair d_0.Graph.L, iv .i64 d_0.Root, iv .i64 d_0.Limits.i0, iv .i64 d_0.Limits.i1, slv rT_api_Move d_0.Moves]) rfl (by intro φ h; simp only [List.mem_cons, List.not_mem_nil, or_false] at h; rcases h with rfl | rfl | rfl | rfl | rfl | rfl <;> first | exact iv_at | exact bv_at | exact sv_at | exact slv_at | exact pv_at rfl))) rfl (fun b1 => ?_)
  refine s_st (s_box (part_ag (ψs := [slv (rI .i64) p_1.Pool, slv (rI .i64) p_1.Withheld, slv rT_api_Move p_1.Script, iv .i64 p_1.Style]) rfl (by intro φ h; simp only [List.mem_cons, List.not_mem_nil, or_false] at h; rcases h with rfl | rfl | rfl | rfl <;> first | exact iv_at | exact bv_at | exact sv_at | exact slv_at | exact pv_at rfl))) rfl (fun b2 => ?_)
  refine s_st (s_alloc zt_40) rfl (fun b3 => ?_)
  refine s_rd (r_assign rfl) rfl ?_
  refine l_nil ?_
  refine n_then ?_
  refine ref_seq ?_
  refine ref_region ?_
  refine s_rd (r_cloadS Try.isAgg35 Try.sizeOf35 rfl (j := 0) rfl rfl rfl) rfl ?_
  refine pull fun behind4 h_behind4 => ?_
  refine s_st (s_call (ψ := fun (_ : Unit) => iv .i64 behind4) (args := [.tmp 15]) Try.call32 rfl (protocol_Turn_ok h_behind4) ⟨arg rfl, trivial⟩ (fun _ _ _ _ h => h)) rfl (fun _ => ?_)
  refine s_rd (r_assign rfl) rfl ?_
  refine l_nil ?_
  refine b_of (nrm [oc b1 [iv .i64 d_0.Graph.N, slv rT_api_Pair d_0.Graph.L, iv .i64 d_0.Root, iv .i64 d_0.Limits.i0, iv .i64 d_0.Limits.i1, slv rT_api_Move d_0.Moves], oc b2 [slv (rI .i64) p_1.Pool, slv (rI .i64) p_1.Withheld, slv rT_api_Move p_1.Script, iv .i64 p_1.Style], oc b3 [iv .i64 0, iv .i64 0, iv .i64 0, iv .i64 0]] rfl) ?_
  refine n_then ?_
  refine ref_seq ?_
  refine ref_region ?_
  refine s_rd (r_assign rfl) rfl ?_
  refine l_nil ?_
  refine n_then ?_
  refine ref_seq ?_
  refine ref_seq ?_
  refine ref_region ?_
  refine s_rd (r_faddr (fo := 5) Try.underlying35 rfl rfl Try.sizeOf23 rfl) rfl ?_
  refine s_rd (r_cload Try.isAgg23 rfl (j := 0) rfl rfl) rfl ?_
  refine s_rd (r_len Try.underlying23 rfl) rfl ?_
  refine s_rd (r_move rfl) rfl ?_
  refine l_nil ?_
  refine n_then ?_
  refine ref_loopB (f := (participant_scripted_l1 d_0 behind4)) (Γl := (fun (s11 : Int × Int) (x12 : Unit) => [(2, slv rT_api_Move attacks_2), (3, pv (ptr b1 0)), (4, pv (ptr b2 0)), (6, pv (ptr b3 0)), (8, iv .i64 behind4), (9, iv .i64 s11.1), (18, slv rT_api_Move d_0.Moves), (19, iv .i64 (d_0.Moves.length : Int)), (20, iv .i64 s11.2)])) (Ωl := (fun (s11 : Int × Int) (x12 : Unit) => [oc b1 [iv .i64 d_0.Graph.N, slv rT_api_Pair d_0.Graph.L, iv .i64 d_0.Root, iv .i64 d_0.Limits.i0, iv .i64 d_0.Limits.i1, slv rT_api_Move d_0.Moves], oc b2 [slv (rI .i64) p_1.Pool, slv (rI .i64) p_1.Withheld, slv rT_api_Move p_1.Script, iv .i64 p_1.Style], oc b3 [iv .i64 0, iv .i64 0, iv .i64 0, iv .i64 0]])) (Γb := (fun (q18 : Int) (y19 : Unit) => [(2, slv rT_api_Move attacks_2), (3, pv (ptr b1 0)), (4, pv (ptr b2 0)), (6, pv (ptr b3 0)), (8, iv .i64 behind4), (9, iv .i64 q18)])) (Ωb := (fun (q18 : Int) (y19 : Unit) => [oc b1 [iv .i64 d_0.Graph.N, slv rT_api_Pair d_0.Graph.L, iv .i64 d_0.Root, iv .i64 d_0.Limits.i0, iv .i64 d_0.Limits.i1, slv rT_api_Move d_0.Moves], oc b2 [slv (rI .i64) p_1.Pool, slv (rI .i64) p_1.Withheld, slv rT_api_Move p_1.Script, iv .i64 p_1.Style], oc b3 [iv .i64 0, iv .i64 0, iv .i64 0, iv .i64 0]])) (0, 0) () (weak [0, 1, 2] ⟨rfl, rfl, rfl, rfl, rfl, rfl, rfl, rfl, rfl, trivial⟩ ⟨rfl, rfl, rfl, trivial⟩) (fun s11 x12 => ?_) (fun q18 y19 => ?_)
  · unfold participant_scripted_l1
    refine ref_seq ?_
    refine ref_region ?_
    refine s_rd (r_lss rfl rfl) rfl ?_
    refine l_nil ?_
    refine n_then ?_
    refine ref_seq ?_
    refine ref_cond rfl (fun hb13 => ?_) (fun hb13 => ?_)
    · refine ref_skip ?_
      refine n_then ?_
      refine ref_seq ?_
      refine ref_block ?_
      refine ref_seq ?_
      refine ref_region ?_
      refine pull fun t14 h_t14 => ?_
      refine s_rd (r_index h_t14 Try.underlying23 el_40 rfl rfl) rfl ?_
      refine s_rd (r_load el_40 rfl) rfl ?_
      refine s_st (s_alloc zt_40) rfl (fun b15 => ?_)
      refine s_st0 (s_cstore (out := [iv .i64 t14.By, iv .i64 t14.Kind, iv .i64 t14.Node, iv .i64 t14.Target]) Try.sizeOf40 rfl (j := 3) rfl (part_ag (ψs := [iv .i64 t14.By, iv .i64 t14.Kind, iv .i64 t14.Node, iv .i64 t14.Target]) rfl (by intro φ h; simp only [List.mem_cons, List.not_mem_nil, or_false] at h; rcases h with rfl | rfl | rfl | rfl <;> first | exact iv_at | exact bv_at | exact sv_at | exact slv_at | exact pv_at rfl)) rfl rfl rfl) (fun _ => ?_)
      refine l_nil ?_
      refine n_then ?_
      refine ref_seq ?_
      refine ref_region ?_
      refine s_rd (r_faddr (fo := 0) Try.underlying40 rfl rfl Try.sizeOf3 rfl) rfl ?_
      refine s_rd (r_cload Try.isAgg3 rfl (j := 3) rfl rfl) rfl ?_
      refine s_rd (r_move rfl) rfl ?_
      refine s_rd (r_eql rfl rfl) rfl ?_
      refine s_rd (r_move rfl) rfl ?_
      refine b_split (t := 28) rfl (fun _ => ?_) (fun _ => ?_)
      · refine s_on rfl rfl rfl ?_
        refine s_rd (r_faddr (fo := 1) Try.underlying40 rfl rfl Try.sizeOf3 rfl) rfl ?_
        refine s_on rfl rfl rfl ?_
        refine s_rd (r_cload Try.isAgg3 rfl (j := 3) rfl rfl) rfl ?_
        refine s_on rfl rfl rfl ?_
        refine s_rd (r_neq rfl rfl) rfl ?_
        refine s_rd (r_pickT rfl rfl) rfl ?_
        refine l_nil ?_
        refine n_then ?_
        refine ref_cond rfl (fun hb16 => ?_) (fun hb16 => ?_)
        · refine ref_region ?_
          refine s_rd (r_move rfl) rfl ?_
          refine s_rd (r_add rfl rfl) rfl ?_
          refine s_rd (r_assign rfl) rfl ?_
          refine b_let (f := iv .i64) (t := 9) rfl fun k17 => ?_
          refine l_nil ?_
          refine n_block ?_
          refine n_then ?_
          refine ref_region ?_
          refine s_rd (r_add rfl rfl) rfl ?_
          refine s_rd (r_move rfl) rfl ?_
          refine l_nil ?_
          exact goB () (weak [0, 1, 2] ⟨rfl, rfl, rfl, rfl, rfl, rfl, rfl, rfl, rfl, trivial⟩ ⟨rfl, rfl, rfl, trivial⟩)
        · refine ref_skip ?_
          refine n_block ?_
          refine n_then ?_
          refine ref_region ?_
          refine s_rd (r_add rfl rfl) rfl ?_
          refine s_rd (r_move rfl) rfl ?_
          refine l_nil ?_
          exact goB () (weak [0, 1, 2] ⟨rfl, rfl, rfl, rfl, rfl, rfl, rfl, rfl, rfl, trivial⟩ ⟨rfl, rfl, rfl, trivial⟩)
      · refine s_off rfl rfl rfl rfl rfl ?_
        refine s_off rfl rfl rfl rfl rfl ?_
        refine s_off rfl rfl rfl rfl rfl ?_
        refine s_rd (r_pickF rfl rfl) rfl ?_
        refine l_nil ?_
        refine n_then ?_
        refine ref_condF rfl rfl ?_
        refine ref_skip ?_
        refine n_block ?_
        refine n_then ?_
        refine ref_region ?_
        refine s_rd (r_add rfl rfl) rfl ?_
        refine s_rd (r_move rfl) rfl ?_
        refine l_nil ?_
        exact goB () (weak [0, 1, 2] ⟨rfl, rfl, rfl, rfl, rfl, rfl, rfl, rfl, rfl, trivial⟩ ⟨rfl, rfl, rfl, trivial⟩)
    · refine ref_exit ?_
      refine x_then ?_
      exact brkB () (weak [0, 1, 2] ⟨rfl, rfl, rfl, rfl, rfl, rfl, trivial⟩ ⟨rfl, rfl, rfl, trivial⟩)
  · refine n_then ?_
    refine ref_seq ?_
    refine ref_seq ?_
    refine ref_region ?_
    refine s_rd (r_move rfl) rfl ?_
    refine s_rd (r_faddr (fo := 2) Try.underlying25 rfl rfl Try.sizeOf23 rfl) rfl ?_
    refine s_rd (r_cload Try.isAgg23 rfl (j := 1) rfl rfl) rfl ?_
    refine s_rd (r_len Try.underlying23 rfl) rfl ?_
    refine s_rd (r_geq rfl rfl) rfl ?_
    refine l_nil ?_
    refine n_then ?_
    refine ref_cond rfl (fun hb20 => ?_) (fun hb20 => ?_)
    · refine ref_seq ?_
      refine ref_region ?_
      refine s_rd (r_build (ps := []) (rs := []) st_40 zs_40 trivial rfl rfl) rfl ?_
      refine s_st0 (s_cstore (out := [iv .i64 0, iv .i64 0, iv .i64 0, iv .i64 0]) Try.sizeOf40 rfl (j := 2) rfl (part_ag (ψs := [iv .i64 0, iv .i64 0, iv .i64 0, iv .i64 0]) rfl (by intro φ h; simp only [List.mem_cons, List.not_mem_nil, or_false] at h; rcases h with rfl | rfl | rfl | rfl <;> first | exact iv_at | exact bv_at | exact sv_at | exact slv_at | exact pv_at rfl)) rfl rfl rfl) (fun _ => ?_)
      refine s_rd (r_assign rfl) rfl ?_
      refine l_nil ?_
      refine n_then ?_
      refine ref_ret ?_
      refine r_then ?_
      exact fin2 (.inl rfl) () [] rfl trivial rfl (rv_cell rfl (j := 2) rfl Try.isAgg40 Try.sizeOf40 rfl rfl) (rv_tmp rfl)
    · refine ref_skip ?_
      refine n_then ?_
      refine ref_seq ?_
      refine ref_region ?_
      refine s_rd (r_faddr (fo := 2) Try.underlying25 rfl rfl Try.sizeOf23 rfl) rfl ?_
      refine s_rd (r_cload Try.isAgg23 rfl (j := 1) rfl rfl) rfl ?_
      refine s_rd (r_move rfl) rfl ?_
      refine pull fun t21 h_t21 => ?_
      refine s_rd (r_index h_t21 Try.underlying23 el_40 rfl rfl) rfl ?_
      refine s_rd (r_load el_40 rfl) rfl ?_
      refine s_st (s_alloc zt_40) rfl (fun b22 => ?_)
      refine s_st0 (s_cstore (out := [iv .i64 t21.By, iv .i64 t21.Kind, iv .i64 t21.Node, iv .i64 t21.Target]) Try.sizeOf40 rfl (j := 3) rfl (part_ag (ψs := [iv .i64 t21.By, iv .i64 t21.Kind, iv .i64 t21.Node, iv .i64 t21.Target]) rfl (by intro φ h; simp only [List.mem_cons, List.not_mem_nil, or_false] at h; rcases h with rfl | rfl | rfl | rfl <;> first | exact iv_at | exact bv_at | exact sv_at | exact slv_at | exact pv_at rfl)) rfl rfl rfl) (fun _ => ?_)
      refine l_nil ?_
      refine n_then ?_
      refine ref_seq ?_
      refine ref_region ?_
      refine s_rd (r_move rfl) rfl ?_
      refine s_rd (r_faddr (fo := 0) Try.underlying40 rfl rfl Try.sizeOf3 rfl) rfl ?_
      refine s_st0 (s_cstore (out := [iv .i64 behind4, iv .i64 t21.Kind, iv .i64 t21.Node, iv .i64 t21.Target]) Try.sizeOf3 rfl (j := 3) rfl (part_at rfl iv_at) rfl rfl rfl) (fun _ => ?_)
      refine l_nil ?_
      refine n_then ?_
      refine ref_seq ?_
      refine ref_seq ?_
      refine ref_region ?_
      refine s_rd (r_faddr (fo := 1) Try.underlying40 rfl rfl Try.sizeOf3 rfl) rfl ?_
      refine s_rd (r_cload Try.isAgg3 rfl (j := 3) rfl rfl) rfl ?_
      refine s_rd (r_eql rfl rfl) rfl ?_
      refine l_nil ?_
      refine n_then ?_
      refine ref_cond rfl (fun hb23 => ?_) (fun hb23 => ?_)
      · refine ref_seq ?_
        refine ref_draw [0, 1, 2] rfl (by kernel_rfl) (fun hok => ?_)
        refine a_rd (i := 0) hok rfl (by kernel_rfl) rfl (r_cloadS Try.isAgg40 Try.sizeOf40 rfl (j := 3) rfl rfl rfl) rfl ?_
        refine a_rd (i := 1) hok rfl (by kernel_rfl) rfl (r_move rfl) rfl ?_
        refine a_rd (i := 2) hok rfl (by kernel_rfl) rfl (r_cloadS Try.isAgg40 Try.sizeOf40 rfl (j := 3) rfl rfl rfl) rfl ?_
        refine pull fun t24 h_t24 => ?_
        refine a_next hok 3 [] (by kernel_rfl) ?_ trivial
        refine a_st (i := 3) hok rfl rfl (s_call (ψ := fun (_ : Unit) => bv t24) (args := [.tmp 53, .tmp 54]) Try.call67 rfl (slices_Contains_api_Move_api_Move_ok h_t24) ⟨arg rfl, arg rfl, trivial⟩ (fun _ _ _ _ h => h)) (by intro _ h; cases h; rfl) (fun _ => ⟨trivial, ⟨trivial, ⟨⟨⟨rfl, rfl⟩, trivial⟩, trivial⟩⟩⟩) (fun _ => ?_)
        refine a_next hok 4 [] (by kernel_rfl) ?_ trivial
        refine a_st (i := 4) hok rfl rfl (s_cstore (out := [iv .i64 behind4, iv .i64 t21.Kind, iv .i64 t21.Node, iv .i64 t21.Target]) Try.sizeOf40 rfl (j := 2) rfl (part_ag (ψs := [iv .i64 behind4, iv .i64 t21.Kind, iv .i64 t21.Node, iv .i64 t21.Target]) rfl (by intro φ h; simp only [List.mem_cons, List.not_mem_nil, or_false] at h; rcases h with rfl | rfl | rfl | rfl <;> first | exact iv_at | exact bv_at | exact sv_at | exact slv_at | exact pv_at rfl)) rfl rfl rfl) (by intro _ h; cases h) (fun _ => ⟨⟨⟨rfl, rfl⟩, trivial⟩, ⟨trivial, ⟨trivial, trivial⟩⟩⟩) (fun _ => ?_)
        refine a_next hok 5 [] (by kernel_rfl) ?_ trivial
        refine a_st (i := 5) hok rfl rfl (St.ofRd (r_assign rfl)) (by intro _ h; cases h; rfl) (fun _ => ⟨trivial, ⟨trivial, ⟨trivial, trivial⟩⟩⟩) (fun _ => ?_)
        refine a_fin hok (by kernel_rfl) ?_
        refine b_of (nrm [oc b1 [iv .i64 d_0.Graph.N, slv rT_api_Pair d_0.Graph.L, iv .i64 d_0.Root, iv .i64 d_0.Limits.i0, iv .i64 d_0.Limits.i1, slv rT_api_Move d_0.Moves], oc b2 [slv (rI .i64) p_1.Pool, slv (rI .i64) p_1.Withheld, slv rT_api_Move p_1.Script, iv .i64 p_1.Style], oc b3 [iv .i64 behind4, iv .i64 t21.Kind, iv .i64 t21.Node, iv .i64 t21.Target], oc b22 [iv .i64 behind4, iv .i64 t21.Kind, iv .i64 t21.Node, iv .i64 t21.Target]] rfl) ?_
        refine n_then ?_
        refine ref_ret ?_
        refine r_then ?_
        exact fin2 (.inl rfl) () [] rfl trivial rfl (rv_cell rfl (j := 2) rfl Try.isAgg40 Try.sizeOf40 rfl rfl) (rv_tmp rfl)
      · refine ref_skip ?_
        refine n_then ?_
        refine ref_seq ?_
        refine ref_region ?_
        refine s_rd (r_cloadS Try.isAgg35 Try.sizeOf35 rfl (j := 0) rfl rfl rfl) rfl ?_
        refine s_rd (r_cloadS Try.isAgg40 Try.sizeOf40 rfl (j := 3) rfl rfl rfl) rfl ?_
        refine pull fun t25 h_t25 => ?_
        refine s_st (s_call (ψ := fun (_ : Unit) => tup [ag [iv .i64 t25.1.Graph.N, slv rT_api_Pair t25.1.Graph.L, iv .i64 t25.1.Root, iv .i64 t25.1.Limits.i0, iv .i64 t25.1.Limits.i1, slv rT_api_Move t25.1.Moves], iv .i64 t25.2]) (args := [.tmp 57, .tmp 58]) Try.call47 rfl (protocol_Apply_ok h_t25) ⟨arg rfl, arg rfl, trivial⟩ (fun _ _ _ _ h => h)) rfl (fun _ => ?_)
        refine s_rd (r_move rfl) rfl ?_
        refine s_rd (r_extract rfl rfl) rfl ?_
        refine s_rd (r_extract rfl rfl) rfl ?_
        refine s_st (s_alloc zt_35) rfl (fun b26 => ?_)
        refine s_st0 (s_cstore (out := [iv .i64 t25.1.Graph.N, slv rT_api_Pair t25.1.Graph.L, iv .i64 t25.1.Root, iv .i64 t25.1.Limits.i0, iv .i64 t25.1.Limits.i1, slv rT_api_Move t25.1.Moves]) Try.sizeOf35 rfl (j := 4) rfl (part_ag (ψs := [iv .i64 t25.1.Graph.N, slv rT_api_Pair t25.1.Graph.L, iv .i64 t25.1.Root, iv .i64 t25.1.Limits.i0, iv .i64 t25.1.Limits.i1, slv rT_api_Move t25.1.Moves]) rfl (by intro φ h; simp only [List.mem_cons, List.not_mem_nil, or_false] at h; rcases h with rfl | rfl | rfl | rfl | rfl | rfl <;> first | exact iv_at | exact bv_at | exact sv_at | exact slv_at | exact pv_at rfl)) rfl rfl rfl) (fun _ => ?_)
        refine s_rd (r_assign rfl) rfl ?_
        refine l_nil ?_
        refine b_of (nrm [oc b1 [iv .i64 d_0.Graph.N, slv rT_api_Pair d_0.Graph.L, iv .i64 d_0.Root, iv .i64 d_0.Limits.i0, iv .i64 d_0.Limits.i1, slv rT_api_Move d_0.Moves], oc b2 [slv (rI .i64) p_1.Pool, slv (rI .i64) p_1.Withheld, slv rT_api_Move p_1.Script, iv .i64 p_1.Style], oc b3 [iv .i64 0, iv .i64 0, iv .i64 0, iv .i64 0], oc b22 [iv .i64 behind4, iv .i64 t21.Kind, iv .i64 t21.Node, iv .i64 t21.Target], oc b26 [iv .i64 t25.1.Graph.N, slv rT_api_Pair t25.1.Graph.L, iv .i64 t25.1.Root, iv .i64 t25.1.Limits.i0, iv .i64 t25.1.Limits.i1, slv rT_api_Move t25.1.Moves]] rfl) ?_
        refine n_then ?_
        refine ref_seq ?_
        refine ref_seq ?_
        refine ref_region ?_
        refine s_rd (r_move rfl) rfl ?_
        refine s_rd (r_neq rfl rfl) rfl ?_
        refine l_nil ?_
        refine n_then ?_
        refine ref_cond rfl (fun hb27 => ?_) (fun hb27 => ?_)
        · refine ref_seq ?_
          refine ref_region ?_
          refine s_rd (r_build (ps := []) (rs := []) st_40 zs_40 trivial rfl rfl) rfl ?_
          refine s_st0 (s_cstore (out := [iv .i64 0, iv .i64 0, iv .i64 0, iv .i64 0]) Try.sizeOf40 rfl (j := 2) rfl (part_ag (ψs := [iv .i64 0, iv .i64 0, iv .i64 0, iv .i64 0]) rfl (by intro φ h; simp only [List.mem_cons, List.not_mem_nil, or_false] at h; rcases h with rfl | rfl | rfl | rfl <;> first | exact iv_at | exact bv_at | exact sv_at | exact slv_at | exact pv_at rfl)) rfl rfl rfl) (fun _ => ?_)
          refine s_rd (r_assign rfl) rfl ?_
          refine l_nil ?_
          refine n_then ?_
          refine ref_ret ?_
          refine r_then ?_
          exact fin2 (.inl rfl) () [] rfl trivial rfl (rv_cell rfl (j := 2) rfl Try.isAgg40 Try.sizeOf40 rfl rfl) (rv_tmp rfl)
        · refine ref_skip ?_
          refine n_then ?_
          refine ref_seq ?_
          refine ref_region ?_
          refine s_rd (r_faddr (fo := 5) Try.underlying35 rfl rfl Try.sizeOf23 rfl) rfl ?_
          refine s_rd (r_cload Try.isAgg23 rfl (j := 4) rfl rfl) rfl ?_
          refine s_rd (r_faddr (fo := 5) Try.underlying35 rfl rfl Try.sizeOf23 rfl) rfl ?_
          refine s_rd (r_cload Try.isAgg23 rfl (j := 4) rfl rfl) rfl ?_
          refine s_rd (r_len Try.underlying23 rfl) rfl ?_
          refine s_rd (r_sub rfl rfl) rfl ?_
          refine pull fun t28 h_t28 => ?_
          refine s_rd (r_index h_t28 Try.underlying23 el_40 rfl rfl) rfl ?_
          refine s_rd (r_load el_40 rfl) rfl ?_
          refine s_st0 (s_cstore (out := [iv .i64 t28.By, iv .i64 t28.Kind, iv .i64 t28.Node, iv .i64 t28.Target]) Try.sizeOf40 rfl (j := 2) rfl (part_ag (ψs := [iv .i64 t28.By, iv .i64 t28.Kind, iv .i64 t28.Node, iv .i64 t28.Target]) rfl (by intro φ h; simp only [List.mem_cons, List.not_mem_nil, or_false] at h; rcases h with rfl | rfl | rfl | rfl <;> first | exact iv_at | exact bv_at | exact sv_at | exact slv_at | exact pv_at rfl)) rfl rfl rfl) (fun _ => ?_)
          refine s_rd (r_assign rfl) rfl ?_
          refine l_nil ?_
          refine n_then ?_
          refine ref_ret ?_
          exact fin2 (.inl rfl) () [] rfl trivial rfl (rv_cell rfl (j := 2) rfl Try.isAgg40 Try.sizeOf40 rfl rfl) (rv_tmp rfl)

/-! cmp.isNaN[int] -/
noncomputable def cmp_isNaN_int_m (x_0 : Int) : Option (Bool) :=
  some (x_0 != x_0)

theorem cmp_isNaN_int_ok {x_0 : Int} {r : Bool} (hm : cmp_isNaN_int_m x_0 = some r) :
    FnOk prog 84 [iv .i64 x_0] [] (fun (x : Unit) => [bv r]) (fun (x : Unit) => []) := by
  refine fn_ok (X := Unit) (fn := Try.f84) (N := 6) (m := cmp_isNaN_int_m x_0) (res := fun r x => [bv r]) (Ω1 := fun r x => []) Try.func84 rfl rfl hm rfl (fun E hM => ?_)
  unfold cmp_isNaN_int_m
  refine ref_seq ?_
  refine ref_region ?_
  refine s_rd (r_assign rfl) rfl ?_
  refine l_nil ?_
  refine n_then ?_
  refine ref_seq ?_
  refine ref_region ?_
  refine s_rd (r_move rfl) rfl ?_
  refine s_rd (r_move rfl) rfl ?_
  refine s_rd (r_neq rfl rfl) rfl ?_
  refine s_rd (r_assign rfl) rfl ?_
  refine l_nil ?_
  refine n_then ?_
  refine ref_ret ?_
  exact fin1 (.inl rfl) () [] rfl trivial rfl (rv_tmp rfl)

/-! cmp.Compare[int] -/
noncomputable def cmp_Compare_int_m (x_0 : Int) (y_1 : Int) : Option (Int) :=
  Option.bind (cmp_isNaN_int_m x_0) fun xNaN1 =>
  Option.bind (cmp_isNaN_int_m y_1) fun yNaN2 =>
  bif xNaN1 then
    bif yNaN2 then
      some 0
    else
      some (-1)
  else
    bif yNaN2 then
      some 1
    else
      bif decide (x_0 < y_1) then
        some (-1)
      else
        bif decide (x_0 > y_1) then
          some 1
        else
          some 0

theorem cmp_Compare_int_ok {x_0 : Int} {y_1 : Int} {r : Int} (hm : cmp_Compare_int_m x_0 y_1 = some r) :
    FnOk prog 70 [iv .i64 x_0, iv .i64 y_1] [] (fun (x : Unit) => [iv .i64 r]) (fun (x : Unit) => []) := by
  refine fn_ok (X := Unit) (fn := Try.f70) (N := 20) (m := cmp_Compare_int_m x_0 y_1) (res := fun r x => [iv .i64 r]) (Ω1 := fun r x => []) Try.func70 rfl rfl hm rfl (fun E hM => ?_)
  unfold cmp_Compare_int_m
  refine ref_seq ?_
  refine ref_region ?_
  refine s_rd (r_assign rfl) rfl ?_
  refine l_nil ?_
  refine n_then ?_
  refine ref_seq ?_
  refine ref_region ?_
  refine s_rd (r_move rfl) rfl ?_
  refine pull fun xNaN1 h_xNaN1 => ?_
  refine s_st (s_call (ψ := fun (_ : Unit) => bv xNaN1) (args := [.tmp 7]) Try.call84 rfl (cmp_isNaN_int_ok h_xNaN1) ⟨arg rfl, trivial⟩ (fun _ _ _ _ h => h)) rfl (fun _ => ?_)
  refine s_rd (r_assign rfl) rfl ?_
  refine l_nil ?_
  refine n_then ?_
  refine ref_seq ?_
  refine ref_region ?_
  refine s_rd (r_move rfl) rfl ?_
  refine pull fun yNaN2 h_yNaN2 => ?_
  refine s_st (s_call (ψ := fun (_ : Unit) => bv yNaN2) (args := [.tmp 9]) Try.call84 rfl (cmp_isNaN_int_ok h_yNaN2) ⟨arg rfl, trivial⟩ (fun _ _ _ _ h => h)) rfl (fun _ => ?_)
  refine s_rd (r_assign rfl) rfl ?_
  refine l_nil ?_
  refine n_then ?_
  refine ref_seq ?_
  refine ref_seq ?_
  refine ref_region ?_
  refine s_rd (r_move rfl) rfl ?_
  refine l_nil ?_
  refine n_then ?_
  refine ref_cond rfl (fun hb3 => ?_) (fun hb3 => ?_)
  · refine ref_seq ?_
    refine ref_seq ?_
    refine ref_region ?_
    refine s_rd (r_move rfl) rfl ?_
    refine l_nil ?_
    refine n_then ?_
    refine ref_cond rfl (fun hb4 => ?_) (fun hb4 => ?_)
    · refine ref_seq ?_
      refine ref_region ?_
      refine s_rd (r_assign rfl) rfl ?_
      refine l_nil ?_
      refine n_then ?_
      refine ref_ret ?_
      refine r_then ?_
      refine r_then ?_
      exact fin1 (.inl rfl) () [] rfl trivial rfl (rv_tmp rfl)
    · refine ref_skip ?_
      refine n_then ?_
      refine ref_seq ?_
      refine ref_region ?_
      refine s_rd (r_assign rfl) rfl ?_
      refine l_nil ?_
      refine n_then ?_
      refine ref_ret ?_
      refine r_then ?_
      exact fin1 (.inl rfl) () [] rfl trivial rfl (rv_tmp rfl)
  · refine ref_skip ?_
    refine n_then ?_
    refine ref_seq ?_
    refine ref_seq ?_
    refine ref_region ?_
    refine s_rd (r_move rfl) rfl ?_
    refine l_nil ?_
    refine n_then ?_
    refine ref_cond rfl (fun hb5 => ?_) (fun hb5 => ?_)
    · refine ref_seq ?_
      refine ref_region ?_
      refine s_rd (r_assign rfl) rfl ?_
      refine l_nil ?_
      refine n_then ?_
      refine ref_ret ?_
      refine r_then ?_
      exact fin1 (.inl rfl) () [] rfl trivial rfl (rv_tmp rfl)
    · refine ref_skip ?_
      refine n_then ?_
      refine ref_seq ?_
      refine ref_seq ?_
      refine ref_region ?_
      refine s_rd (r_move rfl) rfl ?_
      refine s_rd (r_move rfl) rfl ?_
      refine s_rd (r_lss rfl rfl) rfl ?_
      refine l_nil ?_
      refine n_then ?_
      refine ref_cond rfl (fun hb6 => ?_) (fun hb6 => ?_)
      · refine ref_seq ?_
        refine ref_region ?_
        refine s_rd (r_assign rfl) rfl ?_
        refine l_nil ?_
        refine n_then ?_
        refine ref_ret ?_
        refine r_then ?_
        exact fin1 (.inl rfl) () [] rfl trivial rfl (rv_tmp rfl)
      · refine ref_skip ?_
        refine n_then ?_
        refine ref_seq ?_
        refine ref_seq ?_
        refine ref_region ?_
        refine s_rd (r_move rfl) rfl ?_
        refine s_rd (r_move rfl) rfl ?_
        refine s_rd (r_gtr rfl rfl) rfl ?_
        refine l_nil ?_
        refine n_then ?_
        refine ref_cond rfl (fun hb7 => ?_) (fun hb7 => ?_)
        · refine ref_seq ?_
          refine ref_region ?_
          refine s_rd (r_assign rfl) rfl ?_
          refine l_nil ?_
          refine n_then ?_
          refine ref_ret ?_
          refine r_then ?_
          exact fin1 (.inl rfl) () [] rfl trivial rfl (rv_tmp rfl)
        · refine ref_skip ?_
          refine n_then ?_
          refine ref_seq ?_
          refine ref_region ?_
          refine s_rd (r_assign rfl) rfl ?_
          refine l_nil ?_
          refine n_then ?_
          refine ref_ret ?_
          exact fin1 (.inl rfl) () [] rfl trivial rfl (rv_tmp rfl)

/-! deliberation/participant.style$2 -/
noncomputable def participant_style_2_m (a__0 : T_api_Move) (b_1 : T_api_Move) : Option (Int) :=
  Option.bind (cmp_Compare_int_m b_1.Target a__0.Target) fun t3 =>
  some t3

theorem participant_style_2_ok {a__0 : T_api_Move} {b_1 : T_api_Move} {r : Int} (hm : participant_style_2_m a__0 b_1 = some r) :
    FnOk prog 69 [ag [iv .i64 a__0.By, iv .i64 a__0.Kind, iv .i64 a__0.Node, iv .i64 a__0.Target], ag [iv .i64 b_1.By, iv .i64 b_1.Kind, iv .i64 b_1.Node, iv .i64 b_1.Target]] [] (fun (x : Unit) => [iv .i64 r]) (fun (x : Unit) => []) := by
  refine fn_ok (X := Unit) (fn := Try.f69) (N := 10) (m := participant_style_2_m a__0 b_1) (res := fun r x => [iv .i64 r]) (Ω1 := fun r x => []) Try.func69 rfl rfl hm rfl (fun E hM => ?_)
  unfold participant_style_2_m
  refine ref_seq ?_
  refine ref_region ?_
  refine s_st (s_box (part_ag (ψs := [iv .i64 a__0.By, iv .i64 a__0.Kind, iv .i64 a__0.Node, iv .i64 a__0.Target]) rfl (by intro φ h; simp only [List.mem_cons, List.not_mem_nil, or_false] at h; rcases h with rfl | rfl | rfl | rfl <;> first | exact iv_at | exact bv_at | exact sv_at | exact slv_at | exact pv_at rfl))) rfl (fun b1 => ?_)
  refine s_st (s_box (part_ag (ψs := [iv .i64 b_1.By, iv .i64 b_1.Kind, iv .i64 b_1.Node, iv .i64 b_1.Target]) rfl (by intro φ h; simp only [List.mem_cons, List.not_mem_nil, or_false] at h; rcases h with rfl | rfl | rfl | rfl <;> first | exact iv_at | exact bv_at | exact sv_at | exact slv_at | exact pv_at rfl))) rfl (fun b2 => ?_)
  refine s_rd (r_assign rfl) rfl ?_
  refine l_nil ?_
  refine n_then ?_
  refine ref_seq ?_
  refine ref_region ?_
  refine s_rd (r_faddr (fo := 3) Try.underlying40 rfl rfl Try.sizeOf3 rfl) rfl ?_
  refine s_rd (r_cload Try.isAgg3 rfl (j := 1) rfl rfl) rfl ?_
  refine s_rd (r_faddr (fo := 3) Try.underlying40 rfl rfl Try.sizeOf3 rfl) rfl ?_
  refine s_rd (r_cload Try.isAgg3 rfl (j := 0) rfl rfl) rfl ?_
  refine pull fun t3 h_t3 => ?_
  refine s_st (s_call (ψ := fun (_ : Unit) => iv .i64 t3) (args := [.tmp 6, .tmp 8]) Try.call70 rfl (cmp_Compare_int_ok h_t3) ⟨arg rfl, arg rfl, trivial⟩ (fun _ _ _ _ h => h)) rfl (fun _ => ?_)
  refine s_rd (r_assign rfl) rfl ?_
  refine l_nil ?_
  refine n_then ?_
  refine ref_ret ?_
  exact fin1 (.inl rfl) () [] rfl trivial rfl (rv_tmp rfl)

/-! deliberation/participant.style$4 -/
noncomputable def participant_style_4_m (a__0 : T_api_Move) (b_1 : T_api_Move) : Option (Int) :=
  some 0

theorem participant_style_4_ok {a__0 : T_api_Move} {b_1 : T_api_Move} {r : Int} (hm : participant_style_4_m a__0 b_1 = some r) :
    FnOk prog 72 [ag [iv .i64 a__0.By, iv .i64 a__0.Kind, iv .i64 a__0.Node, iv .i64 a__0.Target], ag [iv .i64 b_1.By, iv .i64 b_1.Kind, iv .i64 b_1.Node, iv .i64 b_1.Target]] [] (fun (x : Unit) => [iv .i64 r]) (fun (x : Unit) => []) := by
  refine fn_ok (X := Unit) (fn := Try.f72) (N := 5) (m := participant_style_4_m a__0 b_1) (res := fun r x => [iv .i64 r]) (Ω1 := fun r x => []) Try.func72 rfl rfl hm rfl (fun E hM => ?_)
  unfold participant_style_4_m
  refine ref_seq ?_
  refine ref_region ?_
  refine s_st (s_box (part_ag (ψs := [iv .i64 a__0.By, iv .i64 a__0.Kind, iv .i64 a__0.Node, iv .i64 a__0.Target]) rfl (by intro φ h; simp only [List.mem_cons, List.not_mem_nil, or_false] at h; rcases h with rfl | rfl | rfl | rfl <;> first | exact iv_at | exact bv_at | exact sv_at | exact slv_at | exact pv_at rfl))) rfl (fun b1 => ?_)
  refine s_st (s_box (part_ag (ψs := [iv .i64 b_1.By, iv .i64 b_1.Kind, iv .i64 b_1.Node, iv .i64 b_1.Target]) rfl (by intro φ h; simp only [List.mem_cons, List.not_mem_nil, or_false] at h; rcases h with rfl | rfl | rfl | rfl <;> first | exact iv_at | exact bv_at | exact sv_at | exact slv_at | exact pv_at rfl))) rfl (fun b2 => ?_)
  refine s_rd (r_assign rfl) rfl ?_
  refine l_nil ?_
  refine n_then ?_
  refine ref_seq ?_
  refine ref_region ?_
  refine s_rd (r_assign rfl) rfl ?_
  refine l_nil ?_
  refine n_then ?_
  refine ref_ret ?_
  exact fin1 (.inl rfl) () [] rfl trivial rfl (rv_tmp rfl)

/-! deliberation/participant.style -/
noncomputable def participant_style_m (d_0 : T_api_Dialogue) (kind_1 : Int) : Option (T_api_Dialogue × Bool × Bool) :=
  bif kind_1 == 2 then
    some (d_0, true, false)
  else
    bif kind_1 == 3 then
      some (d_0, false, true)
    else
      some (d_0, false, false)

theorem participant_style_ok {d_0 : T_api_Dialogue} {kind_1 : Int} {r : T_api_Dialogue × Bool × Bool} (hm : participant_style_m d_0 kind_1 = some r) :
    FnOk prog 40 [ag [iv .i64 d_0.Graph.N, slv rT_api_Pair d_0.Graph.L, iv .i64 d_0.Root, iv .i64 d_0.Limits.i0, iv .i64 d_0.Limits.i1, slv rT_api_Move d_0.Moves], iv .i64 kind_1] [] (fun (x : Nat × Nat) => [pv (bif r.2.1 then (.func (.func 69) #[] #[]) else (bif r.2.2 then (.func (.func 71) #[] #[(ptr x.1 0)]) else (.func (.func 72) #[] #[])))]) (fun (x : Nat × Nat) => [oc x.1 [pv (.func (.func 68) #[] #[(ptr x.2 0)])], oc x.2 [iv .i64 r.1.Graph.N, slv rT_api_Pair r.1.Graph.L, iv .i64 r.1.Root, iv .i64 r.1.Limits.i0, iv .i64 r.1.Limits.i1, slv rT_api_Move r.1.Moves]]) := by
  refine fn_ok (X := Nat × Nat) (fn := Try.f40) (N := 13) (m := participant_style_m d_0 kind_1) (res := fun r x => [pv (bif r.2.1 then (.func (.func 69) #[] #[]) else (bif r.2.2 then (.func (.func 71) #[] #[(ptr x.1 0)]) else (.func (.func 72) #[] #[])))]) (Ω1 := fun r x => [oc x.1 [pv (.func (.func 68) #[] #[(ptr x.2 0)])], oc x.2 [iv .i64 r.1.Graph.N, slv rT_api_Pair r.1.Graph.L, iv .i64 r.1.Root, iv .i64 r.1.Limits.i0, iv .i64 r.1.Limits.i1, slv rT_api_Move r.1.Moves]]) Try.func40 rfl rfl hm rfl (fun E hM => ?_)
  unfold participant_style_m
  refine ref_seq ?_
  refine ref_region ?_
  refine s_st (s_box (part_ag (ψs := [iv .i64 d_0.Graph.N, slv rT_api_Pair d_0.Graph.L, iv .i64 d_0.Root, iv .i64 d_0.Limits.i0, iv .i64 d_0.Limits.i1, slv rT_api_Move d_0.Moves]) rfl (by intro φ h; simp only [List.mem_cons, List.not_mem_nil, or_false] at h; rcases h with rfl | rfl | rfl | rfl | rfl | rfl <;> first | exact iv_at | exact bv_at | exact sv_at | exact slv_at | exact pv_at rfl))) rfl (fun b1 => ?_)
  refine s_rd (r_assign rfl) rfl ?_
  refine l_nil ?_
  refine n_then ?_
  refine ref_seq ?_
  refine ref_region ?_
  refine s_rd (r_mkfn (xs := [.tmp 2]) (vs := [(ptr b1 0)]) ⟨rfl, trivial⟩) rfl ?_
  refine s_st (s_alloc zt_55) rfl (fun b2 => ?_)
  refine s_st0 (s_cstore (out := [pv (.func (.func 68) #[] #[(ptr b1 0)])]) Try.sizeOf55 rfl (j := 1) rfl (part_at (φ := pv (.func (.func 68) #[] #[(ptr b1 0)])) rfl (pv_at rfl)) rfl rfl rfl) (fun _ => ?_)
  refine l_nil ?_
  refine n_then ?_
  refine ref_seq ?_
  refine ref_seq ?_
  refine ref_region ?_
  refine s_rd (r_move rfl) rfl ?_
  refine l_nil ?_
  refine n_then ?_
  refine ref_block ?_
  refine ref_seq ?_
  refine ref_region ?_
  refine s_rd (r_eql rfl rfl) rfl ?_
  refine s_rd (r_assign rfl) rfl ?_
  refine l_nil ?_
  refine n_then ?_
  refine ref_cond rfl (fun hb3 => ?_) (fun hb3 => ?_)
  · refine ref_seq ?_
    refine ref_region ?_
    refine s_rd (r_assign rfl) rfl ?_
    refine l_nil ?_
    refine n_then ?_
    refine ref_ret ?_
    refine r_block ?_
    refine r_then ?_
    exact fin1 (.inl rfl) (b2, b1) [1, 0] rfl ⟨rfl, rfl, trivial⟩ rfl (rv_tmp rfl)
  · refine ref_seq ?_
    refine ref_region ?_
    refine s_rd (r_eql rfl rfl) rfl ?_
    refine s_rd (r_assign rfl) rfl ?_
    refine l_nil ?_
    refine n_then ?_
    refine ref_cond rfl (fun hb4 => ?_) (fun hb4 => ?_)
    · refine ref_seq ?_
      refine ref_region ?_
      refine s_rd (r_mkfn (xs := [.tmp 5]) (vs := [(ptr b2 0)]) ⟨rfl, trivial⟩) rfl ?_
      refine s_rd (r_assign rfl) rfl ?_
      refine l_nil ?_
      refine n_then ?_
      refine ref_ret ?_
      refine r_block ?_
      refine r_then ?_
      exact fin1 (.inl rfl) (b2, b1) [1, 0] rfl ⟨rfl, rfl, trivial⟩ rfl (rv_tmp rfl)
    · refine ref_skip ?_
      refine n_block ?_
      refine n_then ?_
      refine ref_seq ?_
      refine ref_region ?_
      refine s_rd (r_assign rfl) rfl ?_
      refine l_nil ?_
      refine n_then ?_
      refine ref_ret ?_
      exact fin1 (.inl rfl) (b2, b1) [1, 0] rfl ⟨rfl, rfl, trivial⟩ rfl (rv_tmp rfl)

/-! slices.Index[[]int,int] -/
noncomputable def slices_Index_int_int_l1 (s_0 : (List Int)) (v_1 : Int) (s6 : Int) : Option (Sum ((Sum (Int) (Unit))) (Int)) :=
  bif decide (s6 < (s_0.length : Int)) then
    Option.bind (idxM s_0 s6) fun t9 =>
    bif v_1 == t9 then
      some (Sum.inl (Sum.inl s6))
    else
      some (Sum.inr (iadd .i64 s6 1))
  else
    some (Sum.inl (Sum.inr ()))

noncomputable def slices_Index_int_int_m (s_0 : (List Int)) (v_1 : Int) : Option (Int) :=
  Option.bind (loopC (slices_Index_int_int_l1 s_0 v_1) 0) (sumK (fun a : Int => some a) fun q11 : Unit =>
    some (-1))

theorem slices_Index_int_int_ok {s_0 : (List Int)} {v_1 : Int} {r : Int} (hm : slices_Index_int_int_m s_0 v_1 = some r) :
    FnOk prog 66 [slv (rI .i64) s_0, iv .i64 v_1] [] (fun (x : Unit) => [iv .i64 r]) (fun (x : Unit) => []) := by
  refine fn_ok (X := Unit) (fn := Try.f66) (N := 19) (m := slices_Index_int_int_m s_0 v_1) (res := fun r x => [iv .i64 r]) (Ω1 := fun r x => []) Try.func66 rfl rfl hm rfl (fun E hM => ?_)
  unfold slices_Index_int_int_m
  refine ref_seq ?_
  refine ref_region ?_
  refine s_rd (r_assign rfl) rfl ?_
  refine l_nil ?_
  refine n_then ?_
  refine ref_seq ?_
  refine ref_seq ?_
  refine ref_region ?_
  refine s_rd (r_move rfl) rfl ?_
  refine s_rd (r_len Try.underlying22 rfl) rfl ?_
  refine s_rd (r_move rfl) rfl ?_
  refine l_nil ?_
  refine n_then ?_
  refine ref_loopX (f := (slices_Index_int_int_l1 s_0 v_1)) (Γl := (fun (s6 : Int) (x7 : Unit) => [(0, slv (rI .i64) s_0), (1, iv .i64 v_1), (7, iv .i64 (s_0.length : Int)), (8, iv .i64 s6)])) (Ωl := (fun (s6 : Int) (x7 : Unit) => [])) (Γb := (fun (q11 : Unit) (y12 : Unit) => [])) (Ωb := (fun (q11 : Unit) (y12 : Unit) => [])) (kr := (fun a : Int => some a)) 0 () (weak [] ⟨rfl, rfl, rfl, rfl, trivial⟩ trivial) (fun s6 x7 => ?_) (fun q11 y12 => ?_)
  · unfold slices_Index_int_int_l1
    refine ref_seq ?_
    refine ref_region ?_
    refine s_rd (r_lss rfl rfl) rfl ?_
    refine l_nil ?_
    refine n_then ?_
    refine ref_seq ?_
    refine ref_cond rfl (fun hb8 => ?_) (fun hb8 => ?_)
    · refine ref_skip ?_
      refine n_then ?_
      refine ref_seq ?_
      refine ref_block ?_
      refine ref_seq ?_
      refine ref_region ?_
      refine s_rd (r_move rfl) rfl ?_
      refine s_rd (r_assign rfl) rfl ?_
      refine l_nil ?_
      refine n_then ?_
      refine ref_seq ?_
      refine ref_region ?_
      refine s_rd (r_move rfl) rfl ?_
      refine s_rd (r_move rfl) rfl ?_
      refine s_rd (r_move rfl) rfl ?_
      refine pull fun t9 h_t9 => ?_
      refine s_rd (r_index h_t9 Try.underlying22 el_3 rfl rfl) rfl ?_
      refine s_rd (r_load el_3 rfl) rfl ?_
      refine s_rd (r_eql rfl rfl) rfl ?_
      refine l_nil ?_
      refine n_then ?_
      refine ref_cond rfl (fun hb10 => ?_) (fun hb10 => ?_)
      · refine ref_seq ?_
        refine ref_region ?_
        refine s_rd (r_move rfl) rfl ?_
        refine s_rd (r_assign rfl) rfl ?_
        refine l_nil ?_
        refine n_then ?_
        refine ref_ret ?_
        refine r_block ?_
        refine r_then ?_
        refine retX ?_
        refine r_block ?_
        refine r_then ?_
        exact fin1 (.inl rfl) () [] rfl trivial rfl (rv_tmp rfl)
      · refine ref_skip ?_
        refine n_block ?_
        refine n_then ?_
        refine ref_region ?_
        refine s_rd (r_add rfl rfl) rfl ?_
        refine s_rd (r_move rfl) rfl ?_
        refine l_nil ?_
        exact goX () (weak [] ⟨rfl, rfl, rfl, rfl, trivial⟩ trivial)
    · refine ref_exit ?_
      refine x_then ?_
      exact brkX () (weak [] trivial trivial)
  · refine n_then ?_
    refine ref_seq ?_
    refine ref_region ?_
    refine s_rd (r_assign rfl) rfl ?_
    refine l_nil ?_
    refine n_then ?_
    refine ref_ret ?_
    exact fin1 (.inl rfl) () [] rfl trivial rfl (rv_tmp rfl)

/-! slices.Contains[[]int,int] -/
noncomputable def slices_Contains_int_int_m (s_0 : (List Int)) (v_1 : Int) : Option (Bool) :=
  Option.bind (slices_Index_int_int_m s_0 v_1) fun t1 =>
  letM (decide (t1 ≥ 0)) fun t2 =>
  some t2

theorem slices_Contains_int_int_ok {s_0 : (List Int)} {v_1 : Int} {r : Bool} (hm : slices_Contains_int_int_m s_0 v_1 = some r) :
    FnOk prog 37 [slv (rI .i64) s_0, iv .i64 v_1] [] (fun (x : Unit) => [bv r]) (fun (x : Unit) => []) := by
  refine fn_ok (X := Unit) (fn := Try.f37) (N := 9) (m := slices_Contains_int_int_m s_0 v_1) (res := fun r x => [bv r]) (Ω1 := fun r x => []) Try.func37 rfl rfl hm rfl (fun E hM => ?_)
  unfold slices_Contains_int_int_m
  refine ref_seq ?_
  refine ref_region ?_
  refine s_rd (r_assign rfl) rfl ?_
  refine l_nil ?_
  refine n_then ?_
  refine ref_seq ?_
  refine ref_region ?_
  refine s_rd (r_move rfl) rfl ?_
  refine s_rd (r_move rfl) rfl ?_
  refine pull fun t1 h_t1 => ?_
  refine s_st (s_call (ψ := fun (_ : Unit) => iv .i64 t1) (args := [.tmp 5, .tmp 6]) Try.call66 rfl (slices_Index_int_int_ok h_t1) ⟨arg rfl, arg rfl, trivial⟩ (fun _ _ _ _ h => h)) rfl (fun _ => ?_)
  refine s_rd (r_geq rfl rfl) rfl ?_
  refine s_rd (r_assign rfl) rfl ?_
  refine b_let (f := bv) (t := 4) rfl fun t2 => ?_
  refine l_nil ?_
  refine n_then ?_
  refine ref_ret ?_
  exact fin1 (.inl rfl) () [] rfl trivial rfl (rv_tmp rfl)

/-! deliberation/participant.Choose$1 -/
noncomputable def participant_Choose_1_m (m_0 : T_api_Move) (p_1 : T_api_Player) : Option (Bool) :=
  Option.bind (slices_Contains_int_int_m p_1.Pool m_0.Node) fun t2 =>
  bif !t2 then
    some true
  else
    Option.bind (slices_Contains_int_int_m p_1.Withheld m_0.Node) fun t3 =>
    some t3

theorem participant_Choose_1_ok {m_0 : T_api_Move} {p_1 : T_api_Player} {b_1 : Nat} {r : Bool} (hm : participant_Choose_1_m m_0 p_1 = some r) :
    FnOk prog 36 [ag [iv .i64 m_0.By, iv .i64 m_0.Kind, iv .i64 m_0.Node, iv .i64 m_0.Target], pv (ptr b_1 0)] [oc b_1 [slv (rI .i64) p_1.Pool, slv (rI .i64) p_1.Withheld, slv rT_api_Move p_1.Script, iv .i64 p_1.Style]] (fun (x : Unit) => [bv r]) (fun (x : Unit) => [oc b_1 [slv (rI .i64) p_1.Pool, slv (rI .i64) p_1.Withheld, slv rT_api_Move p_1.Script, iv .i64 p_1.Style]]) := by
  refine fn_ok (X := Unit) (fn := Try.f36) (N := 17) (m := participant_Choose_1_m m_0 p_1) (res := fun r x => [bv r]) (Ω1 := fun r x => [oc b_1 [slv (rI .i64) p_1.Pool, slv (rI .i64) p_1.Withheld, slv rT_api_Move p_1.Script, iv .i64 p_1.Style]]) Try.func36 rfl rfl hm rfl (fun E hM => ?_)
  unfold participant_Choose_1_m
  refine ref_seq ?_
  refine ref_region ?_
  refine s_st (s_box (part_ag (ψs := [iv .i64 m_0.By, iv .i64 m_0.Kind, iv .i64 m_0.Node, iv .i64 m_0.Target]) rfl (by intro φ h; simp only [List.mem_cons, List.not_mem_nil, or_false] at h; rcases h with rfl | rfl | rfl | rfl <;> first | exact iv_at | exact bv_at | exact sv_at | exact slv_at | exact pv_at rfl))) rfl (fun b1 => ?_)
  refine s_rd (r_assign rfl) rfl ?_
  refine l_nil ?_
  refine n_then ?_
  refine ref_seq ?_
  refine ref_region ?_
  refine s_rd (r_faddr (fo := 0) Try.underlying25 rfl rfl Try.sizeOf22 rfl) rfl ?_
  refine s_rd (r_cload Try.isAgg22 rfl (j := 0) rfl rfl) rfl ?_
  refine s_rd (r_faddr (fo := 2) Try.underlying40 rfl rfl Try.sizeOf3 rfl) rfl ?_
  refine s_rd (r_cload Try.isAgg3 rfl (j := 1) rfl rfl) rfl ?_
  refine pull fun t2 h_t2 => ?_
  refine s_st (s_call (ψ := fun (_ : Unit) => bv t2) (args := [.tmp 5, .tmp 7]) Try.call37 rfl (slices_Contains_int_int_ok h_t2) ⟨arg rfl, arg rfl, trivial⟩ (fun _ _ _ _ h => h)) rfl (fun _ => ?_)
  refine s_rd (r_not rfl) rfl ?_
  refine s_rd (r_move rfl) rfl ?_
  refine b_split (t := 10) rfl (fun _ => ?_) (fun _ => ?_)
  · refine s_off rfl rfl rfl rfl rfl ?_
    refine s_off rfl rfl rfl rfl rfl ?_
    refine s_off rfl rfl rfl rfl rfl ?_
    refine s_off rfl rfl rfl rfl rfl ?_
    refine s_off rfl rfl rfl rfl rfl ?_
    refine s_rd (r_pickT rfl rfl) rfl ?_
    refine s_rd (r_assign rfl) rfl ?_
    refine l_nil ?_
    refine n_then ?_
    refine ref_ret ?_
    exact fin1 (.inl rfl) () [0] rfl ⟨rfl, trivial⟩ rfl (rv_tmp rfl)
  · refine s_on rfl rfl rfl ?_
    refine s_rd (r_faddr (fo := 1) Try.underlying25 rfl rfl Try.sizeOf22 rfl) rfl ?_
    refine s_on rfl rfl rfl ?_
    refine s_rd (r_cload Try.isAgg22 rfl (j := 0) rfl rfl) rfl ?_
    refine s_on rfl rfl rfl ?_
    refine s_rd (r_faddr (fo := 2) Try.underlying40 rfl rfl Try.sizeOf3 rfl) rfl ?_
    refine s_on rfl rfl rfl ?_
    refine s_rd (r_cload Try.isAgg3 rfl (j := 1) rfl rfl) rfl ?_
    refine s_on rfl rfl rfl ?_
    refine pull fun t3 h_t3 => ?_
    refine s_st (s_call (ψ := fun (_ : Unit) => bv t3) (args := [.tmp 12, .tmp 14]) Try.call37 rfl (slices_Contains_int_int_ok h_t3) ⟨arg rfl, arg rfl, trivial⟩ (fun _ _ _ _ h => h)) rfl (fun _ => ?_)
    refine s_rd (r_pickF rfl rfl) rfl ?_
    refine s_rd (r_assign rfl) rfl ?_
    refine l_nil ?_
    refine n_then ?_
    refine ref_ret ?_
    exact fin1 (.inl rfl) () [0] rfl ⟨rfl, trivial⟩ rfl (rv_tmp rfl)

/-! slices.IndexFunc[[]deliberation/api.Move,deliberation/api.Move] -/
noncomputable def slices_IndexFunc_api_Move_api_Move_l1 (s_0 : (List T_api_Move)) (e_1 : T_api_Player) (s7 : Int) : Option (Sum ((Sum (Int) (Unit))) (Int)) :=
  bif decide (s7 < (s_0.length : Int)) then
    Option.bind (idxM s_0 s7) fun t10 =>
    Option.bind (participant_Choose_1_m t10 e_1) fun t11 =>
    bif t11 then
      some (Sum.inl (Sum.inl s7))
    else
      some (Sum.inr (iadd .i64 s7 1))
  else
    some (Sum.inl (Sum.inr ()))

noncomputable def slices_IndexFunc_api_Move_api_Move_m (s_0 : (List T_api_Move)) (e_1 : T_api_Player) : Option (Int) :=
  Option.bind (loopC (slices_IndexFunc_api_Move_api_Move_l1 s_0 e_1) 0) (sumK (fun a : Int => some a) fun q13 : Unit =>
    some (-1))

theorem slices_IndexFunc_api_Move_api_Move_ok {s_0 : (List T_api_Move)} {e_1 : T_api_Player} {h_0 : Value × List Nat} {be_1 : Nat} {r : Int} (hm : slices_IndexFunc_api_Move_api_Move_m s_0 e_1 = some r) :
    FnOk prog 64 [pv h_0.1, pv (.func (.func 36) #[] #[(ptr be_1 0)])] [oa rT_api_Move h_0.1 h_0.2 s_0, oc be_1 [slv (rI .i64) e_1.Pool, slv (rI .i64) e_1.Withheld, slv rT_api_Move e_1.Script, iv .i64 e_1.Style]] (fun (x : Unit) => [iv .i64 r]) (fun (x : Unit) => [oa rT_api_Move h_0.1 h_0.2 s_0, oc be_1 [slv (rI .i64) e_1.Pool, slv (rI .i64) e_1.Withheld, slv rT_api_Move e_1.Script, iv .i64 e_1.Style]]) := by
  refine fn_ok (X := Unit) (fn := Try.f64) (N := 19) (m := slices_IndexFunc_api_Move_api_Move_m s_0 e_1) (res := fun r x => [iv .i64 r]) (Ω1 := fun r x => [oa rT_api_Move h_0.1 h_0.2 s_0, oc be_1 [slv (rI .i64) e_1.Pool, slv (rI .i64) e_1.Withheld, slv rT_api_Move e_1.Script, iv .i64 e_1.Style]]) Try.func64 rfl rfl hm rfl (fun E hM => ?_)
  unfold slices_IndexFunc_api_Move_api_Move_m
  refine ref_seq ?_
  refine ref_region ?_
  refine s_rd (r_assign rfl) rfl ?_
  refine l_nil ?_
  refine n_then ?_
  refine ref_seq ?_
  refine ref_seq ?_
  refine ref_region ?_
  refine s_rd (r_move rfl) rfl ?_
  refine s_rd (r_olen Try.underlying23 rfl (j := 0) rfl) rfl ?_
  refine s_rd (r_move rfl) rfl ?_
  refine l_nil ?_
  refine n_then ?_
  refine ref_loopX (f := (slices_IndexFunc_api_Move_api_Move_l1 s_0 e_1)) (Γl := (fun (s7 : Int) (x8 : Unit) => [(0, pv h_0.1), (1, pv (.func (.func 36) #[] #[(ptr be_1 0)])), (7, iv .i64 (s_0.length : Int)), (8, iv .i64 s7)])) (Ωl := (fun (s7 : Int) (x8 : Unit) => [oa rT_api_Move h_0.1 h_0.2 s_0, oc be_1 [slv (rI .i64) e_1.Pool, slv (rI .i64) e_1.Withheld, slv rT_api_Move e_1.Script, iv .i64 e_1.Style]])) (Γb := (fun (q13 : Unit) (y14 : Unit) => [(0, pv h_0.1), (1, pv (.func (.func 36) #[] #[(ptr be_1 0)]))])) (Ωb := (fun (q13 : Unit) (y14 : Unit) => [oa rT_api_Move h_0.1 h_0.2 s_0, oc be_1 [slv (rI .i64) e_1.Pool, slv (rI .i64) e_1.Withheld, slv rT_api_Move e_1.Script, iv .i64 e_1.Style]])) (kr := (fun a : Int => some a)) 0 () (weak [0, 1] ⟨rfl, rfl, rfl, rfl, trivial⟩ ⟨rfl, rfl, trivial⟩) (fun s7 x8 => ?_) (fun q13 y14 => ?_)
  · unfold slices_IndexFunc_api_Move_api_Move_l1
    refine ref_seq ?_
    refine ref_region ?_
    refine s_rd (r_lss rfl rfl) rfl ?_
    refine l_nil ?_
    refine n_then ?_
    refine ref_seq ?_
    refine ref_cond rfl (fun hb9 => ?_) (fun hb9 => ?_)
    · refine ref_skip ?_
      refine n_then ?_
      refine ref_seq ?_
      refine ref_block ?_
      refine ref_seq ?_
      refine ref_region ?_
      refine s_rd (r_move rfl) rfl ?_
      refine s_rd (r_assign rfl) rfl ?_
      refine l_nil ?_
      refine n_then ?_
      refine ref_seq ?_
      refine ref_region ?_
      refine s_rd (r_move rfl) rfl ?_
      refine s_rd (r_move rfl) rfl ?_
      refine s_rd (r_move rfl) rfl ?_
      refine pull fun t10 h_t10 => ?_
      refine s_rd (r_oindex h_t10 Try.underlying23 el_40 rfl (j := 0) rfl rfl) rfl ?_
      refine s_rd (r_oload h_t10 el_40 rfl (j := 0) rfl) rfl ?_
      refine pull fun t11 h_t11 => ?_
      refine s_st (s_callC [1] [true] (fun (_ : Unit) => [oc be_1 [slv (rI .i64) e_1.Pool, slv (rI .i64) e_1.Withheld, slv rT_api_Move e_1.Script, iv .i64 e_1.Style]]) (fun (_ : Unit) => []) (fun (_ : Unit) => bv t11) (args := [.tmp 15]) (caps := [(ptr be_1 0)]) Try.call36 rfl (participant_Choose_1_ok h_t11) ⟨rfl, rfl, trivial⟩ (fun _ => rfl) (fun _ => trivial) (fun _ => rfl) ⟨arg rfl, arg rfl, trivial⟩ (fun _ _ _ _ h => h)) rfl (fun _ => ?_)
      refine l_nil ?_
      refine n_then ?_
      refine ref_cond rfl (fun hb12 => ?_) (fun hb12 => ?_)
      · refine ref_seq ?_
        refine ref_region ?_
        refine s_rd (r_move rfl) rfl ?_
        refine s_rd (r_assign rfl) rfl ?_
        refine l_nil ?_
        refine n_then ?_
        refine ref_ret ?_
        refine r_block ?_
        refine r_then ?_
        refine retX ?_
        refine r_block ?_
        refine r_then ?_
        exact fin1 (.inl rfl) () [0, 1] rfl ⟨rfl, rfl, trivial⟩ rfl (rv_tmp rfl)
      · refine ref_skip ?_
        refine n_block ?_
        refine n_then ?_
        refine ref_region ?_
        refine s_rd (r_add rfl rfl) rfl ?_
        refine s_rd (r_move rfl) rfl ?_
        refine l_nil ?_
        exact goX () (weak [0, 1] ⟨rfl, rfl, rfl, rfl, trivial⟩ ⟨rfl, rfl, trivial⟩)
    · refine ref_exit ?_
      refine x_then ?_
      exact brkX () (weak [0, 1] ⟨rfl, rfl, trivial⟩ ⟨rfl, rfl, trivial⟩)
  · refine n_then ?_
    refine ref_seq ?_
    refine ref_region ?_
    refine s_rd (r_assign rfl) rfl ?_
    refine l_nil ?_
    refine n_then ?_
    refine ref_ret ?_
    exact fin1 (.inl rfl) () [0, 1] rfl ⟨rfl, rfl, trivial⟩ rfl (rv_tmp rfl)

/-! slices.DeleteFunc[[]deliberation/api.Move,deliberation/api.Move] -/
noncomputable def slices_DeleteFunc_api_Move_api_Move_l1 (e_1 : T_api_Player) (s24 : Int × Int × (List T_api_Move)) : Option (Sum ((List T_api_Move) × Int) (Int × Int × (List T_api_Move))) :=
  bif decide (s24.2.1 < (s24.2.2.length : Int)) then
    Option.bind (idxM s24.2.2 s24.2.1) fun t27 =>
    Option.bind (participant_Choose_1_m t27 e_1) fun t29 =>
    bif !t29 then
      Option.bind (idxM s24.2.2 s24.1) fun t31 =>
      letM (iadd .i64 s24.1 1) fun i32x =>
      letM (iadd .i64 s24.2.1 1) fun j33 =>
      some (Sum.inr (i32x, j33, s24.2.2.set (Int.toNat s24.1) t27))
    else
      letM (iadd .i64 s24.2.1 1) fun j34 =>
      some (Sum.inr (s24.1, j34, s24.2.2))
  else
    some (Sum.inl (s24.2.2, s24.1))

noncomputable def slices_DeleteFunc_api_Move_api_Move_m (s_0 : (List T_api_Move)) (e_1 : T_api_Player) : Option (List T_api_Move) :=
  Option.bind (slices_IndexFunc_api_Move_api_Move_m s_0 e_1) fun i1 =>
  bif i1 == (-1) then
    some s_0
  else
    Option.bind (loopC (slices_DeleteFunc_api_Move_api_Move_l1 e_1) (i1, iadd .i64 i1 1, s_0)) fun q35 : (List T_api_Move) × Int =>
    Option.bind (slM q35.1 q35.2 (q35.1.length : Int)) fun t37 =>
    Option.bind (slM (q35.1.take (Int.toNat q35.2) ++ List.replicate (Int.toNat (q35.1.length : Int) - Int.toNat q35.2) (T_api_Move.mk 0 0 0 0) ++ q35.1.drop (Int.toNat (q35.1.length : Int))) 0 q35.2) fun t38 =>
    some t38

theorem slices_DeleteFunc_api_Move_api_Move_ok {s_0 : (List T_api_Move)} {e_1 : T_api_Player} {h_0 : Value × List Nat} {be_1 : Nat} {r : List T_api_Move} (hm : slices_DeleteFunc_api_Move_api_Move_m s_0 e_1 = some r) :
    FnOk prog 34 [pv h_0.1, pv (.func (.func 36) #[] #[(ptr be_1 0)])] [oa rT_api_Move h_0.1 h_0.2 s_0, oc be_1 [slv (rI .i64) e_1.Pool, slv (rI .i64) e_1.Withheld, slv rT_api_Move e_1.Script, iv .i64 e_1.Style]] (fun (x : Unit) => [slv rT_api_Move r]) (fun (x : Unit) => [oc be_1 [slv (rI .i64) e_1.Pool, slv (rI .i64) e_1.Withheld, slv rT_api_Move e_1.Script, iv .i64 e_1.Style]]) := by
  refine fn_ok (X := Unit) (fn := Try.f34) (N := 42) (m := slices_DeleteFunc_api_Move_api_Move_m s_0 e_1) (res := fun r x => [slv rT_api_Move r]) (Ω1 := fun r x => [oc be_1 [slv (rI .i64) e_1.Pool, slv (rI .i64) e_1.Withheld, slv rT_api_Move e_1.Script, iv .i64 e_1.Style]]) Try.func34 rfl rfl hm rfl (fun E hM => ?_)
  unfold slices_DeleteFunc_api_Move_api_Move_m
  refine ref_seq ?_
  refine ref_region ?_
  refine s_rd (r_assign rfl) rfl ?_
  refine l_nil ?_
  refine n_then ?_
  refine ref_seq ?_
  refine ref_region ?_
  refine s_rd (r_move rfl) rfl ?_
  refine s_rd (r_move rfl) rfl ?_
  refine pull fun i1 h_i1 => ?_
  refine s_st (s_callC [0, 1] [true, true] (fun (_ : Unit) => [oa rT_api_Move h_0.1 h_0.2 s_0, oc be_1 [slv (rI .i64) e_1.Pool, slv (rI .i64) e_1.Withheld, slv rT_api_Move e_1.Script, iv .i64 e_1.Style]]) (fun (_ : Unit) => []) (fun (_ : Unit) => iv .i64 i1) (args := [.tmp 8, .tmp 9]) (caps := []) Try.call64 rfl (slices_IndexFunc_api_Move_api_Move_ok h_i1) ⟨rfl, rfl, ⟨rfl, rfl, trivial⟩⟩ (fun _ => rfl) (fun _ => trivial) (fun _ => rfl) ⟨arg rfl, arg rfl, trivial⟩ (fun _ _ _ _ h => h)) rfl (fun _ => ?_)
  refine s_rd (r_assign rfl) rfl ?_
  refine l_nil ?_
  refine n_then ?_
  refine ref_seq ?_
  refine ref_seq ?_
  refine ref_region ?_
  refine s_rd (r_move rfl) rfl ?_
  refine s_rd (r_eql rfl rfl) rfl ?_
  refine l_nil ?_
  refine n_then ?_
  refine ref_cond rfl (fun hb2 => ?_) (fun hb2 => ?_)
  · refine ref_seq ?_
    refine ref_region ?_
    refine s_rd (r_move rfl) rfl ?_
    refine s_rd (r_assign rfl) rfl ?_
    refine l_nil ?_
    refine n_then ?_
    refine ref_ret ?_
    refine r_then ?_
    refine b_of (frzL [0, 4, 8, 13] (j := 0) rfl ⟨rfl, rfl, rfl, rfl, trivial⟩) ?_
    exact fin1 (.inl rfl) () [1] rfl ⟨rfl, trivial⟩ rfl (rv_tmp rfl)
  · refine ref_skip ?_
    refine n_then ?_
    refine ref_seq ?_
    refine ref_seq ?_
    refine ref_region ?_
    refine s_rd (r_move rfl) rfl ?_
    refine s_rd (r_add rfl rfl) rfl ?_
    refine s_rd (r_assign rfl) rfl ?_
    refine l_nil ?_
    refine n_then ?_
    refine ref_loopB (f := (slices_DeleteFunc_api_Move_api_Move_l1 e_1)) (Γl := (fun (s24 : Int × Int × (List T_api_Move)) (x25 : Unit) => [(0, pv h_0.1), (1, pv (.func (.func 36) #[] #[(ptr be_1 0)])), (5, iv .i64 s24.1), (6, iv .i64 s24.2.1)])) (Ωl := (fun (s24 : Int × Int × (List T_api_Move)) (x25 : Unit) => [oa rT_api_Move h_0.1 h_0.2 s24.2.2, oc be_1 [slv (rI .i64) e_1.Pool, slv (rI .i64) e_1.Withheld, slv rT_api_Move e_1.Script, iv .i64 e_1.Style]])) (Γb := (fun (q35 : (List T_api_Move) × Int) (y36 : Unit) => [(0, pv h_0.1), (1, pv (.func (.func 36) #[] #[(ptr be_1 0)])), (5, iv .i64 q35.2)])) (Ωb := (fun (q35 : (List T_api_Move) × Int) (y36 : Unit) => [oa rT_api_Move h_0.1 h_0.2 q35.1, oc be_1 [slv (rI .i64) e_1.Pool, slv (rI .i64) e_1.Withheld, slv rT_api_Move e_1.Script, iv .i64 e_1.Style]])) (i1, iadd .i64 i1 1, s_0) () (weak [0, 1] ⟨rfl, rfl, rfl, rfl, trivial⟩ ⟨rfl, rfl, trivial⟩) (fun s24 x25 => ?_) (fun q35 y36 => ?_)
    · unfold slices_DeleteFunc_api_Move_api_Move_l1
      refine ref_seq ?_
      refine ref_seq ?_
      refine ref_region ?_
      refine s_rd (r_move rfl) rfl ?_
      refine s_rd (r_move rfl) rfl ?_
      refine s_rd (r_olen Try.underlying23 rfl (j := 0) rfl) rfl ?_
      refine s_rd (r_lss rfl rfl) rfl ?_
      refine l_nil ?_
      refine n_then ?_
      refine ref_cond rfl (fun hb26 => ?_) (fun hb26 => ?_)
      · refine ref_skip ?_
        refine n_then ?_
        refine ref_seq ?_
        refine ref_block ?_
        refine ref_seq ?_
        refine ref_region ?_
        refine s_rd (r_move rfl) rfl ?_
        refine s_rd (r_move rfl) rfl ?_
        refine pull fun t27 h_t27 => ?_
        refine s_rd (r_oindex h_t27 Try.underlying23 el_40 rfl (j := 0) rfl rfl) rfl ?_
        refine s_rd (r_oload h_t27 el_40 rfl (j := 0) rfl) rfl ?_
        refine s_st (s_alloc zt_40) rfl (fun b28 => ?_)
        refine s_st0 (s_cstore (out := [iv .i64 t27.By, iv .i64 t27.Kind, iv .i64 t27.Node, iv .i64 t27.Target]) Try.sizeOf40 rfl (j := 2) rfl (part_ag (ψs := [iv .i64 t27.By, iv .i64 t27.Kind, iv .i64 t27.Node, iv .i64 t27.Target]) rfl (by intro φ h; simp only [List.mem_cons, List.not_mem_nil, or_false] at h; rcases h with rfl | rfl | rfl | rfl <;> first | exact iv_at | exact bv_at | exact sv_at | exact slv_at | exact pv_at rfl)) rfl rfl rfl) (fun _ => ?_)
        refine l_nil ?_
        refine n_then ?_
        refine ref_seq ?_
        refine ref_region ?_
        refine s_rd (r_move rfl) rfl ?_
        refine s_rd (r_cloadS Try.isAgg40 Try.sizeOf40 rfl (j := 2) rfl rfl rfl) rfl ?_
        refine pull fun t29 h_t29 => ?_
        refine s_st (s_callC [1] [true] (fun (_ : Unit) => [oc be_1 [slv (rI .i64) e_1.Pool, slv (rI .i64) e_1.Withheld, slv rT_api_Move e_1.Script, iv .i64 e_1.Style]]) (fun (_ : Unit) => []) (fun (_ : Unit) => bv t29) (args := [.tmp 27]) (caps := [(ptr be_1 0)]) Try.call36 rfl (participant_Choose_1_ok h_t29) ⟨rfl, rfl, trivial⟩ (fun _ => rfl) (fun _ => trivial) (fun _ => rfl) ⟨arg rfl, arg rfl, trivial⟩ (fun _ _ _ _ h => h)) rfl (fun _ => ?_)
        refine s_rd (r_not rfl) rfl ?_
        refine l_nil ?_
        refine b_of (nrm [oa rT_api_Move h_0.1 h_0.2 s24.2.2, oc be_1 [slv (rI .i64) e_1.Pool, slv (rI .i64) e_1.Withheld, slv rT_api_Move e_1.Script, iv .i64 e_1.Style], oc b28 [iv .i64 t27.By, iv .i64 t27.Kind, iv .i64 t27.Node, iv .i64 t27.Target]] rfl) ?_
        refine n_then ?_
        refine ref_cond rfl (fun hb30 => ?_) (fun hb30 => ?_)
        · refine ref_seq ?_
          refine ref_region ?_
          refine s_rd (r_move rfl) rfl ?_
          refine s_rd (r_move rfl) rfl ?_
          refine s_rd (r_cloadS Try.isAgg40 Try.sizeOf40 rfl (j := 2) rfl rfl rfl) rfl ?_
          refine pull fun t31 h_t31 => ?_
          refine s_rd (r_oindex h_t31 Try.underlying23 el_40 rfl (j := 0) rfl rfl) rfl ?_
          refine s_st0 (s_ostore (u := t27) h_t31 el_40 rfl (j := 0) rfl (part_ag (ψs := [iv .i64 t27.By, iv .i64 t27.Kind, iv .i64 t27.Node, iv .i64 t27.Target]) rfl (by intro φ h; simp only [List.mem_cons, List.not_mem_nil, or_false] at h; rcases h with rfl | rfl | rfl | rfl <;> first | exact iv_at | exact bv_at | exact sv_at | exact slv_at | exact pv_at rfl))) (fun _ => ?_)
          refine l_nil ?_
          refine n_then ?_
          refine ref_region ?_
          refine s_rd (r_move rfl) rfl ?_
          refine s_rd (r_add rfl rfl) rfl ?_
          refine s_rd (r_assign rfl) rfl ?_
          refine b_let (f := iv .i64) (t := 5) rfl fun i32x => ?_
          refine l_nil ?_
          refine n_block ?_
          refine n_then ?_
          refine ref_region ?_
          refine s_rd (r_move rfl) rfl ?_
          refine s_rd (r_add rfl rfl) rfl ?_
          refine s_rd (r_assign rfl) rfl ?_
          refine b_let (f := iv .i64) (t := 6) rfl fun j33 => ?_
          refine l_nil ?_
          exact goB () (weak [0, 1] ⟨rfl, rfl, rfl, rfl, trivial⟩ ⟨rfl, rfl, trivial⟩)
        · refine ref_skip ?_
          refine n_block ?_
          refine n_then ?_
          refine ref_region ?_
          refine s_rd (r_move rfl) rfl ?_
          refine s_rd (r_add rfl rfl) rfl ?_
          refine s_rd (r_assign rfl) rfl ?_
          refine b_let (f := iv .i64) (t := 6) rfl fun j34 => ?_
          refine l_nil ?_
          exact goB () (weak [0, 1] ⟨rfl, rfl, rfl, rfl, trivial⟩ ⟨rfl, rfl, trivial⟩)
      · refine ref_exit ?_
        refine x_then ?_
        exact brkB () (weak [0, 1] ⟨rfl, rfl, rfl, trivial⟩ ⟨rfl, rfl, trivial⟩)
    · refine n_then ?_
      refine ref_seq ?_
      refine ref_region ?_
      refine s_rd (r_move rfl) rfl ?_
      refine s_rd (r_move rfl) rfl ?_
      refine pull fun t37 h_t37 => ?_
      refine s_rd (r_osub h_t37 Try.underlying23 el_40 rfl (j := 0) rfl (.of rfl) .dft) rfl ?_
      refine s_st0 (s_clear h_t37 Try.underlying23 el_40 ze_40 rfl (j := 0) rfl) (fun _ => ?_)
      refine l_nil ?_
      refine n_then ?_
      refine ref_seq ?_
      refine ref_region ?_
      refine s_rd (r_move rfl) rfl ?_
      refine s_rd (r_move rfl) rfl ?_
      refine b_of (frzL [0, 36, 39] (j := 0) rfl ⟨rfl, rfl, rfl, trivial⟩) ?_
      refine pull fun t38 h_t38 => ?_
      refine s_rd (r_slice h_t38 Try.underlying23 el_40 rfl .dft (.of rfl)) rfl ?_
      refine s_rd (r_assign rfl) rfl ?_
      refine l_nil ?_
      refine n_then ?_
      refine ref_ret ?_
      exact fin1 (.inl rfl) () [1] rfl ⟨rfl, trivial⟩ rfl (rv_tmp rfl)

/-! slices.MinFunc[[]deliberation/api.Move,deliberation/api.Move] -/
noncomputable def slices_MinFunc_api_Move_api_Move_l1 (x_0 : (List T_api_Move)) (s21 : Int × T_api_Move) : Option (Sum (T_api_Move) (Int × T_api_Move)) :=
  bif decide (s21.1 < (x_0.length : Int)) then
    Option.bind (idxM x_0 s21.1) fun t24 =>
    Option.bind (participant_style_2_m t24 s21.2) fun t25 =>
    bif decide (t25 < 0) then
      Option.bind (idxM x_0 s21.1) fun t27 =>
      letM (iadd .i64 s21.1 1) fun i28 =>
      some (Sum.inr (i28, t27))
    else
      letM (iadd .i64 s21.1 1) fun i29 =>
      some (Sum.inr (i29, s21.2))
  else
    some (Sum.inl s21.2)

noncomputable def slices_MinFunc_api_Move_api_Move_m (x_0 : (List T_api_Move)) : Option (T_api_Move) :=
  bif decide ((x_0.length : Int) < 1) then
    none
  else
    Option.bind (idxM x_0 0) fun t3 =>
    Option.bind (loopC (slices_MinFunc_api_Move_api_Move_l1 x_0) (1, t3)) fun q30 : T_api_Move =>
    some q30

theorem slices_MinFunc_api_Move_api_Move_ok {x_0 : (List T_api_Move)} {r : T_api_Move} (hm : slices_MinFunc_api_Move_api_Move_m x_0 = some r) :
    FnOk prog 39 [slv rT_api_Move x_0, pv (.func (.func 69) #[] #[])] [] (fun (x : Unit) => [ag [iv .i64 r.By, iv .i64 r.Kind, iv .i64 r.Node, iv .i64 r.Target]]) (fun (x : Unit) => []) := by
  refine fn_ok (X := Unit) (fn := Try.f39) (N := 33) (m := slices_MinFunc_api_Move_api_Move_m x_0) (res := fun r x => [ag [iv .i64 r.By, iv .i64 r.Kind, iv .i64 r.Node, iv .i64 r.Target]]) (Ω1 := fun r x => []) Try.func39 rfl rfl hm rfl (fun E hM => ?_)
  unfold slices_MinFunc_api_Move_api_Move_m
  refine ref_seq ?_
  refine ref_region ?_
  refine s_st (s_alloc zt_40) rfl (fun b1 => ?_)
  refine l_nil ?_
  refine n_then ?_
  refine ref_seq ?_
  refine ref_seq ?_
  refine ref_region ?_
  refine s_rd (r_move rfl) rfl ?_
  refine s_rd (r_len Try.underlying23 rfl) rfl ?_
  refine s_rd (r_lss rfl rfl) rfl ?_
  refine l_nil ?_
  refine n_then ?_
  refine ref_cond rfl (fun hb2 => ?_) (fun hb2 => ?_)
  · refine ref_region ?_
    exact pnone
  · refine ref_skip ?_
    refine n_then ?_
    refine ref_seq ?_
    refine ref_region ?_
    refine s_rd (r_move rfl) rfl ?_
    refine pull fun t3 h_t3 => ?_
    refine s_rd (r_index h_t3 Try.underlying23 el_40 rfl rfl) rfl ?_
    refine s_rd (r_load el_40 rfl) rfl ?_
    refine s_st (s_alloc zt_40) rfl (fun b4 => ?_)
    refine s_st0 (s_cstore (out := [iv .i64 t3.By, iv .i64 t3.Kind, iv .i64 t3.Node, iv .i64 t3.Target]) Try.sizeOf40 rfl (j := 1) rfl (part_ag (ψs := [iv .i64 t3.By, iv .i64 t3.Kind, iv .i64 t3.Node, iv .i64 t3.Target]) rfl (by intro φ h; simp only [List.mem_cons, List.not_mem_nil, or_false] at h; rcases h with rfl | rfl | rfl | rfl <;> first | exact iv_at | exact bv_at | exact sv_at | exact slv_at | exact pv_at rfl)) rfl rfl rfl) (fun _ => ?_)
    refine l_nil ?_
    refine n_then ?_
    refine ref_seq ?_
    refine ref_seq ?_
    refine ref_region ?_
    refine s_rd (r_assign rfl) rfl ?_
    refine l_nil ?_
    refine n_then ?_
    refine ref_loopB (f := (slices_MinFunc_api_Move_api_Move_l1 x_0)) (Γl := (fun (s21 : Int × T_api_Move) (x22 : Unit) => [(0, slv rT_api_Move x_0), (1, pv (.func (.func 69) #[] #[])), (4, pv (ptr b1 0)), (5, pv (ptr b4 0)), (6, iv .i64 s21.1)])) (Ωl := (fun (s21 : Int × T_api_Move) (x22 : Unit) => [oc b1 [iv .i64 0, iv .i64 0, iv .i64 0, iv .i64 0], oc b4 [iv .i64 s21.2.By, iv .i64 s21.2.Kind, iv .i64 s21.2.Node, iv .i64 s21.2.Target]])) (Γb := (fun (q30 : T_api_Move) (y31 : Unit) => [(1, pv (.func (.func 69) #[] #[])), (4, pv (ptr b1 0)), (5, pv (ptr b4 0))])) (Ωb := (fun (q30 : T_api_Move) (y31 : Unit) => [oc b1 [iv .i64 0, iv .i64 0, iv .i64 0, iv .i64 0], oc b4 [iv .i64 q30.By, iv .i64 q30.Kind, iv .i64 q30.Node, iv .i64 q30.Target]])) (1, t3) () (weak [0, 1] ⟨rfl, rfl, rfl, rfl, rfl, trivial⟩ ⟨rfl, rfl, trivial⟩) (fun s21 x22 => ?_) (fun q30 y31 => ?_)
    · unfold slices_MinFunc_api_Move_api_Move_l1
      refine ref_seq ?_
      refine ref_seq ?_
      refine ref_region ?_
      refine s_rd (r_move rfl) rfl ?_
      refine s_rd (r_move rfl) rfl ?_
      refine s_rd (r_len Try.underlying23 rfl) rfl ?_
      refine s_rd (r_lss rfl rfl) rfl ?_
      refine l_nil ?_
      refine n_then ?_
      refine ref_cond rfl (fun hb23 => ?_) (fun hb23 => ?_)
      · refine ref_skip ?_
        refine n_then ?_
        refine ref_seq ?_
        refine ref_block ?_
        refine ref_seq ?_
        refine ref_draw [0, 1, 2, 3, 4, 5, 7] rfl (by kernel_rfl) (fun hok => ?_)
        refine a_rd (i := 0) hok rfl (by kernel_rfl) rfl (r_move rfl) rfl ?_
        refine a_rd (i := 1) hok rfl (by kernel_rfl) rfl (r_move rfl) rfl ?_
        refine a_rd (i := 2) hok rfl (by kernel_rfl) rfl (r_move rfl) rfl ?_
        refine pull fun t24 h_t24 => ?_
        refine a_rd (i := 3) hok rfl (by kernel_rfl) rfl (r_index h_t24 Try.underlying23 el_40 rfl rfl) rfl ?_
        refine a_rd (i := 4) hok rfl (by kernel_rfl) rfl (r_load el_40 rfl) rfl ?_
        refine a_rd (i := 5) hok rfl (by kernel_rfl) rfl (r_cloadS Try.isAgg40 Try.sizeOf40 rfl (j := 1) rfl rfl rfl) rfl ?_
        refine pull fun t25 h_t25 => ?_
        refine a_next hok 6 [] (by kernel_rfl) ?_ trivial
        refine a_st (i := 6) hok rfl rfl (s_call (ψ := fun (_ : Unit) => iv .i64 t25) (args := [.tmp 24, .tmp 25]) Try.call69 rfl (participant_style_2_ok h_t25) ⟨arg rfl, arg rfl, trivial⟩ (fun _ _ _ _ h => h)) (by intro _ h; cases h; rfl) (fun _ => ⟨trivial, ⟨trivial, ⟨trivial, ⟨trivial, ⟨trivial, ⟨trivial, trivial⟩⟩⟩⟩⟩⟩) (fun _ => ?_)
        refine a_rd (i := 7) hok rfl (by kernel_rfl) rfl (r_lss rfl rfl) rfl ?_
        refine a_fin hok (by kernel_rfl) ?_
        refine b_of (nrm [oc b1 [iv .i64 0, iv .i64 0, iv .i64 0, iv .i64 0], oc b4 [iv .i64 s21.2.By, iv .i64 s21.2.Kind, iv .i64 s21.2.Node, iv .i64 s21.2.Target]] rfl) ?_
        refine n_then ?_
        refine ref_cond rfl (fun hb26 => ?_) (fun hb26 => ?_)
        · refine ref_region ?_
          refine s_rd (r_move rfl) rfl ?_
          refine s_rd (r_move rfl) rfl ?_
          refine pull fun t27 h_t27 => ?_
          refine s_rd (r_index h_t27 Try.underlying23 el_40 rfl rfl) rfl ?_
          refine s_rd (r_load el_40 rfl) rfl ?_
          refine s_st0 (s_cstore (out := [iv .i64 t27.By, iv .i64 t27.Kind, iv .i64 t27.Node, iv .i64 t27.Target]) Try.sizeOf40 rfl (j := 1) rfl (part_ag (ψs := [iv .i64 t27.By, iv .i64 t27.Kind, iv .i64 t27.Node, iv .i64 t27.Target]) rfl (by intro φ h; simp only [List.mem_cons, List.not_mem_nil, or_false] at h; rcases h with rfl | rfl | rfl | rfl <;> first | exact iv_at | exact bv_at | exact sv_at | exact slv_at | exact pv_at rfl)) rfl rfl rfl) (fun _ => ?_)
          refine l_nil ?_
          refine n_block ?_
          refine n_then ?_
          refine ref_region ?_
          refine s_rd (r_move rfl) rfl ?_
          refine s_rd (r_add rfl rfl) rfl ?_
          refine s_rd (r_assign rfl) rfl ?_
          refine b_let (f := iv .i64) (t := 6) rfl fun i28 => ?_
          refine l_nil ?_
          exact goB () (weak [0, 1] ⟨rfl, rfl, rfl, rfl, rfl, trivial⟩ ⟨rfl, rfl, trivial⟩)
        · refine ref_skip ?_
          refine n_block ?_
          refine n_then ?_
          refine ref_region ?_
          refine s_rd (r_move rfl) rfl ?_
          refine s_rd (r_add rfl rfl) rfl ?_
          refine s_rd (r_assign rfl) rfl ?_
          refine b_let (f := iv .i64) (t := 6) rfl fun i29 => ?_
          refine l_nil ?_
          exact goB () (weak [0, 1] ⟨rfl, rfl, rfl, rfl, rfl, trivial⟩ ⟨rfl, rfl, trivial⟩)
      · refine ref_exit ?_
        refine x_then ?_
        exact brkB () (weak [0, 1] ⟨rfl, rfl, rfl, trivial⟩ ⟨rfl, rfl, trivial⟩)
    · refine n_then ?_
      refine ref_seq ?_
      refine ref_region ?_
      refine s_rd (r_cloadS Try.isAgg40 Try.sizeOf40 rfl (j := 1) rfl rfl rfl) rfl ?_
      refine s_st0 (s_cstore (out := [iv .i64 q30.By, iv .i64 q30.Kind, iv .i64 q30.Node, iv .i64 q30.Target]) Try.sizeOf40 rfl (j := 0) rfl (part_ag (ψs := [iv .i64 q30.By, iv .i64 q30.Kind, iv .i64 q30.Node, iv .i64 q30.Target]) rfl (by intro φ h; simp only [List.mem_cons, List.not_mem_nil, or_false] at h; rcases h with rfl | rfl | rfl | rfl <;> first | exact iv_at | exact bv_at | exact sv_at | exact slv_at | exact pv_at rfl)) rfl rfl rfl) (fun _ => ?_)
      refine l_nil ?_
      refine n_then ?_
      refine ref_ret ?_
      exact fin1 (.inl rfl) () [] rfl trivial rfl (rv_cell rfl (j := 0) rfl Try.isAgg40 Try.sizeOf40 rfl rfl)

/-! deliberation/participant.style$1 -/
noncomputable def participant_style_1_l1 (node_0 : Int) (p_1 : T_api_Dialogue) (s7 : Int × Int) : Option (Sum (Int) (Int × Int)) :=
  bif decide (s7.2 < (p_1.Graph.L.length : Int)) then
    Option.bind (idxM p_1.Graph.L s7.2) fun t10 =>
    bif t10.To == node_0 then
      letM (iadd .i64 s7.1 1) fun n13 =>
      some (Sum.inr (n13, iadd .i64 s7.2 1))
    else
      some (Sum.inr (s7.1, iadd .i64 s7.2 1))
  else
    some (Sum.inl s7.1)

noncomputable def participant_style_1_m (node_0 : Int) (p_1 : T_api_Dialogue) : Option (Int) :=
  Option.bind (loopC (participant_style_1_l1 node_0 p_1) (0, 0)) fun q14 : Int =>
  some q14

theorem participant_style_1_ok {node_0 : Int} {p_1 : T_api_Dialogue} {b_1 : Nat} {r : Int} (hm : participant_style_1_m node_0 p_1 = some r) :
    FnOk prog 68 [iv .i64 node_0, pv (ptr b_1 0)] [oc b_1 [iv .i64 p_1.Graph.N, slv rT_api_Pair p_1.Graph.L, iv .i64 p_1.Root, iv .i64 p_1.Limits.i0, iv .i64 p_1.Limits.i1, slv rT_api_Move p_1.Moves]] (fun (x : Unit) => [iv .i64 r]) (fun (x : Unit) => [oc b_1 [iv .i64 p_1.Graph.N, slv rT_api_Pair p_1.Graph.L, iv .i64 p_1.Root, iv .i64 p_1.Limits.i0, iv .i64 p_1.Limits.i1, slv rT_api_Move p_1.Moves]]) := by
  refine fn_ok (X := Unit) (fn := Try.f68) (N := 23) (m := participant_style_1_m node_0 p_1) (res := fun r x => [iv .i64 r]) (Ω1 := fun r x => [oc b_1 [iv .i64 p_1.Graph.N, slv rT_api_Pair p_1.Graph.L, iv .i64 p_1.Root, iv .i64 p_1.Limits.i0, iv .i64 p_1.Limits.i1, slv rT_api_Move p_1.Moves]]) Try.func68 rfl rfl hm rfl (fun E hM => ?_)
  unfold participant_style_1_m
  refine ref_seq ?_
  refine ref_region ?_
  refine s_rd (r_assign rfl) rfl ?_
  refine l_nil ?_
  refine n_then ?_
  refine ref_seq ?_
  refine ref_region ?_
  refine s_rd (r_assign rfl) rfl ?_
  refine l_nil ?_
  refine n_then ?_
  refine ref_seq ?_
  refine ref_seq ?_
  refine ref_region ?_
  refine s_rd (r_faddr (fo := 0) Try.underlying35 rfl rfl Try.sizeOf28 rfl) rfl ?_
  refine s_rd (r_faddr (fo := 1) Try.underlying28 rfl rfl Try.sizeOf26 rfl) rfl ?_
  refine s_rd (r_cload Try.isAgg26 rfl (j := 0) rfl rfl) rfl ?_
  refine s_rd (r_len Try.underlying26 rfl) rfl ?_
  refine s_rd (r_move rfl) rfl ?_
  refine l_nil ?_
  refine n_then ?_
  refine ref_loopB (f := (participant_style_1_l1 node_0 p_1)) (Γl := (fun (s7 : Int × Int) (x8 : Unit) => [(0, iv .i64 node_0), (1, pv (ptr b_1 0)), (4, iv .i64 s7.1), (9, slv rT_api_Pair p_1.Graph.L), (10, iv .i64 (p_1.Graph.L.length : Int)), (11, iv .i64 s7.2)])) (Ωl := (fun (s7 : Int × Int) (x8 : Unit) => [oc b_1 [iv .i64 p_1.Graph.N, slv rT_api_Pair p_1.Graph.L, iv .i64 p_1.Root, iv .i64 p_1.Limits.i0, iv .i64 p_1.Limits.i1, slv rT_api_Move p_1.Moves]])) (Γb := (fun (q14 : Int) (y15 : Unit) => [(1, pv (ptr b_1 0)), (4, iv .i64 q14)])) (Ωb := (fun (q14 : Int) (y15 : Unit) => [oc b_1 [iv .i64 p_1.Graph.N, slv rT_api_Pair p_1.Graph.L, iv .i64 p_1.Root, iv .i64 p_1.Limits.i0, iv .i64 p_1.Limits.i1, slv rT_api_Move p_1.Moves]])) (0, 0) () (weak [0] ⟨rfl, rfl, rfl, rfl, rfl, rfl, trivial⟩ ⟨rfl, trivial⟩) (fun s7 x8 => ?_) (fun q14 y15 => ?_)
  · unfold participant_style_1_l1
    refine ref_seq ?_
    refine ref_region ?_
    refine s_rd (r_lss rfl rfl) rfl ?_
    refine l_nil ?_
    refine n_then ?_
    refine ref_seq ?_
    refine ref_cond rfl (fun hb9 => ?_) (fun hb9 => ?_)
    · refine ref_skip ?_
      refine n_then ?_
      refine ref_seq ?_
      refine ref_block ?_
      refine ref_seq ?_
      refine ref_region ?_
      refine pull fun t10 h_t10 => ?_
      refine s_rd (r_index h_t10 Try.underlying26 el_67 rfl rfl) rfl ?_
      refine s_rd (r_load el_67 rfl) rfl ?_
      refine s_st (s_alloc zt_67) rfl (fun b11 => ?_)
      refine s_st0 (s_cstore (out := [iv .i64 t10.From, iv .i64 t10.To]) Try.sizeOf67 rfl (j := 1) rfl (part_ag (ψs := [iv .i64 t10.From, iv .i64 t10.To]) rfl (by intro φ h; simp only [List.mem_cons, List.not_mem_nil, or_false] at h; rcases h with rfl | rfl <;> first | exact iv_at | exact bv_at | exact sv_at | exact slv_at | exact pv_at rfl)) rfl rfl rfl) (fun _ => ?_)
      refine l_nil ?_
      refine n_then ?_
      refine ref_seq ?_
      refine ref_region ?_
      refine s_rd (r_faddr (fo := 1) Try.underlying67 rfl rfl Try.sizeOf3 rfl) rfl ?_
      refine s_rd (r_cload Try.isAgg3 rfl (j := 1) rfl rfl) rfl ?_
      refine s_rd (r_move rfl) rfl ?_
      refine s_rd (r_eql rfl rfl) rfl ?_
      refine l_nil ?_
      refine n_then ?_
      refine ref_cond rfl (fun hb12 => ?_) (fun hb12 => ?_)
      · refine ref_region ?_
        refine s_rd (r_move rfl) rfl ?_
        refine s_rd (r_add rfl rfl) rfl ?_
        refine s_rd (r_assign rfl) rfl ?_
        refine b_let (f := iv .i64) (t := 4) rfl fun n13 => ?_
        refine l_nil ?_
        refine n_block ?_
        refine n_then ?_
        refine ref_region ?_
        refine s_rd (r_add rfl rfl) rfl ?_
        refine s_rd (r_move rfl) rfl ?_
        refine l_nil ?_
        exact goB () (weak [0] ⟨rfl, rfl, rfl, rfl, rfl, rfl, trivial⟩ ⟨rfl, trivial⟩)
      · refine ref_skip ?_
        refine n_block ?_
        refine n_then ?_
        refine ref_region ?_
        refine s_rd (r_add rfl rfl) rfl ?_
        refine s_rd (r_move rfl) rfl ?_
        refine l_nil ?_
        exact goB () (weak [0] ⟨rfl, rfl, rfl, rfl, rfl, rfl, trivial⟩ ⟨rfl, trivial⟩)
    · refine ref_exit ?_
      refine x_then ?_
      exact brkB () (weak [0] ⟨rfl, rfl, trivial⟩ ⟨rfl, trivial⟩)
  · refine n_then ?_
    refine ref_seq ?_
    refine ref_region ?_
    refine s_rd (r_move rfl) rfl ?_
    refine s_rd (r_assign rfl) rfl ?_
    refine l_nil ?_
    refine n_then ?_
    refine ref_ret ?_
    exact fin1 (.inl rfl) () [0] rfl ⟨rfl, trivial⟩ rfl (rv_tmp rfl)

/-! deliberation/participant.style$3 -/
noncomputable def participant_style_3_m (a__0 : T_api_Move) (b_1 : T_api_Move) (e_1 : T_api_Dialogue) : Option (Int) :=
  Option.bind (participant_style_1_m a__0.Node e_1) fun t3 =>
  Option.bind (participant_style_1_m b_1.Node e_1) fun t4 =>
  Option.bind (cmp_Compare_int_m t3 t4) fun t5 =>
  some t5

theorem participant_style_3_ok {a__0 : T_api_Move} {b_1 : T_api_Move} {e_1 : T_api_Dialogue} {b_2 : Nat} {be_1 : Nat} {r : Int} (hm : participant_style_3_m a__0 b_1 e_1 = some r) :
    FnOk prog 71 [ag [iv .i64 a__0.By, iv .i64 a__0.Kind, iv .i64 a__0.Node, iv .i64 a__0.Target], ag [iv .i64 b_1.By, iv .i64 b_1.Kind, iv .i64 b_1.Node, iv .i64 b_1.Target], pv (ptr b_2 0)] [oc b_2 [pv (.func (.func 68) #[] #[(ptr be_1 0)])], oc be_1 [iv .i64 e_1.Graph.N, slv rT_api_Pair e_1.Graph.L, iv .i64 e_1.Root, iv .i64 e_1.Limits.i0, iv .i64 e_1.Limits.i1, slv rT_api_Move e_1.Moves]] (fun (x : Unit) => [iv .i64 r]) (fun (x : Unit) => [oc b_2 [pv (.func (.func 68) #[] #[(ptr be_1 0)])], oc be_1 [iv .i64 e_1.Graph.N, slv rT_api_Pair e_1.Graph.L, iv .i64 e_1.Root, iv .i64 e_1.Limits.i0, iv .i64 e_1.Limits.i1, slv rT_api_Move e_1.Moves]]) := by
  refine fn_ok (X := Unit) (fn := Try.f71) (N := 15) (m := participant_style_3_m a__0 b_1 e_1) (res := fun r x => [iv .i64 r]) (Ω1 := fun r x => [oc b_2 [pv (.func (.func 68) #[] #[(ptr be_1 0)])], oc be_1 [iv .i64 e_1.Graph.N, slv rT_api_Pair e_1.Graph.L, iv .i64 e_1.Root, iv .i64 e_1.Limits.i0, iv .i64 e_1.Limits.i1, slv rT_api_Move e_1.Moves]]) Try.func71 rfl rfl hm rfl (fun E hM => ?_)
  unfold participant_style_3_m
  refine ref_seq ?_
  refine ref_region ?_
  refine s_st (s_box (part_ag (ψs := [iv .i64 a__0.By, iv .i64 a__0.Kind, iv .i64 a__0.Node, iv .i64 a__0.Target]) rfl (by intro φ h; simp only [List.mem_cons, List.not_mem_nil, or_false] at h; rcases h with rfl | rfl | rfl | rfl <;> first | exact iv_at | exact bv_at | exact sv_at | exact slv_at | exact pv_at rfl))) rfl (fun b1 => ?_)
  refine s_st (s_box (part_ag (ψs := [iv .i64 b_1.By, iv .i64 b_1.Kind, iv .i64 b_1.Node, iv .i64 b_1.Target]) rfl (by intro φ h; simp only [List.mem_cons, List.not_mem_nil, or_false] at h; rcases h with rfl | rfl | rfl | rfl <;> first | exact iv_at | exact bv_at | exact sv_at | exact slv_at | exact pv_at rfl))) rfl (fun b2 => ?_)
  refine s_rd (r_assign rfl) rfl ?_
  refine l_nil ?_
  refine n_then ?_
  refine ref_seq ?_
  refine ref_draw [0, 1, 2, 4, 5, 6] rfl (by kernel_rfl) (fun hok => ?_)
  refine a_rd (i := 0) hok rfl (by kernel_rfl) rfl (r_cload Try.isAgg55 rfl (j := 0) rfl rfl) rfl ?_
  refine a_rd (i := 1) hok rfl (by kernel_rfl) rfl (r_faddr (fo := 2) Try.underlying40 rfl rfl Try.sizeOf3 rfl) rfl ?_
  refine a_rd (i := 2) hok rfl (by kernel_rfl) rfl (r_cload Try.isAgg3 rfl (j := 2) rfl rfl) rfl ?_
  refine a_rd (i := 4) hok rfl (by kernel_rfl) rfl (r_cload Try.isAgg55 rfl (j := 0) rfl rfl) rfl ?_
  refine a_rd (i := 5) hok rfl (by kernel_rfl) rfl (r_faddr (fo := 2) Try.underlying40 rfl rfl Try.sizeOf3 rfl) rfl ?_
  refine a_rd (i := 6) hok rfl (by kernel_rfl) rfl (r_cload Try.isAgg3 rfl (j := 3) rfl rfl) rfl ?_
  refine pull fun t3 h_t3 => ?_
  refine a_next hok 3 [] (by kernel_rfl) ?_ trivial
  refine a_st (i := 3) hok rfl rfl (s_callC [1] [true] (fun (_ : Unit) => [oc be_1 [iv .i64 e_1.Graph.N, slv rT_api_Pair e_1.Graph.L, iv .i64 e_1.Root, iv .i64 e_1.Limits.i0, iv .i64 e_1.Limits.i1, slv rT_api_Move e_1.Moves]]) (fun (_ : Unit) => []) (fun (_ : Unit) => iv .i64 t3) (args := [.tmp 8]) (caps := [(ptr be_1 0)]) Try.call68 rfl (participant_style_1_ok h_t3) ⟨rfl, rfl, trivial⟩ (fun _ => rfl) (fun _ => trivial) (fun _ => rfl) ⟨arg rfl, arg rfl, trivial⟩ (fun _ _ _ _ h => h)) (by intro _ h; cases h; rfl) (fun _ => ⟨⟨⟨rfl, rfl⟩, trivial⟩, ⟨trivial, ⟨⟨⟨rfl, rfl⟩, trivial⟩, ⟨trivial, ⟨trivial, ⟨trivial, trivial⟩⟩⟩⟩⟩⟩) (fun _ => ?_)
  refine pull fun t4 h_t4 => ?_
  refine a_next hok 7 [] (by kernel_rfl) ?_ trivial
  refine a_st (i := 7) hok rfl rfl (s_callC [1] [true] (fun (_ : Unit) => [oc be_1 [iv .i64 e_1.Graph.N, slv rT_api_Pair e_1.Graph.L, iv .i64 e_1.Root, iv .i64 e_1.Limits.i0, iv .i64 e_1.Limits.i1, slv rT_api_Move e_1.Moves]]) (fun (_ : Unit) => []) (fun (_ : Unit) => iv .i64 t4) (args := [.tmp 12]) (caps := [(ptr be_1 0)]) Try.call68 rfl (participant_style_1_ok h_t4) ⟨rfl, rfl, trivial⟩ (fun _ => rfl) (fun _ => trivial) (fun _ => rfl) ⟨arg rfl, arg rfl, trivial⟩ (fun _ _ _ _ h => h)) (by intro _ h; cases h; rfl) (fun _ => ⟨trivial, ⟨trivial, ⟨trivial, ⟨⟨⟨rfl, rfl⟩, trivial⟩, ⟨trivial, ⟨⟨⟨rfl, rfl⟩, trivial⟩, trivial⟩⟩⟩⟩⟩⟩) (fun _ => ?_)
  refine pull fun t5 h_t5 => ?_
  refine a_next hok 8 [] (by kernel_rfl) ?_ trivial
  refine a_st (i := 8) hok rfl rfl (s_call (ψ := fun (_ : Unit) => iv .i64 t5) (args := [.tmp 9, .tmp 13]) Try.call70 rfl (cmp_Compare_int_ok h_t5) ⟨arg rfl, arg rfl, trivial⟩ (fun _ _ _ _ h => h)) (by intro _ h; cases h; rfl) (fun _ => ⟨⟨⟨rfl, rfl⟩, trivial⟩, ⟨trivial, ⟨⟨⟨rfl, rfl⟩, trivial⟩, ⟨⟨⟨rfl, rfl⟩, trivial⟩, ⟨trivial, ⟨⟨⟨rfl, rfl⟩, trivial⟩, trivial⟩⟩⟩⟩⟩⟩) (fun _ => ?_)
  refine a_next hok 9 [] (by kernel_rfl) ?_ trivial
  refine a_st (i := 9) hok rfl rfl (St.ofRd (r_assign rfl)) (by intro _ h; cases h; rfl) (fun _ => ⟨trivial, ⟨trivial, ⟨trivial, ⟨trivial, ⟨trivial, ⟨trivial, trivial⟩⟩⟩⟩⟩⟩) (fun _ => ?_)
  refine a_fin hok (by kernel_rfl) ?_
  refine b_of (nrm [oc b_2 [pv (.func (.func 68) #[] #[(ptr be_1 0)])], oc be_1 [iv .i64 e_1.Graph.N, slv rT_api_Pair e_1.Graph.L, iv .i64 e_1.Root, iv .i64 e_1.Limits.i0, iv .i64 e_1.Limits.i1, slv rT_api_Move e_1.Moves], oc b1 [iv .i64 a__0.By, iv .i64 a__0.Kind, iv .i64 a__0.Node, iv .i64 a__0.Target], oc b2 [iv .i64 b_1.By, iv .i64 b_1.Kind, iv .i64 b_1.Node, iv .i64 b_1.Target]] rfl) ?_
  refine n_then ?_
  refine ref_ret ?_
  exact fin1 (.inl rfl) () [0, 1] rfl ⟨rfl, rfl, trivial⟩ rfl (rv_tmp rfl)

/-! slices.MinFunc[[]deliberation/api.Move,deliberation/api.Move] -/
noncomputable def slices_MinFunc_api_Move_api_Move_1_l1 (x_0 : (List T_api_Move)) (e_1 : T_api_Dialogue) (s21 : Int × T_api_Move) : Option (Sum (T_api_Move) (Int × T_api_Move)) :=
  bif decide (s21.1 < (x_0.length : Int)) then
    Option.bind (idxM x_0 s21.1) fun t24 =>
    Option.bind (participant_style_3_m t24 s21.2 e_1) fun t25 =>
    bif decide (t25 < 0) then
      Option.bind (idxM x_0 s21.1) fun t27 =>
      letM (iadd .i64 s21.1 1) fun i28 =>
      some (Sum.inr (i28, t27))
    else
      letM (iadd .i64 s21.1 1) fun i29 =>
      some (Sum.inr (i29, s21.2))
  else
    some (Sum.inl s21.2)

noncomputable def slices_MinFunc_api_Move_api_Move_1_m (x_0 : (List T_api_Move)) (e_1 : T_api_Dialogue) : Option (T_api_Move) :=
  bif decide ((x_0.length : Int) < 1) then
    none
  else
    Option.bind (idxM x_0 0) fun t3 =>
    Option.bind (loopC (slices_MinFunc_api_Move_api_Move_1_l1 x_0 e_1) (1, t3)) fun q30 : T_api_Move =>
    some q30

theorem slices_MinFunc_api_Move_api_Move_1_ok {x_0 : (List T_api_Move)} {e_1 : T_api_Dialogue} {be_0 : Nat} {be_1 : Nat} {r : T_api_Move} (hm : slices_MinFunc_api_Move_api_Move_1_m x_0 e_1 = some r) :
    FnOk prog 39 [slv rT_api_Move x_0, pv (.func (.func 71) #[] #[(ptr be_0 0)])] [oc be_0 [pv (.func (.func 68) #[] #[(ptr be_1 0)])], oc be_1 [iv .i64 e_1.Graph.N, slv rT_api_Pair e_1.Graph.L, iv .i64 e_1.Root, iv .i64 e_1.Limits.i0, iv .i64 e_1.Limits.i1, slv rT_api_Move e_1.Moves]] (fun (x : Unit) => [ag [iv .i64 r.By, iv .i64 r.Kind, iv .i64 r.Node, iv .i64 r.Target]]) (fun (x : Unit) => [oc be_0 [pv (.func (.func 68) #[] #[(ptr be_1 0)])], oc be_1 [iv .i64 e_1.Graph.N, slv rT_api_Pair e_1.Graph.L, iv .i64 e_1.Root, iv .i64 e_1.Limits.i0, iv .i64 e_1.Limits.i1, slv rT_api_Move e_1.Moves]]) := by
  refine fn_ok (X := Unit) (fn := Try.f39) (N := 33) (m := slices_MinFunc_api_Move_api_Move_1_m x_0 e_1) (res := fun r x => [ag [iv .i64 r.By, iv .i64 r.Kind, iv .i64 r.Node, iv .i64 r.Target]]) (Ω1 := fun r x => [oc be_0 [pv (.func (.func 68) #[] #[(ptr be_1 0)])], oc be_1 [iv .i64 e_1.Graph.N, slv rT_api_Pair e_1.Graph.L, iv .i64 e_1.Root, iv .i64 e_1.Limits.i0, iv .i64 e_1.Limits.i1, slv rT_api_Move e_1.Moves]]) Try.func39 rfl rfl hm rfl (fun E hM => ?_)
  unfold slices_MinFunc_api_Move_api_Move_1_m
  refine ref_seq ?_
  refine ref_region ?_
  refine s_st (s_alloc zt_40) rfl (fun b1 => ?_)
  refine l_nil ?_
  refine n_then ?_
  refine ref_seq ?_
  refine ref_seq ?_
  refine ref_region ?_
  refine s_rd (r_move rfl) rfl ?_
  refine s_rd (r_len Try.underlying23 rfl) rfl ?_
  refine s_rd (r_lss rfl rfl) rfl ?_
  refine l_nil ?_
  refine n_then ?_
  refine ref_cond rfl (fun hb2 => ?_) (fun hb2 => ?_)
  · refine ref_region ?_
    exact pnone
  · refine ref_skip ?_
    refine n_then ?_
    refine ref_seq ?_
    refine ref_region ?_
    refine s_rd (r_move rfl) rfl ?_
    refine pull fun t3 h_t3 => ?_
    refine s_rd (r_index h_t3 Try.underlying23 el_40 rfl rfl) rfl ?_
    refine s_rd (r_load el_40 rfl) rfl ?_
    refine s_st (s_alloc zt_40) rfl (fun b4 => ?_)
    refine s_st0 (s_cstore (out := [iv .i64 t3.By, iv .i64 t3.Kind, iv .i64 t3.Node, iv .i64 t3.Target]) Try.sizeOf40 rfl (j := 3) rfl (part_ag (ψs := [iv .i64 t3.By, iv .i64 t3.Kind, iv .i64 t3.Node, iv .i64 t3.Target]) rfl (by intro φ h; simp only [List.mem_cons, List.not_mem_nil, or_false] at h; rcases h with rfl | rfl | rfl | rfl <;> first | exact iv_at | exact bv_at | exact sv_at | exact slv_at | exact pv_at rfl)) rfl rfl rfl) (fun _ => ?_)
    refine l_nil ?_
    refine n_then ?_
    refine ref_seq ?_
    refine ref_seq ?_
    refine ref_region ?_
    refine s_rd (r_assign rfl) rfl ?_
    refine l_nil ?_
    refine n_then ?_
    refine ref_loopB (f := (slices_MinFunc_api_Move_api_Move_1_l1 x_0 e_1)) (Γl := (fun (s21 : Int × T_api_Move) (x22 : Unit) => [(0, slv rT_api_Move x_0), (1, pv (.func (.func 71) #[] #[(ptr be_0 0)])), (4, pv (ptr b1 0)), (5, pv (ptr b4 0)), (6, iv .i64 s21.1)])) (Ωl := (fun (s21 : Int × T_api_Move) (x22 : Unit) => [oc be_0 [pv (.func (.func 68) #[] #[(ptr be_1 0)])], oc be_1 [iv .i64 e_1.Graph.N, slv rT_api_Pair e_1.Graph.L, iv .i64 e_1.Root, iv .i64 e_1.Limits.i0, iv .i64 e_1.Limits.i1, slv rT_api_Move e_1.Moves], oc b1 [iv .i64 0, iv .i64 0, iv .i64 0, iv .i64 0], oc b4 [iv .i64 s21.2.By, iv .i64 s21.2.Kind, iv .i64 s21.2.Node, iv .i64 s21.2.Target]])) (Γb := (fun (q30 : T_api_Move) (y31 : Unit) => [(1, pv (.func (.func 71) #[] #[(ptr be_0 0)])), (4, pv (ptr b1 0)), (5, pv (ptr b4 0))])) (Ωb := (fun (q30 : T_api_Move) (y31 : Unit) => [oc be_0 [pv (.func (.func 68) #[] #[(ptr be_1 0)])], oc be_1 [iv .i64 e_1.Graph.N, slv rT_api_Pair e_1.Graph.L, iv .i64 e_1.Root, iv .i64 e_1.Limits.i0, iv .i64 e_1.Limits.i1, slv rT_api_Move e_1.Moves], oc b1 [iv .i64 0, iv .i64 0, iv .i64 0, iv .i64 0], oc b4 [iv .i64 q30.By, iv .i64 q30.Kind, iv .i64 q30.Node, iv .i64 q30.Target]])) (1, t3) () (weak [0, 1, 2, 3] ⟨rfl, rfl, rfl, rfl, rfl, trivial⟩ ⟨rfl, rfl, rfl, rfl, trivial⟩) (fun s21 x22 => ?_) (fun q30 y31 => ?_)
    · unfold slices_MinFunc_api_Move_api_Move_1_l1
      refine ref_seq ?_
      refine ref_seq ?_
      refine ref_region ?_
      refine s_rd (r_move rfl) rfl ?_
      refine s_rd (r_move rfl) rfl ?_
      refine s_rd (r_len Try.underlying23 rfl) rfl ?_
      refine s_rd (r_lss rfl rfl) rfl ?_
      refine l_nil ?_
      refine n_then ?_
      refine ref_cond rfl (fun hb23 => ?_) (fun hb23 => ?_)
      · refine ref_skip ?_
        refine n_then ?_
        refine ref_seq ?_
        refine ref_block ?_
        refine ref_seq ?_
        refine ref_draw [0, 1, 2, 3, 4, 5, 7] rfl (by kernel_rfl) (fun hok => ?_)
        refine a_rd (i := 0) hok rfl (by kernel_rfl) rfl (r_move rfl) rfl ?_
        refine a_rd (i := 1) hok rfl (by kernel_rfl) rfl (r_move rfl) rfl ?_
        refine a_rd (i := 2) hok rfl (by kernel_rfl) rfl (r_move rfl) rfl ?_
        refine pull fun t24 h_t24 => ?_
        refine a_rd (i := 3) hok rfl (by kernel_rfl) rfl (r_index h_t24 Try.underlying23 el_40 rfl rfl) rfl ?_
        refine a_rd (i := 4) hok rfl (by kernel_rfl) rfl (r_load el_40 rfl) rfl ?_
        refine a_rd (i := 5) hok rfl (by kernel_rfl) rfl (r_cloadS Try.isAgg40 Try.sizeOf40 rfl (j := 3) rfl rfl rfl) rfl ?_
        refine pull fun t25 h_t25 => ?_
        refine a_next hok 6 [] (by kernel_rfl) ?_ trivial
        refine a_st (i := 6) hok rfl rfl (s_callC [0, 1] [true, true] (fun (_ : Unit) => [oc be_0 [pv (.func (.func 68) #[] #[(ptr be_1 0)])], oc be_1 [iv .i64 e_1.Graph.N, slv rT_api_Pair e_1.Graph.L, iv .i64 e_1.Root, iv .i64 e_1.Limits.i0, iv .i64 e_1.Limits.i1, slv rT_api_Move e_1.Moves]]) (fun (_ : Unit) => []) (fun (_ : Unit) => iv .i64 t25) (args := [.tmp 24, .tmp 25]) (caps := [(ptr be_0 0)]) Try.call71 rfl (participant_style_3_ok h_t25) ⟨rfl, rfl, ⟨rfl, rfl, trivial⟩⟩ (fun _ => rfl) (fun _ => trivial) (fun _ => rfl) ⟨arg rfl, arg rfl, arg rfl, trivial⟩ (fun _ _ _ _ h => h)) (by intro _ h; cases h; rfl) (fun _ => ⟨trivial, ⟨trivial, ⟨trivial, ⟨trivial, ⟨trivial, ⟨trivial, trivial⟩⟩⟩⟩⟩⟩) (fun _ => ?_)
        refine a_rd (i := 7) hok rfl (by kernel_rfl) rfl (r_lss rfl rfl) rfl ?_
        refine a_fin hok (by kernel_rfl) ?_
        refine b_of (nrm [oc be_0 [pv (.func (.func 68) #[] #[(ptr be_1 0)])], oc be_1 [iv .i64 e_1.Graph.N, slv rT_api_Pair e_1.Graph.L, iv .i64 e_1.Root, iv .i64 e_1.Limits.i0, iv .i64 e_1.Limits.i1, slv rT_api_Move e_1.Moves], oc b1 [iv .i64 0, iv .i64 0, iv .i64 0, iv .i64 0], oc b4 [iv .i64 s21.2.By, iv .i64 s21.2.Kind, iv .i64 s21.2.Node, iv .i64 s21.2.Target]] rfl) ?_
        refine n_then ?_
        refine ref_cond rfl (fun hb26 => ?_) (fun hb26 => ?_)
        · refine ref_region ?_
          refine s_rd (r_move rfl) rfl ?_
          refine s_rd (r_move rfl) rfl ?_
          refine pull fun t27 h_t27 => ?_
          refine s_rd (r_index h_t27 Try.underlying23 el_40 rfl rfl) rfl ?_
          refine s_rd (r_load el_40 rfl) rfl ?_
          refine s_st0 (s_cstore (out := [iv .i64 t27.By, iv .i64 t27.Kind, iv .i64 t27.Node, iv .i64 t27.Target]) Try.sizeOf40 rfl (j := 3) rfl (part_ag (ψs := [iv .i64 t27.By, iv .i64 t27.Kind, iv .i64 t27.Node, iv .i64 t27.Target]) rfl (by intro φ h; simp only [List.mem_cons, List.not_mem_nil, or_false] at h; rcases h with rfl | rfl | rfl | rfl <;> first | exact iv_at | exact bv_at | exact sv_at | exact slv_at | exact pv_at rfl)) rfl rfl rfl) (fun _ => ?_)
          refine l_nil ?_
          refine n_block ?_
          refine n_then ?_
          refine ref_region ?_
          refine s_rd (r_move rfl) rfl ?_
          refine s_rd (r_add rfl rfl) rfl ?_
          refine s_rd (r_assign rfl) rfl ?_
          refine b_let (f := iv .i64) (t := 6) rfl fun i28 => ?_
          refine l_nil ?_
          exact goB () (weak [0, 1, 2, 3] ⟨rfl, rfl, rfl, rfl, rfl, trivial⟩ ⟨rfl, rfl, rfl, rfl, trivial⟩)
        · refine ref_skip ?_
          refine n_block ?_
          refine n_then ?_
          refine ref_region ?_
          refine s_rd (r_move rfl) rfl ?_
          refine s_rd (r_add rfl rfl) rfl ?_
          refine s_rd (r_assign rfl) rfl ?_
          refine b_let (f := iv .i64) (t := 6) rfl fun i29 => ?_
          refine l_nil ?_
          exact goB () (weak [0, 1, 2, 3] ⟨rfl, rfl, rfl, rfl, rfl, trivial⟩ ⟨rfl, rfl, rfl, rfl, trivial⟩)
      · refine ref_exit ?_
        refine x_then ?_
        exact brkB () (weak [0, 1, 2, 3] ⟨rfl, rfl, rfl, trivial⟩ ⟨rfl, rfl, rfl, rfl, trivial⟩)
    · refine n_then ?_
      refine ref_seq ?_
      refine ref_region ?_
      refine s_rd (r_cloadS Try.isAgg40 Try.sizeOf40 rfl (j := 3) rfl rfl rfl) rfl ?_
      refine s_st0 (s_cstore (out := [iv .i64 q30.By, iv .i64 q30.Kind, iv .i64 q30.Node, iv .i64 q30.Target]) Try.sizeOf40 rfl (j := 2) rfl (part_ag (ψs := [iv .i64 q30.By, iv .i64 q30.Kind, iv .i64 q30.Node, iv .i64 q30.Target]) rfl (by intro φ h; simp only [List.mem_cons, List.not_mem_nil, or_false] at h; rcases h with rfl | rfl | rfl | rfl <;> first | exact iv_at | exact bv_at | exact sv_at | exact slv_at | exact pv_at rfl)) rfl rfl rfl) (fun _ => ?_)
      refine l_nil ?_
      refine n_then ?_
      refine ref_ret ?_
      exact fin1 (.inl rfl) () [0, 1] rfl ⟨rfl, rfl, trivial⟩ rfl (rv_cell rfl (j := 2) rfl Try.isAgg40 Try.sizeOf40 rfl rfl)

/-! slices.MinFunc[[]deliberation/api.Move,deliberation/api.Move] -/
noncomputable def slices_MinFunc_api_Move_api_Move_2_l1 (x_0 : (List T_api_Move)) (s21 : Int × T_api_Move) : Option (Sum (T_api_Move) (Int × T_api_Move)) :=
  bif decide (s21.1 < (x_0.length : Int)) then
    Option.bind (idxM x_0 s21.1) fun t24 =>
    Option.bind (participant_style_4_m t24 s21.2) fun t25 =>
    bif decide (t25 < 0) then
      Option.bind (idxM x_0 s21.1) fun t27 =>
      letM (iadd .i64 s21.1 1) fun i28 =>
      some (Sum.inr (i28, t27))
    else
      letM (iadd .i64 s21.1 1) fun i29 =>
      some (Sum.inr (i29, s21.2))
  else
    some (Sum.inl s21.2)

noncomputable def slices_MinFunc_api_Move_api_Move_2_m (x_0 : (List T_api_Move)) : Option (T_api_Move) :=
  bif decide ((x_0.length : Int) < 1) then
    none
  else
    Option.bind (idxM x_0 0) fun t3 =>
    Option.bind (loopC (slices_MinFunc_api_Move_api_Move_2_l1 x_0) (1, t3)) fun q30 : T_api_Move =>
    some q30

theorem slices_MinFunc_api_Move_api_Move_2_ok {x_0 : (List T_api_Move)} {r : T_api_Move} (hm : slices_MinFunc_api_Move_api_Move_2_m x_0 = some r) :
    FnOk prog 39 [slv rT_api_Move x_0, pv (.func (.func 72) #[] #[])] [] (fun (x : Unit) => [ag [iv .i64 r.By, iv .i64 r.Kind, iv .i64 r.Node, iv .i64 r.Target]]) (fun (x : Unit) => []) := by
  refine fn_ok (X := Unit) (fn := Try.f39) (N := 33) (m := slices_MinFunc_api_Move_api_Move_2_m x_0) (res := fun r x => [ag [iv .i64 r.By, iv .i64 r.Kind, iv .i64 r.Node, iv .i64 r.Target]]) (Ω1 := fun r x => []) Try.func39 rfl rfl hm rfl (fun E hM => ?_)
  unfold slices_MinFunc_api_Move_api_Move_2_m
  refine ref_seq ?_
  refine ref_region ?_
  refine s_st (s_alloc zt_40) rfl (fun b1 => ?_)
  refine l_nil ?_
  refine n_then ?_
  refine ref_seq ?_
  refine ref_seq ?_
  refine ref_region ?_
  refine s_rd (r_move rfl) rfl ?_
  refine s_rd (r_len Try.underlying23 rfl) rfl ?_
  refine s_rd (r_lss rfl rfl) rfl ?_
  refine l_nil ?_
  refine n_then ?_
  refine ref_cond rfl (fun hb2 => ?_) (fun hb2 => ?_)
  · refine ref_region ?_
    exact pnone
  · refine ref_skip ?_
    refine n_then ?_
    refine ref_seq ?_
    refine ref_region ?_
    refine s_rd (r_move rfl) rfl ?_
    refine pull fun t3 h_t3 => ?_
    refine s_rd (r_index h_t3 Try.underlying23 el_40 rfl rfl) rfl ?_
    refine s_rd (r_load el_40 rfl) rfl ?_
    refine s_st (s_alloc zt_40) rfl (fun b4 => ?_)
    refine s_st0 (s_cstore (out := [iv .i64 t3.By, iv .i64 t3.Kind, iv .i64 t3.Node, iv .i64 t3.Target]) Try.sizeOf40 rfl (j := 1) rfl (part_ag (ψs := [iv .i64 t3.By, iv .i64 t3.Kind, iv .i64 t3.Node, iv .i64 t3.Target]) rfl (by intro φ h; simp only [List.mem_cons, List.not_mem_nil, or_false] at h; rcases h with rfl | rfl | rfl | rfl <;> first | exact iv_at | exact bv_at | exact sv_at | exact slv_at | exact pv_at rfl)) rfl rfl rfl) (fun _ => ?_)
    refine l_nil ?_
    refine n_then ?_
    refine ref_seq ?_
    refine ref_seq ?_
    refine ref_region ?_
    refine s_rd (r_assign rfl) rfl ?_
    refine l_nil ?_
    refine n_then ?_
    refine ref_loopB (f := (slices_MinFunc_api_Move_api_Move_2_l1 x_0)) (Γl := (fun (s21 : Int × T_api_Move) (x22 : Unit) => [(0, slv rT_api_Move x_0), (1, pv (.func (.func 72) #[] #[])), (4, pv (ptr b1 0)), (5, pv (ptr b4 0)), (6, iv .i64 s21.1)])) (Ωl := (fun (s21 : Int × T_api_Move) (x22 : Unit) => [oc b1 [iv .i64 0, iv .i64 0, iv .i64 0, iv .i64 0], oc b4 [iv .i64 s21.2.By, iv .i64 s21.2.Kind, iv .i64 s21.2.Node, iv .i64 s21.2.Target]])) (Γb := (fun (q30 : T_api_Move) (y31 : Unit) => [(1, pv (.func (.func 72) #[] #[])), (4, pv (ptr b1 0)), (5, pv (ptr b4 0))])) (Ωb := (fun (q30 : T_api_Move) (y31 : Unit) => [oc b1 [iv .i64 0, iv .i64 0, iv .i64 0, iv .i64 0], oc b4 [iv .i64 q30.By, iv .i64 q30.Kind, iv .i64 q30.Node, iv .i64 q30.Target]])) (1, t3) () (weak [0, 1] ⟨rfl, rfl, rfl, rfl, rfl, trivial⟩ ⟨rfl, rfl, trivial⟩) (fun s21 x22 => ?_) (fun q30 y31 => ?_)
    · unfold slices_MinFunc_api_Move_api_Move_2_l1
      refine ref_seq ?_
      refine ref_seq ?_
      refine ref_region ?_
      refine s_rd (r_move rfl) rfl ?_
      refine s_rd (r_move rfl) rfl ?_
      refine s_rd (r_len Try.underlying23 rfl) rfl ?_
      refine s_rd (r_lss rfl rfl) rfl ?_
      refine l_nil ?_
      refine n_then ?_
      refine ref_cond rfl (fun hb23 => ?_) (fun hb23 => ?_)
      · refine ref_skip ?_
        refine n_then ?_
        refine ref_seq ?_
        refine ref_block ?_
        refine ref_seq ?_
        refine ref_draw [0, 1, 2, 3, 4, 5, 7] rfl (by kernel_rfl) (fun hok => ?_)
        refine a_rd (i := 0) hok rfl (by kernel_rfl) rfl (r_move rfl) rfl ?_
        refine a_rd (i := 1) hok rfl (by kernel_rfl) rfl (r_move rfl) rfl ?_
        refine a_rd (i := 2) hok rfl (by kernel_rfl) rfl (r_move rfl) rfl ?_
        refine pull fun t24 h_t24 => ?_
        refine a_rd (i := 3) hok rfl (by kernel_rfl) rfl (r_index h_t24 Try.underlying23 el_40 rfl rfl) rfl ?_
        refine a_rd (i := 4) hok rfl (by kernel_rfl) rfl (r_load el_40 rfl) rfl ?_
        refine a_rd (i := 5) hok rfl (by kernel_rfl) rfl (r_cloadS Try.isAgg40 Try.sizeOf40 rfl (j := 1) rfl rfl rfl) rfl ?_
        refine pull fun t25 h_t25 => ?_
        refine a_next hok 6 [] (by kernel_rfl) ?_ trivial
        refine a_st (i := 6) hok rfl rfl (s_call (ψ := fun (_ : Unit) => iv .i64 t25) (args := [.tmp 24, .tmp 25]) Try.call72 rfl (participant_style_4_ok h_t25) ⟨arg rfl, arg rfl, trivial⟩ (fun _ _ _ _ h => h)) (by intro _ h; cases h; rfl) (fun _ => ⟨trivial, ⟨trivial, ⟨trivial, ⟨trivial, ⟨trivial, ⟨trivial, trivial⟩⟩⟩⟩⟩⟩) (fun _ => ?_)
        refine a_rd (i := 7) hok rfl (by kernel_rfl) rfl (r_lss rfl rfl) rfl ?_
        refine a_fin hok (by kernel_rfl) ?_
        refine b_of (nrm [oc b1 [iv .i64 0, iv .i64 0, iv .i64 0, iv .i64 0], oc b4 [iv .i64 s21.2.By, iv .i64 s21.2.Kind, iv .i64 s21.2.Node, iv .i64 s21.2.Target]] rfl) ?_
        refine n_then ?_
        refine ref_cond rfl (fun hb26 => ?_) (fun hb26 => ?_)
        · refine ref_region ?_
          refine s_rd (r_move rfl) rfl ?_
          refine s_rd (r_move rfl) rfl ?_
          refine pull fun t27 h_t27 => ?_
          refine s_rd (r_index h_t27 Try.underlying23 el_40 rfl rfl) rfl ?_
          refine s_rd (r_load el_40 rfl) rfl ?_
          refine s_st0 (s_cstore (out := [iv .i64 t27.By, iv .i64 t27.Kind, iv .i64 t27.Node, iv .i64 t27.Target]) Try.sizeOf40 rfl (j := 1) rfl (part_ag (ψs := [iv .i64 t27.By, iv .i64 t27.Kind, iv .i64 t27.Node, iv .i64 t27.Target]) rfl (by intro φ h; simp only [List.mem_cons, List.not_mem_nil, or_false] at h; rcases h with rfl | rfl | rfl | rfl <;> first | exact iv_at | exact bv_at | exact sv_at | exact slv_at | exact pv_at rfl)) rfl rfl rfl) (fun _ => ?_)
          refine l_nil ?_
          refine n_block ?_
          refine n_then ?_
          refine ref_region ?_
          refine s_rd (r_move rfl) rfl ?_
          refine s_rd (r_add rfl rfl) rfl ?_
          refine s_rd (r_assign rfl) rfl ?_
          refine b_let (f := iv .i64) (t := 6) rfl fun i28 => ?_
          refine l_nil ?_
          exact goB () (weak [0, 1] ⟨rfl, rfl, rfl, rfl, rfl, trivial⟩ ⟨rfl, rfl, trivial⟩)
        · refine ref_skip ?_
          refine n_block ?_
          refine n_then ?_
          refine ref_region ?_
          refine s_rd (r_move rfl) rfl ?_
          refine s_rd (r_add rfl rfl) rfl ?_
          refine s_rd (r_assign rfl) rfl ?_
          refine b_let (f := iv .i64) (t := 6) rfl fun i29 => ?_
          refine l_nil ?_
          exact goB () (weak [0, 1] ⟨rfl, rfl, rfl, rfl, rfl, trivial⟩ ⟨rfl, rfl, trivial⟩)
      · refine ref_exit ?_
        refine x_then ?_
        exact brkB () (weak [0, 1] ⟨rfl, rfl, rfl, trivial⟩ ⟨rfl, rfl, trivial⟩)
    · refine n_then ?_
      refine ref_seq ?_
      refine ref_region ?_
      refine s_rd (r_cloadS Try.isAgg40 Try.sizeOf40 rfl (j := 1) rfl rfl rfl) rfl ?_
      refine s_st0 (s_cstore (out := [iv .i64 q30.By, iv .i64 q30.Kind, iv .i64 q30.Node, iv .i64 q30.Target]) Try.sizeOf40 rfl (j := 0) rfl (part_ag (ψs := [iv .i64 q30.By, iv .i64 q30.Kind, iv .i64 q30.Node, iv .i64 q30.Target]) rfl (by intro φ h; simp only [List.mem_cons, List.not_mem_nil, or_false] at h; rcases h with rfl | rfl | rfl | rfl <;> first | exact iv_at | exact bv_at | exact sv_at | exact slv_at | exact pv_at rfl)) rfl rfl rfl) (fun _ => ?_)
      refine l_nil ?_
      refine n_then ?_
      refine ref_ret ?_
      exact fin1 (.inl rfl) () [] rfl trivial rfl (rv_cell rfl (j := 0) rfl Try.isAgg40 Try.sizeOf40 rfl rfl)

end Go.Dc
