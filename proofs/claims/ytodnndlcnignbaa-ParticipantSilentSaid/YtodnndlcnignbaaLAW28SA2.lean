/- Part LAW28S.A2 of a proof that a law of the program returns true: general lemmas, no condition. -/
import Derived.Test.YtodnndlcnignbaaLAW28SA1
import Derived.Test.YtodnndlcnignbaaProg
set_option linter.unusedVariables false
set_option maxRecDepth 100000
set_option maxHeartbeats 4000000
namespace Go.Dc
open Go.Proofs
open Go.Proofs.Try (prog)

/-! deliberation/participant.Choose -/
noncomputable def participant_Choose_m (d_0 : T_api_Dialogue) (p_1 : T_api_Player) : Option (T_api_Move × Int) :=
  Option.bind (protocol_Turn_m d_0) fun behind4 =>
  bif behind4 == 0 then
    some ((T_api_Move.mk 0 0 0 0), 7)
  else
    Option.bind (participant_valid_m d_0 p_1) fun e6 =>
    bif e6 != 0 then
      some ((T_api_Move.mk 0 0 0 0), e6)
    else
      Option.bind (protocol_Legal_m d_0) fun t8 =>
      Option.bind (slices_DeleteFunc_api_Move_api_Move_m t8 p_1) fun attacks10 =>
      Option.bind (participant_scripted_m d_0 p_1 attacks10) fun t11 =>
      bif t11.2 then
        some (t11.1, 0)
      else
        bif (attacks10.length : Int) == 0 then
          some ((T_api_Move.mk behind4 4 0 0), 0)
        else
          Option.bind (participant_style_m d_0 p_1.Style) fun t15 =>
          bif t15.2.1 then
            Option.bind (slices_MinFunc_api_Move_api_Move_m attacks10) fun t17 =>
            some (t17, 0)
          else
            bif t15.2.2 then
              Option.bind (slices_MinFunc_api_Move_api_Move_1_m attacks10 t15.1) fun t18 =>
              some (t18, 0)
            else
              Option.bind (slices_MinFunc_api_Move_api_Move_2_m attacks10) fun t19 =>
              some (t19, 0)

theorem participant_Choose_ok {d_0 : T_api_Dialogue} {p_1 : T_api_Player} {r : T_api_Move × Int} (hm : participant_Choose_m d_0 p_1 = some r) :
    FnOk prog 12 [ag [iv .i64 d_0.Graph.N, slv rT_api_Pair d_0.Graph.L, iv .i64 d_0.Root, iv .i64 d_0.Limits.i0, iv .i64 d_0.Limits.i1, slv rT_api_Move d_0.Moves], ag [slv (rI .i64) p_1.Pool, slv (rI .i64) p_1.Withheld, slv rT_api_Move p_1.Script, iv .i64 p_1.Style]] [] (fun (x : Unit) => [ag [iv .i64 r.1.By, iv .i64 r.1.Kind, iv .i64 r.1.Node, iv .i64 r.1.Target], iv .i64 r.2]) (fun (x : Unit) => []) := by
  refine fn_ok (X := Unit) (fn := Try.f12) (N := 47) (m := participant_Choose_m d_0 p_1) (res := fun r x => [ag [iv .i64 r.1.By, iv .i64 r.1.Kind, iv .i64 r.1.Node, iv .i64 r.1.Target], iv .i64 r.2]) (Ω1 := fun r x => []) Try.func12 rfl rfl hm rfl (fun E hM => ?_)
  unfold participant_Choose_m
  refine ref_seq ?_
  refine ref_region ?_
  refine s_st (s_box (part_ag (ψs := [iv .i64 d_0.Graph.N, slv rT_api_Pair d_0.Graph.L, iv .i64 d_0.Root, iv .i64 d_0.Limits.i0, iv .i64 d_0.Limits.i1, slv rT_api_Move d_0.Moves]) rfl (by intro φ h; simp only [List.mem_cons, List.not_mem_nil, or_false] at h; rcases h with rfl | rfl | rfl | rfl | rfl | rfl <;> first | exact iv_at | exact bv_at | exact sv_at | exact slv_at | exact pv_at rfl))) rfl (fun b1 => ?_)
  refine s_st (s_box (part_ag (ψs := [slv (rI .i64) p_1.Pool, slv (rI .i64) p_1.Withheld, slv rT_api_Move p_1.Script, iv .i64 p_1.Style]) rfl (by intro φ h; simp only [List.mem_cons, List.not_mem_nil, or_false] at h; rcases h with rfl | rfl | rfl | rfl <;> first | exact iv_at | exact bv_at | exact sv_at | exact slv_at | exact pv_at rfl))) rfl (fun b2 => ?_)
  refine s_st (s_alloc zt_40) rfl (fun b3 => ?_)
  refine s_rd (r_assign rfl) rfl ?_
  refine l_nil ?_
  refine n_then ?_
  refine ref_seq ?_
  refine ref_region ?_
  refine s_rd (r_cloadS Try.isAgg35 Try.sizeOf35 rfl (j := 0) rfl rfl rfl) rfl ?_
  refine pull fun behind4 h_behind4 => ?_
  refine s_st (s_call (ψ := fun (_ : Unit) => iv .i64 behind4) (args := [.tmp 11]) Try.call32 rfl (protocol_Turn_ok h_behind4) ⟨arg rfl, trivial⟩ (fun _ _ _ _ h => h)) rfl (fun _ => ?_)
  refine s_rd (r_assign rfl) rfl ?_
  refine l_nil ?_
  refine b_of (nrm [oc b1 [iv .i64 d_0.Graph.N, slv rT_api_Pair d_0.Graph.L, iv .i64 d_0.Root, iv .i64 d_0.Limits.i0, iv .i64 d_0.Limits.i1, slv rT_api_Move d_0.Moves], oc b2 [slv (rI .i64) p_1.Pool, slv (rI .i64) p_1.Withheld, slv rT_api_Move p_1.Script, iv .i64 p_1.Style], oc b3 [iv .i64 0, iv .i64 0, iv .i64 0, iv .i64 0]] rfl) ?_
  refine n_then ?_
  refine ref_seq ?_
  refine ref_seq ?_
  refine ref_region ?_
  refine s_rd (r_move rfl) rfl ?_
  refine s_rd (r_eql rfl rfl) rfl ?_
  refine l_nil ?_
  refine n_then ?_
  refine ref_cond rfl (fun hb5 => ?_) (fun hb5 => ?_)
  · refine ref_seq ?_
    refine ref_region ?_
    refine s_rd (r_build (ps := []) (rs := []) st_40 zs_40 trivial rfl rfl) rfl ?_
    refine s_st0 (s_cstore (out := [iv .i64 0, iv .i64 0, iv .i64 0, iv .i64 0]) Try.sizeOf40 rfl (j := 2) rfl (part_ag (ψs := [iv .i64 0, iv .i64 0, iv .i64 0, iv .i64 0]) rfl (by intro φ h; simp only [List.mem_cons, List.not_mem_nil, or_false] at h; rcases h with rfl | rfl | rfl | rfl <;> first | exact iv_at | exact bv_at | exact sv_at | exact slv_at | exact pv_at rfl)) rfl rfl rfl) (fun _ => ?_)
    refine s_rd (r_assign rfl) rfl ?_
    refine l_nil ?_
    refine n_then ?_
    refine ref_ret ?_
    refine r_then ?_
    exact fin2 (.inl rfl) () [] rfl trivial rfl (rv_cell rfl (j := 2) rfl Try.isAgg40 Try.sizeOf40 rfl rfl) (rv_tmp rfl)
  · refine ref_skip ?_
    refine n_then ?_
    refine ref_seq ?_
    refine ref_seq ?_
    refine ref_region ?_
    refine s_rd (r_cloadS Try.isAgg35 Try.sizeOf35 rfl (j := 0) rfl rfl rfl) rfl ?_
    refine s_rd (r_cloadS Try.isAgg25 Try.sizeOf25 rfl (j := 1) rfl rfl rfl) rfl ?_
    refine pull fun e6 h_e6 => ?_
    refine s_st (s_call (ψ := fun (_ : Unit) => iv .i64 e6) (args := [.tmp 16, .tmp 17]) Try.call33 rfl (participant_valid_ok h_e6) ⟨arg rfl, arg rfl, trivial⟩ (fun _ _ _ _ h => h)) rfl (fun _ => ?_)
    refine s_rd (r_assign rfl) rfl ?_
    refine l_nil ?_
    refine n_then ?_
    refine ref_seq ?_
    refine ref_region ?_
    refine s_rd (r_move rfl) rfl ?_
    refine s_rd (r_neq rfl rfl) rfl ?_
    refine l_nil ?_
    refine n_then ?_
    refine ref_cond rfl (fun hb7 => ?_) (fun hb7 => ?_)
    · refine ref_seq ?_
      refine ref_region ?_
      refine s_rd (r_build (ps := []) (rs := []) st_40 zs_40 trivial rfl rfl) rfl ?_
      refine s_rd (r_move rfl) rfl ?_
      refine s_st0 (s_cstore (out := [iv .i64 0, iv .i64 0, iv .i64 0, iv .i64 0]) Try.sizeOf40 rfl (j := 2) rfl (part_ag (ψs := [iv .i64 0, iv .i64 0, iv .i64 0, iv .i64 0]) rfl (by intro φ h; simp only [List.mem_cons, List.not_mem_nil, or_false] at h; rcases h with rfl | rfl | rfl | rfl <;> first | exact iv_at | exact bv_at | exact sv_at | exact slv_at | exact pv_at rfl)) rfl rfl rfl) (fun _ => ?_)
      refine s_rd (r_assign rfl) rfl ?_
      refine l_nil ?_
      refine n_then ?_
      refine ref_ret ?_
      refine r_then ?_
      exact fin2 (.inl rfl) () [] rfl trivial rfl (rv_cell rfl (j := 2) rfl Try.isAgg40 Try.sizeOf40 rfl rfl) (rv_tmp rfl)
    · refine ref_skip ?_
      refine n_then ?_
      refine ref_seq ?_
      refine ref_region ?_
      refine s_rd (r_cloadS Try.isAgg35 Try.sizeOf35 rfl (j := 0) rfl rfl rfl) rfl ?_
      refine pull fun t8 h_t8 => ?_
      refine s_st (s_call (ψ := fun (x9 : (Value × List Nat)) => pv x9.1) (args := [.tmp 23]) Try.call35 rfl (protocol_Legal_ok h_t8) ⟨arg rfl, trivial⟩ (fun _ _ _ _ h => h)) rfl (fun x9 => ?_)
      refine s_rd (r_mkfn (xs := [.tmp 3]) (vs := [(ptr b2 0)]) ⟨rfl, trivial⟩) rfl ?_
      refine pull fun attacks10 h_attacks10 => ?_
      refine s_st (s_callC [3, 1] [false, true] (fun (_ : Unit) => [dead, oc b2 [slv (rI .i64) p_1.Pool, slv (rI .i64) p_1.Withheld, slv rT_api_Move p_1.Script, iv .i64 p_1.Style]]) (fun (_ : Unit) => []) (fun (_ : Unit) => slv rT_api_Move attacks10) (args := [.tmp 24, .tmp 25]) (caps := []) Try.call34 rfl (slices_DeleteFunc_api_Move_api_Move_ok h_attacks10) ⟨rfl, rfl, ⟨rfl, rfl, trivial⟩⟩ (fun _ => rfl) (fun _ => ⟨rfl, trivial⟩) (fun _ => rfl) ⟨arg rfl, arg rfl, trivial⟩ (fun _ _ _ _ h => h)) rfl (fun _ => ?_)
      refine s_rd (r_assign rfl) rfl ?_
      refine l_nil ?_
      refine n_then ?_
      refine ref_seq ?_
      refine ref_seq ?_
      refine ref_region ?_
      refine s_rd (r_cloadS Try.isAgg35 Try.sizeOf35 rfl (j := 0) rfl rfl rfl) rfl ?_
      refine s_rd (r_cloadS Try.isAgg25 Try.sizeOf25 rfl (j := 1) rfl rfl rfl) rfl ?_
      refine s_rd (r_move rfl) rfl ?_
      refine pull fun t11 h_t11 => ?_
      refine s_st (s_call (ψ := fun (_ : Unit) => tup [ag [iv .i64 t11.1.By, iv .i64 t11.1.Kind, iv .i64 t11.1.Node, iv .i64 t11.1.Target], bv t11.2]) (args := [.tmp 28, .tmp 29, .tmp 30]) Try.call38 rfl (participant_scripted_ok h_t11) ⟨arg rfl, arg rfl, arg rfl, trivial⟩ (fun _ _ _ _ h => h)) rfl (fun _ => ?_)
      refine s_rd (r_move rfl) rfl ?_
      refine s_rd (r_extract rfl rfl) rfl ?_
      refine s_rd (r_extract rfl rfl) rfl ?_
      refine s_st (s_alloc zt_40) rfl (fun b12 => ?_)
      refine s_st0 (s_cstore (out := [iv .i64 t11.1.By, iv .i64 t11.1.Kind, iv .i64 t11.1.Node, iv .i64 t11.1.Target]) Try.sizeOf40 rfl (j := 4) rfl (part_ag (ψs := [iv .i64 t11.1.By, iv .i64 t11.1.Kind, iv .i64 t11.1.Node, iv .i64 t11.1.Target]) rfl (by intro φ h; simp only [List.mem_cons, List.not_mem_nil, or_false] at h; rcases h with rfl | rfl | rfl | rfl <;> first | exact iv_at | exact bv_at | exact sv_at | exact slv_at | exact pv_at rfl)) rfl rfl rfl) (fun _ => ?_)
      refine s_rd (r_assign rfl) rfl ?_
      refine l_nil ?_
      refine b_of (nrm [oc b1 [iv .i64 d_0.Graph.N, slv rT_api_Pair d_0.Graph.L, iv .i64 d_0.Root, iv .i64 d_0.Limits.i0, iv .i64 d_0.Limits.i1, slv rT_api_Move d_0.Moves], oc b2 [slv (rI .i64) p_1.Pool, slv (rI .i64) p_1.Withheld, slv rT_api_Move p_1.Script, iv .i64 p_1.Style], oc b3 [iv .i64 0, iv .i64 0, iv .i64 0, iv .i64 0], dead, oc b12 [iv .i64 t11.1.By, iv .i64 t11.1.Kind, iv .i64 t11.1.Node, iv .i64 t11.1.Target]] rfl) ?_
      refine n_then ?_
      refine ref_seq ?_
      refine ref_region ?_
      refine s_rd (r_move rfl) rfl ?_
      refine l_nil ?_
      refine n_then ?_
      refine ref_cond rfl (fun hb13 => ?_) (fun hb13 => ?_)
      · refine ref_seq ?_
        refine ref_region ?_
        refine s_rd (r_cloadS Try.isAgg40 Try.sizeOf40 rfl (j := 4) rfl rfl rfl) rfl ?_
        refine s_st0 (s_cstore (out := [iv .i64 t11.1.By, iv .i64 t11.1.Kind, iv .i64 t11.1.Node, iv .i64 t11.1.Target]) Try.sizeOf40 rfl (j := 2) rfl (part_ag (ψs := [iv .i64 t11.1.By, iv .i64 t11.1.Kind, iv .i64 t11.1.Node, iv .i64 t11.1.Target]) rfl (by intro φ h; simp only [List.mem_cons, List.not_mem_nil, or_false] at h; rcases h with rfl | rfl | rfl | rfl <;> first | exact iv_at | exact bv_at | exact sv_at | exact slv_at | exact pv_at rfl)) rfl rfl rfl) (fun _ => ?_)
        refine s_rd (r_assign rfl) rfl ?_
        refine l_nil ?_
        refine n_then ?_
        refine ref_ret ?_
        refine r_then ?_
        exact fin2 (.inl rfl) () [] rfl trivial rfl (rv_cell rfl (j := 2) rfl Try.isAgg40 Try.sizeOf40 rfl rfl) (rv_tmp rfl)
      · refine ref_skip ?_
        refine n_then ?_
        refine ref_seq ?_
        refine ref_seq ?_
        refine ref_region ?_
        refine s_rd (r_move rfl) rfl ?_
        refine s_rd (r_len Try.underlying23 rfl) rfl ?_
        refine s_rd (r_eql rfl rfl) rfl ?_
        refine l_nil ?_
        refine n_then ?_
        refine ref_cond rfl (fun hb14 => ?_) (fun hb14 => ?_)
        · refine ref_seq ?_
          refine ref_region ?_
          refine s_rd (r_move rfl) rfl ?_
          refine s_rd (r_build (ps := [(0, .tmp 39), (1, .const (.int .i64 (4)))]) (rs := [(0, [iv .i64 behind4]), (1, [iv .i64 4])]) st_40 zs_40 ⟨rfl, (part_at rfl iv_at), ⟨rfl, (part_at rfl iv_at), trivial⟩⟩ rfl rfl) rfl ?_
          refine s_st0 (s_cstore (out := [iv .i64 behind4, iv .i64 4, iv .i64 0, iv .i64 0]) Try.sizeOf40 rfl (j := 2) rfl (part_ag (ψs := [iv .i64 behind4, iv .i64 4, iv .i64 0, iv .i64 0]) rfl (by intro φ h; simp only [List.mem_cons, List.not_mem_nil, or_false] at h; rcases h with rfl | rfl | rfl | rfl <;> first | exact iv_at | exact bv_at | exact sv_at | exact slv_at | exact pv_at rfl)) rfl rfl rfl) (fun _ => ?_)
          refine s_rd (r_assign rfl) rfl ?_
          refine l_nil ?_
          refine n_then ?_
          refine ref_ret ?_
          refine r_then ?_
          exact fin2 (.inl rfl) () [] rfl trivial rfl (rv_cell rfl (j := 2) rfl Try.isAgg40 Try.sizeOf40 rfl rfl) (rv_tmp rfl)
        · refine ref_skip ?_
          refine n_then ?_
          refine ref_seq ?_
          refine ref_region ?_
          refine s_rd (r_move rfl) rfl ?_
          refine s_rd (r_cloadS Try.isAgg35 Try.sizeOf35 rfl (j := 0) rfl rfl rfl) rfl ?_
          refine s_rd (r_faddr (fo := 3) Try.underlying25 rfl rfl Try.sizeOf3 rfl) rfl ?_
          refine s_rd (r_cload Try.isAgg3 rfl (j := 1) rfl rfl) rfl ?_
          refine pull fun t15 h_t15 => ?_
          refine s_st (s_call (ψ := fun (x16 : Nat × Nat) => pv (bif t15.2.1 then (.func (.func 69) #[] #[]) else (bif t15.2.2 then (.func (.func 71) #[] #[(ptr x16.1 0)]) else (.func (.func 72) #[] #[])))) (args := [.tmp 42, .tmp 44]) Try.call40 rfl (participant_style_ok h_t15) ⟨arg rfl, arg rfl, trivial⟩ (fun _ _ _ _ h => h)) rfl (fun x16 => ?_)
          refine b_case (t := 45) rfl (fun _ => ?_) (fun _ => ?_)
          · refine pull fun t17 h_t17 => ?_
            refine s_st (s_call (ψ := fun (_ : Unit) => ag [iv .i64 t17.By, iv .i64 t17.Kind, iv .i64 t17.Node, iv .i64 t17.Target]) (args := [.tmp 41, .tmp 45]) Try.call39 rfl (slices_MinFunc_api_Move_api_Move_ok h_t17) ⟨arg rfl, arg rfl, trivial⟩ (fun _ _ _ _ h => h)) rfl (fun _ => ?_)
            refine s_st0 (s_cstore (out := [iv .i64 t17.By, iv .i64 t17.Kind, iv .i64 t17.Node, iv .i64 t17.Target]) Try.sizeOf40 rfl (j := 2) rfl (part_ag (ψs := [iv .i64 t17.By, iv .i64 t17.Kind, iv .i64 t17.Node, iv .i64 t17.Target]) rfl (by intro φ h; simp only [List.mem_cons, List.not_mem_nil, or_false] at h; rcases h with rfl | rfl | rfl | rfl <;> first | exact iv_at | exact bv_at | exact sv_at | exact slv_at | exact pv_at rfl)) rfl rfl rfl) (fun _ => ?_)
            refine s_rd (r_assign rfl) rfl ?_
            refine l_nil ?_
            refine n_then ?_
            refine ref_ret ?_
            exact fin2 (.inl rfl) () [] rfl trivial rfl (rv_cell rfl (j := 2) rfl Try.isAgg40 Try.sizeOf40 rfl rfl) (rv_tmp rfl)
          · refine b_case (t := 45) rfl (fun _ => ?_) (fun _ => ?_)
            · refine pull fun t18 h_t18 => ?_
              refine s_st (s_callC [5, 6] [true, true] (fun (_ : Unit) => [oc x16.1 [pv (.func (.func 68) #[] #[(ptr x16.2 0)])], oc x16.2 [iv .i64 t15.1.Graph.N, slv rT_api_Pair t15.1.Graph.L, iv .i64 t15.1.Root, iv .i64 t15.1.Limits.i0, iv .i64 t15.1.Limits.i1, slv rT_api_Move t15.1.Moves]]) (fun (_ : Unit) => []) (fun (_ : Unit) => ag [iv .i64 t18.By, iv .i64 t18.Kind, iv .i64 t18.Node, iv .i64 t18.Target]) (args := [.tmp 41, .tmp 45]) (caps := []) Try.call39 rfl (slices_MinFunc_api_Move_api_Move_1_ok h_t18) ⟨rfl, rfl, ⟨rfl, rfl, trivial⟩⟩ (fun _ => rfl) (fun _ => trivial) (fun _ => rfl) ⟨arg rfl, arg rfl, trivial⟩ (fun _ _ _ _ h => h)) rfl (fun _ => ?_)
              refine s_st0 (s_cstore (out := [iv .i64 t18.By, iv .i64 t18.Kind, iv .i64 t18.Node, iv .i64 t18.Target]) Try.sizeOf40 rfl (j := 2) rfl (part_ag (ψs := [iv .i64 t18.By, iv .i64 t18.Kind, iv .i64 t18.Node, iv .i64 t18.Target]) rfl (by intro φ h; simp only [List.mem_cons, List.not_mem_nil, or_false] at h; rcases h with rfl | rfl | rfl | rfl <;> first | exact iv_at | exact bv_at | exact sv_at | exact slv_at | exact pv_at rfl)) rfl rfl rfl) (fun _ => ?_)
              refine s_rd (r_assign rfl) rfl ?_
              refine l_nil ?_
              refine n_then ?_
              refine ref_ret ?_
              exact fin2 (.inl rfl) () [] rfl trivial rfl (rv_cell rfl (j := 2) rfl Try.isAgg40 Try.sizeOf40 rfl rfl) (rv_tmp rfl)
            · refine pull fun t19 h_t19 => ?_
              refine s_st (s_call (ψ := fun (_ : Unit) => ag [iv .i64 t19.By, iv .i64 t19.Kind, iv .i64 t19.Node, iv .i64 t19.Target]) (args := [.tmp 41, .tmp 45]) Try.call39 rfl (slices_MinFunc_api_Move_api_Move_2_ok h_t19) ⟨arg rfl, arg rfl, trivial⟩ (fun _ _ _ _ h => h)) rfl (fun _ => ?_)
              refine s_st0 (s_cstore (out := [iv .i64 t19.By, iv .i64 t19.Kind, iv .i64 t19.Node, iv .i64 t19.Target]) Try.sizeOf40 rfl (j := 2) rfl (part_ag (ψs := [iv .i64 t19.By, iv .i64 t19.Kind, iv .i64 t19.Node, iv .i64 t19.Target]) rfl (by intro φ h; simp only [List.mem_cons, List.not_mem_nil, or_false] at h; rcases h with rfl | rfl | rfl | rfl <;> first | exact iv_at | exact bv_at | exact sv_at | exact slv_at | exact pv_at rfl)) rfl rfl rfl) (fun _ => ?_)
              refine s_rd (r_assign rfl) rfl ?_
              refine l_nil ?_
              refine n_then ?_
              refine ref_ret ?_
              exact fin2 (.inl rfl) () [] rfl trivial rfl (rv_cell rfl (j := 2) rfl Try.isAgg40 Try.sizeOf40 rfl rfl) (rv_tmp rfl)

/-! deliberation/participant.Run -/
noncomputable def participant_Run_l1 (d_0 : T_api_Dialogue) (proponent_1 : T_api_Player) (opponent_2 : T_api_Player) (s13 : Int) : Option (Sum ((Sum (T_api_Dialogue × Int) (Unit))) (Int)) :=
  bif decide (s13 < 2) then
    Option.bind (idxM [proponent_1, opponent_2] s13) fun t16 =>
    Option.bind (participant_valid_m d_0 t16) fun e18 =>
    bif e18 != 0 then
      some (Sum.inl (Sum.inl ((T_api_Dialogue.mk (T_api_Graph.mk 0 []) 0 (T_arr2_3.mk 0 0) []), e18)))
    else
      some (Sum.inr (iadd .i64 s13 1))
  else
    some (Sum.inl (Sum.inr ()))

noncomputable def participant_Run_l2 (proponent_1 : T_api_Player) (opponent_2 : T_api_Player) (s48 : T_api_Dialogue) : Option (Sum (T_api_Dialogue × Int) (T_api_Dialogue)) :=
  Option.bind (protocol_Turn_m s48) fun turn50 =>
  bif turn50 == 0 then
    some (Sum.inl (s48, 0))
  else
    Option.bind (idxM [proponent_1, opponent_2] (isub .i64 turn50 1)) fun t53 =>
    Option.bind (participant_Choose_m s48 t53) fun t54 =>
    bif t54.2 != 0 then
      some (Sum.inl ((T_api_Dialogue.mk (T_api_Graph.mk 0 []) 0 (T_arr2_3.mk 0 0) []), t54.2))
    else
      Option.bind (protocol_Apply_m s48 t54.1) fun t57 =>
      bif t57.2 != 0 then
        some (Sum.inl ((T_api_Dialogue.mk (T_api_Graph.mk 0 []) 0 (T_arr2_3.mk 0 0) []), t57.2))
      else
        some (Sum.inr t57.1)

noncomputable def participant_Run_m (d_0 : T_api_Dialogue) (proponent_1 : T_api_Player) (opponent_2 : T_api_Player) : Option (T_api_Dialogue × Int) :=
  Option.bind (loopC (participant_Run_l1 d_0 proponent_1 opponent_2) 0) (sumK (fun a : T_api_Dialogue × Int => some a) fun q20 : Unit =>
    Option.bind (slices_Clone_api_Pair_api_Pair_m d_0.Graph.L) fun t22 =>
    Option.bind (slices_Clone_api_Move_api_Move_m d_0.Moves) fun t24 =>
    Option.bind (loopC (participant_Run_l2 proponent_1 opponent_2) (T_api_Dialogue.mk (T_api_Graph.mk d_0.Graph.N t22) d_0.Root d_0.Limits t24)) (fun a : T_api_Dialogue × Int => some a))

theorem participant_Run_ok {d_0 : T_api_Dialogue} {proponent_1 : T_api_Player} {opponent_2 : T_api_Player} {r : T_api_Dialogue × Int} (hm : participant_Run_m d_0 proponent_1 opponent_2 = some r) :
    FnOk prog 14 [ag [iv .i64 d_0.Graph.N, slv rT_api_Pair d_0.Graph.L, iv .i64 d_0.Root, iv .i64 d_0.Limits.i0, iv .i64 d_0.Limits.i1, slv rT_api_Move d_0.Moves], ag [slv (rI .i64) proponent_1.Pool, slv (rI .i64) proponent_1.Withheld, slv rT_api_Move proponent_1.Script, iv .i64 proponent_1.Style], ag [slv (rI .i64) opponent_2.Pool, slv (rI .i64) opponent_2.Withheld, slv rT_api_Move opponent_2.Script, iv .i64 opponent_2.Style]] [] (fun (x : Unit) => [ag [iv .i64 r.1.Graph.N, slv rT_api_Pair r.1.Graph.L, iv .i64 r.1.Root, iv .i64 r.1.Limits.i0, iv .i64 r.1.Limits.i1, slv rT_api_Move r.1.Moves], iv .i64 r.2]) (fun (x : Unit) => []) := by
  refine fn_ok (X := Unit) (fn := Try.f14) (N := 68) (m := participant_Run_m d_0 proponent_1 opponent_2) (res := fun r x => [ag [iv .i64 r.1.Graph.N, slv rT_api_Pair r.1.Graph.L, iv .i64 r.1.Root, iv .i64 r.1.Limits.i0, iv .i64 r.1.Limits.i1, slv rT_api_Move r.1.Moves], iv .i64 r.2]) (Ω1 := fun r x => []) Try.func14 rfl rfl hm rfl (fun E hM => ?_)
  unfold participant_Run_m
  refine ref_seq ?_
  refine ref_region ?_
  refine s_st (s_box (part_ag (ψs := [iv .i64 d_0.Graph.N, slv rT_api_Pair d_0.Graph.L, iv .i64 d_0.Root, iv .i64 d_0.Limits.i0, iv .i64 d_0.Limits.i1, slv rT_api_Move d_0.Moves]) rfl (by intro φ h; simp only [List.mem_cons, List.not_mem_nil, or_false] at h; rcases h with rfl | rfl | rfl | rfl | rfl | rfl <;> first | exact iv_at | exact bv_at | exact sv_at | exact slv_at | exact pv_at rfl))) rfl (fun b1 => ?_)
  refine s_st (s_box (part_ag (ψs := [slv (rI .i64) proponent_1.Pool, slv (rI .i64) proponent_1.Withheld, slv rT_api_Move proponent_1.Script, iv .i64 proponent_1.Style]) rfl (by intro φ h; simp only [List.mem_cons, List.not_mem_nil, or_false] at h; rcases h with rfl | rfl | rfl | rfl <;> first | exact iv_at | exact bv_at | exact sv_at | exact slv_at | exact pv_at rfl))) rfl (fun b2 => ?_)
  refine s_st (s_box (part_ag (ψs := [slv (rI .i64) opponent_2.Pool, slv (rI .i64) opponent_2.Withheld, slv rT_api_Move opponent_2.Script, iv .i64 opponent_2.Style]) rfl (by intro φ h; simp only [List.mem_cons, List.not_mem_nil, or_false] at h; rcases h with rfl | rfl | rfl | rfl <;> first | exact iv_at | exact bv_at | exact sv_at | exact slv_at | exact pv_at rfl))) rfl (fun b3 => ?_)
  refine s_st (s_alloc zt_35) rfl (fun b4 => ?_)
  refine s_rd (r_assign rfl) rfl ?_
  refine l_nil ?_
  refine b_of (nrm [oc b1 [iv .i64 d_0.Graph.N, slv rT_api_Pair d_0.Graph.L, iv .i64 d_0.Root, iv .i64 d_0.Limits.i0, iv .i64 d_0.Limits.i1, slv rT_api_Move d_0.Moves], oc b2 [slv (rI .i64) proponent_1.Pool, slv (rI .i64) proponent_1.Withheld, slv rT_api_Move proponent_1.Script, iv .i64 proponent_1.Style], oc b3 [slv (rI .i64) opponent_2.Pool, slv (rI .i64) opponent_2.Withheld, slv rT_api_Move opponent_2.Script, iv .i64 opponent_2.Style], oc b4 [iv .i64 0, pv (.slice none 0 0), iv .i64 0, iv .i64 0, iv .i64 0, pv (.slice none 0 0)]] rfl) ?_
  refine n_then ?_
  refine ref_seq ?_
  refine ref_region ?_
  refine s_rd (r_cloadS Try.isAgg25 Try.sizeOf25 rfl (j := 1) rfl rfl rfl) rfl ?_
  refine s_rd (r_cloadS Try.isAgg25 Try.sizeOf25 rfl (j := 2) rfl rfl rfl) rfl ?_
  refine s_rd (r_buildA (ps := [(0, .tmp 15), (1, .tmp 16)]) (rs := [(0, [slv (rI .i64) proponent_1.Pool, slv (rI .i64) proponent_1.Withheld, slv rT_api_Move proponent_1.Script, iv .i64 proponent_1.Style]), (1, [slv (rI .i64) opponent_2.Pool, slv (rI .i64) opponent_2.Withheld, slv rT_api_Move opponent_2.Script, iv .i64 opponent_2.Style])]) (sz := 4) Try.underlying44 Try.sizeOf25 ⟨_, _, Try.type44, rfl⟩ zs_44 ⟨rfl, (part_ag (ψs := [slv (rI .i64) proponent_1.Pool, slv (rI .i64) proponent_1.Withheld, slv rT_api_Move proponent_1.Script, iv .i64 proponent_1.Style]) rfl (by intro φ h; simp only [List.mem_cons, List.not_mem_nil, or_false] at h; rcases h with rfl | rfl | rfl | rfl <;> first | exact iv_at | exact bv_at | exact sv_at | exact slv_at | exact pv_at rfl)), ⟨rfl, (part_ag (ψs := [slv (rI .i64) opponent_2.Pool, slv (rI .i64) opponent_2.Withheld, slv rT_api_Move opponent_2.Script, iv .i64 opponent_2.Style]) rfl (by intro φ h; simp only [List.mem_cons, List.not_mem_nil, or_false] at h; rcases h with rfl | rfl | rfl | rfl <;> first | exact iv_at | exact bv_at | exact sv_at | exact slv_at | exact pv_at rfl)), trivial⟩⟩ rfl rfl) rfl ?_
  refine s_st (s_alloc zt_44) rfl (fun b5 => ?_)
  refine s_st0 (s_cstore (out := [slv (rI .i64) proponent_1.Pool, slv (rI .i64) proponent_1.Withheld, slv rT_api_Move proponent_1.Script, iv .i64 proponent_1.Style, slv (rI .i64) opponent_2.Pool, slv (rI .i64) opponent_2.Withheld, slv rT_api_Move opponent_2.Script, iv .i64 opponent_2.Style]) Try.sizeOf44 rfl (j := 4) rfl (part_ag (ψs := [slv (rI .i64) proponent_1.Pool, slv (rI .i64) proponent_1.Withheld, slv rT_api_Move proponent_1.Script, iv .i64 proponent_1.Style, slv (rI .i64) opponent_2.Pool, slv (rI .i64) opponent_2.Withheld, slv rT_api_Move opponent_2.Script, iv .i64 opponent_2.Style]) rfl (by intro φ h; simp only [List.mem_cons, List.not_mem_nil, or_false] at h; rcases h with rfl | rfl | rfl | rfl | rfl | rfl | rfl | rfl <;> first | exact iv_at | exact bv_at | exact sv_at | exact slv_at | exact pv_at rfl)) rfl rfl rfl) (fun _ => ?_)
  refine l_nil ?_
  refine n_then ?_
  refine ref_seq ?_
  refine ref_seq ?_
  refine ref_region ?_
  refine s_rd (r_cloadS Try.isAgg44 Try.sizeOf44 rfl (j := 4) rfl rfl rfl) rfl ?_
  refine s_rd (r_move rfl) rfl ?_
  refine l_nil ?_
  refine n_then ?_
  refine ref_loopX (f := (participant_Run_l1 d_0 proponent_1 opponent_2)) (Γl := (fun (s13 : Int) (x14 : Unit) => [(3, pv (ptr b1 0)), (6, pv (ptr b4 0)), (8, pv (ptr b5 0)), (18, ag [slv (rI .i64) proponent_1.Pool, slv (rI .i64) proponent_1.Withheld, slv rT_api_Move proponent_1.Script, iv .i64 proponent_1.Style, slv (rI .i64) opponent_2.Pool, slv (rI .i64) opponent_2.Withheld, slv rT_api_Move opponent_2.Script, iv .i64 opponent_2.Style]), (19, iv .i64 s13)])) (Ωl := (fun (s13 : Int) (x14 : Unit) => [oc b1 [iv .i64 d_0.Graph.N, slv rT_api_Pair d_0.Graph.L, iv .i64 d_0.Root, iv .i64 d_0.Limits.i0, iv .i64 d_0.Limits.i1, slv rT_api_Move d_0.Moves], oc b4 [iv .i64 0, pv (.slice none 0 0), iv .i64 0, iv .i64 0, iv .i64 0, pv (.slice none 0 0)], oc b5 [slv (rI .i64) proponent_1.Pool, slv (rI .i64) proponent_1.Withheld, slv rT_api_Move proponent_1.Script, iv .i64 proponent_1.Style, slv (rI .i64) opponent_2.Pool, slv (rI .i64) opponent_2.Withheld, slv rT_api_Move opponent_2.Script, iv .i64 opponent_2.Style]])) (Γb := (fun (q20 : Unit) (y21 : Unit) => [(3, pv (ptr b1 0)), (6, pv (ptr b4 0)), (8, pv (ptr b5 0))])) (Ωb := (fun (q20 : Unit) (y21 : Unit) => [oc b1 [iv .i64 d_0.Graph.N, slv rT_api_Pair d_0.Graph.L, iv .i64 d_0.Root, iv .i64 d_0.Limits.i0, iv .i64 d_0.Limits.i1, slv rT_api_Move d_0.Moves], oc b4 [iv .i64 0, pv (.slice none 0 0), iv .i64 0, iv .i64 0, iv .i64 0, pv (.slice none 0 0)], oc b5 [slv (rI .i64) proponent_1.Pool, slv (rI .i64) proponent_1.Withheld, slv rT_api_Move proponent_1.Script, iv .i64 proponent_1.Style, slv (rI .i64) opponent_2.Pool, slv (rI .i64) opponent_2.Withheld, slv rT_api_Move opponent_2.Script, iv .i64 opponent_2.Style]])) (kr := (fun a : T_api_Dialogue × Int => some a)) 0 () (weak [0, 3, 4] ⟨rfl, rfl, rfl, rfl, rfl, trivial⟩ ⟨rfl, rfl, rfl, trivial⟩) (fun s13 x14 => ?_) (fun q20 y21 => ?_)
  · unfold participant_Run_l1
    refine ref_seq ?_
    refine ref_region ?_
    refine s_rd (r_lss rfl rfl) rfl ?_
    refine l_nil ?_
    refine n_then ?_
    refine ref_seq ?_
    refine ref_cond rfl (fun hb15 => ?_) (fun hb15 => ?_)
    · refine ref_skip ?_
      refine n_then ?_
      refine ref_seq ?_
      refine ref_block ?_
      refine ref_seq ?_
      refine ref_region ?_
      refine pull fun t16 h_t16 => ?_
      refine s_rd (r_aindex (ρ := rT_api_Player) h_t16 Try.underlying44 el_25 rfl rfl rfl rfl rfl) rfl ?_
      refine s_st (s_alloc zt_25) rfl (fun b17 => ?_)
      refine s_st0 (s_cstore (out := [slv (rI .i64) t16.Pool, slv (rI .i64) t16.Withheld, slv rT_api_Move t16.Script, iv .i64 t16.Style]) Try.sizeOf25 rfl (j := 3) rfl (part_ag (ψs := [slv (rI .i64) t16.Pool, slv (rI .i64) t16.Withheld, slv rT_api_Move t16.Script, iv .i64 t16.Style]) rfl (by intro φ h; simp only [List.mem_cons, List.not_mem_nil, or_false] at h; rcases h with rfl | rfl | rfl | rfl <;> first | exact iv_at | exact bv_at | exact sv_at | exact slv_at | exact pv_at rfl)) rfl rfl rfl) (fun _ => ?_)
      refine l_nil ?_
      refine b_of (nrm [oc b1 [iv .i64 d_0.Graph.N, slv rT_api_Pair d_0.Graph.L, iv .i64 d_0.Root, iv .i64 d_0.Limits.i0, iv .i64 d_0.Limits.i1, slv rT_api_Move d_0.Moves], oc b4 [iv .i64 0, pv (.slice none 0 0), iv .i64 0, iv .i64 0, iv .i64 0, pv (.slice none 0 0)], oc b5 [slv (rI .i64) proponent_1.Pool, slv (rI .i64) proponent_1.Withheld, slv rT_api_Move proponent_1.Script, iv .i64 proponent_1.Style, slv (rI .i64) opponent_2.Pool, slv (rI .i64) opponent_2.Withheld, slv rT_api_Move opponent_2.Script, iv .i64 opponent_2.Style], oc b17 [slv (rI .i64) t16.Pool, slv (rI .i64) t16.Withheld, slv rT_api_Move t16.Script, iv .i64 t16.Style]] rfl) ?_
      refine n_then ?_
      refine ref_seq ?_
      refine ref_region ?_
      refine s_rd (r_cloadS Try.isAgg35 Try.sizeOf35 rfl (j := 0) rfl rfl rfl) rfl ?_
      refine s_rd (r_cloadS Try.isAgg25 Try.sizeOf25 rfl (j := 3) rfl rfl rfl) rfl ?_
      refine pull fun e18 h_e18 => ?_
      refine s_st (s_call (ψ := fun (_ : Unit) => iv .i64 e18) (args := [.tmp 22, .tmp 23]) Try.call33 rfl (participant_valid_ok h_e18) ⟨arg rfl, arg rfl, trivial⟩ (fun _ _ _ _ h => h)) rfl (fun _ => ?_)
      refine s_rd (r_assign rfl) rfl ?_
      refine l_nil ?_
      refine n_then ?_
      refine ref_seq ?_
      refine ref_region ?_
      refine s_rd (r_move rfl) rfl ?_
      refine s_rd (r_neq rfl rfl) rfl ?_
      refine l_nil ?_
      refine n_then ?_
      refine ref_cond rfl (fun hb19 => ?_) (fun hb19 => ?_)
      · refine ref_seq ?_
        refine ref_region ?_
        refine s_rd (r_build (ps := []) (rs := []) st_35 zs_35 trivial rfl rfl) rfl ?_
        refine s_rd (r_move rfl) rfl ?_
        refine s_st0 (s_cstore (out := [iv .i64 0, pv (.slice none 0 0), iv .i64 0, iv .i64 0, iv .i64 0, pv (.slice none 0 0)]) Try.sizeOf35 rfl (j := 1) rfl (part_agO (ψs := [iv .i64 0, pv (.slice none 0 0), iv .i64 0, iv .i64 0, iv .i64 0, pv (.slice none 0 0)]) rfl ⟨.inl iv_at, .inl (pv_at rfl), .inl iv_at, .inl iv_at, .inl iv_at, .inl (pv_at rfl), trivial⟩) rfl rfl rfl) (fun _ => ?_)
        refine s_rd (r_assign rfl) rfl ?_
        refine l_nil ?_
        refine n_then ?_
        refine ref_ret ?_
        refine r_block ?_
        refine r_then ?_
        refine retX ?_
        refine r_block ?_
        refine r_then ?_
        refine b_of (ocW 1 [iv .i64 0, slv rT_api_Pair [], iv .i64 0, iv .i64 0, iv .i64 0, slv rT_api_Move []] rfl ⟨imp_rfl, nil_sl, imp_rfl, imp_rfl, imp_rfl, nil_sl, trivial⟩) ?_
        exact fin2 (.inl rfl) () [] rfl trivial rfl (rv_cell rfl (j := 1) rfl Try.isAgg35 Try.sizeOf35 rfl rfl) (rv_tmp rfl)
      · refine ref_skip ?_
        refine n_block ?_
        refine n_then ?_
        refine ref_region ?_
        refine s_rd (r_add rfl rfl) rfl ?_
        refine s_rd (r_move rfl) rfl ?_
        refine l_nil ?_
        exact goX () (weak [0, 1, 2] ⟨rfl, rfl, rfl, rfl, rfl, trivial⟩ ⟨rfl, rfl, rfl, trivial⟩)
    · refine ref_exit ?_
      refine x_then ?_
      exact brkX () (weak [0, 1, 2] ⟨rfl, rfl, rfl, trivial⟩ ⟨rfl, rfl, rfl, trivial⟩)
  · refine n_then ?_
    refine ref_seq ?_
    refine ref_draw [0, 1, 2, 4, 5, 7, 8, 10] rfl (by kernel_rfl) (fun hok => ?_)
    refine a_rd (i := 0) hok rfl (by kernel_rfl) rfl (r_faddr (fo := 0) Try.underlying35 rfl rfl Try.sizeOf28 rfl) rfl ?_
    refine a_rd (i := 1) hok rfl (by kernel_rfl) rfl (r_faddr (fo := 1) Try.underlying28 rfl rfl Try.sizeOf26 rfl) rfl ?_
    refine a_rd (i := 2) hok rfl (by kernel_rfl) rfl (r_cload Try.isAgg26 rfl (j := 0) rfl rfl) rfl ?_
    refine a_rd (i := 4) hok rfl (by kernel_rfl) rfl (r_faddr (fo := 5) Try.underlying35 rfl rfl Try.sizeOf23 rfl) rfl ?_
    refine a_rd (i := 5) hok rfl (by kernel_rfl) rfl (r_cload Try.isAgg23 rfl (j := 0) rfl rfl) rfl ?_
    refine pull fun t22 h_t22 => ?_
    refine a_next hok 3 [] (by kernel_rfl) ?_ trivial
    refine a_st (i := 3) hok rfl rfl (s_call (ψ := fun (x23 : (Value × List Nat)) => pv x23.1) (args := [.tmp 32]) Try.call45 rfl (slices_Clone_api_Pair_api_Pair_ok h_t22) ⟨arg rfl, trivial⟩ (fun _ _ _ _ h => h)) (by intro _ h; cases h; rfl) (fun _ => ⟨⟨⟨rfl, rfl⟩, trivial⟩, ⟨trivial, ⟨trivial, ⟨trivial, ⟨trivial, trivial⟩⟩⟩⟩⟩) (fun x23 => ?_)
    refine a_rd (i := 7) hok rfl (by kernel_rfl) rfl (r_faddr (fo := 0) Try.underlying35 rfl rfl Try.sizeOf28 rfl) rfl ?_
    refine a_rd (i := 8) hok rfl (by kernel_rfl) rfl (r_faddr (fo := 1) Try.underlying28 rfl rfl Try.sizeOf26 rfl) rfl ?_
    refine pull fun t24 h_t24 => ?_
    refine a_next hok 6 [] (by kernel_rfl) ?_ trivial
    refine a_st (i := 6) hok rfl rfl (s_call (ψ := fun (x25 : (Value × List Nat)) => pv x25.1) (args := [.tmp 35]) Try.call46 rfl (slices_Clone_api_Move_api_Move_ok h_t24) ⟨arg rfl, trivial⟩ (fun _ _ _ _ h => h)) (by intro _ h; cases h; rfl) (fun _ => ⟨trivial, ⟨trivial, ⟨trivial, ⟨trivial, ⟨⟨⟨rfl, rfl⟩, trivial⟩, ⟨trivial, ⟨trivial, trivial⟩⟩⟩⟩⟩⟩⟩) (fun x25 => ?_)
    refine a_next hok 9 [] (by kernel_rfl) ?_ trivial
    refine a_st (i := 9) hok rfl rfl (s_cstore (out := [iv .i64 d_0.Graph.N, pv x23.1, iv .i64 d_0.Root, iv .i64 d_0.Limits.i0, iv .i64 d_0.Limits.i1, slv rT_api_Move d_0.Moves]) Try.sizeOf26 rfl (j := 0) rfl (part_own rfl (j := 3) rfl) rfl rfl rfl) (by intro _ h; cases h) (fun _ => ⟨trivial, ⟨trivial, ⟨trivial, ⟨trivial, ⟨trivial, ⟨trivial, ⟨trivial, trivial⟩⟩⟩⟩⟩⟩⟩) (fun _ => ?_)
    refine a_rd (i := 10) hok rfl (by kernel_rfl) rfl (r_faddr (fo := 5) Try.underlying35 rfl rfl Try.sizeOf23 rfl) rfl ?_
    refine a_next hok 11 [] (by kernel_rfl) ?_ trivial
    refine a_st (i := 11) hok rfl rfl (s_cstore (out := [iv .i64 d_0.Graph.N, pv x23.1, iv .i64 d_0.Root, iv .i64 d_0.Limits.i0, iv .i64 d_0.Limits.i1, pv x25.1]) Try.sizeOf23 rfl (j := 0) rfl (part_own rfl (j := 4) rfl) rfl rfl rfl) (by intro _ h; cases h) (fun _ => ⟨trivial, ⟨trivial, ⟨trivial, ⟨trivial, ⟨trivial, ⟨trivial, ⟨trivial, ⟨trivial, trivial⟩⟩⟩⟩⟩⟩⟩⟩) (fun _ => ?_)
    refine a_fin hok (by kernel_rfl) ?_
    refine b_of (nrm [oc b1 [iv .i64 d_0.Graph.N, pv x23.1, iv .i64 d_0.Root, iv .i64 d_0.Limits.i0, iv .i64 d_0.Limits.i1, pv x25.1], oc b4 [iv .i64 0, pv (.slice none 0 0), iv .i64 0, iv .i64 0, iv .i64 0, pv (.slice none 0 0)], oc b5 [slv (rI .i64) proponent_1.Pool, slv (rI .i64) proponent_1.Withheld, slv rT_api_Move proponent_1.Script, iv .i64 proponent_1.Style, slv (rI .i64) opponent_2.Pool, slv (rI .i64) opponent_2.Withheld, slv rT_api_Move opponent_2.Script, iv .i64 opponent_2.Style], oa rT_api_Pair x23.1 x23.2 t22, oa rT_api_Move x25.1 x25.2 t24] rfl) ?_
    refine n_then ?_
    refine b_of (frzGL [(33, slv rT_api_Pair t22)] [(0, b1, [iv .i64 d_0.Graph.N, slv rT_api_Pair t22, iv .i64 d_0.Root, iv .i64 d_0.Limits.i0, iv .i64 d_0.Limits.i1, pv x25.1])] (j := 3) rfl ⟨⟨_, rfl, .inl ⟨rfl, rfl⟩⟩, trivial⟩ ⟨⟨_, rfl, ⟨.inl rfl, .inr ⟨rfl, rfl⟩, .inl rfl, .inl rfl, .inl rfl, .inl rfl, trivial⟩⟩, trivial⟩) ?_
    refine b_of (frzGL [(36, slv rT_api_Move t24)] [(0, b1, [iv .i64 d_0.Graph.N, slv rT_api_Pair t22, iv .i64 d_0.Root, iv .i64 d_0.Limits.i0, iv .i64 d_0.Limits.i1, slv rT_api_Move t24])] (j := 4) rfl ⟨⟨_, rfl, .inl ⟨rfl, rfl⟩⟩, trivial⟩ ⟨⟨_, rfl, ⟨.inl rfl, .inl rfl, .inl rfl, .inl rfl, .inl rfl, .inr ⟨rfl, rfl⟩, trivial⟩⟩, trivial⟩) ?_
    refine ref_block (ref_loop (f := (participant_Run_l2 proponent_1 opponent_2)) (Γl := (fun (s48 : T_api_Dialogue) (x49 : Unit) => [(3, pv (ptr b1 0)), (6, pv (ptr b4 0)), (8, pv (ptr b5 0))])) (Ωl := (fun (s48 : T_api_Dialogue) (x49 : Unit) => [oc b1 [iv .i64 s48.Graph.N, slv rT_api_Pair s48.Graph.L, iv .i64 s48.Root, iv .i64 s48.Limits.i0, iv .i64 s48.Limits.i1, slv rT_api_Move s48.Moves], oc b4 [iv .i64 0, pv (.slice none 0 0), iv .i64 0, iv .i64 0, iv .i64 0, pv (.slice none 0 0)], oc b5 [slv (rI .i64) proponent_1.Pool, slv (rI .i64) proponent_1.Withheld, slv rT_api_Move proponent_1.Script, iv .i64 proponent_1.Style, slv (rI .i64) opponent_2.Pool, slv (rI .i64) opponent_2.Withheld, slv rT_api_Move opponent_2.Script, iv .i64 opponent_2.Style]])) (k := (fun a : T_api_Dialogue × Int => some a)) (T_api_Dialogue.mk (T_api_Graph.mk d_0.Graph.N t22) d_0.Root d_0.Limits t24) () (weak [0, 1, 2] ⟨rfl, rfl, rfl, trivial⟩ ⟨rfl, rfl, rfl, trivial⟩) (fun s48 x49 => ?_))
    · unfold participant_Run_l2
      refine ref_block ?_
      refine ref_seq ?_
      refine ref_region ?_
      refine s_rd (r_cloadS Try.isAgg35 Try.sizeOf35 rfl (j := 0) rfl rfl rfl) rfl ?_
      refine pull fun turn50 h_turn50 => ?_
      refine s_st (s_call (ψ := fun (_ : Unit) => iv .i64 turn50) (args := [.tmp 40]) Try.call32 rfl (protocol_Turn_ok h_turn50) ⟨arg rfl, trivial⟩ (fun _ _ _ _ h => h)) rfl (fun _ => ?_)
      refine s_rd (r_assign rfl) rfl ?_
      refine l_nil ?_
      refine n_then ?_
      refine ref_seq ?_
      refine ref_seq ?_
      refine ref_region ?_
      refine s_rd (r_move rfl) rfl ?_
      refine s_rd (r_eql rfl rfl) rfl ?_
      refine l_nil ?_
      refine n_then ?_
      refine ref_cond rfl (fun hb51 => ?_) (fun hb51 => ?_)
      · refine ref_seq ?_
        refine ref_region ?_
        refine s_rd (r_cloadS Try.isAgg35 Try.sizeOf35 rfl (j := 0) rfl rfl rfl) rfl ?_
        refine s_st0 (s_cstore (out := [iv .i64 s48.Graph.N, slv rT_api_Pair s48.Graph.L, iv .i64 s48.Root, iv .i64 s48.Limits.i0, iv .i64 s48.Limits.i1, slv rT_api_Move s48.Moves]) Try.sizeOf35 rfl (j := 1) rfl (part_ag (ψs := [iv .i64 s48.Graph.N, slv rT_api_Pair s48.Graph.L, iv .i64 s48.Root, iv .i64 s48.Limits.i0, iv .i64 s48.Limits.i1, slv rT_api_Move s48.Moves]) rfl (by intro φ h; simp only [List.mem_cons, List.not_mem_nil, or_false] at h; rcases h with rfl | rfl | rfl | rfl | rfl | rfl <;> first | exact iv_at | exact bv_at | exact sv_at | exact slv_at | exact pv_at rfl)) rfl rfl rfl) (fun _ => ?_)
        refine s_rd (r_assign rfl) rfl ?_
        refine l_nil ?_
        refine n_then ?_
        refine ref_ret ?_
        refine r_then ?_
        refine r_block ?_
        refine r_loop ?_
        refine r_block ?_
        exact fin2 (.inl rfl) () [] rfl trivial rfl (rv_cell rfl (j := 1) rfl Try.isAgg35 Try.sizeOf35 rfl rfl) (rv_tmp rfl)
      · refine ref_skip ?_
        refine n_then ?_
        refine ref_seq ?_
        refine pull fun t53 h_t53 => ?_
        refine pull fun t54 h_t54 => ?_
        refine ref_drawI 1 [⟨[], [], [], [0], [], fun us u => ag [iv .i64 s48.Graph.N, slv rT_api_Pair s48.Graph.L, iv .i64 s48.Root, iv .i64 s48.Limits.i0, iv .i64 s48.Limits.i1, slv rT_api_Move s48.Moves], fun us u => []⟩, ⟨[], [], [], [], [], fun us u => iv .i64 turn50, fun us u => []⟩, ⟨[1], [], [], [], [], fun us u => iv .i64 (isub .i64 turn50 1), fun us u => []⟩, ⟨[1, 2], [], [], [], [], fun us u => pv (ptr b5 (0 + Int.toNat (isub .i64 turn50 1) * (rT_api_Player).size)), fun us u => []⟩, ⟨[1, 2, 3], [], [], [2], [], fun us u => ag [slv (rI .i64) t53.Pool, slv (rI .i64) t53.Withheld, slv rT_api_Move t53.Script, iv .i64 t53.Style], fun us u => []⟩, ⟨[0, 1, 2, 3, 4], [], [], [], [], fun us u => tup [ag [iv .i64 t54.1.By, iv .i64 t54.1.Kind, iv .i64 t54.1.Node, iv .i64 t54.1.Target], iv .i64 t54.2], fun us u => []⟩, ⟨[0, 1, 2, 3, 4, 5], [], [], [], [], fun us u => tup [ag [iv .i64 t54.1.By, iv .i64 t54.1.Kind, iv .i64 t54.1.Node, iv .i64 t54.1.Target], iv .i64 t54.2], fun us u => []⟩, ⟨[0, 1, 2, 3, 4, 5, 6], [], [], [], [], fun us u => ag [iv .i64 t54.1.By, iv .i64 t54.1.Kind, iv .i64 t54.1.Node, iv .i64 t54.1.Target], fun us u => []⟩, ⟨[0, 1, 2, 3, 4, 5, 6], [], [], [], [], fun us u => iv .i64 t54.2, fun us u => []⟩, ⟨[], [], [3], [3], [], fun us u => pv (ptr u.Nn 0), fun us u => [oc u.Nn [iv .i64 0, iv .i64 0, iv .i64 0, iv .i64 0]]⟩, ⟨[0, 1, 2, 3, 4, 5, 6, 7, 9], [9], [3], [3], [3], fun us u => pv undef, fun us u => [oc (us.getD 0 .none).Nn [iv .i64 t54.1.By, iv .i64 t54.1.Kind, iv .i64 t54.1.Node, iv .i64 t54.1.Target]]⟩, ⟨[0, 1, 2, 3, 4, 5, 6, 7, 8, 9, 10], [], [], [], [], fun us u => iv .i64 t54.2, fun us u => []⟩] (fun χ52 => [(3, pv (ptr b1 0)), (6, pv (ptr b4 0)), (8, pv (ptr b5 0)), (13, pv (ptr (χ52 9).Nn 0)), (14, iv .i64 t54.2)]) (fun χ52 => [oc b1 [iv .i64 s48.Graph.N, slv rT_api_Pair s48.Graph.L, iv .i64 s48.Root, iv .i64 s48.Limits.i0, iv .i64 s48.Limits.i1, slv rT_api_Move s48.Moves], oc b4 [iv .i64 0, pv (.slice none 0 0), iv .i64 0, iv .i64 0, iv .i64 0, pv (.slice none 0 0)], oc b5 [slv (rI .i64) proponent_1.Pool, slv (rI .i64) proponent_1.Withheld, slv rT_api_Move proponent_1.Script, iv .i64 proponent_1.Style, slv (rI .i64) opponent_2.Pool, slv (rI .i64) opponent_2.Withheld, slv rT_api_Move opponent_2.Script, iv .i64 opponent_2.Style], oc (χ52 9).Nn [iv .i64 t54.1.By, iv .i64 t54.1.Kind, iv .i64 t54.1.Node, iv .i64 t54.1.Target]]) rfl (by kernel_rfl) ⟨fun χ52 Ω ⟨h0, _⟩ => St.toR (r_cloadS Try.isAgg35 Try.sizeOf35 rfl (j := 0) h0 rfl rfl) (fun _ => rfl) (fun _ => rfl), (by intro _ h; cases h; rfl), ⟨fun χ52 Ω _ => St.toR (r_move rfl) (fun _ => rfl) (fun _ => rfl), (by intro _ h; cases h; rfl), ⟨fun χ52 Ω _ => St.toR (r_sub rfl rfl) (fun _ => rfl) (fun _ => rfl), (by intro _ h; cases h; rfl), ⟨fun χ52 Ω _ => St.toR (r_aaddrS (ρ := rT_api_Player) h_t53 rfl rfl Try.underlying44 Try.sizeOf25 rfl rfl) (fun _ => rfl) (fun _ => rfl), (by intro _ h; cases h; rfl), ⟨fun χ52 Ω ⟨h2, _⟩ => St.toR (r_acloadS (ρ := rT_api_Player) (off := 0) h_t53 el_25 rfl (j := 2) h2 rfl rfl) (fun _ => rfl) (fun _ => rfl), (by intro _ h; cases h; rfl), ⟨fun χ52 Ω _ => St.to XU.U XU.hU (St.placeL [] (s_call (ψ := fun (_ : Unit) => tup [ag [iv .i64 t54.1.By, iv .i64 t54.1.Kind, iv .i64 t54.1.Node, iv .i64 t54.1.Target], iv .i64 t54.2]) (args := [.tmp 46, .tmp 50]) Try.call12 rfl (participant_Choose_ok h_t54) ⟨arg rfl, arg rfl, trivial⟩ (fun _ _ _ _ h => h)) (fun _ => rfl) (fun _ => trivial)) (fun _ => rfl) (fun _ => rfl), (by intro _ h; cases h; rfl), ⟨fun χ52 Ω _ => St.toR (r_move rfl) (fun _ => rfl) (fun _ => rfl), (by intro _ h; cases h; rfl), ⟨fun χ52 Ω _ => St.toR (r_extract rfl rfl) (fun _ => rfl) (fun _ => rfl), (by intro _ h; cases h; rfl), ⟨fun χ52 Ω _ => St.toR (r_extract rfl rfl) (fun _ => rfl) (fun _ => rfl), (by intro _ h; cases h; rfl), ⟨fun χ52 Ω ⟨h3, _⟩ => St.to XU.Nn XU.hN (St.placeL (os := fun _ => [_]) [3] (s_alloc zt_40) (fun _ => rfl) (fun _ => ⟨h3, rfl, trivial⟩)) (fun _ => rfl) (fun _ => rfl), (by intro _ h; cases h; rfl), ⟨fun χ52 Ω ⟨h3, _⟩ => St.to XU.U XU.hU (s_cstore (out := [iv .i64 t54.1.By, iv .i64 t54.1.Kind, iv .i64 t54.1.Node, iv .i64 t54.1.Target]) Try.sizeOf40 rfl (j := 3) h3 (part_ag (ψs := [iv .i64 t54.1.By, iv .i64 t54.1.Kind, iv .i64 t54.1.Node, iv .i64 t54.1.Target]) rfl (by intro φ h; simp only [List.mem_cons, List.not_mem_nil, or_false] at h; rcases h with rfl | rfl | rfl | rfl <;> first | exact iv_at | exact bv_at | exact sv_at | exact slv_at | exact pv_at rfl)) rfl rfl rfl) (fun _ => rfl) (fun _ => rfl), (by intro _ h; cases h), ⟨fun χ52 Ω _ => St.toR (r_assign rfl) (fun _ => rfl) (fun _ => rfl), (by intro _ h; cases h; rfl), trivial⟩⟩⟩⟩⟩⟩⟩⟩⟩⟩⟩⟩ (fun _ => ⟨rfl, rfl, rfl, rfl, rfl, trivial⟩) (fun _ => rfl) (fun χ52 => ?_)
        refine n_then ?_
        refine ref_seq ?_
        refine ref_seq ?_
        refine ref_region ?_
        refine s_rd (r_move rfl) rfl ?_
        refine s_rd (r_neq rfl rfl) rfl ?_
        refine l_nil ?_
        refine n_then ?_
        refine ref_cond rfl (fun hb56 => ?_) (fun hb56 => ?_)
        · refine ref_seq ?_
          refine ref_region ?_
          refine s_rd (r_build (ps := []) (rs := []) st_35 zs_35 trivial rfl rfl) rfl ?_
          refine s_rd (r_move rfl) rfl ?_
          refine s_st0 (s_cstore (out := [iv .i64 0, pv (.slice none 0 0), iv .i64 0, iv .i64 0, iv .i64 0, pv (.slice none 0 0)]) Try.sizeOf35 rfl (j := 1) rfl (part_agO (ψs := [iv .i64 0, pv (.slice none 0 0), iv .i64 0, iv .i64 0, iv .i64 0, pv (.slice none 0 0)]) rfl ⟨.inl iv_at, .inl (pv_at rfl), .inl iv_at, .inl iv_at, .inl iv_at, .inl (pv_at rfl), trivial⟩) rfl rfl rfl) (fun _ => ?_)
          refine s_rd (r_assign rfl) rfl ?_
          refine l_nil ?_
          refine n_then ?_
          refine ref_ret ?_
          refine r_then ?_
          refine r_block ?_
          refine r_loop ?_
          refine r_block ?_
          refine b_of (ocW 1 [iv .i64 0, slv rT_api_Pair [], iv .i64 0, iv .i64 0, iv .i64 0, slv rT_api_Move []] rfl ⟨imp_rfl, nil_sl, imp_rfl, imp_rfl, imp_rfl, nil_sl, trivial⟩) ?_
          exact fin2 (.inl rfl) () [] rfl trivial rfl (rv_cell rfl (j := 1) rfl Try.isAgg35 Try.sizeOf35 rfl rfl) (rv_tmp rfl)
        · refine ref_skip ?_
          refine n_then ?_
          refine ref_seq ?_
          refine ref_region ?_
          refine s_rd (r_cloadS Try.isAgg35 Try.sizeOf35 rfl (j := 0) rfl rfl rfl) rfl ?_
          refine s_rd (r_cloadS Try.isAgg40 Try.sizeOf40 rfl (j := 3) rfl rfl rfl) rfl ?_
          refine pull fun t57 h_t57 => ?_
          refine s_st (s_call (ψ := fun (_ : Unit) => tup [ag [iv .i64 t57.1.Graph.N, slv rT_api_Pair t57.1.Graph.L, iv .i64 t57.1.Root, iv .i64 t57.1.Limits.i0, iv .i64 t57.1.Limits.i1, slv rT_api_Move t57.1.Moves], iv .i64 t57.2]) (args := [.tmp 59, .tmp 60]) Try.call47 rfl (protocol_Apply_ok h_t57) ⟨arg rfl, arg rfl, trivial⟩ (fun _ _ _ _ h => h)) rfl (fun _ => ?_)
          refine s_rd (r_move rfl) rfl ?_
          refine s_rd (r_extract rfl rfl) rfl ?_
          refine s_rd (r_extract rfl rfl) rfl ?_
          refine s_st0 (s_cstore (out := [iv .i64 t57.1.Graph.N, slv rT_api_Pair t57.1.Graph.L, iv .i64 t57.1.Root, iv .i64 t57.1.Limits.i0, iv .i64 t57.1.Limits.i1, slv rT_api_Move t57.1.Moves]) Try.sizeOf35 rfl (j := 0) rfl (part_ag (ψs := [iv .i64 t57.1.Graph.N, slv rT_api_Pair t57.1.Graph.L, iv .i64 t57.1.Root, iv .i64 t57.1.Limits.i0, iv .i64 t57.1.Limits.i1, slv rT_api_Move t57.1.Moves]) rfl (by intro φ h; simp only [List.mem_cons, List.not_mem_nil, or_false] at h; rcases h with rfl | rfl | rfl | rfl | rfl | rfl <;> first | exact iv_at | exact bv_at | exact sv_at | exact slv_at | exact pv_at rfl)) rfl rfl rfl) (fun _ => ?_)
          refine s_rd (r_assign rfl) rfl ?_
          refine l_nil ?_
          refine n_then ?_
          refine ref_seq ?_
          refine ref_region ?_
          refine s_rd (r_move rfl) rfl ?_
          refine s_rd (r_neq rfl rfl) rfl ?_
          refine l_nil ?_
          refine n_then ?_
          refine ref_cond rfl (fun hb58 => ?_) (fun hb58 => ?_)
          · refine ref_seq ?_
            refine ref_region ?_
            refine s_rd (r_build (ps := []) (rs := []) st_35 zs_35 trivial rfl rfl) rfl ?_
            refine s_rd (r_move rfl) rfl ?_
            refine s_st0 (s_cstore (out := [iv .i64 0, pv (.slice none 0 0), iv .i64 0, iv .i64 0, iv .i64 0, pv (.slice none 0 0)]) Try.sizeOf35 rfl (j := 1) rfl (part_agO (ψs := [iv .i64 0, pv (.slice none 0 0), iv .i64 0, iv .i64 0, iv .i64 0, pv (.slice none 0 0)]) rfl ⟨.inl iv_at, .inl (pv_at rfl), .inl iv_at, .inl iv_at, .inl iv_at, .inl (pv_at rfl), trivial⟩) rfl rfl rfl) (fun _ => ?_)
            refine s_rd (r_assign rfl) rfl ?_
            refine l_nil ?_
            refine n_then ?_
            refine ref_ret ?_
            refine r_block ?_
            refine r_loop ?_
            refine r_block ?_
            refine b_of (ocW 1 [iv .i64 0, slv rT_api_Pair [], iv .i64 0, iv .i64 0, iv .i64 0, slv rT_api_Move []] rfl ⟨imp_rfl, nil_sl, imp_rfl, imp_rfl, imp_rfl, nil_sl, trivial⟩) ?_
            exact fin2 (.inl rfl) () [] rfl trivial rfl (rv_cell rfl (j := 1) rfl Try.isAgg35 Try.sizeOf35 rfl rfl) (rv_tmp rfl)
          · refine ref_skip ?_
            refine n_block ?_
            exact n_loop () (weak [0, 1, 2] ⟨rfl, rfl, rfl, trivial⟩ ⟨rfl, rfl, rfl, trivial⟩)

/-! deliberation/deliberationref27.gone -/
noncomputable def ref27_gone_l2 (d_0 : T_api_Dialogue) (s45 : Int × (List Bool)) (s68 : Int × (List Bool)) : Option (Sum ((List Bool)) (Int × (List Bool))) :=
  bif decide (s68.1 < (d_0.Moves.length : Int)) then
    Option.bind (idxM s68.2 s45.1) fun t71 =>
    bif t71 then
      Option.bind (idxM s68.2 s45.1) fun t72 =>
      letM (iadd .i64 s68.1 1) fun k77 =>
      some (Sum.inr (k77, s68.2.set (Int.toNat s45.1) true))
    else
      Option.bind (idxM d_0.Moves s68.1) fun t73 =>
      bif t73.Kind == 3 then
        Option.bind (idxM d_0.Moves s68.1) fun t74 =>
        Option.bind (idxM s68.2 s45.1) fun t75 =>
        letM (iadd .i64 s68.1 1) fun k78 =>
        some (Sum.inr (k78, s68.2.set (Int.toNat s45.1) (t74.Target == s45.1)))
      else
        Option.bind (idxM s68.2 s45.1) fun t76 =>
        letM (iadd .i64 s68.1 1) fun k79 =>
        some (Sum.inr (k79, s68.2.set (Int.toNat s45.1) false))
  else
    some (Sum.inl s68.2)

noncomputable def ref27_gone_l1 (d_0 : T_api_Dialogue) (s45 : Int × (List Bool)) : Option (Sum ((List Bool)) (Int × (List Bool))) :=
  bif decide (s45.1 < (d_0.Moves.length : Int)) then
    Option.bind (idxM d_0.Moves s45.1) fun t48 =>
    joinM (fun j52 : (List Bool) =>
        letM (iadd .i64 s45.1 1) fun k55 =>
        Option.bind (loopC (ref27_gone_l2 d_0 s45) (k55, j52)) fun q80 : (List Bool) =>
        bif t48.Kind == 2 then
          Option.bind (idxM q80 s45.1) fun t83 =>
          bif t83 then
            Option.bind (idxM q80 s45.1) fun t84 =>
            letM (iadd .i64 s45.1 1) fun i87 =>
            some (Sum.inr (i87, q80.set (Int.toNat s45.1) true))
          else
            Option.bind (idxM q80 t48.Target) fun t85 =>
            Option.bind (idxM q80 s45.1) fun t86 =>
            letM (iadd .i64 s45.1 1) fun i88 =>
            some (Sum.inr (i88, q80.set (Int.toNat s45.1) t85))
        else
          letM (iadd .i64 s45.1 1) fun i89 =>
          some (Sum.inr (i89, q80))) fun k54 =>
    bif t48.Kind == 3 then
      Option.bind (idxM s45.2 s45.1) fun t50 =>
      k54 (s45.2.set (Int.toNat s45.1) true)
    else
      Option.bind (idxM s45.2 s45.1) fun t51 =>
      k54 (s45.2.set (Int.toNat s45.1) (t48.Kind == 4))
  else
    some (Sum.inl s45.2)

noncomputable def ref27_gone_m (d_0 : T_api_Dialogue) : Option (List Bool) :=
  Option.bind (mkM 1 false (d_0.Moves.length : Int)) fun out2 =>
  Option.bind (loopC (ref27_gone_l1 d_0) (0, out2)) fun q90 : (List Bool) =>
  some q90

theorem ref27_gone_ok {d_0 : T_api_Dialogue} {r : List Bool} (hm : ref27_gone_m d_0 = some r) :
    FnOk prog 77 [ag [iv .i64 d_0.Graph.N, slv rT_api_Pair d_0.Graph.L, iv .i64 d_0.Root, iv .i64 d_0.Limits.i0, iv .i64 d_0.Limits.i1, slv rT_api_Move d_0.Moves]] [] (fun (x : (Value × List Nat)) => [pv x.1]) (fun (x : (Value × List Nat)) => [oa rB x.1 x.2 r]) := by
  refine fn_ok (X := (Value × List Nat)) (fn := Try.f77) (N := 87) (m := ref27_gone_m d_0) (res := fun r x => [pv x.1]) (Ω1 := fun r x => [oa rB x.1 x.2 r]) Try.func77 rfl rfl hm rfl (fun E hM => ?_)
  unfold ref27_gone_m
  refine ref_seq ?_
  refine ref_region ?_
  refine s_st (s_box (part_ag (ψs := [iv .i64 d_0.Graph.N, slv rT_api_Pair d_0.Graph.L, iv .i64 d_0.Root, iv .i64 d_0.Limits.i0, iv .i64 d_0.Limits.i1, slv rT_api_Move d_0.Moves]) rfl (by intro φ h; simp only [List.mem_cons, List.not_mem_nil, or_false] at h; rcases h with rfl | rfl | rfl | rfl | rfl | rfl <;> first | exact iv_at | exact bv_at | exact sv_at | exact slv_at | exact pv_at rfl))) rfl (fun b1 => ?_)
  refine s_rd (r_assign rfl) rfl ?_
  refine l_nil ?_
  refine n_then ?_
  refine ref_seq ?_
  refine ref_region ?_
  refine s_rd (r_faddr (fo := 5) Try.underlying35 rfl rfl Try.sizeOf23 rfl) rfl ?_
  refine s_rd (r_cload Try.isAgg23 rfl (j := 0) rfl rfl) rfl ?_
  refine s_rd (r_len Try.underlying23 rfl) rfl ?_
  refine pull fun out2 h_out2 => ?_
  refine s_st (s_make h_out2 Try.underlying93 el_4 ze_4 rfl rfl) rfl (fun o3 => ?_)
  refine s_rd (r_assign rfl) rfl ?_
  refine l_nil ?_
  refine n_then ?_
  refine ref_seq ?_
  refine ref_seq ?_
  refine ref_region ?_
  refine s_rd (r_assign rfl) rfl ?_
  refine l_nil ?_
  refine n_then ?_
  refine ref_loopB (f := (ref27_gone_l1 d_0)) (Γl := (fun (s45 : Int × (List Bool)) (x46 : Unit) => [(1, pv (ptr b1 0)), (3, pv o3.1), (4, iv .i64 s45.1)])) (Ωl := (fun (s45 : Int × (List Bool)) (x46 : Unit) => [oc b1 [iv .i64 d_0.Graph.N, slv rT_api_Pair d_0.Graph.L, iv .i64 d_0.Root, iv .i64 d_0.Limits.i0, iv .i64 d_0.Limits.i1, slv rT_api_Move d_0.Moves], oa rB o3.1 o3.2 s45.2])) (Γb := (fun (q90 : (List Bool)) (y91 : Unit) => [(3, pv o3.1)])) (Ωb := (fun (q90 : (List Bool)) (y91 : Unit) => [oa rB o3.1 o3.2 q90])) (0, out2) () (weak [0, 1] ⟨rfl, rfl, rfl, trivial⟩ ⟨rfl, rfl, trivial⟩) (fun s45 x46 => ?_) (fun q90 y91 => ?_)
  · unfold ref27_gone_l1
    refine ref_seq ?_
    refine ref_seq ?_
    refine ref_region ?_
    refine s_rd (r_move rfl) rfl ?_
    refine s_rd (r_faddr (fo := 5) Try.underlying35 rfl rfl Try.sizeOf23 rfl) rfl ?_
    refine s_rd (r_cload Try.isAgg23 rfl (j := 0) rfl rfl) rfl ?_
    refine s_rd (r_len Try.underlying23 rfl) rfl ?_
    refine s_rd (r_lss rfl rfl) rfl ?_
    refine l_nil ?_
    refine n_then ?_
    refine ref_cond rfl (fun hb47 => ?_) (fun hb47 => ?_)
    · refine ref_skip ?_
      refine n_then ?_
      refine ref_seq ?_
      refine ref_block ?_
      refine ref_seq ?_
      refine ref_region ?_
      refine s_rd (r_faddr (fo := 5) Try.underlying35 rfl rfl Try.sizeOf23 rfl) rfl ?_
      refine s_rd (r_cload Try.isAgg23 rfl (j := 0) rfl rfl) rfl ?_
      refine s_rd (r_move rfl) rfl ?_
      refine pull fun t48 h_t48 => ?_
      refine s_rd (r_index h_t48 Try.underlying23 el_40 rfl rfl) rfl ?_
      refine s_rd (r_load el_40 rfl) rfl ?_
      refine s_st (s_alloc zt_40) rfl (fun b49 => ?_)
      refine s_st0 (s_cstore (out := [iv .i64 t48.By, iv .i64 t48.Kind, iv .i64 t48.Node, iv .i64 t48.Target]) Try.sizeOf40 rfl (j := 2) rfl (part_ag (ψs := [iv .i64 t48.By, iv .i64 t48.Kind, iv .i64 t48.Node, iv .i64 t48.Target]) rfl (by intro φ h; simp only [List.mem_cons, List.not_mem_nil, or_false] at h; rcases h with rfl | rfl | rfl | rfl <;> first | exact iv_at | exact bv_at | exact sv_at | exact slv_at | exact pv_at rfl)) rfl rfl rfl) (fun _ => ?_)
      refine l_nil ?_
      refine b_of (nrm [oc b1 [iv .i64 d_0.Graph.N, slv rT_api_Pair d_0.Graph.L, iv .i64 d_0.Root, iv .i64 d_0.Limits.i0, iv .i64 d_0.Limits.i1, slv rT_api_Move d_0.Moves], oa rB o3.1 o3.2 s45.2, oc b49 [iv .i64 t48.By, iv .i64 t48.Kind, iv .i64 t48.Node, iv .i64 t48.Target]] rfl) ?_
      refine n_then ?_
      refine ref_seq ?_
      refine ref_join (fun (j52 : (List Bool)) (x53 : Unit) => [(1, pv (ptr b1 0)), (3, pv o3.1), (4, iv .i64 s45.1), (5, pv (ptr b49 0))]) (fun (j52 : (List Bool)) (x53 : Unit) => [oc b1 [iv .i64 d_0.Graph.N, slv rT_api_Pair d_0.Graph.L, iv .i64 d_0.Root, iv .i64 d_0.Limits.i0, iv .i64 d_0.Limits.i1, slv rT_api_Move d_0.Moves], oa rB o3.1 o3.2 j52, oc b49 [iv .i64 t48.By, iv .i64 t48.Kind, iv .i64 t48.Node, iv .i64 t48.Target]]) (fun k54 hk54 => ?_) (fun j52 x53 => ?_)
      · refine ref_region ?_
        refine s_rd (r_move rfl) rfl ?_
        refine s_rd (r_move rfl) rfl ?_
        refine s_rd (r_faddr (fo := 1) Try.underlying40 rfl rfl Try.sizeOf3 rfl) rfl ?_
        refine s_rd (r_cload Try.isAgg3 rfl (j := 2) rfl rfl) rfl ?_
        refine s_rd (r_eql rfl rfl) rfl ?_
        refine s_rd (r_move rfl) rfl ?_
        refine b_split (t := 28) rfl (fun _ => ?_) (fun _ => ?_)
        · refine s_off rfl rfl rfl rfl rfl ?_
          refine s_off rfl rfl rfl rfl rfl ?_
          refine s_off rfl rfl rfl rfl rfl ?_
          refine s_rd (r_pickT rfl rfl) rfl ?_
          refine pull fun t50 h_t50 => ?_
          refine s_rd (r_oindex h_t50 Try.underlying93 el_4 rfl (j := 1) rfl rfl) rfl ?_
          refine s_st0 (s_ostore (u := true) h_t50 el_4 rfl (j := 1) rfl (part_at rfl bv_at)) (fun _ => ?_)
          refine l_nil ?_
          exact b_to (hk54 (s45.2.set (Int.toNat s45.1) true) ()) (weak [0, 1, 2] ⟨rfl, rfl, rfl, rfl, trivial⟩ ⟨rfl, rfl, rfl, trivial⟩)
        · refine s_on rfl rfl rfl ?_
          refine s_rd (r_faddr (fo := 1) Try.underlying40 rfl rfl Try.sizeOf3 rfl) rfl ?_
          refine s_on rfl rfl rfl ?_
          refine s_rd (r_cload Try.isAgg3 rfl (j := 2) rfl rfl) rfl ?_
          refine s_on rfl rfl rfl ?_
          refine s_rd (r_eql rfl rfl) rfl ?_
          refine s_rd (r_pickF rfl rfl) rfl ?_
          refine pull fun t51 h_t51 => ?_
          refine s_rd (r_oindex h_t51 Try.underlying93 el_4 rfl (j := 1) rfl rfl) rfl ?_
          refine s_st0 (s_ostore (u := t48.Kind == 4) h_t51 el_4 rfl (j := 1) rfl (part_at rfl bv_at)) (fun _ => ?_)
          refine l_nil ?_
          exact b_to (hk54 (s45.2.set (Int.toNat s45.1) (t48.Kind == 4)) ()) (weak [0, 1, 2] ⟨rfl, rfl, rfl, rfl, trivial⟩ ⟨rfl, rfl, rfl, trivial⟩)
      · refine n_then ?_
        refine ref_seq ?_
        refine ref_seq ?_
        refine ref_region ?_
        refine s_rd (r_move rfl) rfl ?_
        refine s_rd (r_add rfl rfl) rfl ?_
        refine s_rd (r_assign rfl) rfl ?_
        refine b_let (f := iv .i64) (t := 6) rfl fun k55 => ?_
        refine l_nil ?_
        refine n_then ?_
        refine ref_loopB (f := (ref27_gone_l2 d_0 s45)) (Γl := (fun (s68 : Int × (List Bool)) (x69 : Unit) => [(1, pv (ptr b1 0)), (3, pv o3.1), (4, iv .i64 s45.1), (5, pv (ptr b49 0)), (6, iv .i64 s68.1)])) (Ωl := (fun (s68 : Int × (List Bool)) (x69 : Unit) => [oc b1 [iv .i64 d_0.Graph.N, slv rT_api_Pair d_0.Graph.L, iv .i64 d_0.Root, iv .i64 d_0.Limits.i0, iv .i64 d_0.Limits.i1, slv rT_api_Move d_0.Moves], oa rB o3.1 o3.2 s68.2, oc b49 [iv .i64 t48.By, iv .i64 t48.Kind, iv .i64 t48.Node, iv .i64 t48.Target]])) (Γb := (fun (q80 : (List Bool)) (y81 : Unit) => [(1, pv (ptr b1 0)), (3, pv o3.1), (4, iv .i64 s45.1), (5, pv (ptr b49 0))])) (Ωb := (fun (q80 : (List Bool)) (y81 : Unit) => [oc b1 [iv .i64 d_0.Graph.N, slv rT_api_Pair d_0.Graph.L, iv .i64 d_0.Root, iv .i64 d_0.Limits.i0, iv .i64 d_0.Limits.i1, slv rT_api_Move d_0.Moves], oa rB o3.1 o3.2 q80, oc b49 [iv .i64 t48.By, iv .i64 t48.Kind, iv .i64 t48.Node, iv .i64 t48.Target]])) (k55, j52) () (weak [0, 1, 2] ⟨rfl, rfl, rfl, rfl, rfl, trivial⟩ ⟨rfl, rfl, rfl, trivial⟩) (fun s68 x69 => ?_) (fun q80 y81 => ?_)
        · unfold ref27_gone_l2
          refine ref_seq ?_
          refine ref_seq ?_
          refine ref_region ?_
          refine s_rd (r_move rfl) rfl ?_
          refine s_rd (r_faddr (fo := 5) Try.underlying35 rfl rfl Try.sizeOf23 rfl) rfl ?_
          refine s_rd (r_cload Try.isAgg23 rfl (j := 0) rfl rfl) rfl ?_
          refine s_rd (r_len Try.underlying23 rfl) rfl ?_
          refine s_rd (r_lss rfl rfl) rfl ?_
          refine l_nil ?_
          refine n_then ?_
          refine ref_cond rfl (fun hb70 => ?_) (fun hb70 => ?_)
          · refine ref_skip ?_
            refine n_then ?_
            refine ref_seq ?_
            refine ref_block ?_
            refine ref_region ?_
            refine s_rd (r_move rfl) rfl ?_
            refine s_rd (r_move rfl) rfl ?_
            refine s_rd (r_move rfl) rfl ?_
            refine s_rd (r_move rfl) rfl ?_
            refine pull fun t71 h_t71 => ?_
            refine s_rd (r_oindex h_t71 Try.underlying93 el_4 rfl (j := 1) rfl rfl) rfl ?_
            refine s_rd (r_oload h_t71 el_4 rfl (j := 1) rfl) rfl ?_
            refine s_rd (r_move rfl) rfl ?_
            refine b_split (t := 49) rfl (fun _ => ?_) (fun _ => ?_)
            · refine s_off rfl rfl rfl rfl rfl ?_
              refine s_off rfl rfl rfl rfl rfl ?_
              refine s_off rfl rfl rfl rfl rfl ?_
              refine s_off rfl rfl rfl rfl rfl ?_
              refine s_off rfl rfl rfl rfl rfl ?_
              refine s_off rfl rfl rfl rfl rfl ?_
              refine s_off rfl rfl rfl rfl rfl ?_
              refine s_off rfl rfl rfl rfl rfl ?_
              refine s_offU rfl rfl rfl ?_
              refine s_offU rfl rfl rfl ?_
              refine s_offU rfl rfl rfl ?_
              refine s_offU rfl rfl rfl ?_
              refine s_offU rfl rfl rfl ?_
              refine s_offU rfl rfl rfl ?_
              refine s_offU rfl rfl rfl ?_
              refine s_offU rfl rfl rfl ?_
              refine s_off rfl rfl rfl rfl rfl ?_
              refine s_rd (r_pickT rfl rfl) rfl ?_
              refine pull fun t72 h_t72 => ?_
              refine s_rd (r_oindex h_t72 Try.underlying93 el_4 rfl (j := 1) rfl rfl) rfl ?_
              refine s_st0 (s_ostore (u := true) h_t72 el_4 rfl (j := 1) rfl (part_at rfl bv_at)) (fun _ => ?_)
              refine l_nil ?_
              refine n_block ?_
              refine n_then ?_
              refine ref_region ?_
              refine s_rd (r_move rfl) rfl ?_
              refine s_rd (r_add rfl rfl) rfl ?_
              refine s_rd (r_assign rfl) rfl ?_
              refine b_let (f := iv .i64) (t := 6) rfl fun k77 => ?_
              refine l_nil ?_
              exact goB () (weak [0, 1, 2] ⟨rfl, rfl, rfl, rfl, rfl, trivial⟩ ⟨rfl, rfl, rfl, trivial⟩)
            · refine s_on rfl rfl rfl ?_
              refine s_rd (r_faddr (fo := 5) Try.underlying35 rfl rfl Try.sizeOf23 rfl) rfl ?_
              refine s_on rfl rfl rfl ?_
              refine s_rd (r_cload Try.isAgg23 rfl (j := 0) rfl rfl) rfl ?_
              refine s_on rfl rfl rfl ?_
              refine s_rd (r_move rfl) rfl ?_
              refine s_on rfl rfl rfl ?_
              refine pull fun t73 h_t73 => ?_
              refine s_rd (r_index h_t73 Try.underlying23 el_40 rfl rfl) rfl ?_
              refine s_on rfl rfl rfl ?_
              refine s_rd (r_fea (fo := 1) (ρ := rT_api_Move) (y := t73) (ρ' := (rI .i64)) (z := t73.Kind) Try.underlying40 rfl rfl Try.sizeOf3 rfl rfl rfl) rfl ?_
              refine s_on rfl rfl rfl ?_
              refine s_rd (r_load el_3 rfl) rfl ?_
              refine s_on rfl rfl rfl ?_
              refine s_rd (r_eql rfl rfl) rfl ?_
              refine s_on rfl rfl rfl ?_
              refine s_rd (r_move rfl) rfl ?_
              refine b_split (t := 57) rfl (fun _ => ?_) (fun _ => ?_)
              · refine s_on rfl rfl rfl ?_
                refine s_rd (r_faddr (fo := 5) Try.underlying35 rfl rfl Try.sizeOf23 rfl) rfl ?_
                refine s_on rfl rfl rfl ?_
                refine s_rd (r_cload Try.isAgg23 rfl (j := 0) rfl rfl) rfl ?_
                refine s_on rfl rfl rfl ?_
                refine s_rd (r_move rfl) rfl ?_
                refine s_on rfl rfl rfl ?_
                refine pull fun t74 h_t74 => ?_
                refine s_rd (r_index h_t74 Try.underlying23 el_40 rfl rfl) rfl ?_
                refine s_on rfl rfl rfl ?_
                refine s_rd (r_fea (fo := 3) (ρ := rT_api_Move) (y := t74) (ρ' := (rI .i64)) (z := t74.Target) Try.underlying40 rfl rfl Try.sizeOf3 rfl rfl rfl) rfl ?_
                refine s_on rfl rfl rfl ?_
                refine s_rd (r_load el_3 rfl) rfl ?_
                refine s_on rfl rfl rfl ?_
                refine s_rd (r_move rfl) rfl ?_
                refine s_on rfl rfl rfl ?_
                refine s_rd (r_eql rfl rfl) rfl ?_
                refine s_on rfl rfl rfl ?_
                refine s_rd (r_pickT rfl rfl) rfl ?_
                refine s_rd (r_pickF rfl rfl) rfl ?_
                refine pull fun t75 h_t75 => ?_
                refine s_rd (r_oindex h_t75 Try.underlying93 el_4 rfl (j := 1) rfl rfl) rfl ?_
                refine s_st0 (s_ostore (u := t74.Target == s45.1) h_t75 el_4 rfl (j := 1) rfl (part_at rfl bv_at)) (fun _ => ?_)
                refine l_nil ?_
                refine n_block ?_
                refine n_then ?_
                refine ref_region ?_
                refine s_rd (r_move rfl) rfl ?_
                refine s_rd (r_add rfl rfl) rfl ?_
                refine s_rd (r_assign rfl) rfl ?_
                refine b_let (f := iv .i64) (t := 6) rfl fun k78 => ?_
                refine l_nil ?_
                exact goB () (weak [0, 1, 2] ⟨rfl, rfl, rfl, rfl, rfl, trivial⟩ ⟨rfl, rfl, rfl, trivial⟩)
              · refine s_off rfl rfl rfl rfl rfl ?_
                refine s_off rfl rfl rfl rfl rfl ?_
                refine s_off rfl rfl rfl rfl rfl ?_
                refine s_off rfl rfl rfl rfl rfl ?_
                refine s_off rfl rfl rfl rfl rfl ?_
                refine s_off rfl rfl rfl rfl rfl ?_
                refine s_off rfl rfl rfl rfl rfl ?_
                refine s_off rfl rfl rfl rfl rfl ?_
                refine s_on rfl rfl rfl ?_
                refine s_rd (r_pickF rfl rfl) rfl ?_
                refine s_rd (r_pickF rfl rfl) rfl ?_
                refine pull fun t76 h_t76 => ?_
                refine s_rd (r_oindex h_t76 Try.underlying93 el_4 rfl (j := 1) rfl rfl) rfl ?_
                refine s_st0 (s_ostore (u := false) h_t76 el_4 rfl (j := 1) rfl (part_at rfl bv_at)) (fun _ => ?_)
                refine l_nil ?_
                refine n_block ?_
                refine n_then ?_
                refine ref_region ?_
                refine s_rd (r_move rfl) rfl ?_
                refine s_rd (r_add rfl rfl) rfl ?_
                refine s_rd (r_assign rfl) rfl ?_
                refine b_let (f := iv .i64) (t := 6) rfl fun k79 => ?_
                refine l_nil ?_
                exact goB () (weak [0, 1, 2] ⟨rfl, rfl, rfl, rfl, rfl, trivial⟩ ⟨rfl, rfl, rfl, trivial⟩)
          · refine ref_exit ?_
            refine x_then ?_
            exact brkB () (weak [0, 1, 2] ⟨rfl, rfl, rfl, rfl, trivial⟩ ⟨rfl, rfl, rfl, trivial⟩)
        · refine n_then ?_
          refine ref_seq ?_
          refine ref_region ?_
          refine s_rd (r_faddr (fo := 1) Try.underlying40 rfl rfl Try.sizeOf3 rfl) rfl ?_
          refine s_rd (r_cload Try.isAgg3 rfl (j := 2) rfl rfl) rfl ?_
          refine s_rd (r_eql rfl rfl) rfl ?_
          refine l_nil ?_
          refine n_then ?_
          refine ref_cond rfl (fun hb82 => ?_) (fun hb82 => ?_)
          · refine ref_region ?_
            refine s_rd (r_move rfl) rfl ?_
            refine s_rd (r_move rfl) rfl ?_
            refine s_rd (r_move rfl) rfl ?_
            refine s_rd (r_move rfl) rfl ?_
            refine pull fun t83 h_t83 => ?_
            refine s_rd (r_oindex h_t83 Try.underlying93 el_4 rfl (j := 1) rfl rfl) rfl ?_
            refine s_rd (r_oload h_t83 el_4 rfl (j := 1) rfl) rfl ?_
            refine s_rd (r_move rfl) rfl ?_
            refine b_split (t := 78) rfl (fun _ => ?_) (fun _ => ?_)
            · refine s_off rfl rfl rfl rfl rfl ?_
              refine s_off rfl rfl rfl rfl rfl ?_
              refine s_off rfl rfl rfl rfl rfl ?_
              refine s_off rfl rfl rfl rfl rfl ?_
              refine s_off rfl rfl rfl rfl rfl ?_
              refine s_rd (r_pickT rfl rfl) rfl ?_
              refine pull fun t84 h_t84 => ?_
              refine s_rd (r_oindex h_t84 Try.underlying93 el_4 rfl (j := 1) rfl rfl) rfl ?_
              refine s_st0 (s_ostore (u := true) h_t84 el_4 rfl (j := 1) rfl (part_at rfl bv_at)) (fun _ => ?_)
              refine l_nil ?_
              refine n_block ?_
              refine n_then ?_
              refine ref_region ?_
              refine s_rd (r_move rfl) rfl ?_
              refine s_rd (r_add rfl rfl) rfl ?_
              refine s_rd (r_assign rfl) rfl ?_
              refine b_let (f := iv .i64) (t := 4) rfl fun i87 => ?_
              refine l_nil ?_
              exact goB () (weak [0, 1] ⟨rfl, rfl, rfl, trivial⟩ ⟨rfl, rfl, trivial⟩)
            · refine s_on rfl rfl rfl ?_
              refine s_rd (r_move rfl) rfl ?_
              refine s_on rfl rfl rfl ?_
              refine s_rd (r_faddr (fo := 3) Try.underlying40 rfl rfl Try.sizeOf3 rfl) rfl ?_
              refine s_on rfl rfl rfl ?_
              refine s_rd (r_cload Try.isAgg3 rfl (j := 2) rfl rfl) rfl ?_
              refine s_on rfl rfl rfl ?_
              refine pull fun t85 h_t85 => ?_
              refine s_rd (r_oindex h_t85 Try.underlying93 el_4 rfl (j := 1) rfl rfl) rfl ?_
              refine s_on rfl rfl rfl ?_
              refine s_rd (r_oload h_t85 el_4 rfl (j := 1) rfl) rfl ?_
              refine s_rd (r_pickF rfl rfl) rfl ?_
              refine pull fun t86 h_t86 => ?_
              refine s_rd (r_oindex h_t86 Try.underlying93 el_4 rfl (j := 1) rfl rfl) rfl ?_
              refine s_st0 (s_ostore (u := t85) h_t86 el_4 rfl (j := 1) rfl (part_at rfl bv_at)) (fun _ => ?_)
              refine l_nil ?_
              refine n_block ?_
              refine n_then ?_
              refine ref_region ?_
              refine s_rd (r_move rfl) rfl ?_
              refine s_rd (r_add rfl rfl) rfl ?_
              refine s_rd (r_assign rfl) rfl ?_
              refine b_let (f := iv .i64) (t := 4) rfl fun i88 => ?_
              refine l_nil ?_
              exact goB () (weak [0, 1] ⟨rfl, rfl, rfl, trivial⟩ ⟨rfl, rfl, trivial⟩)
          · refine ref_skip ?_
            refine n_block ?_
            refine n_then ?_
            refine ref_region ?_
            refine s_rd (r_move rfl) rfl ?_
            refine s_rd (r_add rfl rfl) rfl ?_
            refine s_rd (r_assign rfl) rfl ?_
            refine b_let (f := iv .i64) (t := 4) rfl fun i89 => ?_
            refine l_nil ?_
            exact goB () (weak [0, 1] ⟨rfl, rfl, rfl, trivial⟩ ⟨rfl, rfl, trivial⟩)
    · refine ref_exit ?_
      refine x_then ?_
      exact brkB () (weak [1] ⟨rfl, trivial⟩ ⟨rfl, trivial⟩)
  · refine n_then ?_
    refine ref_seq ?_
    refine ref_region ?_
    refine s_rd (r_move rfl) rfl ?_
    refine s_rd (r_assign rfl) rfl ?_
    refine l_nil ?_
    refine n_then ?_
    refine ref_ret ?_
    exact fin1 (.inl rfl) o3 [0] rfl ⟨rfl, trivial⟩ rfl (rv_tmp rfl)

/-! deliberation/deliberationref27.Status -/
noncomputable def ref27_Status_l2 (d_0 : T_api_Dialogue) (s51 : Int × (List Int)) (s82 : Int × (List Int)) : Option (Sum ((List Int)) (Int × (List Int))) :=
  bif decide (s82.1 < (d_0.Moves.length : Int)) then
    Option.bind (idxM d_0.Moves s82.1) fun t85 =>
    bif t85.Kind == 2 then
      Option.bind (idxM d_0.Moves s82.1) fun t86 =>
      bif t86.Target == s51.1 then
        Option.bind (idxM s82.2 s82.1) fun t87 =>
        bif t87 == 1 then
          Option.bind (idxM s82.2 s51.1) fun t89 =>
          letM (iadd .i64 s82.1 1) fun k90 =>
          some (Sum.inr (k90, s82.2.set (Int.toNat s51.1) 2))
        else
          letM (iadd .i64 s82.1 1) fun k91 =>
          some (Sum.inr (k91, s82.2))
      else
        letM (iadd .i64 s82.1 1) fun k92 =>
        some (Sum.inr (k92, s82.2))
    else
      letM (iadd .i64 s82.1 1) fun k93 =>
      some (Sum.inr (k93, s82.2))
  else
    some (Sum.inl s82.2)

noncomputable def ref27_Status_l1 (d_0 : T_api_Dialogue) (away2 : List Bool) (s51 : Int × (List Int)) : Option (Sum ((List Int)) (Int × (List Int))) :=
  bif decide (s51.1 ≥ 0) then
    Option.bind (idxM away2 s51.1) fun t54 =>
    bif t54 then
      letM (isub .i64 s51.1 1) fun i96 =>
      some (Sum.inr (i96, s51.2))
    else
      Option.bind (idxM s51.2 s51.1) fun t56 =>
      letM (iadd .i64 s51.1 1) fun k57 =>
      Option.bind (loopC (ref27_Status_l2 d_0 s51) (k57, s51.2.set (Int.toNat s51.1) 1)) fun q94 : (List Int) =>
      letM (isub .i64 s51.1 1) fun i97 =>
      some (Sum.inr (i97, q94))
  else
    some (Sum.inl s51.2)

noncomputable def ref27_Status_m (d_0 : T_api_Dialogue) : Option (List Int) :=
  Option.bind (ref27_gone_m d_0) fun away2 =>
  Option.bind (mkM 8 0 (d_0.Moves.length : Int)) fun out4 =>
  letM (isub .i64 (d_0.Moves.length : Int) 1) fun i6 =>
  Option.bind (loopC (ref27_Status_l1 d_0 away2) (i6, out4)) fun q98 : (List Int) =>
  some q98

theorem ref27_Status_ok {d_0 : T_api_Dialogue} {r : List Int} (hm : ref27_Status_m d_0 = some r) :
    FnOk prog 55 [ag [iv .i64 d_0.Graph.N, slv rT_api_Pair d_0.Graph.L, iv .i64 d_0.Root, iv .i64 d_0.Limits.i0, iv .i64 d_0.Limits.i1, slv rT_api_Move d_0.Moves]] [] (fun (x : (Value × List Nat)) => [pv x.1]) (fun (x : (Value × List Nat)) => [oa (rI .i64) x.1 x.2 r]) := by
  refine fn_ok (X := (Value × List Nat)) (fn := Try.f55) (N := 65) (m := ref27_Status_m d_0) (res := fun r x => [pv x.1]) (Ω1 := fun r x => [oa (rI .i64) x.1 x.2 r]) Try.func55 rfl rfl hm rfl (fun E hM => ?_)
  unfold ref27_Status_m
  refine ref_seq ?_
  refine ref_region ?_
  refine s_st (s_box (part_ag (ψs := [iv .i64 d_0.Graph.N, slv rT_api_Pair d_0.Graph.L, iv .i64 d_0.Root, iv .i64 d_0.Limits.i0, iv .i64 d_0.Limits.i1, slv rT_api_Move d_0.Moves]) rfl (by intro φ h; simp only [List.mem_cons, List.not_mem_nil, or_false] at h; rcases h with rfl | rfl | rfl | rfl | rfl | rfl <;> first | exact iv_at | exact bv_at | exact sv_at | exact slv_at | exact pv_at rfl))) rfl (fun b1 => ?_)
  refine s_rd (r_assign rfl) rfl ?_
  refine l_nil ?_
  refine n_then ?_
  refine ref_seq ?_
  refine ref_region ?_
  refine s_rd (r_cloadS Try.isAgg35 Try.sizeOf35 rfl (j := 0) rfl rfl rfl) rfl ?_
  refine pull fun away2 h_away2 => ?_
  refine s_st (s_call (ψ := fun (x3 : (Value × List Nat)) => pv x3.1) (args := [.tmp 7]) Try.call77 rfl (ref27_gone_ok h_away2) ⟨arg rfl, trivial⟩ (fun _ _ _ _ h => h)) rfl (fun x3 => ?_)
  refine s_rd (r_assign rfl) rfl ?_
  refine l_nil ?_
  refine n_then ?_
  refine ref_seq ?_
  refine ref_region ?_
  refine s_rd (r_faddr (fo := 5) Try.underlying35 rfl rfl Try.sizeOf23 rfl) rfl ?_
  refine s_rd (r_cload Try.isAgg23 rfl (j := 0) rfl rfl) rfl ?_
  refine s_rd (r_len Try.underlying23 rfl) rfl ?_
  refine pull fun out4 h_out4 => ?_
  refine s_st (s_make h_out4 Try.underlying22 el_3 ze_3 rfl rfl) rfl (fun o5 => ?_)
  refine s_rd (r_assign rfl) rfl ?_
  refine l_nil ?_
  refine n_then ?_
  refine ref_seq ?_
  refine ref_seq ?_
  refine ref_region ?_
  refine s_rd (r_faddr (fo := 5) Try.underlying35 rfl rfl Try.sizeOf23 rfl) rfl ?_
  refine s_rd (r_cload Try.isAgg23 rfl (j := 0) rfl rfl) rfl ?_
  refine s_rd (r_len Try.underlying23 rfl) rfl ?_
  refine s_rd (r_sub rfl rfl) rfl ?_
  refine s_rd (r_assign rfl) rfl ?_
  refine b_let (f := iv .i64) (t := 5) rfl fun i6 => ?_
  refine l_nil ?_
  refine n_then ?_
  refine ref_loopB (f := (ref27_Status_l1 d_0 away2)) (Γl := (fun (s51 : Int × (List Int)) (x52 : Unit) => [(1, pv (ptr b1 0)), (3, pv x3.1), (4, pv o5.1), (5, iv .i64 s51.1)])) (Ωl := (fun (s51 : Int × (List Int)) (x52 : Unit) => [oc b1 [iv .i64 d_0.Graph.N, slv rT_api_Pair d_0.Graph.L, iv .i64 d_0.Root, iv .i64 d_0.Limits.i0, iv .i64 d_0.Limits.i1, slv rT_api_Move d_0.Moves], oa rB x3.1 x3.2 away2, oa (rI .i64) o5.1 o5.2 s51.2])) (Γb := (fun (q98 : (List Int)) (y99 : Unit) => [(4, pv o5.1)])) (Ωb := (fun (q98 : (List Int)) (y99 : Unit) => [oa (rI .i64) o5.1 o5.2 q98])) (i6, out4) () (weak [0, 1, 2] ⟨rfl, rfl, rfl, rfl, trivial⟩ ⟨rfl, rfl, rfl, trivial⟩) (fun s51 x52 => ?_) (fun q98 y99 => ?_)
  · unfold ref27_Status_l1
    refine ref_seq ?_
    refine ref_seq ?_
    refine ref_region ?_
    refine s_rd (r_move rfl) rfl ?_
    refine s_rd (r_geq rfl rfl) rfl ?_
    refine l_nil ?_
    refine n_then ?_
    refine ref_cond rfl (fun hb53 => ?_) (fun hb53 => ?_)
    · refine ref_skip ?_
      refine n_then ?_
      refine ref_seq ?_
      refine ref_block ?_
      refine ref_seq ?_
      refine ref_seq ?_
      refine ref_region ?_
      refine s_rd (r_move rfl) rfl ?_
      refine s_rd (r_move rfl) rfl ?_
      refine pull fun t54 h_t54 => ?_
      refine s_rd (r_oindex h_t54 Try.underlying93 el_4 rfl (j := 1) rfl rfl) rfl ?_
      refine s_rd (r_oload h_t54 el_4 rfl (j := 1) rfl) rfl ?_
      refine l_nil ?_
      refine n_then ?_
      refine ref_cond rfl (fun hb55 => ?_) (fun hb55 => ?_)
      · refine ref_exit ?_
        refine x_then ?_
        refine x_eq ?_
        refine n_then ?_
        refine ref_region ?_
        refine s_rd (r_move rfl) rfl ?_
        refine s_rd (r_sub rfl rfl) rfl ?_
        refine s_rd (r_assign rfl) rfl ?_
        refine b_let (f := iv .i64) (t := 5) rfl fun i96 => ?_
        refine l_nil ?_
        exact goB () (weak [0, 1, 2] ⟨rfl, rfl, rfl, rfl, trivial⟩ ⟨rfl, rfl, rfl, trivial⟩)
      · refine ref_skip ?_
        refine n_then ?_
        refine ref_seq ?_
        refine ref_region ?_
        refine s_rd (r_move rfl) rfl ?_
        refine s_rd (r_move rfl) rfl ?_
        refine pull fun t56 h_t56 => ?_
        refine s_rd (r_oindex h_t56 Try.underlying22 el_3 rfl (j := 2) rfl rfl) rfl ?_
        refine s_st0 (s_ostore (u := 1) h_t56 el_3 rfl (j := 2) rfl (part_at rfl iv_at)) (fun _ => ?_)
        refine l_nil ?_
        refine b_of (nrm [oc b1 [iv .i64 d_0.Graph.N, slv rT_api_Pair d_0.Graph.L, iv .i64 d_0.Root, iv .i64 d_0.Limits.i0, iv .i64 d_0.Limits.i1, slv rT_api_Move d_0.Moves], oa rB x3.1 x3.2 away2, oa (rI .i64) o5.1 o5.2 (s51.2.set (Int.toNat s51.1) 1)] rfl) ?_
        refine n_then ?_
        refine ref_seq ?_
        refine ref_region ?_
        refine s_rd (r_move rfl) rfl ?_
        refine s_rd (r_add rfl rfl) rfl ?_
        refine s_rd (r_assign rfl) rfl ?_
        refine b_let (f := iv .i64) (t := 6) rfl fun k57 => ?_
        refine l_nil ?_
        refine n_then ?_
        refine ref_loopB (f := (ref27_Status_l2 d_0 s51)) (Γl := (fun (s82 : Int × (List Int)) (x83 : Unit) => [(1, pv (ptr b1 0)), (3, pv x3.1), (4, pv o5.1), (5, iv .i64 s51.1), (6, iv .i64 s82.1)])) (Ωl := (fun (s82 : Int × (List Int)) (x83 : Unit) => [oc b1 [iv .i64 d_0.Graph.N, slv rT_api_Pair d_0.Graph.L, iv .i64 d_0.Root, iv .i64 d_0.Limits.i0, iv .i64 d_0.Limits.i1, slv rT_api_Move d_0.Moves], oa rB x3.1 x3.2 away2, oa (rI .i64) o5.1 o5.2 s82.2])) (Γb := (fun (q94 : (List Int)) (y95 : Unit) => [(1, pv (ptr b1 0)), (3, pv x3.1), (4, pv o5.1), (5, iv .i64 s51.1)])) (Ωb := (fun (q94 : (List Int)) (y95 : Unit) => [oc b1 [iv .i64 d_0.Graph.N, slv rT_api_Pair d_0.Graph.L, iv .i64 d_0.Root, iv .i64 d_0.Limits.i0, iv .i64 d_0.Limits.i1, slv rT_api_Move d_0.Moves], oa rB x3.1 x3.2 away2, oa (rI .i64) o5.1 o5.2 q94])) (k57, s51.2.set (Int.toNat s51.1) 1) () (weak [0, 1, 2] ⟨rfl, rfl, rfl, rfl, rfl, trivial⟩ ⟨rfl, rfl, rfl, trivial⟩) (fun s82 x83 => ?_) (fun q94 y95 => ?_)
        · unfold ref27_Status_l2
          refine ref_seq ?_
          refine ref_seq ?_
          refine ref_region ?_
          refine s_rd (r_move rfl) rfl ?_
          refine s_rd (r_faddr (fo := 5) Try.underlying35 rfl rfl Try.sizeOf23 rfl) rfl ?_
          refine s_rd (r_cload Try.isAgg23 rfl (j := 0) rfl rfl) rfl ?_
          refine s_rd (r_len Try.underlying23 rfl) rfl ?_
          refine s_rd (r_lss rfl rfl) rfl ?_
          refine l_nil ?_
          refine n_then ?_
          refine ref_cond rfl (fun hb84 => ?_) (fun hb84 => ?_)
          · refine ref_skip ?_
            refine n_then ?_
            refine ref_seq ?_
            refine ref_block ?_
            refine ref_seq ?_
            refine ref_region ?_
            refine s_rd (r_faddr (fo := 5) Try.underlying35 rfl rfl Try.sizeOf23 rfl) rfl ?_
            refine s_rd (r_cload Try.isAgg23 rfl (j := 0) rfl rfl) rfl ?_
            refine s_rd (r_move rfl) rfl ?_
            refine pull fun t85 h_t85 => ?_
            refine s_rd (r_index h_t85 Try.underlying23 el_40 rfl rfl) rfl ?_
            refine s_rd (r_fea (fo := 1) (ρ := rT_api_Move) (y := t85) (ρ' := (rI .i64)) (z := t85.Kind) Try.underlying40 rfl rfl Try.sizeOf3 rfl rfl rfl) rfl ?_
            refine s_rd (r_load el_3 rfl) rfl ?_
            refine s_rd (r_eql rfl rfl) rfl ?_
            refine s_rd (r_move rfl) rfl ?_
            refine b_split (t := 44) rfl (fun _ => ?_) (fun _ => ?_)
            · refine s_on rfl rfl rfl ?_
              refine s_rd (r_faddr (fo := 5) Try.underlying35 rfl rfl Try.sizeOf23 rfl) rfl ?_
              refine s_on rfl rfl rfl ?_
              refine s_rd (r_cload Try.isAgg23 rfl (j := 0) rfl rfl) rfl ?_
              refine s_on rfl rfl rfl ?_
              refine s_rd (r_move rfl) rfl ?_
              refine s_on rfl rfl rfl ?_
              refine pull fun t86 h_t86 => ?_
              refine s_rd (r_index h_t86 Try.underlying23 el_40 rfl rfl) rfl ?_
              refine s_on rfl rfl rfl ?_
              refine s_rd (r_fea (fo := 3) (ρ := rT_api_Move) (y := t86) (ρ' := (rI .i64)) (z := t86.Target) Try.underlying40 rfl rfl Try.sizeOf3 rfl rfl rfl) rfl ?_
              refine s_on rfl rfl rfl ?_
              refine s_rd (r_load el_3 rfl) rfl ?_
              refine s_on rfl rfl rfl ?_
              refine s_rd (r_move rfl) rfl ?_
              refine s_on rfl rfl rfl ?_
              refine s_rd (r_eql rfl rfl) rfl ?_
              refine s_rd (r_pickT rfl rfl) rfl ?_
              refine s_rd (r_move rfl) rfl ?_
              refine b_split (t := 54) rfl (fun _ => ?_) (fun _ => ?_)
              · refine s_on rfl rfl rfl ?_
                refine s_rd (r_move rfl) rfl ?_
                refine s_on rfl rfl rfl ?_
                refine s_rd (r_move rfl) rfl ?_
                refine s_on rfl rfl rfl ?_
                refine pull fun t87 h_t87 => ?_
                refine s_rd (r_oindex h_t87 Try.underlying22 el_3 rfl (j := 2) rfl rfl) rfl ?_
                refine s_on rfl rfl rfl ?_
                refine s_rd (r_oload h_t87 el_3 rfl (j := 2) rfl) rfl ?_
                refine s_on rfl rfl rfl ?_
                refine s_rd (r_eql rfl rfl) rfl ?_
                refine s_rd (r_pickT rfl rfl) rfl ?_
                refine l_nil ?_
                refine n_then ?_
                refine ref_cond rfl (fun hb88 => ?_) (fun hb88 => ?_)
                · refine ref_region ?_
                  refine s_rd (r_move rfl) rfl ?_
                  refine s_rd (r_move rfl) rfl ?_
                  refine pull fun t89 h_t89 => ?_
                  refine s_rd (r_oindex h_t89 Try.underlying22 el_3 rfl (j := 2) rfl rfl) rfl ?_
                  refine s_st0 (s_ostore (u := 2) h_t89 el_3 rfl (j := 2) rfl (part_at rfl iv_at)) (fun _ => ?_)
                  refine l_nil ?_
                  refine n_block ?_
                  refine n_then ?_
                  refine ref_region ?_
                  refine s_rd (r_move rfl) rfl ?_
                  refine s_rd (r_add rfl rfl) rfl ?_
                  refine s_rd (r_assign rfl) rfl ?_
                  refine b_let (f := iv .i64) (t := 6) rfl fun k90 => ?_
                  refine l_nil ?_
                  exact goB () (weak [0, 1, 2] ⟨rfl, rfl, rfl, rfl, rfl, trivial⟩ ⟨rfl, rfl, rfl, trivial⟩)
                · refine ref_skip ?_
                  refine n_block ?_
                  refine n_then ?_
                  refine ref_region ?_
                  refine s_rd (r_move rfl) rfl ?_
                  refine s_rd (r_add rfl rfl) rfl ?_
                  refine s_rd (r_assign rfl) rfl ?_
                  refine b_let (f := iv .i64) (t := 6) rfl fun k91 => ?_
                  refine l_nil ?_
                  exact goB () (weak [0, 1, 2] ⟨rfl, rfl, rfl, rfl, rfl, trivial⟩ ⟨rfl, rfl, rfl, trivial⟩)
              · refine s_off rfl rfl rfl rfl rfl ?_
                refine s_off rfl rfl rfl rfl rfl ?_
                refine s_off rfl rfl rfl rfl rfl ?_
                refine s_off rfl rfl rfl rfl rfl ?_
                refine s_off rfl rfl rfl rfl rfl ?_
                refine s_rd (r_pickF rfl rfl) rfl ?_
                refine l_nil ?_
                refine n_then ?_
                refine ref_condF rfl rfl ?_
                refine ref_skip ?_
                refine n_block ?_
                refine n_then ?_
                refine ref_region ?_
                refine s_rd (r_move rfl) rfl ?_
                refine s_rd (r_add rfl rfl) rfl ?_
                refine s_rd (r_assign rfl) rfl ?_
                refine b_let (f := iv .i64) (t := 6) rfl fun k92 => ?_
                refine l_nil ?_
                exact goB () (weak [0, 1, 2] ⟨rfl, rfl, rfl, rfl, rfl, trivial⟩ ⟨rfl, rfl, rfl, trivial⟩)
            · refine s_off rfl rfl rfl rfl rfl ?_
              refine s_off rfl rfl rfl rfl rfl ?_
              refine s_off rfl rfl rfl rfl rfl ?_
              refine s_off rfl rfl rfl rfl rfl ?_
              refine s_off rfl rfl rfl rfl rfl ?_
              refine s_off rfl rfl rfl rfl rfl ?_
              refine s_off rfl rfl rfl rfl rfl ?_
              refine s_off rfl rfl rfl rfl rfl ?_
              refine s_rd (r_pickF rfl rfl) rfl ?_
              refine s_rd (r_move rfl) rfl ?_
              refine s_off rfl rfl rfl rfl rfl ?_
              refine s_off rfl rfl rfl rfl rfl ?_
              refine s_off rfl rfl rfl rfl rfl ?_
              refine s_off rfl rfl rfl rfl rfl ?_
              refine s_off rfl rfl rfl rfl rfl ?_
              refine s_rd (r_pickF rfl rfl) rfl ?_
              refine l_nil ?_
              refine n_then ?_
              refine ref_condF rfl rfl ?_
              refine ref_skip ?_
              refine n_block ?_
              refine n_then ?_
              refine ref_region ?_
              refine s_rd (r_move rfl) rfl ?_
              refine s_rd (r_add rfl rfl) rfl ?_
              refine s_rd (r_assign rfl) rfl ?_
              refine b_let (f := iv .i64) (t := 6) rfl fun k93 => ?_
              refine l_nil ?_
              exact goB () (weak [0, 1, 2] ⟨rfl, rfl, rfl, rfl, rfl, trivial⟩ ⟨rfl, rfl, rfl, trivial⟩)
          · refine ref_exit ?_
            refine x_then ?_
            exact brkB () (weak [0, 1, 2] ⟨rfl, rfl, rfl, rfl, trivial⟩ ⟨rfl, rfl, rfl, trivial⟩)
        · refine n_block ?_
          refine n_then ?_
          refine ref_region ?_
          refine s_rd (r_move rfl) rfl ?_
          refine s_rd (r_sub rfl rfl) rfl ?_
          refine s_rd (r_assign rfl) rfl ?_
          refine b_let (f := iv .i64) (t := 5) rfl fun i97 => ?_
          refine l_nil ?_
          exact goB () (weak [0, 1, 2] ⟨rfl, rfl, rfl, rfl, trivial⟩ ⟨rfl, rfl, rfl, trivial⟩)
    · refine ref_exit ?_
      refine x_then ?_
      exact brkB () (weak [2] ⟨rfl, trivial⟩ ⟨rfl, trivial⟩)
  · refine n_then ?_
    refine ref_seq ?_
    refine ref_region ?_
    refine s_rd (r_move rfl) rfl ?_
    refine s_rd (r_assign rfl) rfl ?_
    refine l_nil ?_
    refine n_then ?_
    refine ref_ret ?_
    exact fin1 (.inl rfl) o5 [0] rfl ⟨rfl, trivial⟩ rfl (rv_tmp rfl)

/-! deliberation/deliberationref27.leader -/
noncomputable def ref27_leader_m (status_0 : (List Int)) : Option (Int) :=
  Option.bind (idxM status_0 0) fun t1 =>
  bif t1 == 1 then
    some 1
  else
    some 2

theorem ref27_leader_ok {status_0 : (List Int)} {r : Int} (hm : ref27_leader_m status_0 = some r) :
    FnOk prog 54 [slv (rI .i64) status_0] [] (fun (x : Unit) => [iv .i64 r]) (fun (x : Unit) => []) := by
  refine fn_ok (X := Unit) (fn := Try.f54) (N := 7) (m := ref27_leader_m status_0) (res := fun r x => [iv .i64 r]) (Ω1 := fun r x => []) Try.func54 rfl rfl hm rfl (fun E hM => ?_)
  unfold ref27_leader_m
  refine ref_seq ?_
  refine ref_region ?_
  refine s_rd (r_assign rfl) rfl ?_
  refine l_nil ?_
  refine n_then ?_
  refine ref_seq ?_
  refine ref_seq ?_
  refine ref_region ?_
  refine s_rd (r_move rfl) rfl ?_
  refine pull fun t1 h_t1 => ?_
  refine s_rd (r_index h_t1 Try.underlying22 el_3 rfl rfl) rfl ?_
  refine s_rd (r_load el_3 rfl) rfl ?_
  refine s_rd (r_eql rfl rfl) rfl ?_
  refine l_nil ?_
  refine n_then ?_
  refine ref_cond rfl (fun hb2 => ?_) (fun hb2 => ?_)
  · refine ref_seq ?_
    refine ref_region ?_
    refine s_rd (r_assign rfl) rfl ?_
    refine l_nil ?_
    refine n_then ?_
    refine ref_ret ?_
    refine r_then ?_
    exact fin1 (.inl rfl) () [] rfl trivial rfl (rv_tmp rfl)
  · refine ref_skip ?_
    refine n_then ?_
    refine ref_seq ?_
    refine ref_region ?_
    refine s_rd (r_assign rfl) rfl ?_
    refine l_nil ?_
    refine n_then ?_
    refine ref_ret ?_
    exact fin1 (.inl rfl) () [] rfl trivial rfl (rv_tmp rfl)

/-! deliberation/deliberationnet.In -/
noncomputable def net_In_l1 (l_0 : (List Int)) (x_1 : Int) (s6 : Int) : Option (Sum ((Sum (Bool) (Unit))) (Int)) :=
  bif decide (s6 < (l_0.length : Int)) then
    Option.bind (idxM l_0 s6) fun t9 =>
    bif t9 == x_1 then
      some (Sum.inl (Sum.inl true))
    else
      some (Sum.inr (iadd .i64 s6 1))
  else
    some (Sum.inl (Sum.inr ()))

noncomputable def net_In_m (l_0 : (List Int)) (x_1 : Int) : Option (Bool) :=
  Option.bind (loopC (net_In_l1 l_0 x_1) 0) (sumK (fun a : Bool => some a) fun q11 : Unit =>
    some false)

theorem net_In_ok {l_0 : (List Int)} {x_1 : Int} {r : Bool} (hm : net_In_m l_0 x_1 = some r) :
    FnOk prog 57 [slv (rI .i64) l_0, iv .i64 x_1] [] (fun (x : Unit) => [bv r]) (fun (x : Unit) => []) := by
  refine fn_ok (X := Unit) (fn := Try.f57) (N := 18) (m := net_In_m l_0 x_1) (res := fun r x => [bv r]) (Ω1 := fun r x => []) Try.func57 rfl rfl hm rfl (fun E hM => ?_)
  unfold net_In_m
  refine ref_seq ?_
  refine ref_region ?_
  refine s_rd (r_assign rfl) rfl ?_
  refine l_nil ?_
  refine n_then ?_
  refine ref_seq ?_
  refine ref_seq ?_
  refine ref_region ?_
  refine s_rd (r_assign rfl) rfl ?_
  refine l_nil ?_
  refine n_then ?_
  refine ref_loopX (f := (net_In_l1 l_0 x_1)) (Γl := (fun (s6 : Int) (x7 : Unit) => [(0, slv (rI .i64) l_0), (1, iv .i64 x_1), (5, iv .i64 s6)])) (Ωl := (fun (s6 : Int) (x7 : Unit) => [])) (Γb := (fun (q11 : Unit) (y12 : Unit) => [])) (Ωb := (fun (q11 : Unit) (y12 : Unit) => [])) (kr := (fun a : Bool => some a)) 0 () (weak [] ⟨rfl, rfl, rfl, trivial⟩ trivial) (fun s6 x7 => ?_) (fun q11 y12 => ?_)
  · unfold net_In_l1
    refine ref_seq ?_
    refine ref_seq ?_
    refine ref_region ?_
    refine s_rd (r_move rfl) rfl ?_
    refine s_rd (r_move rfl) rfl ?_
    refine s_rd (r_len Try.underlying22 rfl) rfl ?_
    refine s_rd (r_lss rfl rfl) rfl ?_
    refine l_nil ?_
    refine n_then ?_
    refine ref_cond rfl (fun hb8 => ?_) (fun hb8 => ?_)
    · refine ref_skip ?_
      refine n_then ?_
      refine ref_seq ?_
      refine ref_block ?_
      refine ref_seq ?_
      refine ref_region ?_
      refine s_rd (r_move rfl) rfl ?_
      refine s_rd (r_move rfl) rfl ?_
      refine pull fun t9 h_t9 => ?_
      refine s_rd (r_index h_t9 Try.underlying22 el_3 rfl rfl) rfl ?_
      refine s_rd (r_load el_3 rfl) rfl ?_
      refine s_rd (r_move rfl) rfl ?_
      refine s_rd (r_eql rfl rfl) rfl ?_
      refine l_nil ?_
      refine n_then ?_
      refine ref_cond rfl (fun hb10 => ?_) (fun hb10 => ?_)
      · refine ref_seq ?_
        refine ref_region ?_
        refine s_rd (r_assign rfl) rfl ?_
        refine l_nil ?_
        refine n_then ?_
        refine ref_ret ?_
        refine r_block ?_
        refine r_then ?_
        refine retX ?_
        refine r_block ?_
        refine r_then ?_
        exact fin1 (.inl rfl) () [] rfl trivial rfl (rv_tmp rfl)
      · refine ref_skip ?_
        refine n_block ?_
        refine n_then ?_
        refine ref_region ?_
        refine s_rd (r_move rfl) rfl ?_
        refine s_rd (r_add rfl rfl) rfl ?_
        refine s_rd (r_assign rfl) rfl ?_
        refine l_nil ?_
        exact goX () (weak [] ⟨rfl, rfl, rfl, trivial⟩ trivial)
    · refine ref_exit ?_
      refine x_then ?_
      exact brkX () (weak [] trivial trivial)
  · refine n_then ?_
    refine ref_seq ?_
    refine ref_region ?_
    refine s_rd (r_assign rfl) rfl ?_
    refine l_nil ?_
    refine n_then ?_
    refine ref_ret ?_
    exact fin1 (.inl rfl) () [] rfl trivial rfl (rv_tmp rfl)

/-! deliberation/deliberationref27.Leading -/
noncomputable def ref27_Leading_l1 (d_0 : T_api_Dialogue) (status2 : List Int) (s22 : Int × (List Int)) : Option (Sum ((List Int)) (Int × (List Int))) :=
  bif decide (s22.1 < (d_0.Moves.length : Int)) then
    Option.bind (idxM d_0.Moves s22.1) fun t25 =>
    Option.bind (idxM status2 s22.1) fun t27 =>
    bif t27 == 0 then
      letM (iadd .i64 s22.1 1) fun i39 =>
      some (Sum.inr (i39, s22.2))
    else
      Option.bind (net_In_m s22.2 t25.Target) fun t28 =>
      bif !t28 then
        letM (iadd .i64 s22.1 1) fun i40 =>
        some (Sum.inr (i40, s22.2))
      else
        joinM (fun j33 : Bool =>
            bif j33 then
              Option.bind (appM 8 s22.2 [s22.1]) fun out37 =>
              letM (iadd .i64 s22.1 1) fun i41 =>
              some (Sum.inr (i41, out37))
            else
              letM (iadd .i64 s22.1 1) fun i42 =>
              some (Sum.inr (i42, s22.2))) fun k35 =>
        Option.bind (idxM d_0.Moves t25.Target) fun t30 =>
        Option.bind (ref27_leader_m status2) fun t31 =>
        bif t30.By == t31 then
          k35 true
        else
          Option.bind (idxM status2 s22.1) fun t32 =>
          k35 (t32 == 1)
  else
    some (Sum.inl s22.2)

noncomputable def ref27_Leading_m (d_0 : T_api_Dialogue) : Option (List Int) :=
  Option.bind (ref27_Status_m d_0) fun status2 =>
  Option.bind (loopC (ref27_Leading_l1 d_0 status2) (1, [0])) fun q43 : (List Int) =>
  some q43

theorem ref27_Leading_ok {d_0 : T_api_Dialogue} {r : List Int} (hm : ref27_Leading_m d_0 = some r) :
    FnOk prog 78 [ag [iv .i64 d_0.Graph.N, slv rT_api_Pair d_0.Graph.L, iv .i64 d_0.Root, iv .i64 d_0.Limits.i0, iv .i64 d_0.Limits.i1, slv rT_api_Move d_0.Moves]] [] (fun (x : (Value × List Nat)) => [pv x.1]) (fun (x : (Value × List Nat)) => [oa (rI .i64) x.1 x.2 r]) := by
  refine fn_ok (X := (Value × List Nat)) (fn := Try.f78) (N := 56) (m := ref27_Leading_m d_0) (res := fun r x => [pv x.1]) (Ω1 := fun r x => [oa (rI .i64) x.1 x.2 r]) Try.func78 rfl rfl hm rfl (fun E hM => ?_)
  unfold ref27_Leading_m
  refine ref_seq ?_
  refine ref_region ?_
  refine s_st (s_box (part_ag (ψs := [iv .i64 d_0.Graph.N, slv rT_api_Pair d_0.Graph.L, iv .i64 d_0.Root, iv .i64 d_0.Limits.i0, iv .i64 d_0.Limits.i1, slv rT_api_Move d_0.Moves]) rfl (by intro φ h; simp only [List.mem_cons, List.not_mem_nil, or_false] at h; rcases h with rfl | rfl | rfl | rfl | rfl | rfl <;> first | exact iv_at | exact bv_at | exact sv_at | exact slv_at | exact pv_at rfl))) rfl (fun b1 => ?_)
  refine s_rd (r_assign rfl) rfl ?_
  refine l_nil ?_
  refine n_then ?_
  refine ref_seq ?_
  refine ref_region ?_
  refine s_rd (r_cloadS Try.isAgg35 Try.sizeOf35 rfl (j := 0) rfl rfl rfl) rfl ?_
  refine pull fun status2 h_status2 => ?_
  refine s_st (s_call (ψ := fun (x3 : (Value × List Nat)) => pv x3.1) (args := [.tmp 7]) Try.call55 rfl (ref27_Status_ok h_status2) ⟨arg rfl, trivial⟩ (fun _ _ _ _ h => h)) rfl (fun x3 => ?_)
  refine s_rd (r_assign rfl) rfl ?_
  refine l_nil ?_
  refine n_then ?_
  refine ref_seq ?_
  refine ref_region ?_
  refine s_st (s_bsliceO (xs := [.const (.int .i64 (0))]) (ds := [0]) Try.underlying22 el_3 rfl (Nat.le_of_ble_eq_true rfl) ⟨(part_at rfl iv_at), trivial⟩) rfl (fun o4 => ?_)
  refine s_rd (r_assign rfl) rfl ?_
  refine l_nil ?_
  refine n_then ?_
  refine ref_seq ?_
  refine ref_seq ?_
  refine ref_region ?_
  refine s_rd (r_assign rfl) rfl ?_
  refine l_nil ?_
  refine n_then ?_
  refine ref_loopB (f := (ref27_Leading_l1 d_0 status2)) (Γl := (fun (s22 : Int × (List Int)) (x23 : (Value × List Nat)) => [(1, pv (ptr b1 0)), (3, pv x3.1), (4, pv x23.1), (5, iv .i64 s22.1)])) (Ωl := (fun (s22 : Int × (List Int)) (x23 : (Value × List Nat)) => [oc b1 [iv .i64 d_0.Graph.N, slv rT_api_Pair d_0.Graph.L, iv .i64 d_0.Root, iv .i64 d_0.Limits.i0, iv .i64 d_0.Limits.i1, slv rT_api_Move d_0.Moves], oa (rI .i64) x3.1 x3.2 status2, oa (rI .i64) x23.1 x23.2 s22.2])) (Γb := (fun (q43 : (List Int)) (y44 : (Value × List Nat)) => [(4, pv y44.1)])) (Ωb := (fun (q43 : (List Int)) (y44 : (Value × List Nat)) => [oa (rI .i64) y44.1 y44.2 q43])) (1, [0]) o4 (weak [0, 1, 2] ⟨rfl, rfl, rfl, rfl, trivial⟩ ⟨rfl, rfl, rfl, trivial⟩) (fun s22 x23 => ?_) (fun q43 y44 => ?_)
  · unfold ref27_Leading_l1
    refine ref_seq ?_
    refine ref_seq ?_
    refine ref_region ?_
    refine s_rd (r_move rfl) rfl ?_
    refine s_rd (r_faddr (fo := 5) Try.underlying35 rfl rfl Try.sizeOf23 rfl) rfl ?_
    refine s_rd (r_cload Try.isAgg23 rfl (j := 0) rfl rfl) rfl ?_
    refine s_rd (r_len Try.underlying23 rfl) rfl ?_
    refine s_rd (r_lss rfl rfl) rfl ?_
    refine l_nil ?_
    refine n_then ?_
    refine ref_cond rfl (fun hb24 => ?_) (fun hb24 => ?_)
    · refine ref_skip ?_
      refine n_then ?_
      refine ref_seq ?_
      refine ref_block ?_
      refine ref_seq ?_
      refine ref_region ?_
      refine s_rd (r_faddr (fo := 5) Try.underlying35 rfl rfl Try.sizeOf23 rfl) rfl ?_
      refine s_rd (r_cload Try.isAgg23 rfl (j := 0) rfl rfl) rfl ?_
      refine s_rd (r_move rfl) rfl ?_
      refine pull fun t25 h_t25 => ?_
      refine s_rd (r_index h_t25 Try.underlying23 el_40 rfl rfl) rfl ?_
      refine s_rd (r_load el_40 rfl) rfl ?_
      refine s_st (s_alloc zt_40) rfl (fun b26 => ?_)
      refine s_st0 (s_cstore (out := [iv .i64 t25.By, iv .i64 t25.Kind, iv .i64 t25.Node, iv .i64 t25.Target]) Try.sizeOf40 rfl (j := 3) rfl (part_ag (ψs := [iv .i64 t25.By, iv .i64 t25.Kind, iv .i64 t25.Node, iv .i64 t25.Target]) rfl (by intro φ h; simp only [List.mem_cons, List.not_mem_nil, or_false] at h; rcases h with rfl | rfl | rfl | rfl <;> first | exact iv_at | exact bv_at | exact sv_at | exact slv_at | exact pv_at rfl)) rfl rfl rfl) (fun _ => ?_)
      refine l_nil ?_
      refine b_of (nrm [oc b1 [iv .i64 d_0.Graph.N, slv rT_api_Pair d_0.Graph.L, iv .i64 d_0.Root, iv .i64 d_0.Limits.i0, iv .i64 d_0.Limits.i1, slv rT_api_Move d_0.Moves], oa (rI .i64) x3.1 x3.2 status2, oa (rI .i64) x23.1 x23.2 s22.2, oc b26 [iv .i64 t25.By, iv .i64 t25.Kind, iv .i64 t25.Node, iv .i64 t25.Target]] rfl) ?_
      refine n_then ?_
      refine ref_seq ?_
      refine ref_seq ?_
      refine ref_region ?_
      refine s_rd (r_move rfl) rfl ?_
      refine s_rd (r_move rfl) rfl ?_
      refine pull fun t27 h_t27 => ?_
      refine s_rd (r_oindex h_t27 Try.underlying22 el_3 rfl (j := 1) rfl rfl) rfl ?_
      refine s_rd (r_oload h_t27 el_3 rfl (j := 1) rfl) rfl ?_
      refine s_rd (r_eql rfl rfl) rfl ?_
      refine s_rd (r_move rfl) rfl ?_
      refine b_split (t := 27) rfl (fun _ => ?_) (fun _ => ?_)
      · refine s_off rfl rfl rfl rfl rfl ?_
        refine s_off rfl rfl rfl rfl rfl ?_
        refine s_off rfl rfl rfl rfl rfl ?_
        refine s_off rfl rfl rfl rfl rfl ?_
        refine s_off rfl rfl rfl rfl rfl ?_
        refine s_rd (r_pickT rfl rfl) rfl ?_
        refine l_nil ?_
        refine n_then ?_
        refine ref_condT rfl rfl ?_
        refine ref_exit ?_
        refine x_then ?_
        refine x_eq ?_
        refine n_then ?_
        refine ref_region ?_
        refine s_rd (r_move rfl) rfl ?_
        refine s_rd (r_add rfl rfl) rfl ?_
        refine s_rd (r_assign rfl) rfl ?_
        refine b_let (f := iv .i64) (t := 5) rfl fun i39 => ?_
        refine l_nil ?_
        exact goB x23 (weak [0, 1, 2] ⟨rfl, rfl, rfl, rfl, trivial⟩ ⟨rfl, rfl, rfl, trivial⟩)
      · refine s_on rfl rfl rfl ?_
        refine s_rd (r_move rfl) rfl ?_
        refine s_on rfl rfl rfl ?_
        refine s_rd (r_faddr (fo := 3) Try.underlying40 rfl rfl Try.sizeOf3 rfl) rfl ?_
        refine s_on rfl rfl rfl ?_
        refine s_rd (r_cload Try.isAgg3 rfl (j := 3) rfl rfl) rfl ?_
        refine s_on rfl rfl rfl ?_
        refine pull fun t28 h_t28 => ?_
        refine s_st (s_callB (ψ := fun (_ : Unit) => bv t28) (args := [.tmp 28, .tmp 30]) Try.call57 rfl (net_In_ok h_t28) ⟨argO rfl (j := 2) rfl, argB rfl, trivial⟩ (fun _ _ _ _ _ h => h)) rfl (fun _ => ?_)
        refine s_on rfl rfl rfl ?_
        refine s_rd (r_not rfl) rfl ?_
        refine s_rd (r_pickF rfl rfl) rfl ?_
        refine l_nil ?_
        refine n_then ?_
        refine ref_cond rfl (fun hb29 => ?_) (fun hb29 => ?_)
        · refine ref_exit ?_
          refine x_then ?_
          refine x_eq ?_
          refine n_then ?_
          refine ref_region ?_
          refine s_rd (r_move rfl) rfl ?_
          refine s_rd (r_add rfl rfl) rfl ?_
          refine s_rd (r_assign rfl) rfl ?_
          refine b_let (f := iv .i64) (t := 5) rfl fun i40 => ?_
          refine l_nil ?_
          exact goB x23 (weak [0, 1, 2] ⟨rfl, rfl, rfl, rfl, trivial⟩ ⟨rfl, rfl, rfl, trivial⟩)
        · refine ref_skip ?_
          refine n_then ?_
          refine ref_seq ?_
          refine ref_join (fun (j33 : Bool) (x34 : Unit) => [(1, pv (ptr b1 0)), (3, pv x3.1), (4, pv x23.1), (5, iv .i64 s22.1), (28, pv x23.1), (29, pv (ptr b26 3)), (30, iv .i64 t25.Target), (31, bv t28), (32, bv (!t28)), (50, bv j33)]) (fun (j33 : Bool) (x34 : Unit) => [oc b1 [iv .i64 d_0.Graph.N, slv rT_api_Pair d_0.Graph.L, iv .i64 d_0.Root, iv .i64 d_0.Limits.i0, iv .i64 d_0.Limits.i1, slv rT_api_Move d_0.Moves], oa (rI .i64) x3.1 x3.2 status2, oa (rI .i64) x23.1 x23.2 s22.2, oc b26 [iv .i64 t25.By, iv .i64 t25.Kind, iv .i64 t25.Node, iv .i64 t25.Target]]) (fun k35 hk35 => ?_) (fun j33 x34 => ?_)
          · refine ref_draw [0, 1, 2, 3, 4, 5, 6, 7, 9, 10, 11, 12, 13, 14, 15, 16] rfl (by kernel_rfl) (fun hok => ?_)
            refine a_rd (i := 0) hok rfl (by kernel_rfl) rfl (r_faddr (fo := 5) Try.underlying35 rfl rfl Try.sizeOf23 rfl) rfl ?_
            refine a_rd (i := 1) hok rfl (by kernel_rfl) rfl (r_cload Try.isAgg23 rfl (j := 0) rfl rfl) rfl ?_
            refine a_rd (i := 2) hok rfl (by kernel_rfl) rfl (r_faddr (fo := 3) Try.underlying40 rfl rfl Try.sizeOf3 rfl) rfl ?_
            refine a_rd (i := 3) hok rfl (by kernel_rfl) rfl (r_cload Try.isAgg3 rfl (j := 3) rfl rfl) rfl ?_
            refine pull fun t30 h_t30 => ?_
            refine a_rd (i := 4) hok rfl (by kernel_rfl) rfl (r_index h_t30 Try.underlying23 el_40 rfl rfl) rfl ?_
            refine a_rd (i := 5) hok rfl (by kernel_rfl) rfl (r_fea (fo := 0) (ρ := rT_api_Move) (y := t30) (ρ' := (rI .i64)) (z := t30.By) Try.underlying40 rfl rfl Try.sizeOf3 rfl rfl rfl) rfl ?_
            refine a_rd (i := 6) hok rfl (by kernel_rfl) rfl (r_load el_3 rfl) rfl ?_
            refine a_rd (i := 7) hok rfl (by kernel_rfl) rfl (r_move rfl) rfl ?_
            refine pull fun t31 h_t31 => ?_
            refine a_next hok 8 [] (by kernel_rfl) ?_ trivial
            refine a_st (i := 8) hok rfl rfl (s_callB (ψ := fun (_ : Unit) => iv .i64 t31) (args := [.tmp 41]) Try.call54 rfl (ref27_leader_ok h_t31) ⟨argO rfl (j := 1) rfl, trivial⟩ (fun _ _ _ _ _ h => h)) (by intro _ h; cases h; rfl) (fun _ => ⟨trivial, ⟨trivial, ⟨trivial, ⟨trivial, ⟨⟨⟨rfl, rfl⟩, trivial⟩, ⟨trivial, ⟨⟨⟨rfl, rfl⟩, trivial⟩, ⟨trivial, trivial⟩⟩⟩⟩⟩⟩⟩⟩) (fun _ => ?_)
            refine a_rd (i := 9) hok rfl (by kernel_rfl) rfl (r_eql rfl rfl) rfl ?_
            refine a_rd (i := 10) hok rfl (by kernel_rfl) rfl (r_move rfl) rfl ?_
            refine b_split (t := 44) rfl (fun _ => ?_) (fun _ => ?_)
            · refine a_off (i := 11) hok rfl rfl rfl rfl rfl (by kernel_rfl) rfl rfl ?_
              refine a_off (i := 12) hok rfl rfl rfl rfl rfl (by kernel_rfl) rfl rfl ?_
              refine a_off (i := 13) hok rfl rfl rfl rfl rfl (by kernel_rfl) rfl rfl ?_
              refine a_off (i := 14) hok rfl rfl rfl rfl rfl (by kernel_rfl) rfl rfl ?_
              refine a_off (i := 15) hok rfl rfl rfl rfl rfl (by kernel_rfl) rfl rfl ?_
              refine a_rd (i := 16) hok rfl (by kernel_rfl) rfl (r_pickT rfl rfl) rfl ?_
              refine a_fin hok (by kernel_rfl) ?_
              exact b_to (hk35 true ()) (weak [0, 1, 2, 3] ⟨rfl, rfl, rfl, rfl, rfl, rfl, rfl, rfl, rfl, rfl, trivial⟩ ⟨rfl, rfl, rfl, rfl, trivial⟩)
            · refine a_rdOn (i := 11) hok rfl rfl rfl rfl (by kernel_rfl) rfl (r_move rfl) rfl ?_
              refine a_rdOn (i := 12) hok rfl rfl rfl rfl (by kernel_rfl) rfl (r_move rfl) rfl ?_
              refine pull fun t32 h_t32 => ?_
              refine a_rdOn (i := 13) hok rfl rfl rfl rfl (by kernel_rfl) rfl (r_oindex h_t32 Try.underlying22 el_3 rfl (j := 1) rfl rfl) rfl ?_
              refine a_rdOn (i := 14) hok rfl rfl rfl rfl (by kernel_rfl) rfl (r_oload h_t32 el_3 rfl (j := 1) rfl) rfl ?_
              refine a_rdOn (i := 15) hok rfl rfl rfl rfl (by kernel_rfl) rfl (r_eql rfl rfl) rfl ?_
              refine a_rd (i := 16) hok rfl (by kernel_rfl) rfl (r_pickF rfl rfl) rfl ?_
              refine a_fin hok (by kernel_rfl) ?_
              exact b_to (hk35 (t32 == 1) ()) (weak [0, 1, 2, 3] ⟨rfl, rfl, rfl, rfl, rfl, rfl, rfl, rfl, rfl, rfl, trivial⟩ ⟨rfl, rfl, rfl, rfl, trivial⟩)
          · refine n_then ?_
            refine ref_cond rfl (fun hb36 => ?_) (fun hb36 => ?_)
            · refine ref_region ?_
              refine s_rd (r_move rfl) rfl ?_
              refine s_rd (r_move rfl) rfl ?_
              refine s_st (s_bslice (xs := [.tmp 52]) (ds := [s22.1]) Try.underlying22 el_3 rfl (Nat.le_of_ble_eq_true rfl) ⟨(part_at rfl iv_at), trivial⟩) rfl (fun _ => ?_)
              refine pull fun out37 h_out37 => ?_
              refine s_st (s_append h_out37 Try.underlying22 el_3 rfl (j := 2) rfl rfl) rfl (fun o38 => ?_)
              refine s_rd (r_assign rfl) rfl ?_
              refine l_nil ?_
              refine n_block ?_
              refine n_then ?_
              refine ref_region ?_
              refine s_rd (r_move rfl) rfl ?_
              refine s_rd (r_add rfl rfl) rfl ?_
              refine s_rd (r_assign rfl) rfl ?_
              refine b_let (f := iv .i64) (t := 5) rfl fun i41 => ?_
              refine l_nil ?_
              exact goB o38 (weak [0, 1, 2] ⟨rfl, rfl, rfl, rfl, trivial⟩ ⟨rfl, rfl, rfl, trivial⟩)
            · refine ref_skip ?_
              refine n_block ?_
              refine n_then ?_
              refine ref_region ?_
              refine s_rd (r_move rfl) rfl ?_
              refine s_rd (r_add rfl rfl) rfl ?_
              refine s_rd (r_assign rfl) rfl ?_
              refine b_let (f := iv .i64) (t := 5) rfl fun i42 => ?_
              refine l_nil ?_
              exact goB x23 (weak [0, 1, 2] ⟨rfl, rfl, rfl, rfl, trivial⟩ ⟨rfl, rfl, rfl, trivial⟩)
    · refine ref_exit ?_
      refine x_then ?_
      exact brkB x23 (weak [2] ⟨rfl, trivial⟩ ⟨rfl, trivial⟩)
  · refine n_then ?_
    refine ref_seq ?_
    refine ref_region ?_
    refine s_rd (r_move rfl) rfl ?_
    refine s_rd (r_assign rfl) rfl ?_
    refine l_nil ?_
    refine n_then ?_
    refine ref_ret ?_
    exact fin1 (.inl rfl) y44 [0] rfl ⟨rfl, trivial⟩ rfl (rv_tmp rfl)

/-! deliberation/deliberationnet.Has -/
noncomputable def net_Has_l1 (g_0 : T_api_Graph) (from__1 : Int) (to__2 : Int) (s8 : Int) : Option (Sum ((Sum (Bool) (Unit))) (Int)) :=
  bif decide (s8 < (g_0.L.length : Int)) then
    Option.bind (idxM g_0.L s8) fun t11 =>
    bif t11.From == from__1 then
      Option.bind (idxM g_0.L s8) fun t12 =>
      bif t12.To == to__2 then
        some (Sum.inl (Sum.inl true))
      else
        some (Sum.inr (iadd .i64 s8 1))
    else
      some (Sum.inr (iadd .i64 s8 1))
  else
    some (Sum.inl (Sum.inr ()))

noncomputable def net_Has_m (g_0 : T_api_Graph) (from__1 : Int) (to__2 : Int) : Option (Bool) :=
  Option.bind (loopC (net_Has_l1 g_0 from__1 to__2) 0) (sumK (fun a : Bool => some a) fun q14 : Unit =>
    some false)

theorem net_Has_ok {g_0 : T_api_Graph} {from__1 : Int} {to__2 : Int} {r : Bool} (hm : net_Has_m g_0 from__1 to__2 = some r) :
    FnOk prog 58 [ag [iv .i64 g_0.N, slv rT_api_Pair g_0.L], iv .i64 from__1, iv .i64 to__2] [] (fun (x : Unit) => [bv r]) (fun (x : Unit) => []) := by
  refine fn_ok (X := Unit) (fn := Try.f58) (N := 33) (m := net_Has_m g_0 from__1 to__2) (res := fun r x => [bv r]) (Ω1 := fun r x => []) Try.func58 rfl rfl hm rfl (fun E hM => ?_)
  unfold net_Has_m
  refine ref_seq ?_
  refine ref_region ?_
  refine s_st (s_box (part_ag (ψs := [iv .i64 g_0.N, slv rT_api_Pair g_0.L]) rfl (by intro φ h; simp only [List.mem_cons, List.not_mem_nil, or_false] at h; rcases h with rfl | rfl <;> first | exact iv_at | exact bv_at | exact sv_at | exact slv_at | exact pv_at rfl))) rfl (fun b1 => ?_)
  refine s_rd (r_assign rfl) rfl ?_
  refine l_nil ?_
  refine n_then ?_
  refine ref_seq ?_
  refine ref_seq ?_
  refine ref_region ?_
  refine s_rd (r_assign rfl) rfl ?_
  refine l_nil ?_
  refine n_then ?_
  refine ref_loopX (f := (net_Has_l1 g_0 from__1 to__2)) (Γl := (fun (s8 : Int) (x9 : Unit) => [(1, iv .i64 from__1), (2, iv .i64 to__2), (3, pv (ptr b1 0)), (7, iv .i64 s8)])) (Ωl := (fun (s8 : Int) (x9 : Unit) => [oc b1 [iv .i64 g_0.N, slv rT_api_Pair g_0.L]])) (Γb := (fun (q14 : Unit) (y15 : Unit) => [])) (Ωb := (fun (q14 : Unit) (y15 : Unit) => [])) (kr := (fun a : Bool => some a)) 0 () (weak [0] ⟨rfl, rfl, rfl, rfl, trivial⟩ ⟨rfl, trivial⟩) (fun s8 x9 => ?_) (fun q14 y15 => ?_)
  · unfold net_Has_l1
    refine ref_seq ?_
    refine ref_seq ?_
    refine ref_region ?_
    refine s_rd (r_move rfl) rfl ?_
    refine s_rd (r_faddr (fo := 1) Try.underlying28 rfl rfl Try.sizeOf26 rfl) rfl ?_
    refine s_rd (r_cload Try.isAgg26 rfl (j := 0) rfl rfl) rfl ?_
    refine s_rd (r_len Try.underlying26 rfl) rfl ?_
    refine s_rd (r_lss rfl rfl) rfl ?_
    refine l_nil ?_
    refine n_then ?_
    refine ref_cond rfl (fun hb10 => ?_) (fun hb10 => ?_)
    · refine ref_skip ?_
      refine n_then ?_
      refine ref_seq ?_
      refine ref_block ?_
      refine ref_seq ?_
      refine ref_region ?_
      refine s_rd (r_faddr (fo := 1) Try.underlying28 rfl rfl Try.sizeOf26 rfl) rfl ?_
      refine s_rd (r_cload Try.isAgg26 rfl (j := 0) rfl rfl) rfl ?_
      refine s_rd (r_move rfl) rfl ?_
      refine pull fun t11 h_t11 => ?_
      refine s_rd (r_index h_t11 Try.underlying26 el_67 rfl rfl) rfl ?_
      refine s_rd (r_fea (fo := 0) (ρ := rT_api_Pair) (y := t11) (ρ' := (rI .i64)) (z := t11.From) Try.underlying67 rfl rfl Try.sizeOf3 rfl rfl rfl) rfl ?_
      refine s_rd (r_load el_3 rfl) rfl ?_
      refine s_rd (r_move rfl) rfl ?_
      refine s_rd (r_eql rfl rfl) rfl ?_
      refine s_rd (r_move rfl) rfl ?_
      refine b_split (t := 23) rfl (fun _ => ?_) (fun _ => ?_)
      · refine s_on rfl rfl rfl ?_
        refine s_rd (r_faddr (fo := 1) Try.underlying28 rfl rfl Try.sizeOf26 rfl) rfl ?_
        refine s_on rfl rfl rfl ?_
        refine s_rd (r_cload Try.isAgg26 rfl (j := 0) rfl rfl) rfl ?_
        refine s_on rfl rfl rfl ?_
        refine s_rd (r_move rfl) rfl ?_
        refine s_on rfl rfl rfl ?_
        refine pull fun t12 h_t12 => ?_
        refine s_rd (r_index h_t12 Try.underlying26 el_67 rfl rfl) rfl ?_
        refine s_on rfl rfl rfl ?_
        refine s_rd (r_fea (fo := 1) (ρ := rT_api_Pair) (y := t12) (ρ' := (rI .i64)) (z := t12.To) Try.underlying67 rfl rfl Try.sizeOf3 rfl rfl rfl) rfl ?_
        refine s_on rfl rfl rfl ?_
        refine s_rd (r_load el_3 rfl) rfl ?_
        refine s_on rfl rfl rfl ?_
        refine s_rd (r_move rfl) rfl ?_
        refine s_on rfl rfl rfl ?_
        refine s_rd (r_eql rfl rfl) rfl ?_
        refine s_rd (r_pickT rfl rfl) rfl ?_
        refine l_nil ?_
        refine n_then ?_
        refine ref_cond rfl (fun hb13 => ?_) (fun hb13 => ?_)
        · refine ref_seq ?_
          refine ref_region ?_
          refine s_rd (r_assign rfl) rfl ?_
          refine l_nil ?_
          refine n_then ?_
          refine ref_ret ?_
          refine r_block ?_
          refine r_then ?_
          refine retX ?_
          refine r_block ?_
          refine r_then ?_
          exact fin1 (.inl rfl) () [] rfl trivial rfl (rv_tmp rfl)
        · refine ref_skip ?_
          refine n_block ?_
          refine n_then ?_
          refine ref_region ?_
          refine s_rd (r_move rfl) rfl ?_
          refine s_rd (r_add rfl rfl) rfl ?_
          refine s_rd (r_assign rfl) rfl ?_
          refine l_nil ?_
          exact goX () (weak [0] ⟨rfl, rfl, rfl, rfl, trivial⟩ ⟨rfl, trivial⟩)
      · refine s_off rfl rfl rfl rfl rfl ?_
        refine s_off rfl rfl rfl rfl rfl ?_
        refine s_off rfl rfl rfl rfl rfl ?_
        refine s_off rfl rfl rfl rfl rfl ?_
        refine s_off rfl rfl rfl rfl rfl ?_
        refine s_off rfl rfl rfl rfl rfl ?_
        refine s_off rfl rfl rfl rfl rfl ?_
        refine s_off rfl rfl rfl rfl rfl ?_
        refine s_rd (r_pickF rfl rfl) rfl ?_
        refine l_nil ?_
        refine n_then ?_
        refine ref_condF rfl rfl ?_
        refine ref_skip ?_
        refine n_block ?_
        refine n_then ?_
        refine ref_region ?_
        refine s_rd (r_move rfl) rfl ?_
        refine s_rd (r_add rfl rfl) rfl ?_
        refine s_rd (r_assign rfl) rfl ?_
        refine l_nil ?_
        exact goX () (weak [0] ⟨rfl, rfl, rfl, rfl, trivial⟩ ⟨rfl, trivial⟩)
    · refine ref_exit ?_
      refine x_then ?_
      exact brkX () (weak [] trivial trivial)
  · refine n_then ?_
    refine ref_seq ?_
    refine ref_region ?_
    refine s_rd (r_assign rfl) rfl ?_
    refine l_nil ?_
    refine n_then ?_
    refine ref_ret ?_
    exact fin1 (.inl rfl) () [] rfl trivial rfl (rv_tmp rfl)

/-! deliberation/deliberationref27.repeated -/
noncomputable def ref27_repeated_l1 (d_0 : T_api_Dialogue) (node_2 : Int) (s12 : Int) : Option (Sum ((Sum (Bool) (Unit))) (Int)) :=
  bif decide (s12 > 0) then
    joinM (fun j18 : Unit =>
        Option.bind (idxM d_0.Moves s12) fun t21 =>
        some (Sum.inr t21.Target)) fun k20 =>
    Option.bind (idxM d_0.Moves s12) fun t15 =>
    bif t15.By == 1 then
      Option.bind (idxM d_0.Moves s12) fun t16 =>
      bif t16.Node == node_2 then
        some (Sum.inl (Sum.inl true))
      else
        k20 ()
    else
      k20 ()
  else
    some (Sum.inl (Sum.inr ()))

noncomputable def ref27_repeated_m (d_0 : T_api_Dialogue) (at__1 : Int) (node_2 : Int) : Option (Bool) :=
  Option.bind (loopC (ref27_repeated_l1 d_0 node_2) at__1) (sumK (fun a : Bool => some a) fun q22 : Unit =>
    Option.bind (idxM d_0.Moves 0) fun t24 =>
    letM (t24.Node == node_2) fun t25 =>
    some t25)

theorem ref27_repeated_ok {d_0 : T_api_Dialogue} {at__1 : Int} {node_2 : Int} {r : Bool} (hm : ref27_repeated_m d_0 at__1 node_2 = some r) :
    FnOk prog 79 [ag [iv .i64 d_0.Graph.N, slv rT_api_Pair d_0.Graph.L, iv .i64 d_0.Root, iv .i64 d_0.Limits.i0, iv .i64 d_0.Limits.i1, slv rT_api_Move d_0.Moves], iv .i64 at__1, iv .i64 node_2] [] (fun (x : Unit) => [bv r]) (fun (x : Unit) => []) := by
  refine fn_ok (X := Unit) (fn := Try.f79) (N := 39) (m := ref27_repeated_m d_0 at__1 node_2) (res := fun r x => [bv r]) (Ω1 := fun r x => []) Try.func79 rfl rfl hm rfl (fun E hM => ?_)
  unfold ref27_repeated_m
  refine ref_seq ?_
  refine ref_region ?_
  refine s_st (s_box (part_ag (ψs := [iv .i64 d_0.Graph.N, slv rT_api_Pair d_0.Graph.L, iv .i64 d_0.Root, iv .i64 d_0.Limits.i0, iv .i64 d_0.Limits.i1, slv rT_api_Move d_0.Moves]) rfl (by intro φ h; simp only [List.mem_cons, List.not_mem_nil, or_false] at h; rcases h with rfl | rfl | rfl | rfl | rfl | rfl <;> first | exact iv_at | exact bv_at | exact sv_at | exact slv_at | exact pv_at rfl))) rfl (fun b1 => ?_)
  refine s_rd (r_assign rfl) rfl ?_
  refine l_nil ?_
  refine n_then ?_
  refine ref_seq ?_
  refine ref_loopX (f := (ref27_repeated_l1 d_0 node_2)) (Γl := (fun (s12 : Int) (x13 : Unit) => [(1, iv .i64 s12), (2, iv .i64 node_2), (3, pv (ptr b1 0))])) (Ωl := (fun (s12 : Int) (x13 : Unit) => [oc b1 [iv .i64 d_0.Graph.N, slv rT_api_Pair d_0.Graph.L, iv .i64 d_0.Root, iv .i64 d_0.Limits.i0, iv .i64 d_0.Limits.i1, slv rT_api_Move d_0.Moves]])) (Γb := (fun (q22 : Unit) (y23 : Unit) => [(2, iv .i64 node_2), (3, pv (ptr b1 0))])) (Ωb := (fun (q22 : Unit) (y23 : Unit) => [oc b1 [iv .i64 d_0.Graph.N, slv rT_api_Pair d_0.Graph.L, iv .i64 d_0.Root, iv .i64 d_0.Limits.i0, iv .i64 d_0.Limits.i1, slv rT_api_Move d_0.Moves]])) (kr := (fun a : Bool => some a)) at__1 () (weak [0] ⟨rfl, rfl, rfl, trivial⟩ ⟨rfl, trivial⟩) (fun s12 x13 => ?_) (fun q22 y23 => ?_)
  · unfold ref27_repeated_l1
    refine ref_seq ?_
    refine ref_seq ?_
    refine ref_region ?_
    refine s_rd (r_move rfl) rfl ?_
    refine s_rd (r_gtr rfl rfl) rfl ?_
    refine l_nil ?_
    refine n_then ?_
    refine ref_cond rfl (fun hb14 => ?_) (fun hb14 => ?_)
    · refine ref_skip ?_
      refine n_then ?_
      refine ref_block ?_
      refine ref_seq ?_
      refine ref_join (fun (j18 : Unit) (x19 : Unit) => [(1, iv .i64 s12), (2, iv .i64 node_2), (3, pv (ptr b1 0))]) (fun (j18 : Unit) (x19 : Unit) => [oc b1 [iv .i64 d_0.Graph.N, slv rT_api_Pair d_0.Graph.L, iv .i64 d_0.Root, iv .i64 d_0.Limits.i0, iv .i64 d_0.Limits.i1, slv rT_api_Move d_0.Moves]]) (fun k20 hk20 => ?_) (fun j18 x19 => ?_)
      · refine ref_seq ?_
        refine ref_region ?_
        refine s_rd (r_faddr (fo := 5) Try.underlying35 rfl rfl Try.sizeOf23 rfl) rfl ?_
        refine s_rd (r_cload Try.isAgg23 rfl (j := 0) rfl rfl) rfl ?_
        refine s_rd (r_move rfl) rfl ?_
        refine pull fun t15 h_t15 => ?_
        refine s_rd (r_index h_t15 Try.underlying23 el_40 rfl rfl) rfl ?_
        refine s_rd (r_fea (fo := 0) (ρ := rT_api_Move) (y := t15) (ρ' := (rI .i64)) (z := t15.By) Try.underlying40 rfl rfl Try.sizeOf3 rfl rfl rfl) rfl ?_
        refine s_rd (r_load el_3 rfl) rfl ?_
        refine s_rd (r_eql rfl rfl) rfl ?_
        refine s_rd (r_move rfl) rfl ?_
        refine b_split (t := 16) rfl (fun _ => ?_) (fun _ => ?_)
        · refine s_on rfl rfl rfl ?_
          refine s_rd (r_faddr (fo := 5) Try.underlying35 rfl rfl Try.sizeOf23 rfl) rfl ?_
          refine s_on rfl rfl rfl ?_
          refine s_rd (r_cload Try.isAgg23 rfl (j := 0) rfl rfl) rfl ?_
          refine s_on rfl rfl rfl ?_
          refine s_rd (r_move rfl) rfl ?_
          refine s_on rfl rfl rfl ?_
          refine pull fun t16 h_t16 => ?_
          refine s_rd (r_index h_t16 Try.underlying23 el_40 rfl rfl) rfl ?_
          refine s_on rfl rfl rfl ?_
          refine s_rd (r_fea (fo := 2) (ρ := rT_api_Move) (y := t16) (ρ' := (rI .i64)) (z := t16.Node) Try.underlying40 rfl rfl Try.sizeOf3 rfl rfl rfl) rfl ?_
          refine s_on rfl rfl rfl ?_
          refine s_rd (r_load el_3 rfl) rfl ?_
          refine s_on rfl rfl rfl ?_
          refine s_rd (r_move rfl) rfl ?_
          refine s_on rfl rfl rfl ?_
          refine s_rd (r_eql rfl rfl) rfl ?_
          refine s_rd (r_pickT rfl rfl) rfl ?_
          refine l_nil ?_
          refine n_then ?_
          refine ref_cond rfl (fun hb17 => ?_) (fun hb17 => ?_)
          · refine ref_seq ?_
            refine ref_region ?_
            refine s_rd (r_assign rfl) rfl ?_
            refine l_nil ?_
            refine n_then ?_
            refine ref_ret ?_
            refine r_then ?_
            refine r_block ?_
            refine retX ?_
            refine r_block ?_
            refine r_then ?_
            exact fin1 (.inl rfl) () [] rfl trivial rfl (rv_tmp rfl)
          · refine ref_skip ?_
            exact b_to (hk20 () ()) (weak [0] ⟨rfl, rfl, rfl, trivial⟩ ⟨rfl, trivial⟩)
        · refine s_off rfl rfl rfl rfl rfl ?_
          refine s_off rfl rfl rfl rfl rfl ?_
          refine s_off rfl rfl rfl rfl rfl ?_
          refine s_off rfl rfl rfl rfl rfl ?_
          refine s_off rfl rfl rfl rfl rfl ?_
          refine s_off rfl rfl rfl rfl rfl ?_
          refine s_off rfl rfl rfl rfl rfl ?_
          refine s_off rfl rfl rfl rfl rfl ?_
          refine s_rd (r_pickF rfl rfl) rfl ?_
          refine l_nil ?_
          refine n_then ?_
          refine ref_condF rfl rfl ?_
          refine ref_skip ?_
          exact b_to (hk20 () ()) (weak [0] ⟨rfl, rfl, rfl, trivial⟩ ⟨rfl, trivial⟩)
      · refine n_then ?_
        refine ref_region ?_
        refine s_rd (r_faddr (fo := 5) Try.underlying35 rfl rfl Try.sizeOf23 rfl) rfl ?_
        refine s_rd (r_cload Try.isAgg23 rfl (j := 0) rfl rfl) rfl ?_
        refine s_rd (r_move rfl) rfl ?_
        refine pull fun t21 h_t21 => ?_
        refine s_rd (r_index h_t21 Try.underlying23 el_40 rfl rfl) rfl ?_
        refine s_rd (r_fea (fo := 3) (ρ := rT_api_Move) (y := t21) (ρ' := (rI .i64)) (z := t21.Target) Try.underlying40 rfl rfl Try.sizeOf3 rfl rfl rfl) rfl ?_
        refine s_rd (r_load el_3 rfl) rfl ?_
        refine s_rd (r_assign rfl) rfl ?_
        refine l_nil ?_
        refine n_block ?_
        exact goX () (weak [0] ⟨rfl, rfl, rfl, trivial⟩ ⟨rfl, trivial⟩)
    · refine ref_exit ?_
      refine x_then ?_
      exact brkX () (weak [0] ⟨rfl, rfl, trivial⟩ ⟨rfl, trivial⟩)
  · refine n_then ?_
    refine ref_seq ?_
    refine ref_region ?_
    refine s_rd (r_faddr (fo := 5) Try.underlying35 rfl rfl Try.sizeOf23 rfl) rfl ?_
    refine s_rd (r_cload Try.isAgg23 rfl (j := 0) rfl rfl) rfl ?_
    refine pull fun t24 h_t24 => ?_
    refine s_rd (r_index h_t24 Try.underlying23 el_40 rfl rfl) rfl ?_
    refine s_rd (r_fea (fo := 2) (ρ := rT_api_Move) (y := t24) (ρ' := (rI .i64)) (z := t24.Node) Try.underlying40 rfl rfl Try.sizeOf3 rfl rfl rfl) rfl ?_
    refine s_rd (r_load el_3 rfl) rfl ?_
    refine s_rd (r_move rfl) rfl ?_
    refine s_rd (r_eql rfl rfl) rfl ?_
    refine s_rd (r_assign rfl) rfl ?_
    refine b_let (f := bv) (t := 6) rfl fun t25 => ?_
    refine l_nil ?_
    refine n_then ?_
    refine ref_ret ?_
    exact fin1 (.inl rfl) () [] rfl trivial rfl (rv_tmp rfl)

/-! deliberation/deliberationref27.attacks -/
noncomputable def ref27_attacks_l3 (d_0 : T_api_Dialogue) (t226 : Int) (s295 : Int × (List T_api_Move)) (s307 : Bool × Int) : Option (Sum (Bool) (Bool × Int)) :=
  bif decide (s307.2 < (d_0.Moves.length : Int)) then
    bif s307.1 then
      Option.bind (idxM d_0.Moves s307.2) fun t310 =>
      bif t310.Kind == 2 then
        Option.bind (idxM d_0.Moves s307.2) fun t311 =>
        bif t311.Target == t226 then
          Option.bind (idxM d_0.Moves s307.2) fun t312 =>
          letM (!(t312.Node == s295.1)) fun ok313 =>
          letM (iadd .i64 s307.2 1) fun k314 =>
          some (Sum.inr (ok313, k314))
        else
          letM (iadd .i64 s307.2 1) fun k315 =>
          some (Sum.inr (!false, k315))
      else
        letM (iadd .i64 s307.2 1) fun k316 =>
        some (Sum.inr (!false, k316))
    else
      letM (iadd .i64 s307.2 1) fun k317 =>
      some (Sum.inr (false, k317))
  else
    some (Sum.inl s307.1)

noncomputable def ref27_attacks_l2 (d_0 : T_api_Dialogue) (t4 : Int) (t226 : Int) (s295 : Int × (List T_api_Move)) : Option (Sum ((List T_api_Move)) (Int × (List T_api_Move))) :=
  bif decide (s295.1 < d_0.Graph.N) then
    Option.bind (idxM d_0.Moves t226) fun t298 =>
    Option.bind (net_Has_m d_0.Graph s295.1 t298.Node) fun ok299 =>
    Option.bind (loopC (ref27_attacks_l3 d_0 t226 s295) (ok299, 0)) fun q318 : Bool =>
    joinM (fun j321 : Bool =>
        bif j321 then
          Option.bind (appM 32 s295.2 [(T_api_Move.mk (isub .i64 3 t4) 2 s295.1 t226)]) fun out325 =>
          letM (iadd .i64 s295.1 1) fun a_327 =>
          some (Sum.inr (a_327, out325))
        else
          letM (iadd .i64 s295.1 1) fun a_328 =>
          some (Sum.inr (a_328, s295.2))) fun k323 =>
    bif q318 then
      bif (isub .i64 3 t4) == 2 then
        k323 true
      else
        Option.bind (ref27_repeated_m d_0 t226 s295.1) fun t320 =>
        k323 (!t320)
    else
      k323 false
  else
    some (Sum.inl s295.2)

noncomputable def ref27_attacks_l1 (d_0 : T_api_Dialogue) (t4 : Int) (t5 : List Int) (s223 : Int × (List T_api_Move)) : Option (Sum ((List T_api_Move)) (Int × (List T_api_Move))) :=
  bif decide (s223.1 < (t5.length : Int)) then
    Option.bind (idxM t5 s223.1) fun t226 =>
    Option.bind (idxM d_0.Moves t226) fun t227 =>
    bif t227.By == (isub .i64 3 t4) then
      some (Sum.inr (iadd .i64 s223.1 1, s223.2))
    else
      Option.bind (loopC (ref27_attacks_l2 d_0 t4 t226) (0, s223.2)) fun q329 : (List T_api_Move) =>
      some (Sum.inr (iadd .i64 s223.1 1, q329))
  else
    some (Sum.inl s223.2)

noncomputable def ref27_attacks_m (d_0 : T_api_Dialogue) : Option (List T_api_Move) :=
  Option.bind (ref27_Status_m d_0) fun status2 =>
  Option.bind (ref27_leader_m status2) fun t4 =>
  Option.bind (ref27_Leading_m d_0) fun t5 =>
  Option.bind (loopC (ref27_attacks_l1 d_0 t4 t5) (0, [])) fun q331 : (List T_api_Move) =>
  some q331

theorem ref27_attacks_ok {d_0 : T_api_Dialogue} {r : List T_api_Move} (hm : ref27_attacks_m d_0 = some r) :
    FnOk prog 56 [ag [iv .i64 d_0.Graph.N, slv rT_api_Pair d_0.Graph.L, iv .i64 d_0.Root, iv .i64 d_0.Limits.i0, iv .i64 d_0.Limits.i1, slv rT_api_Move d_0.Moves]] [] (fun (x : (Value × List Nat)) => [pv x.1]) (fun (x : (Value × List Nat)) => [oa rT_api_Move x.1 x.2 r]) := by
  refine fn_ok (X := (Value × List Nat)) (fn := Try.f56) (N := 107) (m := ref27_attacks_m d_0) (res := fun r x => [pv x.1]) (Ω1 := fun r x => [oa rT_api_Move x.1 x.2 r]) Try.func56 rfl rfl hm rfl (fun E hM => ?_)
  unfold ref27_attacks_m
  refine ref_seq ?_
  refine ref_region ?_
  refine s_st (s_box (part_ag (ψs := [iv .i64 d_0.Graph.N, slv rT_api_Pair d_0.Graph.L, iv .i64 d_0.Root, iv .i64 d_0.Limits.i0, iv .i64 d_0.Limits.i1, slv rT_api_Move d_0.Moves]) rfl (by intro φ h; simp only [List.mem_cons, List.not_mem_nil, or_false] at h; rcases h with rfl | rfl | rfl | rfl | rfl | rfl <;> first | exact iv_at | exact bv_at | exact sv_at | exact slv_at | exact pv_at rfl))) rfl (fun b1 => ?_)
  refine s_rd (r_assign rfl) rfl ?_
  refine l_nil ?_
  refine n_then ?_
  refine ref_seq ?_
  refine ref_region ?_
  refine s_rd (r_cloadS Try.isAgg35 Try.sizeOf35 rfl (j := 0) rfl rfl rfl) rfl ?_
  refine pull fun status2 h_status2 => ?_
  refine s_st (s_call (ψ := fun (x3 : (Value × List Nat)) => pv x3.1) (args := [.tmp 11]) Try.call55 rfl (ref27_Status_ok h_status2) ⟨arg rfl, trivial⟩ (fun _ _ _ _ h => h)) rfl (fun x3 => ?_)
  refine s_rd (r_assign rfl) rfl ?_
  refine l_nil ?_
  refine n_then ?_
  refine ref_seq ?_
  refine ref_region ?_
  refine s_rd (r_move rfl) rfl ?_
  refine pull fun t4 h_t4 => ?_
  refine s_st (s_callB (ψ := fun (_ : Unit) => iv .i64 t4) (args := [.tmp 13]) Try.call54 rfl (ref27_leader_ok h_t4) ⟨argO rfl (j := 1) rfl, trivial⟩ (fun _ _ _ _ _ h => h)) rfl (fun _ => ?_)
  refine s_rd (r_sub rfl rfl) rfl ?_
  refine s_rd (r_assign rfl) rfl ?_
  refine l_nil ?_
  refine n_then ?_
  refine ref_seq ?_
  refine ref_region ?_
  refine s_rd (r_assign rfl) rfl ?_
  refine l_nil ?_
  refine n_then ?_
  refine ref_seq ?_
  refine ref_seq ?_
  refine ref_region ?_
  refine s_rd (r_cloadS Try.isAgg35 Try.sizeOf35 rfl (j := 0) rfl rfl rfl) rfl ?_
  refine pull fun t5 h_t5 => ?_
  refine s_st (s_call (ψ := fun (x6 : (Value × List Nat)) => pv x6.1) (args := [.tmp 16]) Try.call78 rfl (ref27_Leading_ok h_t5) ⟨arg rfl, trivial⟩ (fun _ _ _ _ h => h)) rfl (fun x6 => ?_)
  refine s_rd (r_olen Try.underlying22 rfl (j := 2) rfl) rfl ?_
  refine s_rd (r_move rfl) rfl ?_
  refine l_nil ?_
  refine b_of (nrm [oc b1 [iv .i64 d_0.Graph.N, slv rT_api_Pair d_0.Graph.L, iv .i64 d_0.Root, iv .i64 d_0.Limits.i0, iv .i64 d_0.Limits.i1, slv rT_api_Move d_0.Moves], oa (rI .i64) x3.1 x3.2 status2, oa (rI .i64) x6.1 x6.2 t5] rfl) ?_
  refine n_then ?_
  refine b_of (own_nil rT_api_Move) ?_
  refine ref_loopB (f := (ref27_attacks_l1 d_0 t4 t5)) (Γl := (fun (s223 : Int × (List T_api_Move)) (x224 : (Value × List Nat)) => [(1, pv (ptr b1 0)), (4, iv .i64 (isub .i64 3 t4)), (5, pv x224.1), (17, pv x6.1), (18, iv .i64 (t5.length : Int)), (19, iv .i64 s223.1)])) (Ωl := (fun (s223 : Int × (List T_api_Move)) (x224 : (Value × List Nat)) => [oc b1 [iv .i64 d_0.Graph.N, slv rT_api_Pair d_0.Graph.L, iv .i64 d_0.Root, iv .i64 d_0.Limits.i0, iv .i64 d_0.Limits.i1, slv rT_api_Move d_0.Moves], oa rT_api_Move x224.1 x224.2 s223.2, oa (rI .i64) x6.1 x6.2 t5])) (Γb := (fun (q331 : (List T_api_Move)) (y332 : (Value × List Nat)) => [(5, pv y332.1)])) (Ωb := (fun (q331 : (List T_api_Move)) (y332 : (Value × List Nat)) => [oa rT_api_Move y332.1 y332.2 q331])) (0, []) ((.slice none 0 0), []) (weak [0, 3, 2] ⟨rfl, rfl, rfl, rfl, rfl, rfl, trivial⟩ ⟨rfl, rfl, rfl, trivial⟩) (fun s223 x224 => ?_) (fun q331 y332 => ?_)
  · unfold ref27_attacks_l1
    refine ref_seq ?_
    refine ref_region ?_
    refine s_rd (r_lss rfl rfl) rfl ?_
    refine l_nil ?_
    refine n_then ?_
    refine ref_seq ?_
    refine ref_cond rfl (fun hb225 => ?_) (fun hb225 => ?_)
    · refine ref_skip ?_
      refine n_then ?_
      refine ref_seq ?_
      refine ref_block ?_
      refine ref_seq ?_
      refine ref_region ?_
      refine pull fun t226 h_t226 => ?_
      refine s_rd (r_oindex h_t226 Try.underlying22 el_3 rfl (j := 2) rfl rfl) rfl ?_
      refine s_rd (r_oload h_t226 el_3 rfl (j := 2) rfl) rfl ?_
      refine s_rd (r_assign rfl) rfl ?_
      refine l_nil ?_
      refine n_then ?_
      refine ref_seq ?_
      refine ref_seq ?_
      refine ref_region ?_
      refine s_rd (r_faddr (fo := 5) Try.underlying35 rfl rfl Try.sizeOf23 rfl) rfl ?_
      refine s_rd (r_cload Try.isAgg23 rfl (j := 0) rfl rfl) rfl ?_
      refine s_rd (r_move rfl) rfl ?_
      refine pull fun t227 h_t227 => ?_
      refine s_rd (r_index h_t227 Try.underlying23 el_40 rfl rfl) rfl ?_
      refine s_rd (r_fea (fo := 0) (ρ := rT_api_Move) (y := t227) (ρ' := (rI .i64)) (z := t227.By) Try.underlying40 rfl rfl Try.sizeOf3 rfl rfl rfl) rfl ?_
      refine s_rd (r_load el_3 rfl) rfl ?_
      refine s_rd (r_move rfl) rfl ?_
      refine s_rd (r_eql rfl rfl) rfl ?_
      refine l_nil ?_
      refine n_then ?_
      refine ref_cond rfl (fun hb228 => ?_) (fun hb228 => ?_)
      · refine ref_exit ?_
        refine x_then ?_
        refine x_eq ?_
        refine n_then ?_
        refine ref_region ?_
        refine s_rd (r_add rfl rfl) rfl ?_
        refine s_rd (r_move rfl) rfl ?_
        refine l_nil ?_
        exact goB x224 (weak [0, 1, 2] ⟨rfl, rfl, rfl, rfl, rfl, rfl, trivial⟩ ⟨rfl, rfl, rfl, trivial⟩)
      · refine ref_skip ?_
        refine n_then ?_
        refine ref_seq ?_
        refine ref_region ?_
        refine s_rd (r_assign rfl) rfl ?_
        refine l_nil ?_
        refine n_then ?_
        refine ref_loopB (f := (ref27_attacks_l2 d_0 t4 t226)) (Γl := (fun (s295 : Int × (List T_api_Move)) (x296 : (Value × List Nat)) => [(1, pv (ptr b1 0)), (4, iv .i64 (isub .i64 3 t4)), (5, pv x296.1), (7, iv .i64 t226), (8, iv .i64 s295.1), (17, pv x6.1), (18, iv .i64 (t5.length : Int)), (19, iv .i64 s223.1)])) (Ωl := (fun (s295 : Int × (List T_api_Move)) (x296 : (Value × List Nat)) => [oc b1 [iv .i64 d_0.Graph.N, slv rT_api_Pair d_0.Graph.L, iv .i64 d_0.Root, iv .i64 d_0.Limits.i0, iv .i64 d_0.Limits.i1, slv rT_api_Move d_0.Moves], oa rT_api_Move x296.1 x296.2 s295.2, oa (rI .i64) x6.1 x6.2 t5])) (Γb := (fun (q329 : (List T_api_Move)) (y330 : (Value × List Nat)) => [(1, pv (ptr b1 0)), (4, iv .i64 (isub .i64 3 t4)), (5, pv y330.1), (17, pv x6.1), (18, iv .i64 (t5.length : Int)), (19, iv .i64 s223.1)])) (Ωb := (fun (q329 : (List T_api_Move)) (y330 : (Value × List Nat)) => [oc b1 [iv .i64 d_0.Graph.N, slv rT_api_Pair d_0.Graph.L, iv .i64 d_0.Root, iv .i64 d_0.Limits.i0, iv .i64 d_0.Limits.i1, slv rT_api_Move d_0.Moves], oa rT_api_Move y330.1 y330.2 q329, oa (rI .i64) x6.1 x6.2 t5])) (0, s223.2) x224 (weak [0, 1, 2] ⟨rfl, rfl, rfl, rfl, rfl, rfl, rfl, rfl, trivial⟩ ⟨rfl, rfl, rfl, trivial⟩) (fun s295 x296 => ?_) (fun q329 y330 => ?_)
        · unfold ref27_attacks_l2
          refine ref_seq ?_
          refine ref_seq ?_
          refine ref_region ?_
          refine s_rd (r_move rfl) rfl ?_
          refine s_rd (r_faddr (fo := 0) Try.underlying35 rfl rfl Try.sizeOf28 rfl) rfl ?_
          refine s_rd (r_faddr (fo := 0) Try.underlying28 rfl rfl Try.sizeOf3 rfl) rfl ?_
          refine s_rd (r_cload Try.isAgg3 rfl (j := 0) rfl rfl) rfl ?_
          refine s_rd (r_lss rfl rfl) rfl ?_
          refine l_nil ?_
          refine n_then ?_
          refine ref_cond rfl (fun hb297 => ?_) (fun hb297 => ?_)
          · refine ref_skip ?_
            refine n_then ?_
            refine ref_seq ?_
            refine ref_block ?_
            refine ref_seq ?_
            refine ref_draw [0, 1, 2, 3, 4, 5, 6, 7, 8] rfl (by kernel_rfl) (fun hok => ?_)
            refine a_rd (i := 0) hok rfl (by kernel_rfl) rfl (r_faddr (fo := 0) Try.underlying35 rfl rfl Try.sizeOf28 rfl) rfl ?_
            refine a_rd (i := 1) hok rfl (by kernel_rfl) rfl (r_cloadS Try.isAgg28 Try.sizeOf28 rfl (j := 0) rfl rfl rfl) rfl ?_
            refine a_rd (i := 2) hok rfl (by kernel_rfl) rfl (r_move rfl) rfl ?_
            refine a_rd (i := 3) hok rfl (by kernel_rfl) rfl (r_faddr (fo := 5) Try.underlying35 rfl rfl Try.sizeOf23 rfl) rfl ?_
            refine a_rd (i := 4) hok rfl (by kernel_rfl) rfl (r_cload Try.isAgg23 rfl (j := 0) rfl rfl) rfl ?_
            refine a_rd (i := 5) hok rfl (by kernel_rfl) rfl (r_move rfl) rfl ?_
            refine pull fun t298 h_t298 => ?_
            refine a_rd (i := 6) hok rfl (by kernel_rfl) rfl (r_index h_t298 Try.underlying23 el_40 rfl rfl) rfl ?_
            refine a_rd (i := 7) hok rfl (by kernel_rfl) rfl (r_fea (fo := 2) (ρ := rT_api_Move) (y := t298) (ρ' := (rI .i64)) (z := t298.Node) Try.underlying40 rfl rfl Try.sizeOf3 rfl rfl rfl) rfl ?_
            refine a_rd (i := 8) hok rfl (by kernel_rfl) rfl (r_load el_3 rfl) rfl ?_
            refine pull fun ok299 h_ok299 => ?_
            refine a_next hok 9 [] (by kernel_rfl) ?_ trivial
            refine a_st (i := 9) hok rfl rfl (s_call (ψ := fun (_ : Unit) => bv ok299) (args := [.tmp 39, .tmp 40, .tmp 46]) Try.call58 rfl (net_Has_ok h_ok299) ⟨arg rfl, arg rfl, arg rfl, trivial⟩ (fun _ _ _ _ h => h)) (by intro _ h; cases h; rfl) (fun _ => ⟨trivial, ⟨trivial, ⟨trivial, ⟨trivial, ⟨⟨⟨rfl, rfl⟩, trivial⟩, ⟨trivial, ⟨trivial, ⟨trivial, ⟨trivial, trivial⟩⟩⟩⟩⟩⟩⟩⟩⟩) (fun _ => ?_)
            refine a_next hok 10 [] (by kernel_rfl) ?_ trivial
            refine a_st (i := 10) hok rfl rfl (St.ofRd (r_assign rfl)) (by intro _ h; cases h; rfl) (fun _ => ⟨trivial, ⟨trivial, ⟨trivial, ⟨trivial, ⟨trivial, ⟨trivial, ⟨trivial, ⟨trivial, ⟨trivial, trivial⟩⟩⟩⟩⟩⟩⟩⟩⟩) (fun _ => ?_)
            refine a_fin hok (by kernel_rfl) ?_
            refine n_then ?_
            refine ref_seq ?_
            refine ref_seq ?_
            refine ref_region ?_
            refine s_rd (r_assign rfl) rfl ?_
            refine l_nil ?_
            refine n_then ?_
            refine ref_loopB (f := (ref27_attacks_l3 d_0 t226 s295)) (Γl := (fun (s307 : Bool × Int) (x308 : Unit) => [(1, pv (ptr b1 0)), (4, iv .i64 (isub .i64 3 t4)), (5, pv x296.1), (7, iv .i64 t226), (8, iv .i64 s295.1), (9, bv s307.1), (10, iv .i64 s307.2), (17, pv x6.1), (18, iv .i64 (t5.length : Int)), (19, iv .i64 s223.1)])) (Ωl := (fun (s307 : Bool × Int) (x308 : Unit) => [oc b1 [iv .i64 d_0.Graph.N, slv rT_api_Pair d_0.Graph.L, iv .i64 d_0.Root, iv .i64 d_0.Limits.i0, iv .i64 d_0.Limits.i1, slv rT_api_Move d_0.Moves], oa rT_api_Move x296.1 x296.2 s295.2, oa (rI .i64) x6.1 x6.2 t5])) (Γb := (fun (q318 : Bool) (y319 : Unit) => [(1, pv (ptr b1 0)), (4, iv .i64 (isub .i64 3 t4)), (5, pv x296.1), (7, iv .i64 t226), (8, iv .i64 s295.1), (9, bv q318), (17, pv x6.1), (18, iv .i64 (t5.length : Int)), (19, iv .i64 s223.1)])) (Ωb := (fun (q318 : Bool) (y319 : Unit) => [oc b1 [iv .i64 d_0.Graph.N, slv rT_api_Pair d_0.Graph.L, iv .i64 d_0.Root, iv .i64 d_0.Limits.i0, iv .i64 d_0.Limits.i1, slv rT_api_Move d_0.Moves], oa rT_api_Move x296.1 x296.2 s295.2, oa (rI .i64) x6.1 x6.2 t5])) (ok299, 0) () (weak [0, 1, 2] ⟨rfl, rfl, rfl, rfl, rfl, rfl, rfl, rfl, rfl, rfl, trivial⟩ ⟨rfl, rfl, rfl, trivial⟩) (fun s307 x308 => ?_) (fun q318 y319 => ?_)
            · unfold ref27_attacks_l3
              refine ref_seq ?_
              refine ref_seq ?_
              refine ref_region ?_
              refine s_rd (r_move rfl) rfl ?_
              refine s_rd (r_faddr (fo := 5) Try.underlying35 rfl rfl Try.sizeOf23 rfl) rfl ?_
              refine s_rd (r_cload Try.isAgg23 rfl (j := 0) rfl rfl) rfl ?_
              refine s_rd (r_len Try.underlying23 rfl) rfl ?_
              refine s_rd (r_lss rfl rfl) rfl ?_
              refine l_nil ?_
              refine n_then ?_
              refine ref_cond rfl (fun hb309 => ?_) (fun hb309 => ?_)
              · refine ref_skip ?_
                refine n_then ?_
                refine ref_seq ?_
                refine ref_block ?_
                refine ref_region ?_
                refine s_rd (r_move rfl) rfl ?_
                refine s_rd (r_move rfl) rfl ?_
                refine b_split (t := 56) rfl (fun _ => ?_) (fun _ => ?_)
                · refine s_on rfl rfl rfl ?_
                  refine s_rd (r_faddr (fo := 5) Try.underlying35 rfl rfl Try.sizeOf23 rfl) rfl ?_
                  refine s_on rfl rfl rfl ?_
                  refine s_rd (r_cload Try.isAgg23 rfl (j := 0) rfl rfl) rfl ?_
                  refine s_on rfl rfl rfl ?_
                  refine s_rd (r_move rfl) rfl ?_
                  refine s_on rfl rfl rfl ?_
                  refine pull fun t310 h_t310 => ?_
                  refine s_rd (r_index h_t310 Try.underlying23 el_40 rfl rfl) rfl ?_
                  refine s_on rfl rfl rfl ?_
                  refine s_rd (r_fea (fo := 1) (ρ := rT_api_Move) (y := t310) (ρ' := (rI .i64)) (z := t310.Kind) Try.underlying40 rfl rfl Try.sizeOf3 rfl rfl rfl) rfl ?_
                  refine s_on rfl rfl rfl ?_
                  refine s_rd (r_load el_3 rfl) rfl ?_
                  refine s_on rfl rfl rfl ?_
                  refine s_rd (r_eql rfl rfl) rfl ?_
                  refine s_on rfl rfl rfl ?_
                  refine s_rd (r_move rfl) rfl ?_
                  refine b_split (t := 64) rfl (fun _ => ?_) (fun _ => ?_)
                  · refine s_on rfl rfl rfl ?_
                    refine s_rd (r_faddr (fo := 5) Try.underlying35 rfl rfl Try.sizeOf23 rfl) rfl ?_
                    refine s_on rfl rfl rfl ?_
                    refine s_rd (r_cload Try.isAgg23 rfl (j := 0) rfl rfl) rfl ?_
                    refine s_on rfl rfl rfl ?_
                    refine s_rd (r_move rfl) rfl ?_
                    refine s_on rfl rfl rfl ?_
                    refine pull fun t311 h_t311 => ?_
                    refine s_rd (r_index h_t311 Try.underlying23 el_40 rfl rfl) rfl ?_
                    refine s_on rfl rfl rfl ?_
                    refine s_rd (r_fea (fo := 3) (ρ := rT_api_Move) (y := t311) (ρ' := (rI .i64)) (z := t311.Target) Try.underlying40 rfl rfl Try.sizeOf3 rfl rfl rfl) rfl ?_
                    refine s_on rfl rfl rfl ?_
                    refine s_rd (r_load el_3 rfl) rfl ?_
                    refine s_on rfl rfl rfl ?_
                    refine s_rd (r_move rfl) rfl ?_
                    refine s_on rfl rfl rfl ?_
                    refine s_rd (r_eql rfl rfl) rfl ?_
                    refine s_on rfl rfl rfl ?_
                    refine s_rd (r_pickT rfl rfl) rfl ?_
                    refine s_on rfl rfl rfl ?_
                    refine s_rd (r_move rfl) rfl ?_
                    refine b_split (t := 74) rfl (fun _ => ?_) (fun _ => ?_)
                    · refine s_on rfl rfl rfl ?_
                      refine s_rd (r_faddr (fo := 5) Try.underlying35 rfl rfl Try.sizeOf23 rfl) rfl ?_
                      refine s_on rfl rfl rfl ?_
                      refine s_rd (r_cload Try.isAgg23 rfl (j := 0) rfl rfl) rfl ?_
                      refine s_on rfl rfl rfl ?_
                      refine s_rd (r_move rfl) rfl ?_
                      refine s_on rfl rfl rfl ?_
                      refine pull fun t312 h_t312 => ?_
                      refine s_rd (r_index h_t312 Try.underlying23 el_40 rfl rfl) rfl ?_
                      refine s_on rfl rfl rfl ?_
                      refine s_rd (r_fea (fo := 2) (ρ := rT_api_Move) (y := t312) (ρ' := (rI .i64)) (z := t312.Node) Try.underlying40 rfl rfl Try.sizeOf3 rfl rfl rfl) rfl ?_
                      refine s_on rfl rfl rfl ?_
                      refine s_rd (r_load el_3 rfl) rfl ?_
                      refine s_on rfl rfl rfl ?_
                      refine s_rd (r_move rfl) rfl ?_
                      refine s_on rfl rfl rfl ?_
                      refine s_rd (r_eql rfl rfl) rfl ?_
                      refine s_on rfl rfl rfl ?_
                      refine s_rd (r_pickT rfl rfl) rfl ?_
                      refine s_on rfl rfl rfl ?_
                      refine s_rd (r_not rfl) rfl ?_
                      refine s_rd (r_pickT rfl rfl) rfl ?_
                      refine s_rd (r_assign rfl) rfl ?_
                      refine b_let (f := bv) (t := 9) rfl fun ok313 => ?_
                      refine l_nil ?_
                      refine n_block ?_
                      refine n_then ?_
                      refine ref_region ?_
                      refine s_rd (r_move rfl) rfl ?_
                      refine s_rd (r_add rfl rfl) rfl ?_
                      refine s_rd (r_assign rfl) rfl ?_
                      refine b_let (f := iv .i64) (t := 10) rfl fun k314 => ?_
                      refine l_nil ?_
                      exact goB () (weak [0, 1, 2] ⟨rfl, rfl, rfl, rfl, rfl, rfl, rfl, rfl, rfl, rfl, trivial⟩ ⟨rfl, rfl, rfl, trivial⟩)
                    · refine s_off rfl rfl rfl rfl rfl ?_
                      refine s_off rfl rfl rfl rfl rfl ?_
                      refine s_off rfl rfl rfl rfl rfl ?_
                      refine s_off rfl rfl rfl rfl rfl ?_
                      refine s_off rfl rfl rfl rfl rfl ?_
                      refine s_off rfl rfl rfl rfl rfl ?_
                      refine s_off rfl rfl rfl rfl rfl ?_
                      refine s_off rfl rfl rfl rfl rfl ?_
                      refine s_on rfl rfl rfl ?_
                      refine s_rd (r_pickF rfl rfl) rfl ?_
                      refine s_on rfl rfl rfl ?_
                      refine s_rd (r_not rfl) rfl ?_
                      refine s_rd (r_pickT rfl rfl) rfl ?_
                      refine s_rd (r_assign rfl) rfl ?_
                      refine l_nil ?_
                      refine n_block ?_
                      refine n_then ?_
                      refine ref_region ?_
                      refine s_rd (r_move rfl) rfl ?_
                      refine s_rd (r_add rfl rfl) rfl ?_
                      refine s_rd (r_assign rfl) rfl ?_
                      refine b_let (f := iv .i64) (t := 10) rfl fun k315 => ?_
                      refine l_nil ?_
                      exact goB () (weak [0, 1, 2] ⟨rfl, rfl, rfl, rfl, rfl, rfl, rfl, rfl, rfl, rfl, trivial⟩ ⟨rfl, rfl, rfl, trivial⟩)
                  · refine s_off rfl rfl rfl rfl rfl ?_
                    refine s_off rfl rfl rfl rfl rfl ?_
                    refine s_off rfl rfl rfl rfl rfl ?_
                    refine s_off rfl rfl rfl rfl rfl ?_
                    refine s_off rfl rfl rfl rfl rfl ?_
                    refine s_off rfl rfl rfl rfl rfl ?_
                    refine s_off rfl rfl rfl rfl rfl ?_
                    refine s_off rfl rfl rfl rfl rfl ?_
                    refine s_on rfl rfl rfl ?_
                    refine s_rd (r_pickF rfl rfl) rfl ?_
                    refine s_on rfl rfl rfl ?_
                    refine s_rd (r_move rfl) rfl ?_
                    refine s_off rfl rfl rfl rfl rfl ?_
                    refine s_off rfl rfl rfl rfl rfl ?_
                    refine s_off rfl rfl rfl rfl rfl ?_
                    refine s_off rfl rfl rfl rfl rfl ?_
                    refine s_off rfl rfl rfl rfl rfl ?_
                    refine s_off rfl rfl rfl rfl rfl ?_
                    refine s_off rfl rfl rfl rfl rfl ?_
                    refine s_off rfl rfl rfl rfl rfl ?_
                    refine s_on rfl rfl rfl ?_
                    refine s_rd (r_pickF rfl rfl) rfl ?_
                    refine s_on rfl rfl rfl ?_
                    refine s_rd (r_not rfl) rfl ?_
                    refine s_rd (r_pickT rfl rfl) rfl ?_
                    refine s_rd (r_assign rfl) rfl ?_
                    refine l_nil ?_
                    refine n_block ?_
                    refine n_then ?_
                    refine ref_region ?_
                    refine s_rd (r_move rfl) rfl ?_
                    refine s_rd (r_add rfl rfl) rfl ?_
                    refine s_rd (r_assign rfl) rfl ?_
                    refine b_let (f := iv .i64) (t := 10) rfl fun k316 => ?_
                    refine l_nil ?_
                    exact goB () (weak [0, 1, 2] ⟨rfl, rfl, rfl, rfl, rfl, rfl, rfl, rfl, rfl, rfl, trivial⟩ ⟨rfl, rfl, rfl, trivial⟩)
                · refine s_off rfl rfl rfl rfl rfl ?_
                  refine s_off rfl rfl rfl rfl rfl ?_
                  refine s_off rfl rfl rfl rfl rfl ?_
                  refine s_off rfl rfl rfl rfl rfl ?_
                  refine s_off rfl rfl rfl rfl rfl ?_
                  refine s_off rfl rfl rfl rfl rfl ?_
                  refine s_off rfl rfl rfl rfl rfl ?_
                  refine s_off rfl rfl rfl rfl rfl ?_
                  refine s_offU rfl rfl rfl ?_
                  refine s_offU rfl rfl rfl ?_
                  refine s_offU rfl rfl rfl ?_
                  refine s_offU rfl rfl rfl ?_
                  refine s_offU rfl rfl rfl ?_
                  refine s_offU rfl rfl rfl ?_
                  refine s_offU rfl rfl rfl ?_
                  refine s_offU rfl rfl rfl ?_
                  refine s_off rfl rfl rfl rfl rfl ?_
                  refine s_off rfl rfl rfl rfl rfl ?_
                  refine s_offU rfl rfl rfl ?_
                  refine s_offU rfl rfl rfl ?_
                  refine s_offU rfl rfl rfl ?_
                  refine s_offU rfl rfl rfl ?_
                  refine s_offU rfl rfl rfl ?_
                  refine s_offU rfl rfl rfl ?_
                  refine s_offU rfl rfl rfl ?_
                  refine s_offU rfl rfl rfl ?_
                  refine s_off rfl rfl rfl rfl rfl ?_
                  refine s_off rfl rfl rfl rfl rfl ?_
                  refine s_rd (r_pickF rfl rfl) rfl ?_
                  refine s_rd (r_assign rfl) rfl ?_
                  refine l_nil ?_
                  refine n_block ?_
                  refine n_then ?_
                  refine ref_region ?_
                  refine s_rd (r_move rfl) rfl ?_
                  refine s_rd (r_add rfl rfl) rfl ?_
                  refine s_rd (r_assign rfl) rfl ?_
                  refine b_let (f := iv .i64) (t := 10) rfl fun k317 => ?_
                  refine l_nil ?_
                  exact goB () (weak [0, 1, 2] ⟨rfl, rfl, rfl, rfl, rfl, rfl, rfl, rfl, rfl, rfl, trivial⟩ ⟨rfl, rfl, rfl, trivial⟩)
              · refine ref_exit ?_
                refine x_then ?_
                exact brkB () (weak [0, 1, 2] ⟨rfl, rfl, rfl, rfl, rfl, rfl, rfl, rfl, rfl, trivial⟩ ⟨rfl, rfl, rfl, trivial⟩)
            · refine n_then ?_
              refine ref_seq ?_
              refine ref_join (fun (j321 : Bool) (x322 : Unit) => [(1, pv (ptr b1 0)), (4, iv .i64 (isub .i64 3 t4)), (5, pv x296.1), (7, iv .i64 t226), (8, iv .i64 s295.1), (17, pv x6.1), (18, iv .i64 (t5.length : Int)), (19, iv .i64 s223.1), (97, bv j321)]) (fun (j321 : Bool) (x322 : Unit) => [oc b1 [iv .i64 d_0.Graph.N, slv rT_api_Pair d_0.Graph.L, iv .i64 d_0.Root, iv .i64 d_0.Limits.i0, iv .i64 d_0.Limits.i1, slv rT_api_Move d_0.Moves], oa rT_api_Move x296.1 x296.2 s295.2, oa (rI .i64) x6.1 x6.2 t5]) (fun k323 hk323 => ?_) (fun j321 x322 => ?_)
              · refine ref_region ?_
                refine s_rd (r_move rfl) rfl ?_
                refine s_rd (r_move rfl) rfl ?_
                refine b_split (t := 87) rfl (fun _ => ?_) (fun _ => ?_)
                · refine s_on rfl rfl rfl ?_
                  refine s_rd (r_move rfl) rfl ?_
                  refine s_on rfl rfl rfl ?_
                  refine s_rd (r_eql rfl rfl) rfl ?_
                  refine s_on rfl rfl rfl ?_
                  refine s_rd (r_move rfl) rfl ?_
                  refine b_split (t := 90) rfl (fun _ => ?_) (fun _ => ?_)
                  · refine s_off rfl rfl rfl rfl rfl ?_
                    refine s_off rfl rfl rfl rfl rfl ?_
                    refine s_off rfl rfl rfl rfl rfl ?_
                    refine s_off rfl rfl rfl rfl rfl ?_
                    refine s_off rfl rfl rfl rfl rfl ?_
                    refine s_on rfl rfl rfl ?_
                    refine s_rd (r_pickT rfl rfl) rfl ?_
                    refine s_rd (r_pickT rfl rfl) rfl ?_
                    refine l_nil ?_
                    exact b_to (hk323 true ()) (weak [0, 1, 2] ⟨rfl, rfl, rfl, rfl, rfl, rfl, rfl, rfl, rfl, trivial⟩ ⟨rfl, rfl, rfl, trivial⟩)
                  · refine s_on rfl rfl rfl ?_
                    refine s_rd (r_cloadS Try.isAgg35 Try.sizeOf35 rfl (j := 0) rfl rfl rfl) rfl ?_
                    refine s_on rfl rfl rfl ?_
                    refine s_rd (r_move rfl) rfl ?_
                    refine s_on rfl rfl rfl ?_
                    refine s_rd (r_move rfl) rfl ?_
                    refine s_on rfl rfl rfl ?_
                    refine pull fun t320 h_t320 => ?_
                    refine s_st (s_call (ψ := fun (_ : Unit) => bv t320) (args := [.tmp 91, .tmp 92, .tmp 93]) Try.call79 rfl (ref27_repeated_ok h_t320) ⟨arg rfl, arg rfl, arg rfl, trivial⟩ (fun _ _ _ _ h => h)) rfl (fun _ => ?_)
                    refine s_on rfl rfl rfl ?_
                    refine s_rd (r_not rfl) rfl ?_
                    refine s_on rfl rfl rfl ?_
                    refine s_rd (r_pickF rfl rfl) rfl ?_
                    refine s_rd (r_pickT rfl rfl) rfl ?_
                    refine l_nil ?_
                    exact b_to (hk323 (!t320) ()) (weak [0, 1, 2] ⟨rfl, rfl, rfl, rfl, rfl, rfl, rfl, rfl, rfl, trivial⟩ ⟨rfl, rfl, rfl, trivial⟩)
                · refine s_off rfl rfl rfl rfl rfl ?_
                  refine s_off rfl rfl rfl rfl rfl ?_
                  refine s_off rfl rfl rfl rfl rfl ?_
                  refine s_offU rfl rfl rfl ?_
                  refine s_offU rfl rfl rfl ?_
                  refine s_offU rfl rfl rfl ?_
                  refine s_offU rfl rfl rfl ?_
                  refine s_offU rfl rfl rfl ?_
                  refine s_off rfl rfl rfl rfl rfl ?_
                  refine s_rd (r_pickF rfl rfl) rfl ?_
                  refine l_nil ?_
                  exact b_to (hk323 false ()) (weak [0, 1, 2] ⟨rfl, rfl, rfl, rfl, rfl, rfl, rfl, rfl, rfl, trivial⟩ ⟨rfl, rfl, rfl, trivial⟩)
              · refine n_then ?_
                refine ref_cond rfl (fun hb324 => ?_) (fun hb324 => ?_)
                · refine ref_region ?_
                  refine s_rd (r_move rfl) rfl ?_
                  refine s_rd (r_move rfl) rfl ?_
                  refine s_rd (r_move rfl) rfl ?_
                  refine s_rd (r_move rfl) rfl ?_
                  refine s_rd (r_build (ps := [(0, .tmp 99), (1, .const (.int .i64 (2))), (2, .tmp 100), (3, .tmp 101)]) (rs := [(0, [iv .i64 (isub .i64 3 t4)]), (1, [iv .i64 2]), (2, [iv .i64 s295.1]), (3, [iv .i64 t226])]) st_40 zs_40 ⟨rfl, (part_at rfl iv_at), ⟨rfl, (part_at rfl iv_at), ⟨rfl, (part_at rfl iv_at), ⟨rfl, (part_at rfl iv_at), trivial⟩⟩⟩⟩ rfl rfl) rfl ?_
                  refine s_st (s_bslice (xs := [.tmp 102]) (ds := [(T_api_Move.mk (isub .i64 3 t4) 2 s295.1 t226)]) Try.underlying23 el_40 rfl (Nat.le_of_ble_eq_true rfl) ⟨(part_ag (ψs := [iv .i64 (isub .i64 3 t4), iv .i64 2, iv .i64 s295.1, iv .i64 t226]) rfl (by intro φ h; simp only [List.mem_cons, List.not_mem_nil, or_false] at h; rcases h with rfl | rfl | rfl | rfl <;> first | exact iv_at | exact bv_at | exact sv_at | exact slv_at | exact pv_at rfl)), trivial⟩) rfl (fun _ => ?_)
                  refine pull fun out325 h_out325 => ?_
                  refine s_st (s_append h_out325 Try.underlying23 el_40 rfl (j := 1) rfl rfl) rfl (fun o326 => ?_)
                  refine s_rd (r_assign rfl) rfl ?_
                  refine l_nil ?_
                  refine n_block ?_
                  refine n_then ?_
                  refine ref_region ?_
                  refine s_rd (r_move rfl) rfl ?_
                  refine s_rd (r_add rfl rfl) rfl ?_
                  refine s_rd (r_assign rfl) rfl ?_
                  refine b_let (f := iv .i64) (t := 8) rfl fun a_327 => ?_
                  refine l_nil ?_
                  exact goB o326 (weak [0, 1, 2] ⟨rfl, rfl, rfl, rfl, rfl, rfl, rfl, rfl, trivial⟩ ⟨rfl, rfl, rfl, trivial⟩)
                · refine ref_skip ?_
                  refine n_block ?_
                  refine n_then ?_
                  refine ref_region ?_
                  refine s_rd (r_move rfl) rfl ?_
                  refine s_rd (r_add rfl rfl) rfl ?_
                  refine s_rd (r_assign rfl) rfl ?_
                  refine b_let (f := iv .i64) (t := 8) rfl fun a_328 => ?_
                  refine l_nil ?_
                  exact goB x296 (weak [0, 1, 2] ⟨rfl, rfl, rfl, rfl, rfl, rfl, rfl, rfl, trivial⟩ ⟨rfl, rfl, rfl, trivial⟩)
          · refine ref_exit ?_
            refine x_then ?_
            exact brkB x296 (weak [0, 1, 2] ⟨rfl, rfl, rfl, rfl, rfl, rfl, trivial⟩ ⟨rfl, rfl, rfl, trivial⟩)
        · refine n_block ?_
          refine n_then ?_
          refine ref_region ?_
          refine s_rd (r_add rfl rfl) rfl ?_
          refine s_rd (r_move rfl) rfl ?_
          refine l_nil ?_
          exact goB y330 (weak [0, 1, 2] ⟨rfl, rfl, rfl, rfl, rfl, rfl, trivial⟩ ⟨rfl, rfl, rfl, trivial⟩)
    · refine ref_exit ?_
      refine x_then ?_
      exact brkB x224 (weak [1] ⟨rfl, trivial⟩ ⟨rfl, trivial⟩)
  · refine n_then ?_
    refine ref_seq ?_
    refine ref_region ?_
    refine s_rd (r_move rfl) rfl ?_
    refine s_rd (r_assign rfl) rfl ?_
    refine l_nil ?_
    refine n_then ?_
    refine ref_ret ?_
    exact fin1 (.inl rfl) y332 [0] rfl ⟨rfl, trivial⟩ rfl (rv_tmp rfl)

/-! deliberation/deliberationref27.End -/
noncomputable def ref27_End_l1 (d_0 : T_api_Dialogue) (lead8 : Int) (s14 : Int × Int) : Option (Sum (Int) (Int × Int)) :=
  bif decide (s14.2 < (d_0.Moves.length : Int)) then
    Option.bind (idxM d_0.Moves s14.2) fun t17 =>
    bif t17.By != lead8 then
      letM (iadd .i64 s14.1 1) fun made19 =>
      letM (iadd .i64 s14.2 1) fun i20 =>
      some (Sum.inr (made19, i20))
    else
      letM (iadd .i64 s14.2 1) fun i21 =>
      some (Sum.inr (s14.1, i21))
  else
    some (Sum.inl s14.1)

noncomputable def ref27_End_m (d_0 : T_api_Dialogue) : Option (T_api_Outcome) :=
  Option.bind (idxM d_0.Moves (isub .i64 (d_0.Moves.length : Int) 1)) fun t3 =>
  bif t3.Kind == 4 then
    some (T_api_Outcome.mk (isub .i64 3 t3.By) 3)
  else
    Option.bind (ref27_Status_m d_0) fun t6 =>
    Option.bind (ref27_leader_m t6) fun lead8 =>
    Option.bind (loopC (ref27_End_l1 d_0 lead8) (0, 0)) fun q22 : Int =>
    letM (decide ((d_0.Moves.length : Int) ≥ 200)) fun t24 =>
    bif t24 then
      some (T_api_Outcome.mk lead8 4)
    else
      Option.bind (idxM [d_0.Limits.i0, d_0.Limits.i1] (isub .i64 2 lead8)) fun t26 =>
      letM (decide (q22 ≥ t26)) fun t27 =>
      bif t27 then
        some (T_api_Outcome.mk lead8 2)
      else
        Option.bind (ref27_attacks_m d_0) fun t29 =>
        letM ((t29.length : Int) == 0) fun t31 =>
        bif t31 then
          some (T_api_Outcome.mk lead8 1)
        else
          some (T_api_Outcome.mk 0 0)

theorem ref27_End_ok {d_0 : T_api_Dialogue} {r : T_api_Outcome} (hm : ref27_End_m d_0 = some r) :
    FnOk prog 23 [ag [iv .i64 d_0.Graph.N, slv rT_api_Pair d_0.Graph.L, iv .i64 d_0.Root, iv .i64 d_0.Limits.i0, iv .i64 d_0.Limits.i1, slv rT_api_Move d_0.Moves]] [] (fun (x : Unit) => [ag [iv .i64 r.Winner, iv .i64 r.Reason]]) (fun (x : Unit) => []) := by
  refine fn_ok (X := Unit) (fn := Try.f23) (N := 67) (m := ref27_End_m d_0) (res := fun r x => [ag [iv .i64 r.Winner, iv .i64 r.Reason]]) (Ω1 := fun r x => []) Try.func23 rfl rfl hm rfl (fun E hM => ?_)
  unfold ref27_End_m
  refine ref_seq ?_
  refine ref_region ?_
  refine s_st (s_box (part_ag (ψs := [iv .i64 d_0.Graph.N, slv rT_api_Pair d_0.Graph.L, iv .i64 d_0.Root, iv .i64 d_0.Limits.i0, iv .i64 d_0.Limits.i1, slv rT_api_Move d_0.Moves]) rfl (by intro φ h; simp only [List.mem_cons, List.not_mem_nil, or_false] at h; rcases h with rfl | rfl | rfl | rfl | rfl | rfl <;> first | exact iv_at | exact bv_at | exact sv_at | exact slv_at | exact pv_at rfl))) rfl (fun b1 => ?_)
  refine s_st (s_alloc zt_57) rfl (fun b2 => ?_)
  refine l_nil ?_
  refine n_then ?_
  refine ref_seq ?_
  refine ref_region ?_
  refine s_rd (r_faddr (fo := 5) Try.underlying35 rfl rfl Try.sizeOf23 rfl) rfl ?_
  refine s_rd (r_cload Try.isAgg23 rfl (j := 0) rfl rfl) rfl ?_
  refine s_rd (r_faddr (fo := 5) Try.underlying35 rfl rfl Try.sizeOf23 rfl) rfl ?_
  refine s_rd (r_cload Try.isAgg23 rfl (j := 0) rfl rfl) rfl ?_
  refine s_rd (r_len Try.underlying23 rfl) rfl ?_
  refine s_rd (r_sub rfl rfl) rfl ?_
  refine pull fun t3 h_t3 => ?_
  refine s_rd (r_index h_t3 Try.underlying23 el_40 rfl rfl) rfl ?_
  refine s_rd (r_load el_40 rfl) rfl ?_
  refine s_st (s_alloc zt_40) rfl (fun b4 => ?_)
  refine s_st0 (s_cstore (out := [iv .i64 t3.By, iv .i64 t3.Kind, iv .i64 t3.Node, iv .i64 t3.Target]) Try.sizeOf40 rfl (j := 2) rfl (part_ag (ψs := [iv .i64 t3.By, iv .i64 t3.Kind, iv .i64 t3.Node, iv .i64 t3.Target]) rfl (by intro φ h; simp only [List.mem_cons, List.not_mem_nil, or_false] at h; rcases h with rfl | rfl | rfl | rfl <;> first | exact iv_at | exact bv_at | exact sv_at | exact slv_at | exact pv_at rfl)) rfl rfl rfl) (fun _ => ?_)
  refine l_nil ?_
  refine b_of (nrm [oc b1 [iv .i64 d_0.Graph.N, slv rT_api_Pair d_0.Graph.L, iv .i64 d_0.Root, iv .i64 d_0.Limits.i0, iv .i64 d_0.Limits.i1, slv rT_api_Move d_0.Moves], oc b2 [iv .i64 0, iv .i64 0], oc b4 [iv .i64 t3.By, iv .i64 t3.Kind, iv .i64 t3.Node, iv .i64 t3.Target]] rfl) ?_
  refine n_then ?_
  refine ref_seq ?_
  refine ref_seq ?_
  refine ref_region ?_
  refine s_rd (r_faddr (fo := 1) Try.underlying40 rfl rfl Try.sizeOf3 rfl) rfl ?_
  refine s_rd (r_cload Try.isAgg3 rfl (j := 2) rfl rfl) rfl ?_
  refine s_rd (r_eql rfl rfl) rfl ?_
  refine l_nil ?_
  refine n_then ?_
  refine ref_cond rfl (fun hb5 => ?_) (fun hb5 => ?_)
  · refine ref_seq ?_
    refine ref_region ?_
    refine s_rd (r_faddr (fo := 0) Try.underlying40 rfl rfl Try.sizeOf3 rfl) rfl ?_
    refine s_rd (r_cload Try.isAgg3 rfl (j := 2) rfl rfl) rfl ?_
    refine s_rd (r_sub rfl rfl) rfl ?_
    refine s_rd (r_build (ps := [(0, .tmp 20), (1, .const (.int .i64 (3)))]) (rs := [(0, [iv .i64 (isub .i64 3 t3.By)]), (1, [iv .i64 3])]) st_57 zs_57 ⟨rfl, (part_at rfl iv_at), ⟨rfl, (part_at rfl iv_at), trivial⟩⟩ rfl rfl) rfl ?_
    refine s_st0 (s_cstore (out := [iv .i64 (isub .i64 3 t3.By), iv .i64 3]) Try.sizeOf57 rfl (j := 1) rfl (part_ag (ψs := [iv .i64 (isub .i64 3 t3.By), iv .i64 3]) rfl (by intro φ h; simp only [List.mem_cons, List.not_mem_nil, or_false] at h; rcases h with rfl | rfl <;> first | exact iv_at | exact bv_at | exact sv_at | exact slv_at | exact pv_at rfl)) rfl rfl rfl) (fun _ => ?_)
    refine l_nil ?_
    refine n_then ?_
    refine ref_ret ?_
    refine r_then ?_
    exact fin1 (.inl rfl) () [] rfl trivial rfl (rv_cell rfl (j := 1) rfl Try.isAgg57 Try.sizeOf57 rfl rfl)
  · refine ref_skip ?_
    refine n_then ?_
    refine ref_seq ?_
    refine ref_region ?_
    refine s_rd (r_cloadS Try.isAgg35 Try.sizeOf35 rfl (j := 0) rfl rfl rfl) rfl ?_
    refine pull fun t6 h_t6 => ?_
    refine s_st (s_call (ψ := fun (x7 : (Value × List Nat)) => pv x7.1) (args := [.tmp 22]) Try.call55 rfl (ref27_Status_ok h_t6) ⟨arg rfl, trivial⟩ (fun _ _ _ _ h => h)) rfl (fun x7 => ?_)
    refine pull fun lead8 h_lead8 => ?_
    refine s_st (s_callB (ψ := fun (_ : Unit) => iv .i64 lead8) (args := [.tmp 23]) Try.call54 rfl (ref27_leader_ok h_lead8) ⟨argO rfl (j := 3) rfl, trivial⟩ (fun _ _ _ _ _ h => h)) rfl (fun _ => ?_)
    refine s_rd (r_assign rfl) rfl ?_
    refine l_nil ?_
    refine n_then ?_
    refine ref_seq ?_
    refine ref_region ?_
    refine s_rd (r_assign rfl) rfl ?_
    refine l_nil ?_
    refine n_then ?_
    refine ref_seq ?_
    refine ref_seq ?_
    refine ref_region ?_
    refine s_rd (r_assign rfl) rfl ?_
    refine l_nil ?_
    refine n_then ?_
    refine ref_loopB (f := (ref27_End_l1 d_0 lead8)) (Γl := (fun (s14 : Int × Int) (x15 : Unit) => [(1, pv (ptr b1 0)), (2, pv (ptr b2 0)), (4, iv .i64 lead8), (5, iv .i64 s14.1), (6, iv .i64 s14.2)])) (Ωl := (fun (s14 : Int × Int) (x15 : Unit) => [oc b1 [iv .i64 d_0.Graph.N, slv rT_api_Pair d_0.Graph.L, iv .i64 d_0.Root, iv .i64 d_0.Limits.i0, iv .i64 d_0.Limits.i1, slv rT_api_Move d_0.Moves], oc b2 [iv .i64 0, iv .i64 0]])) (Γb := (fun (q22 : Int) (y23 : Unit) => [(1, pv (ptr b1 0)), (2, pv (ptr b2 0)), (4, iv .i64 lead8), (5, iv .i64 q22)])) (Ωb := (fun (q22 : Int) (y23 : Unit) => [oc b1 [iv .i64 d_0.Graph.N, slv rT_api_Pair d_0.Graph.L, iv .i64 d_0.Root, iv .i64 d_0.Limits.i0, iv .i64 d_0.Limits.i1, slv rT_api_Move d_0.Moves], oc b2 [iv .i64 0, iv .i64 0]])) (0, 0) () (weak [0, 1] ⟨rfl, rfl, rfl, rfl, rfl, trivial⟩ ⟨rfl, rfl, trivial⟩) (fun s14 x15 => ?_) (fun q22 y23 => ?_)
    · unfold ref27_End_l1
      refine ref_seq ?_
      refine ref_seq ?_
      refine ref_region ?_
      refine s_rd (r_move rfl) rfl ?_
      refine s_rd (r_faddr (fo := 5) Try.underlying35 rfl rfl Try.sizeOf23 rfl) rfl ?_
      refine s_rd (r_cload Try.isAgg23 rfl (j := 0) rfl rfl) rfl ?_
      refine s_rd (r_len Try.underlying23 rfl) rfl ?_
      refine s_rd (r_lss rfl rfl) rfl ?_
      refine l_nil ?_
      refine n_then ?_
      refine ref_cond rfl (fun hb16 => ?_) (fun hb16 => ?_)
      · refine ref_skip ?_
        refine n_then ?_
        refine ref_seq ?_
        refine ref_block ?_
        refine ref_seq ?_
        refine ref_region ?_
        refine s_rd (r_faddr (fo := 5) Try.underlying35 rfl rfl Try.sizeOf23 rfl) rfl ?_
        refine s_rd (r_cload Try.isAgg23 rfl (j := 0) rfl rfl) rfl ?_
        refine s_rd (r_move rfl) rfl ?_
        refine pull fun t17 h_t17 => ?_
        refine s_rd (r_index h_t17 Try.underlying23 el_40 rfl rfl) rfl ?_
        refine s_rd (r_fea (fo := 0) (ρ := rT_api_Move) (y := t17) (ρ' := (rI .i64)) (z := t17.By) Try.underlying40 rfl rfl Try.sizeOf3 rfl rfl rfl) rfl ?_
        refine s_rd (r_load el_3 rfl) rfl ?_
        refine s_rd (r_move rfl) rfl ?_
        refine s_rd (r_neq rfl rfl) rfl ?_
        refine l_nil ?_
        refine n_then ?_
        refine ref_cond rfl (fun hb18 => ?_) (fun hb18 => ?_)
        · refine ref_region ?_
          refine s_rd (r_move rfl) rfl ?_
          refine s_rd (r_add rfl rfl) rfl ?_
          refine s_rd (r_assign rfl) rfl ?_
          refine b_let (f := iv .i64) (t := 5) rfl fun made19 => ?_
          refine l_nil ?_
          refine n_block ?_
          refine n_then ?_
          refine ref_region ?_
          refine s_rd (r_move rfl) rfl ?_
          refine s_rd (r_add rfl rfl) rfl ?_
          refine s_rd (r_assign rfl) rfl ?_
          refine b_let (f := iv .i64) (t := 6) rfl fun i20 => ?_
          refine l_nil ?_
          exact goB () (weak [0, 1] ⟨rfl, rfl, rfl, rfl, rfl, trivial⟩ ⟨rfl, rfl, trivial⟩)
        · refine ref_skip ?_
          refine n_block ?_
          refine n_then ?_
          refine ref_region ?_
          refine s_rd (r_move rfl) rfl ?_
          refine s_rd (r_add rfl rfl) rfl ?_
          refine s_rd (r_assign rfl) rfl ?_
          refine b_let (f := iv .i64) (t := 6) rfl fun i21 => ?_
          refine l_nil ?_
          exact goB () (weak [0, 1] ⟨rfl, rfl, rfl, rfl, rfl, trivial⟩ ⟨rfl, rfl, trivial⟩)
      · refine ref_exit ?_
        refine x_then ?_
        exact brkB () (weak [0, 1] ⟨rfl, rfl, rfl, rfl, trivial⟩ ⟨rfl, rfl, trivial⟩)
    · refine n_then ?_
      refine ref_seq ?_
      refine ref_block ?_
      refine ref_seq ?_
      refine ref_region ?_
      refine s_rd (r_faddr (fo := 5) Try.underlying35 rfl rfl Try.sizeOf23 rfl) rfl ?_
      refine s_rd (r_cload Try.isAgg23 rfl (j := 0) rfl rfl) rfl ?_
      refine s_rd (r_len Try.underlying23 rfl) rfl ?_
      refine s_rd (r_geq rfl rfl) rfl ?_
      refine s_rd (r_assign rfl) rfl ?_
      refine b_let (f := bv) (t := 42) rfl fun t24 => ?_
      refine l_nil ?_
      refine n_then ?_
      refine ref_cond rfl (fun hb25 => ?_) (fun hb25 => ?_)
      · refine ref_seq ?_
        refine ref_region ?_
        refine s_rd (r_move rfl) rfl ?_
        refine s_rd (r_build (ps := [(0, .tmp 47), (1, .const (.int .i64 (4)))]) (rs := [(0, [iv .i64 lead8]), (1, [iv .i64 4])]) st_57 zs_57 ⟨rfl, (part_at rfl iv_at), ⟨rfl, (part_at rfl iv_at), trivial⟩⟩ rfl rfl) rfl ?_
        refine s_st0 (s_cstore (out := [iv .i64 lead8, iv .i64 4]) Try.sizeOf57 rfl (j := 1) rfl (part_ag (ψs := [iv .i64 lead8, iv .i64 4]) rfl (by intro φ h; simp only [List.mem_cons, List.not_mem_nil, or_false] at h; rcases h with rfl | rfl <;> first | exact iv_at | exact bv_at | exact sv_at | exact slv_at | exact pv_at rfl)) rfl rfl rfl) (fun _ => ?_)
        refine l_nil ?_
        refine n_then ?_
        refine ref_ret ?_
        refine r_block ?_
        refine r_then ?_
        exact fin1 (.inl rfl) () [] rfl trivial rfl (rv_cell rfl (j := 1) rfl Try.isAgg57 Try.sizeOf57 rfl rfl)
      · refine ref_seq ?_
        refine ref_region ?_
        refine s_rd (r_move rfl) rfl ?_
        refine s_rd (r_move rfl) rfl ?_
        refine s_rd (r_sub rfl rfl) rfl ?_
        refine s_rd (r_faddr (fo := 3) Try.underlying35 rfl rfl Try.sizeOf33 rfl) rfl ?_
        refine pull fun t26 h_t26 => ?_
        refine s_rd (r_aaddrV h_t26 rfl Try.underlying33 Try.sizeOf3 rfl rfl) rfl ?_
        refine s_rd (r_acload (ρ := (rI .i64)) (off := 3) h_t26 Try.isAgg3 rfl (j := 0) rfl rfl rfl rfl) rfl ?_
        refine s_rd (r_geq rfl rfl) rfl ?_
        refine s_rd (r_assign rfl) rfl ?_
        refine b_let (f := bv) (t := 49) rfl fun t27 => ?_
        refine l_nil ?_
        refine n_then ?_
        refine ref_cond rfl (fun hb28 => ?_) (fun hb28 => ?_)
        · refine ref_seq ?_
          refine ref_region ?_
          refine s_rd (r_move rfl) rfl ?_
          refine s_rd (r_build (ps := [(0, .tmp 57), (1, .const (.int .i64 (2)))]) (rs := [(0, [iv .i64 lead8]), (1, [iv .i64 2])]) st_57 zs_57 ⟨rfl, (part_at rfl iv_at), ⟨rfl, (part_at rfl iv_at), trivial⟩⟩ rfl rfl) rfl ?_
          refine s_st0 (s_cstore (out := [iv .i64 lead8, iv .i64 2]) Try.sizeOf57 rfl (j := 1) rfl (part_ag (ψs := [iv .i64 lead8, iv .i64 2]) rfl (by intro φ h; simp only [List.mem_cons, List.not_mem_nil, or_false] at h; rcases h with rfl | rfl <;> first | exact iv_at | exact bv_at | exact sv_at | exact slv_at | exact pv_at rfl)) rfl rfl rfl) (fun _ => ?_)
          refine l_nil ?_
          refine n_then ?_
          refine ref_ret ?_
          refine r_block ?_
          refine r_then ?_
          exact fin1 (.inl rfl) () [] rfl trivial rfl (rv_cell rfl (j := 1) rfl Try.isAgg57 Try.sizeOf57 rfl rfl)
        · refine ref_seq ?_
          refine ref_region ?_
          refine s_rd (r_cloadS Try.isAgg35 Try.sizeOf35 rfl (j := 0) rfl rfl rfl) rfl ?_
          refine pull fun t29 h_t29 => ?_
          refine s_st (s_call (ψ := fun (x30 : (Value × List Nat)) => pv x30.1) (args := [.tmp 60]) Try.call56 rfl (ref27_attacks_ok h_t29) ⟨arg rfl, trivial⟩ (fun _ _ _ _ h => h)) rfl (fun x30 => ?_)
          refine s_rd (r_olen Try.underlying23 rfl (j := 2) rfl) rfl ?_
          refine s_rd (r_eql rfl rfl) rfl ?_
          refine s_rd (r_assign rfl) rfl ?_
          refine b_let (f := bv) (t := 59) rfl fun t31 => ?_
          refine l_nil ?_
          refine n_then ?_
          refine ref_cond rfl (fun hb32 => ?_) (fun hb32 => ?_)
          · refine ref_seq ?_
            refine ref_region ?_
            refine s_rd (r_move rfl) rfl ?_
            refine s_rd (r_build (ps := [(0, .tmp 64), (1, .const (.int .i64 (1)))]) (rs := [(0, [iv .i64 lead8]), (1, [iv .i64 1])]) st_57 zs_57 ⟨rfl, (part_at rfl iv_at), ⟨rfl, (part_at rfl iv_at), trivial⟩⟩ rfl rfl) rfl ?_
            refine s_st0 (s_cstore (out := [iv .i64 lead8, iv .i64 1]) Try.sizeOf57 rfl (j := 1) rfl (part_ag (ψs := [iv .i64 lead8, iv .i64 1]) rfl (by intro φ h; simp only [List.mem_cons, List.not_mem_nil, or_false] at h; rcases h with rfl | rfl <;> first | exact iv_at | exact bv_at | exact sv_at | exact slv_at | exact pv_at rfl)) rfl rfl rfl) (fun _ => ?_)
            refine l_nil ?_
            refine n_then ?_
            refine ref_ret ?_
            refine r_block ?_
            refine r_then ?_
            exact fin1 (.inl rfl) () [] rfl trivial rfl (rv_cell rfl (j := 1) rfl Try.isAgg57 Try.sizeOf57 rfl rfl)
          · refine ref_skip ?_
            refine n_block ?_
            refine n_then ?_
            refine ref_seq ?_
            refine ref_region ?_
            refine s_rd (r_build (ps := []) (rs := []) st_57 zs_57 trivial rfl rfl) rfl ?_
            refine s_st0 (s_cstore (out := [iv .i64 0, iv .i64 0]) Try.sizeOf57 rfl (j := 1) rfl (part_ag (ψs := [iv .i64 0, iv .i64 0]) rfl (by intro φ h; simp only [List.mem_cons, List.not_mem_nil, or_false] at h; rcases h with rfl | rfl <;> first | exact iv_at | exact bv_at | exact sv_at | exact slv_at | exact pv_at rfl)) rfl rfl rfl) (fun _ => ?_)
            refine l_nil ?_
            refine n_then ?_
            refine ref_ret ?_
            exact fin1 (.inl rfl) () [] rfl trivial rfl (rv_cell rfl (j := 1) rfl Try.isAgg57 Try.sizeOf57 rfl rfl)

/-! deliberation/deliberationkeep.In -/
noncomputable def keep_In_l1 (l_0 : (List Int)) (x_1 : Int) (s6 : Int) : Option (Sum ((Sum (Bool) (Unit))) (Int)) :=
  bif decide (s6 < (l_0.length : Int)) then
    Option.bind (idxM l_0 s6) fun t9 =>
    bif t9 == x_1 then
      some (Sum.inl (Sum.inl true))
    else
      some (Sum.inr (iadd .i64 s6 1))
  else
    some (Sum.inl (Sum.inr ()))

noncomputable def keep_In_m (l_0 : (List Int)) (x_1 : Int) : Option (Bool) :=
  Option.bind (loopC (keep_In_l1 l_0 x_1) 0) (sumK (fun a : Bool => some a) fun q11 : Unit =>
    some false)

theorem keep_In_ok {l_0 : (List Int)} {x_1 : Int} {r : Bool} (hm : keep_In_m l_0 x_1 = some r) :
    FnOk prog 24 [slv (rI .i64) l_0, iv .i64 x_1] [] (fun (x : Unit) => [bv r]) (fun (x : Unit) => []) := by
  refine fn_ok (X := Unit) (fn := Try.f24) (N := 18) (m := keep_In_m l_0 x_1) (res := fun r x => [bv r]) (Ω1 := fun r x => []) Try.func24 rfl rfl hm rfl (fun E hM => ?_)
  unfold keep_In_m
  refine ref_seq ?_
  refine ref_region ?_
  refine s_rd (r_assign rfl) rfl ?_
  refine l_nil ?_
  refine n_then ?_
  refine ref_seq ?_
  refine ref_seq ?_
  refine ref_region ?_
  refine s_rd (r_move rfl) rfl ?_
  refine s_rd (r_len Try.underlying22 rfl) rfl ?_
  refine s_rd (r_move rfl) rfl ?_
  refine l_nil ?_
  refine n_then ?_
  refine ref_loopX (f := (keep_In_l1 l_0 x_1)) (Γl := (fun (s6 : Int) (x7 : Unit) => [(0, slv (rI .i64) l_0), (1, iv .i64 x_1), (7, iv .i64 (l_0.length : Int)), (8, iv .i64 s6)])) (Ωl := (fun (s6 : Int) (x7 : Unit) => [])) (Γb := (fun (q11 : Unit) (y12 : Unit) => [])) (Ωb := (fun (q11 : Unit) (y12 : Unit) => [])) (kr := (fun a : Bool => some a)) 0 () (weak [] ⟨rfl, rfl, rfl, rfl, trivial⟩ trivial) (fun s6 x7 => ?_) (fun q11 y12 => ?_)
  · unfold keep_In_l1
    refine ref_seq ?_
    refine ref_region ?_
    refine s_rd (r_lss rfl rfl) rfl ?_
    refine l_nil ?_
    refine n_then ?_
    refine ref_seq ?_
    refine ref_cond rfl (fun hb8 => ?_) (fun hb8 => ?_)
    · refine ref_skip ?_
      refine n_then ?_
      refine ref_seq ?_
      refine ref_block ?_
      refine ref_seq ?_
      refine ref_region ?_
      refine s_rd (r_move rfl) rfl ?_
      refine s_rd (r_assign rfl) rfl ?_
      refine l_nil ?_
      refine n_then ?_
      refine ref_seq ?_
      refine ref_region ?_
      refine s_rd (r_move rfl) rfl ?_
      refine s_rd (r_move rfl) rfl ?_
      refine pull fun t9 h_t9 => ?_
      refine s_rd (r_index h_t9 Try.underlying22 el_3 rfl rfl) rfl ?_
      refine s_rd (r_load el_3 rfl) rfl ?_
      refine s_rd (r_move rfl) rfl ?_
      refine s_rd (r_eql rfl rfl) rfl ?_
      refine l_nil ?_
      refine n_then ?_
      refine ref_cond rfl (fun hb10 => ?_) (fun hb10 => ?_)
      · refine ref_seq ?_
        refine ref_region ?_
        refine s_rd (r_assign rfl) rfl ?_
        refine l_nil ?_
        refine n_then ?_
        refine ref_ret ?_
        refine r_block ?_
        refine r_then ?_
        refine retX ?_
        refine r_block ?_
        refine r_then ?_
        exact fin1 (.inl rfl) () [] rfl trivial rfl (rv_tmp rfl)
      · refine ref_skip ?_
        refine n_block ?_
        refine n_then ?_
        refine ref_region ?_
        refine s_rd (r_add rfl rfl) rfl ?_
        refine s_rd (r_move rfl) rfl ?_
        refine l_nil ?_
        exact goX () (weak [] ⟨rfl, rfl, rfl, rfl, trivial⟩ trivial)
    · refine ref_exit ?_
      refine x_then ?_
      exact brkX () (weak [] trivial trivial)
  · refine n_then ?_
    refine ref_seq ?_
    refine ref_region ?_
    refine s_rd (r_assign rfl) rfl ?_
    refine l_nil ?_
    refine n_then ?_
    refine ref_ret ?_
    exact fin1 (.inl rfl) () [] rfl trivial rfl (rv_tmp rfl)

/-! deliberation/deliberationref27.Turn -/
noncomputable def ref27_Turn_m (d_0 : T_api_Dialogue) : Option (Int) :=
  Option.bind (ref27_End_m d_0) fun t2 =>
  bif !decide (t2 = (T_api_Outcome.mk 0 0)) then
    some 0
  else
    Option.bind (ref27_Status_m d_0) fun t4 =>
    Option.bind (ref27_leader_m t4) fun t6 =>
    some (isub .i64 3 t6)

theorem ref27_Turn_ok {d_0 : T_api_Dialogue} {r : Int} (hm : ref27_Turn_m d_0 = some r) :
    FnOk prog 41 [ag [iv .i64 d_0.Graph.N, slv rT_api_Pair d_0.Graph.L, iv .i64 d_0.Root, iv .i64 d_0.Limits.i0, iv .i64 d_0.Limits.i1, slv rT_api_Move d_0.Moves]] [] (fun (x : Unit) => [iv .i64 r]) (fun (x : Unit) => []) := by
  refine fn_ok (X := Unit) (fn := Try.f41) (N := 11) (m := ref27_Turn_m d_0) (res := fun r x => [iv .i64 r]) (Ω1 := fun r x => []) Try.func41 rfl rfl hm rfl (fun E hM => ?_)
  unfold ref27_Turn_m
  refine ref_seq ?_
  refine ref_region ?_
  refine s_st (s_box (part_ag (ψs := [iv .i64 d_0.Graph.N, slv rT_api_Pair d_0.Graph.L, iv .i64 d_0.Root, iv .i64 d_0.Limits.i0, iv .i64 d_0.Limits.i1, slv rT_api_Move d_0.Moves]) rfl (by intro φ h; simp only [List.mem_cons, List.not_mem_nil, or_false] at h; rcases h with rfl | rfl | rfl | rfl | rfl | rfl <;> first | exact iv_at | exact bv_at | exact sv_at | exact slv_at | exact pv_at rfl))) rfl (fun b1 => ?_)
  refine s_rd (r_assign rfl) rfl ?_
  refine l_nil ?_
  refine n_then ?_
  refine ref_seq ?_
  refine ref_seq ?_
  refine ref_region ?_
  refine s_rd (r_cloadS Try.isAgg35 Try.sizeOf35 rfl (j := 0) rfl rfl rfl) rfl ?_
  refine pull fun t2 h_t2 => ?_
  refine s_st (s_call (ψ := fun (_ : Unit) => ag [iv .i64 t2.Winner, iv .i64 t2.Reason]) (args := [.tmp 3]) Try.call23 rfl (ref27_End_ok h_t2) ⟨arg rfl, trivial⟩ (fun _ _ _ _ h => h)) rfl (fun _ => ?_)
  refine s_rd (r_build (ps := []) (rs := []) st_57 zs_57 trivial rfl rfl) rfl ?_
  refine s_rd (r_stneq (u := t2) (v := (T_api_Outcome.mk 0 0)) eq_57 rfl rfl rfl rfl) rfl ?_
  refine l_nil ?_
  refine n_then ?_
  refine ref_cond rfl (fun hb3 => ?_) (fun hb3 => ?_)
  · refine ref_seq ?_
    refine ref_region ?_
    refine s_rd (r_assign rfl) rfl ?_
    refine l_nil ?_
    refine n_then ?_
    refine ref_ret ?_
    refine r_then ?_
    exact fin1 (.inl rfl) () [] rfl trivial rfl (rv_tmp rfl)
  · refine ref_skip ?_
    refine n_then ?_
    refine ref_seq ?_
    refine ref_region ?_
    refine s_rd (r_cloadS Try.isAgg35 Try.sizeOf35 rfl (j := 0) rfl rfl rfl) rfl ?_
    refine pull fun t4 h_t4 => ?_
    refine s_st (s_call (ψ := fun (x5 : (Value × List Nat)) => pv x5.1) (args := [.tmp 7]) Try.call55 rfl (ref27_Status_ok h_t4) ⟨arg rfl, trivial⟩ (fun _ _ _ _ h => h)) rfl (fun x5 => ?_)
    refine pull fun t6 h_t6 => ?_
    refine s_st (s_callB (ψ := fun (_ : Unit) => iv .i64 t6) (args := [.tmp 8]) Try.call54 rfl (ref27_leader_ok h_t6) ⟨argO rfl (j := 1) rfl, trivial⟩ (fun _ _ _ _ _ h => h)) rfl (fun _ => ?_)
    refine s_rd (r_sub rfl rfl) rfl ?_
    refine s_rd (r_assign rfl) rfl ?_
    refine l_nil ?_
    refine b_of (nrm [oc b1 [iv .i64 d_0.Graph.N, slv rT_api_Pair d_0.Graph.L, iv .i64 d_0.Root, iv .i64 d_0.Limits.i0, iv .i64 d_0.Limits.i1, slv rT_api_Move d_0.Moves], oa (rI .i64) x5.1 x5.2 t4] rfl) ?_
    refine n_then ?_
    refine ref_ret ?_
    exact fin1 (.inl rfl) () [] rfl trivial rfl (rv_tmp rfl)

/-! deliberation/deliberationref27.Legal -/
noncomputable def ref27_Legal_m (d_0 : T_api_Dialogue) : Option (List T_api_Move) :=
  Option.bind (ref27_Turn_m d_0) fun t2 =>
  bif t2 == 0 then
    some []
  else
    Option.bind (ref27_attacks_m d_0) fun t4 =>
    some t4

theorem ref27_Legal_ok {d_0 : T_api_Dialogue} {r : List T_api_Move} (hm : ref27_Legal_m d_0 = some r) :
    FnOk prog 30 [ag [iv .i64 d_0.Graph.N, slv rT_api_Pair d_0.Graph.L, iv .i64 d_0.Root, iv .i64 d_0.Limits.i0, iv .i64 d_0.Limits.i1, slv rT_api_Move d_0.Moves]] [] (fun (x : (Value × List Nat)) => [pv x.1]) (fun (x : (Value × List Nat)) => [oa rT_api_Move x.1 x.2 r]) := by
  refine fn_ok (X := (Value × List Nat)) (fn := Try.f30) (N := 8) (m := ref27_Legal_m d_0) (res := fun r x => [pv x.1]) (Ω1 := fun r x => [oa rT_api_Move x.1 x.2 r]) Try.func30 rfl rfl hm rfl (fun E hM => ?_)
  unfold ref27_Legal_m
  refine ref_seq ?_
  refine ref_region ?_
  refine s_st (s_box (part_ag (ψs := [iv .i64 d_0.Graph.N, slv rT_api_Pair d_0.Graph.L, iv .i64 d_0.Root, iv .i64 d_0.Limits.i0, iv .i64 d_0.Limits.i1, slv rT_api_Move d_0.Moves]) rfl (by intro φ h; simp only [List.mem_cons, List.not_mem_nil, or_false] at h; rcases h with rfl | rfl | rfl | rfl | rfl | rfl <;> first | exact iv_at | exact bv_at | exact sv_at | exact slv_at | exact pv_at rfl))) rfl (fun b1 => ?_)
  refine s_rd (r_assign rfl) rfl ?_
  refine l_nil ?_
  refine n_then ?_
  refine ref_seq ?_
  refine ref_seq ?_
  refine ref_region ?_
  refine s_rd (r_cloadS Try.isAgg35 Try.sizeOf35 rfl (j := 0) rfl rfl rfl) rfl ?_
  refine pull fun t2 h_t2 => ?_
  refine s_st (s_call (ψ := fun (_ : Unit) => iv .i64 t2) (args := [.tmp 3]) Try.call41 rfl (ref27_Turn_ok h_t2) ⟨arg rfl, trivial⟩ (fun _ _ _ _ h => h)) rfl (fun _ => ?_)
  refine s_rd (r_eql rfl rfl) rfl ?_
  refine l_nil ?_
  refine n_then ?_
  refine ref_cond rfl (fun hb3 => ?_) (fun hb3 => ?_)
  · refine ref_seq ?_
    refine ref_region ?_
    refine s_rd (r_assign rfl) rfl ?_
    refine l_nil ?_
    refine n_then ?_
    refine ref_ret ?_
    refine r_then ?_
    refine b_of (own_nil rT_api_Move) ?_
    exact fin1 (.inl rfl) ((.slice none 0 0), []) [1] rfl ⟨rfl, trivial⟩ rfl (rv_tmp rfl)
  · refine ref_skip ?_
    refine n_then ?_
    refine ref_seq ?_
    refine ref_region ?_
    refine s_rd (r_cloadS Try.isAgg35 Try.sizeOf35 rfl (j := 0) rfl rfl rfl) rfl ?_
    refine pull fun t4 h_t4 => ?_
    refine s_st (s_call (ψ := fun (x5 : (Value × List Nat)) => pv x5.1) (args := [.tmp 6]) Try.call56 rfl (ref27_attacks_ok h_t4) ⟨arg rfl, trivial⟩ (fun _ _ _ _ h => h)) rfl (fun x5 => ?_)
    refine s_rd (r_assign rfl) rfl ?_
    refine l_nil ?_
    refine n_then ?_
    refine ref_ret ?_
    exact fin1 (.inl rfl) x5 [1] rfl ⟨rfl, trivial⟩ rfl (rv_tmp rfl)

/-! deliberation/deliberationref28.Attacks -/
noncomputable def ref28_Attacks_l1 (p_1 : T_api_Player) (t3 : List T_api_Move) (s31 : Int × (List T_api_Move)) : Option (Sum ((List T_api_Move)) (Int × (List T_api_Move))) :=
  bif decide (s31.1 < (t3.length : Int)) then
    Option.bind (idxM t3 s31.1) fun t34 =>
    joinM (fun j38 : Bool =>
        bif j38 then
          Option.bind (appM 32 s31.2 [t34]) fun out42 =>
          some (Sum.inr (iadd .i64 s31.1 1, out42))
        else
          some (Sum.inr (iadd .i64 s31.1 1, s31.2))) fun k40 =>
    Option.bind (net_In_m p_1.Pool t34.Node) fun t36 =>
    bif t36 then
      Option.bind (net_In_m p_1.Withheld t34.Node) fun t37 =>
      k40 (!t37)
    else
      k40 false
  else
    some (Sum.inl s31.2)

noncomputable def ref28_Attacks_m (d_0 : T_api_Dialogue) (p_1 : T_api_Player) : Option (List T_api_Move) :=
  Option.bind (ref27_Legal_m d_0) fun t3 =>
  Option.bind (loopC (ref28_Attacks_l1 p_1 t3) (0, [])) fun q44 : (List T_api_Move) =>
  some q44

theorem ref28_Attacks_ok {d_0 : T_api_Dialogue} {p_1 : T_api_Player} {r : List T_api_Move} (hm : ref28_Attacks_m d_0 p_1 = some r) :
    FnOk prog 25 [ag [iv .i64 d_0.Graph.N, slv rT_api_Pair d_0.Graph.L, iv .i64 d_0.Root, iv .i64 d_0.Limits.i0, iv .i64 d_0.Limits.i1, slv rT_api_Move d_0.Moves], ag [slv (rI .i64) p_1.Pool, slv (rI .i64) p_1.Withheld, slv rT_api_Move p_1.Script, iv .i64 p_1.Style]] [] (fun (x : (Value × List Nat)) => [pv x.1]) (fun (x : (Value × List Nat)) => [oa rT_api_Move x.1 x.2 r]) := by
  refine fn_ok (X := (Value × List Nat)) (fn := Try.f25) (N := 34) (m := ref28_Attacks_m d_0 p_1) (res := fun r x => [pv x.1]) (Ω1 := fun r x => [oa rT_api_Move x.1 x.2 r]) Try.func25 rfl rfl hm rfl (fun E hM => ?_)
  unfold ref28_Attacks_m
  refine ref_seq ?_
  refine ref_region ?_
  refine s_st (s_box (part_ag (ψs := [iv .i64 d_0.Graph.N, slv rT_api_Pair d_0.Graph.L, iv .i64 d_0.Root, iv .i64 d_0.Limits.i0, iv .i64 d_0.Limits.i1, slv rT_api_Move d_0.Moves]) rfl (by intro φ h; simp only [List.mem_cons, List.not_mem_nil, or_false] at h; rcases h with rfl | rfl | rfl | rfl | rfl | rfl <;> first | exact iv_at | exact bv_at | exact sv_at | exact slv_at | exact pv_at rfl))) rfl (fun b1 => ?_)
  refine s_st (s_box (part_ag (ψs := [slv (rI .i64) p_1.Pool, slv (rI .i64) p_1.Withheld, slv rT_api_Move p_1.Script, iv .i64 p_1.Style]) rfl (by intro φ h; simp only [List.mem_cons, List.not_mem_nil, or_false] at h; rcases h with rfl | rfl | rfl | rfl <;> first | exact iv_at | exact bv_at | exact sv_at | exact slv_at | exact pv_at rfl))) rfl (fun b2 => ?_)
  refine s_rd (r_assign rfl) rfl ?_
  refine l_nil ?_
  refine n_then ?_
  refine ref_seq ?_
  refine ref_region ?_
  refine s_rd (r_assign rfl) rfl ?_
  refine l_nil ?_
  refine n_then ?_
  refine ref_seq ?_
  refine ref_seq ?_
  refine ref_region ?_
  refine s_rd (r_cloadS Try.isAgg35 Try.sizeOf35 rfl (j := 0) rfl rfl rfl) rfl ?_
  refine pull fun t3 h_t3 => ?_
  refine s_st (s_call (ψ := fun (x4 : (Value × List Nat)) => pv x4.1) (args := [.tmp 8]) Try.call30 rfl (ref27_Legal_ok h_t3) ⟨arg rfl, trivial⟩ (fun _ _ _ _ h => h)) rfl (fun x4 => ?_)
  refine s_rd (r_olen Try.underlying23 rfl (j := 2) rfl) rfl ?_
  refine s_rd (r_move rfl) rfl ?_
  refine l_nil ?_
  refine n_then ?_
  refine b_of (own_nil rT_api_Move) ?_
  refine ref_loopB (f := (ref28_Attacks_l1 p_1 t3)) (Γl := (fun (s31 : Int × (List T_api_Move)) (x32 : (Value × List Nat)) => [(3, pv (ptr b2 0)), (5, pv x32.1), (9, pv x4.1), (10, iv .i64 (t3.length : Int)), (11, iv .i64 s31.1)])) (Ωl := (fun (s31 : Int × (List T_api_Move)) (x32 : (Value × List Nat)) => [oc b2 [slv (rI .i64) p_1.Pool, slv (rI .i64) p_1.Withheld, slv rT_api_Move p_1.Script, iv .i64 p_1.Style], oa rT_api_Move x32.1 x32.2 s31.2, oa rT_api_Move x4.1 x4.2 t3])) (Γb := (fun (q44 : (List T_api_Move)) (y45 : (Value × List Nat)) => [(5, pv y45.1)])) (Ωb := (fun (q44 : (List T_api_Move)) (y45 : (Value × List Nat)) => [oa rT_api_Move y45.1 y45.2 q44])) (0, []) ((.slice none 0 0), []) (weak [1, 3, 2] ⟨rfl, rfl, rfl, rfl, rfl, trivial⟩ ⟨rfl, rfl, rfl, trivial⟩) (fun s31 x32 => ?_) (fun q44 y45 => ?_)
  · unfold ref28_Attacks_l1
    refine ref_seq ?_
    refine ref_region ?_
    refine s_rd (r_lss rfl rfl) rfl ?_
    refine l_nil ?_
    refine n_then ?_
    refine ref_seq ?_
    refine ref_cond rfl (fun hb33 => ?_) (fun hb33 => ?_)
    · refine ref_skip ?_
      refine n_then ?_
      refine ref_seq ?_
      refine ref_block ?_
      refine ref_seq ?_
      refine ref_region ?_
      refine pull fun t34 h_t34 => ?_
      refine s_rd (r_oindex h_t34 Try.underlying23 el_40 rfl (j := 2) rfl rfl) rfl ?_
      refine s_rd (r_oload h_t34 el_40 rfl (j := 2) rfl) rfl ?_
      refine s_st (s_alloc zt_40) rfl (fun b35 => ?_)
      refine s_st0 (s_cstore (out := [iv .i64 t34.By, iv .i64 t34.Kind, iv .i64 t34.Node, iv .i64 t34.Target]) Try.sizeOf40 rfl (j := 3) rfl (part_ag (ψs := [iv .i64 t34.By, iv .i64 t34.Kind, iv .i64 t34.Node, iv .i64 t34.Target]) rfl (by intro φ h; simp only [List.mem_cons, List.not_mem_nil, or_false] at h; rcases h with rfl | rfl | rfl | rfl <;> first | exact iv_at | exact bv_at | exact sv_at | exact slv_at | exact pv_at rfl)) rfl rfl rfl) (fun _ => ?_)
      refine l_nil ?_
      refine b_of (nrm [oc b2 [slv (rI .i64) p_1.Pool, slv (rI .i64) p_1.Withheld, slv rT_api_Move p_1.Script, iv .i64 p_1.Style], oa rT_api_Move x32.1 x32.2 s31.2, oa rT_api_Move x4.1 x4.2 t3, oc b35 [iv .i64 t34.By, iv .i64 t34.Kind, iv .i64 t34.Node, iv .i64 t34.Target]] rfl) ?_
      refine n_then ?_
      refine ref_seq ?_
      refine ref_join (fun (j38 : Bool) (x39 : Unit) => [(3, pv (ptr b2 0)), (5, pv x32.1), (7, pv (ptr b35 0)), (9, pv x4.1), (10, iv .i64 (t3.length : Int)), (11, iv .i64 s31.1), (27, bv j38)]) (fun (j38 : Bool) (x39 : Unit) => [oc b2 [slv (rI .i64) p_1.Pool, slv (rI .i64) p_1.Withheld, slv rT_api_Move p_1.Script, iv .i64 p_1.Style], oa rT_api_Move x32.1 x32.2 s31.2, oc b35 [iv .i64 t34.By, iv .i64 t34.Kind, iv .i64 t34.Node, iv .i64 t34.Target], oa rT_api_Move x4.1 x4.2 t3]) (fun k40 hk40 => ?_) (fun j38 x39 => ?_)
      · refine ref_region ?_
        refine s_rd (r_faddr (fo := 0) Try.underlying25 rfl rfl Try.sizeOf22 rfl) rfl ?_
        refine s_rd (r_cload Try.isAgg22 rfl (j := 0) rfl rfl) rfl ?_
        refine s_rd (r_faddr (fo := 2) Try.underlying40 rfl rfl Try.sizeOf3 rfl) rfl ?_
        refine s_rd (r_cload Try.isAgg3 rfl (j := 3) rfl rfl) rfl ?_
        refine pull fun t36 h_t36 => ?_
        refine s_st (s_call (ψ := fun (_ : Unit) => bv t36) (args := [.tmp 16, .tmp 18]) Try.call57 rfl (net_In_ok h_t36) ⟨arg rfl, arg rfl, trivial⟩ (fun _ _ _ _ h => h)) rfl (fun _ => ?_)
        refine s_rd (r_move rfl) rfl ?_
        refine b_split (t := 20) rfl (fun _ => ?_) (fun _ => ?_)
        · refine s_on rfl rfl rfl ?_
          refine s_rd (r_faddr (fo := 1) Try.underlying25 rfl rfl Try.sizeOf22 rfl) rfl ?_
          refine s_on rfl rfl rfl ?_
          refine s_rd (r_cload Try.isAgg22 rfl (j := 0) rfl rfl) rfl ?_
          refine s_on rfl rfl rfl ?_
          refine s_rd (r_faddr (fo := 2) Try.underlying40 rfl rfl Try.sizeOf3 rfl) rfl ?_
          refine s_on rfl rfl rfl ?_
          refine s_rd (r_cload Try.isAgg3 rfl (j := 3) rfl rfl) rfl ?_
          refine s_on rfl rfl rfl ?_
          refine pull fun t37 h_t37 => ?_
          refine s_st (s_call (ψ := fun (_ : Unit) => bv t37) (args := [.tmp 22, .tmp 24]) Try.call57 rfl (net_In_ok h_t37) ⟨arg rfl, arg rfl, trivial⟩ (fun _ _ _ _ h => h)) rfl (fun _ => ?_)
          refine s_on rfl rfl rfl ?_
          refine s_rd (r_not rfl) rfl ?_
          refine s_rd (r_pickT rfl rfl) rfl ?_
          refine l_nil ?_
          exact b_to (hk40 (!t37) ()) (weak [0, 1, 3, 2] ⟨rfl, rfl, rfl, rfl, rfl, rfl, rfl, trivial⟩ ⟨rfl, rfl, rfl, rfl, trivial⟩)
        · refine s_off rfl rfl rfl rfl rfl ?_
          refine s_off rfl rfl rfl rfl rfl ?_
          refine s_off rfl rfl rfl rfl rfl ?_
          refine s_off rfl rfl rfl rfl rfl ?_
          refine s_off rfl rfl rfl rfl rfl ?_
          refine s_off rfl rfl rfl rfl rfl ?_
          refine s_rd (r_pickF rfl rfl) rfl ?_
          refine l_nil ?_
          exact b_to (hk40 false ()) (weak [0, 1, 3, 2] ⟨rfl, rfl, rfl, rfl, rfl, rfl, rfl, trivial⟩ ⟨rfl, rfl, rfl, rfl, trivial⟩)
      · refine n_then ?_
        refine ref_cond rfl (fun hb41 => ?_) (fun hb41 => ?_)
        · refine ref_region ?_
          refine s_rd (r_move rfl) rfl ?_
          refine s_rd (r_cloadS Try.isAgg40 Try.sizeOf40 rfl (j := 2) rfl rfl rfl) rfl ?_
          refine s_st (s_bslice (xs := [.tmp 29]) (ds := [t34]) Try.underlying23 el_40 rfl (Nat.le_of_ble_eq_true rfl) ⟨(part_ag (ψs := [iv .i64 t34.By, iv .i64 t34.Kind, iv .i64 t34.Node, iv .i64 t34.Target]) rfl (by intro φ h; simp only [List.mem_cons, List.not_mem_nil, or_false] at h; rcases h with rfl | rfl | rfl | rfl <;> first | exact iv_at | exact bv_at | exact sv_at | exact slv_at | exact pv_at rfl)), trivial⟩) rfl (fun _ => ?_)
          refine pull fun out42 h_out42 => ?_
          refine s_st (s_append h_out42 Try.underlying23 el_40 rfl (j := 1) rfl rfl) rfl (fun o43 => ?_)
          refine s_rd (r_assign rfl) rfl ?_
          refine l_nil ?_
          refine n_block ?_
          refine n_then ?_
          refine ref_region ?_
          refine s_rd (r_add rfl rfl) rfl ?_
          refine s_rd (r_move rfl) rfl ?_
          refine l_nil ?_
          exact goB o43 (weak [0, 1, 3] ⟨rfl, rfl, rfl, rfl, rfl, trivial⟩ ⟨rfl, rfl, rfl, trivial⟩)
        · refine ref_skip ?_
          refine n_block ?_
          refine n_then ?_
          refine ref_region ?_
          refine s_rd (r_add rfl rfl) rfl ?_
          refine s_rd (r_move rfl) rfl ?_
          refine l_nil ?_
          exact goB x32 (weak [0, 1, 3] ⟨rfl, rfl, rfl, rfl, rfl, trivial⟩ ⟨rfl, rfl, rfl, trivial⟩)
    · refine ref_exit ?_
      refine x_then ?_
      exact brkB x32 (weak [1] ⟨rfl, trivial⟩ ⟨rfl, trivial⟩)
  · refine n_then ?_
    refine ref_seq ?_
    refine ref_region ?_
    refine s_rd (r_move rfl) rfl ?_
    refine s_rd (r_assign rfl) rfl ?_
    refine l_nil ?_
    refine n_then ?_
    refine ref_ret ?_
    exact fin1 (.inl rfl) y45 [0] rfl ⟨rfl, trivial⟩ rfl (rv_tmp rfl)

end Go.Dc
