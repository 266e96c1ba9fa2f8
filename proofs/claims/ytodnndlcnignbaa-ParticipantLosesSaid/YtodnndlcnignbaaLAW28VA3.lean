/- Part LAW28V.A3 of a proof that a law of the program returns true: general lemmas, no condition. -/
import Derived.Test.YtodnndlcnignbaaLAW28VA2
import Derived.Test.YtodnndlcnignbaaProg
set_option linter.unusedVariables false
set_option maxRecDepth 100000
set_option maxHeartbeats 4000000
namespace Go.Dc
open Go.Proofs
open Go.Proofs.Try (prog)

/-! deliberation/deliberationref28.Full -/
noncomputable def ref28_Full_l1 (g_0 : T_api_Graph) (s23 : Int × (List Int)) : Option (Sum ((List Int)) (Int × (List Int))) :=
  bif decide (s23.1 < g_0.N) then
    Option.bind (appM 8 s23.2 [s23.1]) fun t26 =>
    letM (iadd .i64 s23.1 1) fun a_28 =>
    some (Sum.inr (a_28, t26))
  else
    some (Sum.inl s23.2)

noncomputable def ref28_Full_m (g_0 : T_api_Graph) (style_1 : Int) : Option (T_api_Player) :=
  Option.bind (ref10_Validate_m g_0) fun t3 =>
  bif t3 != 0 then
    some (T_api_Player.mk [] [] [] 0)
  else
    Option.bind (loopC (ref28_Full_l1 g_0) (0, [])) fun q29 : (List Int) =>
    some (T_api_Player.mk q29 [] [] style_1)

theorem ref28_Full_ok {g_0 : T_api_Graph} {style_1 : Int} {r : T_api_Player} (hm : ref28_Full_m g_0 style_1 = some r) :
    FnOk prog 18 [ag [iv .i64 g_0.N, slv rT_api_Pair g_0.L], iv .i64 style_1] [] (fun (x : Unit) => [ag [slv (rI .i64) r.Pool, pv (.slice none 0 0), pv (.slice none 0 0), iv .i64 r.Style]]) (fun (x : Unit) => []) := by
  refine fn_ok (X := Unit) (fn := Try.f18) (N := 26) (m := ref28_Full_m g_0 style_1) (res := fun r x => [ag [slv (rI .i64) r.Pool, pv (.slice none 0 0), pv (.slice none 0 0), iv .i64 r.Style]]) (Ω1 := fun r x => []) Try.func18 rfl rfl hm rfl (fun E hM => ?_)
  unfold ref28_Full_m
  refine ref_seq ?_
  refine ref_region ?_
  refine s_st (s_box (part_ag (ψs := [iv .i64 g_0.N, slv rT_api_Pair g_0.L]) rfl (by intro φ h; simp only [List.mem_cons, List.not_mem_nil, or_false] at h; rcases h with rfl | rfl <;> first | exact iv_at | exact bv_at | exact sv_at | exact slv_at | exact pv_at rfl))) rfl (fun b1 => ?_)
  refine s_st (s_alloc zt_25) rfl (fun b2 => ?_)
  refine l_nil ?_
  refine n_then ?_
  refine ref_seq ?_
  refine ref_seq ?_
  refine ref_region ?_
  refine s_rd (r_cloadS Try.isAgg28 Try.sizeOf28 rfl (j := 0) rfl rfl rfl) rfl ?_
  refine pull fun t3 h_t3 => ?_
  refine s_st (s_call (ψ := fun (_ : Unit) => iv .i64 t3) (args := [.tmp 7]) Try.call51 rfl (ref10_Validate_ok h_t3) ⟨arg rfl, trivial⟩ (fun _ _ _ _ h => h)) rfl (fun _ => ?_)
  refine s_rd (r_neq rfl rfl) rfl ?_
  refine l_nil ?_
  refine n_then ?_
  refine ref_cond rfl (fun hb4 => ?_) (fun hb4 => ?_)
  · refine ref_seq ?_
    refine ref_region ?_
    refine s_rd (r_build (ps := []) (rs := []) st_25 zs_25 trivial rfl rfl) rfl ?_
    refine s_st0 (s_cstore (out := [pv (.slice none 0 0), pv (.slice none 0 0), pv (.slice none 0 0), iv .i64 0]) Try.sizeOf25 rfl (j := 1) rfl (part_agO (ψs := [pv (.slice none 0 0), pv (.slice none 0 0), pv (.slice none 0 0), iv .i64 0]) rfl ⟨.inl (pv_at rfl), .inl (pv_at rfl), .inl (pv_at rfl), .inl iv_at, trivial⟩) rfl rfl rfl) (fun _ => ?_)
    refine l_nil ?_
    refine b_of (nrm [oc b1 [iv .i64 g_0.N, slv rT_api_Pair g_0.L], oc b2 [pv (.slice none 0 0), pv (.slice none 0 0), pv (.slice none 0 0), iv .i64 0]] rfl) ?_
    refine n_then ?_
    refine ref_ret ?_
    refine r_then ?_
    refine b_of (ocW 1 [slv (rI .i64) [], pv (.slice none 0 0), pv (.slice none 0 0), iv .i64 0] rfl ⟨nil_sl, imp_rfl, imp_rfl, imp_rfl, trivial⟩) ?_
    exact fin1 (.inl rfl) () [] rfl trivial rfl (rv_cell rfl (j := 1) rfl Try.isAgg25 Try.sizeOf25 rfl rfl)
  · refine ref_skip ?_
    refine n_then ?_
    refine ref_seq ?_
    refine ref_region ?_
    refine s_rd (r_move rfl) rfl ?_
    refine s_rd (r_build (ps := [(3, .tmp 11)]) (rs := [(3, [iv .i64 style_1])]) st_25 zs_25 ⟨rfl, (part_at rfl iv_at), trivial⟩ rfl rfl) rfl ?_
    refine s_st (s_alloc zt_25) rfl (fun b5 => ?_)
    refine s_st0 (s_cstore (out := [pv (.slice none 0 0), pv (.slice none 0 0), pv (.slice none 0 0), iv .i64 style_1]) Try.sizeOf25 rfl (j := 2) rfl (part_agO (ψs := [pv (.slice none 0 0), pv (.slice none 0 0), pv (.slice none 0 0), iv .i64 style_1]) rfl ⟨.inl (pv_at rfl), .inl (pv_at rfl), .inl (pv_at rfl), .inl iv_at, trivial⟩) rfl rfl rfl) (fun _ => ?_)
    refine l_nil ?_
    refine b_of (nrm [oc b1 [iv .i64 g_0.N, slv rT_api_Pair g_0.L], oc b2 [pv (.slice none 0 0), pv (.slice none 0 0), pv (.slice none 0 0), iv .i64 0], oc b5 [pv (.slice none 0 0), pv (.slice none 0 0), pv (.slice none 0 0), iv .i64 style_1]] rfl) ?_
    refine n_then ?_
    refine ref_seq ?_
    refine ref_seq ?_
    refine ref_region ?_
    refine s_rd (r_assign rfl) rfl ?_
    refine l_nil ?_
    refine n_then ?_
    refine b_of (own_nil (rI .i64)) ?_
    refine ref_loopB (f := (ref28_Full_l1 g_0)) (Γl := (fun (s23 : Int × (List Int)) (x24 : (Value × List Nat)) => [(2, pv (ptr b1 0)), (4, pv (ptr b2 0)), (5, pv (ptr b5 0)), (6, iv .i64 s23.1)])) (Ωl := (fun (s23 : Int × (List Int)) (x24 : (Value × List Nat)) => [oc b1 [iv .i64 g_0.N, slv rT_api_Pair g_0.L], oc b2 [pv (.slice none 0 0), pv (.slice none 0 0), pv (.slice none 0 0), iv .i64 0], oc b5 [pv x24.1, pv (.slice none 0 0), pv (.slice none 0 0), iv .i64 style_1], oa (rI .i64) x24.1 x24.2 s23.2])) (Γb := (fun (q29 : (List Int)) (y30 : (Value × List Nat)) => [(4, pv (ptr b2 0)), (5, pv (ptr b5 0))])) (Ωb := (fun (q29 : (List Int)) (y30 : (Value × List Nat)) => [oc b2 [pv (.slice none 0 0), pv (.slice none 0 0), pv (.slice none 0 0), iv .i64 0], oc b5 [pv y30.1, pv (.slice none 0 0), pv (.slice none 0 0), iv .i64 style_1], oa (rI .i64) y30.1 y30.2 q29])) (0, []) ((.slice none 0 0), []) (weak [0, 1, 2, 3] ⟨rfl, rfl, rfl, rfl, trivial⟩ ⟨rfl, rfl, rfl, rfl, trivial⟩) (fun s23 x24 => ?_) (fun q29 y30 => ?_)
    · unfold ref28_Full_l1
      refine ref_seq ?_
      refine ref_seq ?_
      refine ref_region ?_
      refine s_rd (r_move rfl) rfl ?_
      refine s_rd (r_faddr (fo := 0) Try.underlying28 rfl rfl Try.sizeOf3 rfl) rfl ?_
      refine s_rd (r_cload Try.isAgg3 rfl (j := 0) rfl rfl) rfl ?_
      refine s_rd (r_lss rfl rfl) rfl ?_
      refine l_nil ?_
      refine n_then ?_
      refine ref_cond rfl (fun hb25 => ?_) (fun hb25 => ?_)
      · refine ref_skip ?_
        refine n_then ?_
        refine ref_seq ?_
        refine ref_block ?_
        refine ref_region ?_
        refine s_rd (r_faddr (fo := 0) Try.underlying25 rfl rfl Try.sizeOf22 rfl) rfl ?_
        refine s_rd (r_cload Try.isAgg22 rfl (j := 2) rfl rfl) rfl ?_
        refine s_rd (r_move rfl) rfl ?_
        refine s_st (s_bslice (xs := [.tmp 21]) (ds := [s23.1]) Try.underlying22 el_3 rfl (Nat.le_of_ble_eq_true rfl) ⟨(part_at rfl iv_at), trivial⟩) rfl (fun _ => ?_)
        refine pull fun t26 h_t26 => ?_
        refine s_st (s_append h_t26 Try.underlying22 el_3 rfl (j := 3) rfl rfl) rfl (fun o27 => ?_)
        refine s_rd (r_faddr (fo := 0) Try.underlying25 rfl rfl Try.sizeOf22 rfl) rfl ?_
        refine s_st0 (s_cstore (out := [pv o27.1, pv (.slice none 0 0), pv (.slice none 0 0), iv .i64 style_1]) Try.sizeOf22 rfl (j := 2) rfl (part_own rfl (j := 3) rfl) rfl rfl rfl) (fun _ => ?_)
        refine l_nil ?_
        refine n_block ?_
        refine n_then ?_
        refine ref_region ?_
        refine s_rd (r_move rfl) rfl ?_
        refine s_rd (r_add rfl rfl) rfl ?_
        refine s_rd (r_assign rfl) rfl ?_
        refine b_let (f := iv .i64) (t := 6) rfl fun a_28 => ?_
        refine l_nil ?_
        exact goB o27 (weak [0, 1, 2, 3] ⟨rfl, rfl, rfl, rfl, trivial⟩ ⟨rfl, rfl, rfl, rfl, trivial⟩)
      · refine ref_exit ?_
        refine x_then ?_
        exact brkB x24 (weak [1, 2, 3] ⟨rfl, rfl, trivial⟩ ⟨rfl, rfl, rfl, trivial⟩)
    · refine n_then ?_
      refine ref_seq ?_
      refine ref_region ?_
      refine s_rd (r_cloadS Try.isAgg25 Try.sizeOf25 rfl (j := 1) rfl rfl rfl) rfl ?_
      refine s_st0 (s_cstore (out := [pv y30.1, pv (.slice none 0 0), pv (.slice none 0 0), iv .i64 style_1]) Try.sizeOf25 rfl (j := 0) rfl (part_agO (ψs := [pv y30.1, pv (.slice none 0 0), pv (.slice none 0 0), iv .i64 style_1]) rfl ⟨.inr ⟨_, _, _, _, _, 2, rfl, rfl⟩, .inl (pv_at rfl), .inl (pv_at rfl), .inl iv_at, trivial⟩) rfl rfl rfl) (fun _ => ?_)
      refine l_nil ?_
      refine n_then ?_
      refine ref_ret ?_
      refine b_of (frzGL [(25, ag [slv (rI .i64) q29, pv (.slice none 0 0), pv (.slice none 0 0), iv .i64 style_1])] [(0, b2, [slv (rI .i64) q29, pv (.slice none 0 0), pv (.slice none 0 0), iv .i64 style_1]), (1, b5, [slv (rI .i64) q29, pv (.slice none 0 0), pv (.slice none 0 0), iv .i64 style_1])] (j := 2) rfl ⟨⟨_, rfl, .inr ⟨_, _, rfl, rfl, ⟨.inr ⟨rfl, rfl⟩, .inl rfl, .inl rfl, .inl rfl, trivial⟩⟩⟩, trivial⟩ ⟨⟨_, rfl, ⟨.inr ⟨rfl, rfl⟩, .inl rfl, .inl rfl, .inl rfl, trivial⟩⟩, ⟨_, rfl, ⟨.inr ⟨rfl, rfl⟩, .inl rfl, .inl rfl, .inl rfl, trivial⟩⟩, trivial⟩) ?_
      exact fin1 (.inl rfl) () [] rfl trivial rfl (rv_cell rfl (j := 0) rfl Try.isAgg25 Try.sizeOf25 rfl rfl)

/-! deliberation/deliberationnet.Some -/
noncomputable def net_Some_l1 (n_1 : Int) (s17 : Int × T_deliberationkeep_Src × (List Int)) : Option (Sum (T_deliberationkeep_Src × (List Int)) (Int × T_deliberationkeep_Src × (List Int))) :=
  bif decide (s17.1 < n_1) then
    Option.bind (keep_Src_N_m s17.2.1 3) fun t20 =>
    bif t20.1 == 0 then
      Option.bind (appM 8 s17.2.2 [s17.1]) fun out22 =>
      letM (iadd .i64 s17.1 1) fun i24 =>
      some (Sum.inr (i24, t20.2, out22))
    else
      letM (iadd .i64 s17.1 1) fun i25 =>
      some (Sum.inr (i25, t20.2, s17.2.2))
  else
    some (Sum.inl (s17.2.1, s17.2.2))

noncomputable def net_Some_m (s_0 : T_deliberationkeep_Src) (n_1 : Int) : Option (List Int × T_deliberationkeep_Src) :=
  Option.bind (loopC (net_Some_l1 n_1) (0, s_0, [])) fun q26 : T_deliberationkeep_Src × (List Int) =>
  some (q26.2, q26.1)

theorem net_Some_ok {s_0 : T_deliberationkeep_Src} {n_1 : Int} {b_0 : Nat} {r : List Int × T_deliberationkeep_Src} (hm : net_Some_m s_0 n_1 = some r) :
    FnOk prog 31 [pv (ptr b_0 0), iv .i64 n_1] [oc b_0 [slv (rI .i64) s_0.L, iv .i64 s_0.At]] (fun (x : (Value × List Nat)) => [pv x.1]) (fun (x : (Value × List Nat)) => [oc b_0 [slv (rI .i64) r.2.L, iv .i64 r.2.At], oa (rI .i64) x.1 x.2 r.1]) := by
  refine fn_ok (X := (Value × List Nat)) (fn := Try.f31) (N := 20) (m := net_Some_m s_0 n_1) (res := fun r x => [pv x.1]) (Ω1 := fun r x => [oc b_0 [slv (rI .i64) r.2.L, iv .i64 r.2.At], oa (rI .i64) x.1 x.2 r.1]) Try.func31 rfl rfl hm rfl (fun E hM => ?_)
  unfold net_Some_m
  refine ref_seq ?_
  refine ref_region ?_
  refine s_rd (r_assign rfl) rfl ?_
  refine l_nil ?_
  refine n_then ?_
  refine ref_seq ?_
  refine ref_region ?_
  refine s_rd (r_assign rfl) rfl ?_
  refine l_nil ?_
  refine n_then ?_
  refine ref_seq ?_
  refine ref_seq ?_
  refine ref_region ?_
  refine s_rd (r_assign rfl) rfl ?_
  refine l_nil ?_
  refine n_then ?_
  refine b_of (own_nil (rI .i64)) ?_
  refine ref_loopB (f := (net_Some_l1 n_1)) (Γl := (fun (s17 : Int × T_deliberationkeep_Src × (List Int)) (x18 : (Value × List Nat)) => [(0, pv (ptr b_0 0)), (1, iv .i64 n_1), (5, pv x18.1), (6, iv .i64 s17.1)])) (Ωl := (fun (s17 : Int × T_deliberationkeep_Src × (List Int)) (x18 : (Value × List Nat)) => [oc b_0 [slv (rI .i64) s17.2.1.L, iv .i64 s17.2.1.At], oa (rI .i64) x18.1 x18.2 s17.2.2])) (Γb := (fun (q26 : T_deliberationkeep_Src × (List Int)) (y27 : (Value × List Nat)) => [(0, pv (ptr b_0 0)), (5, pv y27.1)])) (Ωb := (fun (q26 : T_deliberationkeep_Src × (List Int)) (y27 : (Value × List Nat)) => [oc b_0 [slv (rI .i64) q26.1.L, iv .i64 q26.1.At], oa (rI .i64) y27.1 y27.2 q26.2])) (0, s_0, []) ((.slice none 0 0), []) (weak [0, 1] ⟨rfl, rfl, rfl, rfl, trivial⟩ ⟨rfl, rfl, trivial⟩) (fun s17 x18 => ?_) (fun q26 y27 => ?_)
  · unfold net_Some_l1
    refine ref_seq ?_
    refine ref_seq ?_
    refine ref_region ?_
    refine s_rd (r_move rfl) rfl ?_
    refine s_rd (r_move rfl) rfl ?_
    refine s_rd (r_lss rfl rfl) rfl ?_
    refine l_nil ?_
    refine n_then ?_
    refine ref_cond rfl (fun hb19 => ?_) (fun hb19 => ?_)
    · refine ref_skip ?_
      refine n_then ?_
      refine ref_seq ?_
      refine ref_block ?_
      refine ref_seq ?_
      refine ref_region ?_
      refine s_rd (r_move rfl) rfl ?_
      refine pull fun t20 h_t20 => ?_
      refine s_st (s_callC [0] [true] (fun (_ : Unit) => [oc b_0 [slv (rI .i64) t20.2.L, iv .i64 t20.2.At]]) (fun (_ : Unit) => []) (fun (_ : Unit) => iv .i64 t20.1) (args := [.tmp 12, .const (.int .i64 (3))]) (caps := []) Try.call22 rfl (keep_Src_N_ok h_t20) ⟨rfl, rfl, trivial⟩ (fun _ => rfl) (fun _ => trivial) (fun _ => rfl) ⟨arg rfl, arg rfl, trivial⟩ (fun _ _ _ _ h => h)) rfl (fun _ => ?_)
      refine s_rd (r_eql rfl rfl) rfl ?_
      refine l_nil ?_
      refine n_then ?_
      refine ref_cond rfl (fun hb21 => ?_) (fun hb21 => ?_)
      · refine ref_region ?_
        refine s_rd (r_move rfl) rfl ?_
        refine s_rd (r_move rfl) rfl ?_
        refine s_st (s_bslice (xs := [.tmp 16]) (ds := [s17.1]) Try.underlying22 el_3 rfl (Nat.le_of_ble_eq_true rfl) ⟨(part_at rfl iv_at), trivial⟩) rfl (fun _ => ?_)
        refine pull fun out22 h_out22 => ?_
        refine s_st (s_append h_out22 Try.underlying22 el_3 rfl (j := 1) rfl rfl) rfl (fun o23 => ?_)
        refine s_rd (r_assign rfl) rfl ?_
        refine l_nil ?_
        refine n_block ?_
        refine n_then ?_
        refine ref_region ?_
        refine s_rd (r_move rfl) rfl ?_
        refine s_rd (r_add rfl rfl) rfl ?_
        refine s_rd (r_assign rfl) rfl ?_
        refine b_let (f := iv .i64) (t := 6) rfl fun i24 => ?_
        refine l_nil ?_
        exact goB o23 (weak [0, 1] ⟨rfl, rfl, rfl, rfl, trivial⟩ ⟨rfl, rfl, trivial⟩)
      · refine ref_skip ?_
        refine n_block ?_
        refine n_then ?_
        refine ref_region ?_
        refine s_rd (r_move rfl) rfl ?_
        refine s_rd (r_add rfl rfl) rfl ?_
        refine s_rd (r_assign rfl) rfl ?_
        refine b_let (f := iv .i64) (t := 6) rfl fun i25 => ?_
        refine l_nil ?_
        exact goB x18 (weak [0, 1] ⟨rfl, rfl, rfl, rfl, trivial⟩ ⟨rfl, rfl, trivial⟩)
    · refine ref_exit ?_
      refine x_then ?_
      exact brkB x18 (weak [0, 1] ⟨rfl, rfl, trivial⟩ ⟨rfl, rfl, trivial⟩)
  · refine n_then ?_
    refine ref_seq ?_
    refine ref_region ?_
    refine s_rd (r_move rfl) rfl ?_
    refine s_rd (r_assign rfl) rfl ?_
    refine l_nil ?_
    refine n_then ?_
    refine ref_ret ?_
    exact fin1 (.inl rfl) y27 [0, 1] rfl ⟨rfl, rfl, trivial⟩ rfl (rv_tmp rfl)

/-! (*deliberation/deliberationkeep.Src).Pick -/
noncomputable def keep_Src_Pick_m (s_0 : T_deliberationkeep_Src) (l_1 : (List Int)) : Option (Int × T_deliberationkeep_Src) :=
  Option.bind (keep_Src_N_m s_0 (l_1.length : Int)) fun t1 =>
  Option.bind (idxM l_1 t1.1) fun t2 =>
  some (t2, t1.2)

theorem keep_Src_Pick_ok {s_0 : T_deliberationkeep_Src} {l_1 : (List Int)} {b_0 : Nat} {r : Int × T_deliberationkeep_Src} (hm : keep_Src_Pick_m s_0 l_1 = some r) :
    FnOk prog 29 [pv (ptr b_0 0), slv (rI .i64) l_1] [oc b_0 [slv (rI .i64) s_0.L, iv .i64 s_0.At]] (fun (x : Unit) => [iv .i64 r.1]) (fun (x : Unit) => [oc b_0 [slv (rI .i64) r.2.L, iv .i64 r.2.At]]) := by
  refine fn_ok (X := Unit) (fn := Try.f29) (N := 12) (m := keep_Src_Pick_m s_0 l_1) (res := fun r x => [iv .i64 r.1]) (Ω1 := fun r x => [oc b_0 [slv (rI .i64) r.2.L, iv .i64 r.2.At]]) Try.func29 rfl rfl hm rfl (fun E hM => ?_)
  unfold keep_Src_Pick_m
  refine ref_seq ?_
  refine ref_region ?_
  refine s_rd (r_assign rfl) rfl ?_
  refine l_nil ?_
  refine n_then ?_
  refine ref_seq ?_
  refine ref_region ?_
  refine s_rd (r_move rfl) rfl ?_
  refine s_rd (r_move rfl) rfl ?_
  refine s_rd (r_move rfl) rfl ?_
  refine s_rd (r_len Try.underlying22 rfl) rfl ?_
  refine pull fun t1 h_t1 => ?_
  refine s_st (s_callC [0] [true] (fun (_ : Unit) => [oc b_0 [slv (rI .i64) t1.2.L, iv .i64 t1.2.At]]) (fun (_ : Unit) => []) (fun (_ : Unit) => iv .i64 t1.1) (args := [.tmp 6, .tmp 8]) (caps := []) Try.call22 rfl (keep_Src_N_ok h_t1) ⟨rfl, rfl, trivial⟩ (fun _ => rfl) (fun _ => trivial) (fun _ => rfl) ⟨arg rfl, arg rfl, trivial⟩ (fun _ _ _ _ h => h)) rfl (fun _ => ?_)
  refine pull fun t2 h_t2 => ?_
  refine s_rd (r_index h_t2 Try.underlying22 el_3 rfl rfl) rfl ?_
  refine s_rd (r_load el_3 rfl) rfl ?_
  refine s_rd (r_assign rfl) rfl ?_
  refine l_nil ?_
  refine n_then ?_
  refine ref_ret ?_
  exact fin1 (.inl rfl) () [0] rfl ⟨rfl, trivial⟩ rfl (rv_tmp rfl)

/-! deliberation/deliberationlaw28.player -/
noncomputable def law28_player_l1 (g_1 : T_api_Graph) (s55 : Int × T_deliberationkeep_Src × (List T_api_Move)) : Option (Sum (T_deliberationkeep_Src × (List T_api_Move)) (Int × T_deliberationkeep_Src × (List T_api_Move))) :=
  bif decide (s55.1 > 0) then
    Option.bind (keep_Src_N_m s55.2.1 3) fun t59 =>
    Option.bind (keep_Src_Pick_m t59.2 [2, 2, 3, 4, 0]) fun t60 =>
    Option.bind (keep_Src_N_m t60.2 g_1.N) fun t61 =>
    Option.bind (keep_Src_N_m t61.2 5) fun t62 =>
    Option.bind (appM 32 s55.2.2 [(T_api_Move.mk t59.1 t60.1 t61.1 t62.1)]) fun t63 =>
    letM (isub .i64 s55.1 1) fun i65 =>
    some (Sum.inr (i65, t62.2, t63))
  else
    some (Sum.inl (s55.2.1, s55.2.2))

noncomputable def law28_player_m (s_0 : T_deliberationkeep_Src) (g_1 : T_api_Graph) : Option (T_api_Player × T_deliberationkeep_Src) :=
  Option.bind (keep_Src_Range_m s_0 1 3) fun t4 =>
  Option.bind (ref28_Full_m g_1 t4.1) fun t5 =>
  joinM (fun j11 : T_deliberationkeep_Src × (List Int) =>
      joinM (fun j18 : T_deliberationkeep_Src × (List Int) =>
          Option.bind (keep_Src_N_m j18.1 4) fun i21 =>
          Option.bind (loopC (law28_player_l1 g_1) (i21.1, i21.2, [])) fun q66 : T_deliberationkeep_Src × (List T_api_Move) =>
          some ((T_api_Player.mk j18.2 j11.2 q66.2 t5.Style), q66.1)) fun k20 =>
      Option.bind (keep_Src_N_m j11.1 3) fun t14 =>
      bif t14.1 == 0 then
        Option.bind (net_Some_m t14.2 g_1.N) fun t16 =>
        k20 (t16.2, t16.1)
      else
        k20 (t14.2, t5.Pool)) fun k13 =>
  Option.bind (keep_Src_N_m t4.2 2) fun t7 =>
  bif t7.1 == 0 then
    Option.bind (net_Some_m t7.2 g_1.N) fun t9 =>
    k13 (t9.2, t9.1)
  else
    k13 (t7.2, [])

theorem law28_player_ok {s_0 : T_deliberationkeep_Src} {g_1 : T_api_Graph} {b_0 : Nat} {r : T_api_Player × T_deliberationkeep_Src} (hm : law28_player_m s_0 g_1 = some r) :
    FnOk prog 11 [pv (ptr b_0 0), ag [iv .i64 g_1.N, slv rT_api_Pair g_1.L]] [oc b_0 [slv (rI .i64) s_0.L, iv .i64 s_0.At]] (fun (x : Unit) => [ag [slv (rI .i64) r.1.Pool, slv (rI .i64) r.1.Withheld, slv rT_api_Move r.1.Script, iv .i64 r.1.Style]]) (fun (x : Unit) => [oc b_0 [slv (rI .i64) r.2.L, iv .i64 r.2.At]]) := by
  refine fn_ok (X := Unit) (fn := Try.f11) (N := 51) (m := law28_player_m s_0 g_1) (res := fun r x => [ag [slv (rI .i64) r.1.Pool, slv (rI .i64) r.1.Withheld, slv rT_api_Move r.1.Script, iv .i64 r.1.Style]]) (Ω1 := fun r x => [oc b_0 [slv (rI .i64) r.2.L, iv .i64 r.2.At]]) Try.func11 rfl rfl hm rfl (fun E hM => ?_)
  unfold law28_player_m
  refine ref_seq ?_
  refine ref_region ?_
  refine s_st (s_box (part_ag (ψs := [iv .i64 g_1.N, slv rT_api_Pair g_1.L]) rfl (by intro φ h; simp only [List.mem_cons, List.not_mem_nil, or_false] at h; rcases h with rfl | rfl <;> first | exact iv_at | exact bv_at | exact sv_at | exact slv_at | exact pv_at rfl))) rfl (fun b1 => ?_)
  refine s_st (s_alloc zt_25) rfl (fun b2 => ?_)
  refine l_nil ?_
  refine n_then ?_
  refine ref_seq ?_
  refine pull fun t4 h_t4 => ?_
  refine pull fun t5 h_t5 => ?_
  refine ref_drawI 1 [⟨[], [], [], [1], [], fun us u => ag [iv .i64 g_1.N, slv rT_api_Pair g_1.L], fun us u => []⟩, ⟨[], [], [], [], [], fun us u => pv (ptr b_0 0), fun us u => []⟩, ⟨[1], [], [0], [0], [0], fun us u => iv .i64 t4.1, fun us u => [oc b_0 [slv (rI .i64) t4.2.L, iv .i64 t4.2.At]]⟩, ⟨[0, 1, 2], [], [], [], [], fun us u => ag [slv (rI .i64) t5.Pool, pv (.slice none 0 0), pv (.slice none 0 0), iv .i64 t5.Style], fun us u => []⟩, ⟨[], [], [3], [3], [], fun us u => pv (ptr u.Nn 0), fun us u => [oc u.Nn [pv (.slice none 0 0), pv (.slice none 0 0), pv (.slice none 0 0), iv .i64 0]]⟩, ⟨[0, 1, 2, 3, 4], [4], [3], [3], [3], fun us u => pv undef, fun us u => [oc (us.getD 0 .none).Nn [slv (rI .i64) t5.Pool, pv (.slice none 0 0), pv (.slice none 0 0), iv .i64 t5.Style]]⟩] (fun χ3 => [(0, pv (ptr b_0 0)), (3, pv (ptr b1 0)), (4, pv (ptr b2 0)), (5, pv (ptr (χ3 4).Nn 0))]) (fun χ3 => [oc b_0 [slv (rI .i64) t4.2.L, iv .i64 t4.2.At], oc b1 [iv .i64 g_1.N, slv rT_api_Pair g_1.L], oc b2 [pv (.slice none 0 0), pv (.slice none 0 0), pv (.slice none 0 0), iv .i64 0], oc (χ3 4).Nn [slv (rI .i64) t5.Pool, pv (.slice none 0 0), pv (.slice none 0 0), iv .i64 t5.Style]]) rfl (by kernel_rfl) ⟨fun χ3 Ω ⟨h1, _⟩ => St.toR (r_cloadS Try.isAgg28 Try.sizeOf28 rfl (j := 1) h1 rfl rfl) (fun _ => rfl) (fun _ => rfl), (by intro _ h; cases h; rfl), ⟨fun χ3 Ω _ => St.toR (r_move rfl) (fun _ => rfl) (fun _ => rfl), (by intro _ h; cases h; rfl), ⟨fun χ3 Ω ⟨h0, _⟩ => St.to XU.U XU.hU (St.placeL [] (s_callC [0] [true] (fun (_ : Unit) => [oc b_0 [slv (rI .i64) t4.2.L, iv .i64 t4.2.At]]) (fun (_ : Unit) => []) (fun (_ : Unit) => iv .i64 t4.1) (args := [.tmp 8, .const (.int .i64 (1)), .const (.int .i64 (3))]) (caps := []) Try.call27 rfl (keep_Src_Range_ok h_t4) ⟨h0, rfl, trivial⟩ (fun _ => rfl) (fun _ => trivial) (fun _ => rfl) ⟨arg rfl, arg rfl, arg rfl, trivial⟩ (fun _ _ _ _ h => h)) (fun _ => rfl) (fun _ => trivial)) (fun _ => rfl) (fun _ => rfl), (by intro _ h; cases h; rfl), ⟨fun χ3 Ω _ => St.to XU.U XU.hU (St.placeL [] (s_call (ψ := fun (_ : Unit) => ag [slv (rI .i64) t5.Pool, pv (.slice none 0 0), pv (.slice none 0 0), iv .i64 t5.Style]) (args := [.tmp 7, .tmp 9]) Try.call18 rfl (ref28_Full_ok h_t5) ⟨arg rfl, arg rfl, trivial⟩ (fun _ _ _ _ h => h)) (fun _ => rfl) (fun _ => trivial)) (fun _ => rfl) (fun _ => rfl), (by intro _ h; cases h; rfl), ⟨fun χ3 Ω ⟨h3, _⟩ => St.to XU.Nn XU.hN (St.placeL (os := fun _ => [_]) [3] (s_alloc zt_25) (fun _ => rfl) (fun _ => ⟨h3, rfl, trivial⟩)) (fun _ => rfl) (fun _ => rfl), (by intro _ h; cases h; rfl), ⟨fun χ3 Ω ⟨h3, _⟩ => St.to XU.U XU.hU (s_cstore (out := [slv (rI .i64) t5.Pool, pv (.slice none 0 0), pv (.slice none 0 0), iv .i64 t5.Style]) Try.sizeOf25 rfl (j := 3) h3 (part_agO (ψs := [slv (rI .i64) t5.Pool, pv (.slice none 0 0), pv (.slice none 0 0), iv .i64 t5.Style]) rfl ⟨.inl slv_at, .inl (pv_at rfl), .inl (pv_at rfl), .inl iv_at, trivial⟩) rfl rfl rfl) (fun _ => rfl) (fun _ => rfl), (by intro _ h; cases h), trivial⟩⟩⟩⟩⟩⟩ (fun _ => ⟨rfl, rfl, rfl, rfl, trivial⟩) (fun _ => rfl) (fun χ3 => ?_)
  refine n_then ?_
  refine ref_seq ?_
  refine ref_join (fun (j11 : T_deliberationkeep_Src × (List Int)) (x12 : (Value × List Nat)) => [(0, pv (ptr b_0 0)), (3, pv (ptr b1 0)), (4, pv (ptr b2 0)), (5, pv (ptr (χ3 4).Nn 0))]) (fun (j11 : T_deliberationkeep_Src × (List Int)) (x12 : (Value × List Nat)) => [oc b_0 [slv (rI .i64) j11.1.L, iv .i64 j11.1.At], oc b1 [iv .i64 g_1.N, slv rT_api_Pair g_1.L], oc b2 [pv (.slice none 0 0), pv (.slice none 0 0), pv (.slice none 0 0), iv .i64 0], oc (χ3 4).Nn [slv (rI .i64) t5.Pool, pv x12.1, pv (.slice none 0 0), iv .i64 t5.Style], oa (rI .i64) x12.1 x12.2 j11.2]) (fun k13 hk13 => ?_) (fun j11 x12 => ?_)
  · refine ref_seq ?_
    refine ref_region ?_
    refine s_rd (r_move rfl) rfl ?_
    refine pull fun t7 h_t7 => ?_
    refine s_st (s_callC [0] [true] (fun (_ : Unit) => [oc b_0 [slv (rI .i64) t7.2.L, iv .i64 t7.2.At]]) (fun (_ : Unit) => []) (fun (_ : Unit) => iv .i64 t7.1) (args := [.tmp 11, .const (.int .i64 (2))]) (caps := []) Try.call22 rfl (keep_Src_N_ok h_t7) ⟨rfl, rfl, trivial⟩ (fun _ => rfl) (fun _ => trivial) (fun _ => rfl) ⟨arg rfl, arg rfl, trivial⟩ (fun _ _ _ _ h => h)) rfl (fun _ => ?_)
    refine s_rd (r_eql rfl rfl) rfl ?_
    refine l_nil ?_
    refine n_then ?_
    refine ref_cond rfl (fun hb8 => ?_) (fun hb8 => ?_)
    · refine ref_region ?_
      refine s_rd (r_move rfl) rfl ?_
      refine s_rd (r_faddr (fo := 0) Try.underlying28 rfl rfl Try.sizeOf3 rfl) rfl ?_
      refine s_rd (r_cload Try.isAgg3 rfl (j := 1) rfl rfl) rfl ?_
      refine pull fun t9 h_t9 => ?_
      refine s_st (s_callC [0] [true] (fun (x10 : (Value × List Nat)) => [oc b_0 [slv (rI .i64) t9.2.L, iv .i64 t9.2.At]]) (fun (x10 : (Value × List Nat)) => [oa (rI .i64) x10.1 x10.2 t9.1]) (fun (x10 : (Value × List Nat)) => pv x10.1) (args := [.tmp 14, .tmp 16]) (caps := []) Try.call31 rfl (net_Some_ok h_t9) ⟨rfl, rfl, trivial⟩ (fun _ => rfl) (fun _ => trivial) (fun _ => rfl) ⟨arg rfl, arg rfl, trivial⟩ (fun _ _ _ _ h => h)) rfl (fun x10 => ?_)
      refine s_rd (r_faddr (fo := 1) Try.underlying25 rfl rfl Try.sizeOf22 rfl) rfl ?_
      refine s_st0 (s_cstore (out := [slv (rI .i64) t5.Pool, pv x10.1, pv (.slice none 0 0), iv .i64 t5.Style]) Try.sizeOf22 rfl (j := 3) rfl (part_own rfl (j := 4) rfl) rfl rfl rfl) (fun _ => ?_)
      refine l_nil ?_
      exact b_to (hk13 (t9.2, t9.1) x10) (weak [0, 1, 2, 3, 4] ⟨rfl, rfl, rfl, rfl, trivial⟩ ⟨rfl, rfl, rfl, rfl, rfl, trivial⟩)
    · refine ref_skip ?_
      refine b_of (own_nil (rI .i64)) ?_
      exact b_to (hk13 (t7.2, []) ((.slice none 0 0), [])) (weak [0, 1, 2, 3, 4] ⟨rfl, rfl, rfl, rfl, trivial⟩ ⟨rfl, rfl, rfl, rfl, rfl, trivial⟩)
  · refine n_then ?_
    refine ref_seq ?_
    refine ref_join (fun (j18 : T_deliberationkeep_Src × (List Int)) (x19 : Unit) => [(0, pv (ptr b_0 0)), (3, pv (ptr b1 0)), (4, pv (ptr b2 0)), (5, pv (ptr (χ3 4).Nn 0))]) (fun (j18 : T_deliberationkeep_Src × (List Int)) (x19 : Unit) => [oc b_0 [slv (rI .i64) j18.1.L, iv .i64 j18.1.At], oc b1 [iv .i64 g_1.N, slv rT_api_Pair g_1.L], oc b2 [pv (.slice none 0 0), pv (.slice none 0 0), pv (.slice none 0 0), iv .i64 0], oc (χ3 4).Nn [slv (rI .i64) j18.2, pv x12.1, pv (.slice none 0 0), iv .i64 t5.Style], oa (rI .i64) x12.1 x12.2 j11.2]) (fun k20 hk20 => ?_) (fun j18 x19 => ?_)
    · refine ref_seq ?_
      refine ref_region ?_
      refine s_rd (r_move rfl) rfl ?_
      refine pull fun t14 h_t14 => ?_
      refine s_st (s_callC [0] [true] (fun (_ : Unit) => [oc b_0 [slv (rI .i64) t14.2.L, iv .i64 t14.2.At]]) (fun (_ : Unit) => []) (fun (_ : Unit) => iv .i64 t14.1) (args := [.tmp 19, .const (.int .i64 (3))]) (caps := []) Try.call22 rfl (keep_Src_N_ok h_t14) ⟨rfl, rfl, trivial⟩ (fun _ => rfl) (fun _ => trivial) (fun _ => rfl) ⟨arg rfl, arg rfl, trivial⟩ (fun _ _ _ _ h => h)) rfl (fun _ => ?_)
      refine s_rd (r_eql rfl rfl) rfl ?_
      refine l_nil ?_
      refine n_then ?_
      refine ref_cond rfl (fun hb15 => ?_) (fun hb15 => ?_)
      · refine ref_region ?_
        refine s_rd (r_move rfl) rfl ?_
        refine s_rd (r_faddr (fo := 0) Try.underlying28 rfl rfl Try.sizeOf3 rfl) rfl ?_
        refine s_rd (r_cload Try.isAgg3 rfl (j := 1) rfl rfl) rfl ?_
        refine pull fun t16 h_t16 => ?_
        refine s_st (s_callC [0] [true] (fun (x17 : (Value × List Nat)) => [oc b_0 [slv (rI .i64) t16.2.L, iv .i64 t16.2.At]]) (fun (x17 : (Value × List Nat)) => [oa (rI .i64) x17.1 x17.2 t16.1]) (fun (x17 : (Value × List Nat)) => pv x17.1) (args := [.tmp 22, .tmp 24]) (caps := []) Try.call31 rfl (net_Some_ok h_t16) ⟨rfl, rfl, trivial⟩ (fun _ => rfl) (fun _ => trivial) (fun _ => rfl) ⟨arg rfl, arg rfl, trivial⟩ (fun _ _ _ _ h => h)) rfl (fun x17 => ?_)
        refine s_rd (r_faddr (fo := 0) Try.underlying25 rfl rfl Try.sizeOf22 rfl) rfl ?_
        refine s_st0 (s_cstore (out := [pv x17.1, pv x12.1, pv (.slice none 0 0), iv .i64 t5.Style]) Try.sizeOf22 rfl (j := 3) rfl (part_own rfl (j := 5) rfl) rfl rfl rfl) (fun _ => ?_)
        refine l_nil ?_
        refine b_of (frzGL [(25, slv (rI .i64) t16.1)] [(3, (χ3 4).Nn, [slv (rI .i64) t16.1, pv x12.1, pv (.slice none 0 0), iv .i64 t5.Style])] (j := 5) rfl ⟨⟨_, rfl, .inl ⟨rfl, rfl⟩⟩, trivial⟩ ⟨⟨_, rfl, ⟨.inr ⟨rfl, rfl⟩, .inl rfl, .inl rfl, .inl rfl, trivial⟩⟩, trivial⟩) ?_
        exact b_to (hk20 (t16.2, t16.1) ()) (weak [0, 1, 2, 3, 4] ⟨rfl, rfl, rfl, rfl, trivial⟩ ⟨rfl, rfl, rfl, rfl, rfl, trivial⟩)
      · refine ref_skip ?_
        exact b_to (hk20 (t14.2, t5.Pool) ()) (weak [0, 1, 2, 3, 4] ⟨rfl, rfl, rfl, rfl, trivial⟩ ⟨rfl, rfl, rfl, rfl, rfl, trivial⟩)
    · refine n_then ?_
      refine ref_seq ?_
      refine ref_seq ?_
      refine ref_region ?_
      refine s_rd (r_move rfl) rfl ?_
      refine pull fun i21 h_i21 => ?_
      refine s_st (s_callC [0] [true] (fun (_ : Unit) => [oc b_0 [slv (rI .i64) i21.2.L, iv .i64 i21.2.At]]) (fun (_ : Unit) => []) (fun (_ : Unit) => iv .i64 i21.1) (args := [.tmp 27, .const (.int .i64 (4))]) (caps := []) Try.call22 rfl (keep_Src_N_ok h_i21) ⟨rfl, rfl, trivial⟩ (fun _ => rfl) (fun _ => trivial) (fun _ => rfl) ⟨arg rfl, arg rfl, trivial⟩ (fun _ _ _ _ h => h)) rfl (fun _ => ?_)
      refine s_rd (r_assign rfl) rfl ?_
      refine l_nil ?_
      refine n_then ?_
      refine b_of (own_nil rT_api_Move) ?_
      refine ref_loopB (f := (law28_player_l1 g_1)) (Γl := (fun (s55 : Int × T_deliberationkeep_Src × (List T_api_Move)) (x56 : (Value × List Nat)) => [(0, pv (ptr b_0 0)), (3, pv (ptr b1 0)), (4, pv (ptr b2 0)), (5, pv (ptr (χ3 4).Nn 0)), (6, iv .i64 s55.1)])) (Ωl := (fun (s55 : Int × T_deliberationkeep_Src × (List T_api_Move)) (x56 : (Value × List Nat)) => [oc b_0 [slv (rI .i64) s55.2.1.L, iv .i64 s55.2.1.At], oc b1 [iv .i64 g_1.N, slv rT_api_Pair g_1.L], oc b2 [pv (.slice none 0 0), pv (.slice none 0 0), pv (.slice none 0 0), iv .i64 0], oc (χ3 4).Nn [slv (rI .i64) j18.2, pv x12.1, pv x56.1, iv .i64 t5.Style], oa (rI .i64) x12.1 x12.2 j11.2, oa rT_api_Move x56.1 x56.2 s55.2.2])) (Γb := (fun (q66 : T_deliberationkeep_Src × (List T_api_Move)) (y67 : (Value × List Nat)) => [(0, pv (ptr b_0 0)), (4, pv (ptr b2 0)), (5, pv (ptr (χ3 4).Nn 0))])) (Ωb := (fun (q66 : T_deliberationkeep_Src × (List T_api_Move)) (y67 : (Value × List Nat)) => [oc b_0 [slv (rI .i64) q66.1.L, iv .i64 q66.1.At], oc b2 [pv (.slice none 0 0), pv (.slice none 0 0), pv (.slice none 0 0), iv .i64 0], oc (χ3 4).Nn [slv (rI .i64) j18.2, pv x12.1, pv y67.1, iv .i64 t5.Style], oa (rI .i64) x12.1 x12.2 j11.2, oa rT_api_Move y67.1 y67.2 q66.2])) (i21.1, i21.2, []) ((.slice none 0 0), []) (weak [0, 1, 2, 3, 4, 5] ⟨rfl, rfl, rfl, rfl, rfl, trivial⟩ ⟨rfl, rfl, rfl, rfl, rfl, rfl, trivial⟩) (fun s55 x56 => ?_) (fun q66 y67 => ?_)
      · unfold law28_player_l1
        refine ref_seq ?_
        refine ref_seq ?_
        refine ref_region ?_
        refine s_rd (r_move rfl) rfl ?_
        refine s_rd (r_gtr rfl rfl) rfl ?_
        refine l_nil ?_
        refine n_then ?_
        refine ref_cond rfl (fun hb57 => ?_) (fun hb57 => ?_)
        · refine ref_skip ?_
          refine n_then ?_
          refine ref_seq ?_
          refine ref_block ?_
          refine pull fun t59 h_t59 => ?_
          refine pull fun t60 h_t60 => ?_
          refine pull fun t61 h_t61 => ?_
          refine pull fun t62 h_t62 => ?_
          refine pull fun t63 h_t63 => ?_
          refine ref_drawI 0 [⟨[], [], [], [], [], fun us u => pv (ptr (χ3 4).Nn 2), fun us u => []⟩, ⟨[0], [], [], [3], [], fun us u => pv x56.1, fun us u => []⟩, ⟨[], [], [], [], [], fun us u => pv (ptr b_0 0), fun us u => []⟩, ⟨[2], [], [0], [0], [0], fun us u => iv .i64 t59.1, fun us u => [oc b_0 [slv (rI .i64) t59.2.L, iv .i64 t59.2.At]]⟩, ⟨[], [], [], [], [], fun us u => pv (ptr b_0 0), fun us u => []⟩, ⟨[], [], [], [], [], fun us u => slv (rI .i64) [2, 2, 3, 4, 0], fun us u => []⟩, ⟨[2, 3, 4, 5], [], [0], [0], [0], fun us u => iv .i64 t60.1, fun us u => [oc b_0 [slv (rI .i64) t60.2.L, iv .i64 t60.2.At]]⟩, ⟨[], [], [], [], [], fun us u => pv (ptr b_0 0), fun us u => []⟩, ⟨[], [], [], [], [], fun us u => pv (ptr b1 0), fun us u => []⟩, ⟨[8], [], [], [1], [], fun us u => iv .i64 g_1.N, fun us u => []⟩, ⟨[2, 3, 4, 5, 6, 7, 8, 9], [], [0], [0], [0], fun us u => iv .i64 t61.1, fun us u => [oc b_0 [slv (rI .i64) t61.2.L, iv .i64 t61.2.At]]⟩, ⟨[], [], [], [], [], fun us u => pv (ptr b_0 0), fun us u => []⟩, ⟨[2, 3, 4, 5, 6, 7, 8, 9, 10, 11], [], [0], [0], [0], fun us u => iv .i64 t62.1, fun us u => [oc b_0 [slv (rI .i64) t62.2.L, iv .i64 t62.2.At]]⟩, ⟨[2, 3, 4, 5, 6, 7, 8, 9, 10, 11, 12], [], [], [], [], fun us u => ag [iv .i64 t59.1, iv .i64 t60.1, iv .i64 t61.1, iv .i64 t62.1], fun us u => []⟩, ⟨[2, 3, 4, 5, 6, 7, 8, 9, 10, 11, 12, 13], [], [], [], [], fun us u => slv rT_api_Move [(T_api_Move.mk t59.1 t60.1 t61.1 t62.1)], fun us u => []⟩, ⟨[0, 1, 2, 3, 4, 5, 6, 7, 8, 9, 10, 11, 12, 13, 14], [], [5], [5], [5], fun us u => pv u.V.1, fun us u => [oa rT_api_Move u.V.1 u.V.2 t63]⟩, ⟨[0, 1, 2, 3, 4, 5, 6, 7, 8, 9, 10, 11, 12, 13, 14, 15], [], [], [], [], fun us u => pv (ptr (χ3 4).Nn 2), fun us u => []⟩, ⟨[0, 1, 2, 3, 4, 5, 6, 7, 8, 9, 10, 11, 12, 13, 14, 15, 16], [15], [3], [3, 5], [3], fun us u => pv undef, fun us u => [oc (χ3 4).Nn [slv (rI .i64) j18.2, pv x12.1, pv (us.getD 0 .none).V.1, iv .i64 t5.Style]]⟩] (fun χ58 => [(0, pv (ptr b_0 0)), (3, pv (ptr b1 0)), (4, pv (ptr b2 0)), (5, pv (ptr (χ3 4).Nn 0)), (6, iv .i64 s55.1)]) (fun χ58 => [oc b_0 [slv (rI .i64) t62.2.L, iv .i64 t62.2.At], oc b1 [iv .i64 g_1.N, slv rT_api_Pair g_1.L], oc b2 [pv (.slice none 0 0), pv (.slice none 0 0), pv (.slice none 0 0), iv .i64 0], oc (χ3 4).Nn [slv (rI .i64) j18.2, pv x12.1, pv (χ58 15).V.1, iv .i64 t5.Style], oa (rI .i64) x12.1 x12.2 j11.2, oa rT_api_Move (χ58 15).V.1 (χ58 15).V.2 t63]) rfl (by kernel_rfl) ⟨fun χ58 Ω _ => St.toR (r_faddr (fo := 2) Try.underlying25 rfl rfl Try.sizeOf23 rfl) (fun _ => rfl) (fun _ => rfl), (by intro _ h; cases h; rfl), ⟨fun χ58 Ω ⟨h3, _⟩ => St.toR (r_cload Try.isAgg23 rfl (j := 3) h3 rfl) (fun _ => rfl) (fun _ => rfl), (by intro _ h; cases h; rfl), ⟨fun χ58 Ω _ => St.toR (r_move rfl) (fun _ => rfl) (fun _ => rfl), (by intro _ h; cases h; rfl), ⟨fun χ58 Ω ⟨h0, _⟩ => St.to XU.U XU.hU (St.placeL [] (s_callC [0] [true] (fun (_ : Unit) => [oc b_0 [slv (rI .i64) t59.2.L, iv .i64 t59.2.At]]) (fun (_ : Unit) => []) (fun (_ : Unit) => iv .i64 t59.1) (args := [.tmp 35, .const (.int .i64 (3))]) (caps := []) Try.call22 rfl (keep_Src_N_ok h_t59) ⟨h0, rfl, trivial⟩ (fun _ => rfl) (fun _ => trivial) (fun _ => rfl) ⟨arg rfl, arg rfl, trivial⟩ (fun _ _ _ _ h => h)) (fun _ => rfl) (fun _ => trivial)) (fun _ => rfl) (fun _ => rfl), (by intro _ h; cases h; rfl), ⟨fun χ58 Ω _ => St.toR (r_move rfl) (fun _ => rfl) (fun _ => rfl), (by intro _ h; cases h; rfl), ⟨fun χ58 Ω _ => St.to XU.U XU.hU (s_bslice (xs := [.const (.int .i64 (2)), .const (.int .i64 (2)), .const (.int .i64 (3)), .const (.int .i64 (4)), .const (.int .i64 (0))]) (ds := [2, 2, 3, 4, 0]) Try.underlying22 el_3 rfl (Nat.le_of_ble_eq_true rfl) ⟨(part_at rfl iv_at), ⟨(part_at rfl iv_at), ⟨(part_at rfl iv_at), ⟨(part_at rfl iv_at), ⟨(part_at rfl iv_at), trivial⟩⟩⟩⟩⟩) (fun _ => rfl) (fun _ => rfl), (by intro _ h; cases h; rfl), ⟨fun χ58 Ω ⟨h0, _⟩ => St.to XU.U XU.hU (St.placeL [] (s_callC [0] [true] (fun (_ : Unit) => [oc b_0 [slv (rI .i64) t60.2.L, iv .i64 t60.2.At]]) (fun (_ : Unit) => []) (fun (_ : Unit) => iv .i64 t60.1) (args := [.tmp 37, .tmp 38]) (caps := []) Try.call29 rfl (keep_Src_Pick_ok h_t60) ⟨h0, rfl, trivial⟩ (fun _ => rfl) (fun _ => trivial) (fun _ => rfl) ⟨arg rfl, arg rfl, trivial⟩ (fun _ _ _ _ h => h)) (fun _ => rfl) (fun _ => trivial)) (fun _ => rfl) (fun _ => rfl), (by intro _ h; cases h; rfl), ⟨fun χ58 Ω _ => St.toR (r_move rfl) (fun _ => rfl) (fun _ => rfl), (by intro _ h; cases h; rfl), ⟨fun χ58 Ω _ => St.toR (r_faddr (fo := 0) Try.underlying28 rfl rfl Try.sizeOf3 rfl) (fun _ => rfl) (fun _ => rfl), (by intro _ h; cases h; rfl), ⟨fun χ58 Ω ⟨h1, _⟩ => St.toR (r_cload Try.isAgg3 rfl (j := 1) h1 rfl) (fun _ => rfl) (fun _ => rfl), (by intro _ h; cases h; rfl), ⟨fun χ58 Ω ⟨h0, _⟩ => St.to XU.U XU.hU (St.placeL [] (s_callC [0] [true] (fun (_ : Unit) => [oc b_0 [slv (rI .i64) t61.2.L, iv .i64 t61.2.At]]) (fun (_ : Unit) => []) (fun (_ : Unit) => iv .i64 t61.1) (args := [.tmp 40, .tmp 42]) (caps := []) Try.call22 rfl (keep_Src_N_ok h_t61) ⟨h0, rfl, trivial⟩ (fun _ => rfl) (fun _ => trivial) (fun _ => rfl) ⟨arg rfl, arg rfl, trivial⟩ (fun _ _ _ _ h => h)) (fun _ => rfl) (fun _ => trivial)) (fun _ => rfl) (fun _ => rfl), (by intro _ h; cases h; rfl), ⟨fun χ58 Ω _ => St.toR (r_move rfl) (fun _ => rfl) (fun _ => rfl), (by intro _ h; cases h; rfl), ⟨fun χ58 Ω ⟨h0, _⟩ => St.to XU.U XU.hU (St.placeL [] (s_callC [0] [true] (fun (_ : Unit) => [oc b_0 [slv (rI .i64) t62.2.L, iv .i64 t62.2.At]]) (fun (_ : Unit) => []) (fun (_ : Unit) => iv .i64 t62.1) (args := [.tmp 44, .const (.int .i64 (5))]) (caps := []) Try.call22 rfl (keep_Src_N_ok h_t62) ⟨h0, rfl, trivial⟩ (fun _ => rfl) (fun _ => trivial) (fun _ => rfl) ⟨arg rfl, arg rfl, trivial⟩ (fun _ _ _ _ h => h)) (fun _ => rfl) (fun _ => trivial)) (fun _ => rfl) (fun _ => rfl), (by intro _ h; cases h; rfl), ⟨fun χ58 Ω _ => St.toR (r_build (ps := [(0, .tmp 36), (1, .tmp 39), (2, .tmp 43), (3, .tmp 45)]) (rs := [(0, [iv .i64 t59.1]), (1, [iv .i64 t60.1]), (2, [iv .i64 t61.1]), (3, [iv .i64 t62.1])]) st_40 zs_40 ⟨rfl, (part_at rfl iv_at), ⟨rfl, (part_at rfl iv_at), ⟨rfl, (part_at rfl iv_at), ⟨rfl, (part_at rfl iv_at), trivial⟩⟩⟩⟩ rfl rfl) (fun _ => rfl) (fun _ => rfl), (by intro _ h; cases h; rfl), ⟨fun χ58 Ω _ => St.to XU.U XU.hU (s_bslice (xs := [.tmp 46]) (ds := [(T_api_Move.mk t59.1 t60.1 t61.1 t62.1)]) Try.underlying23 el_40 rfl (Nat.le_of_ble_eq_true rfl) ⟨(part_ag (ψs := [iv .i64 t59.1, iv .i64 t60.1, iv .i64 t61.1, iv .i64 t62.1]) rfl (by intro φ h; simp only [List.mem_cons, List.not_mem_nil, or_false] at h; rcases h with rfl | rfl | rfl | rfl <;> first | exact iv_at | exact bv_at | exact sv_at | exact slv_at | exact pv_at rfl)), trivial⟩) (fun _ => rfl) (fun _ => rfl), (by intro _ h; cases h; rfl), ⟨fun χ58 Ω ⟨h5, _⟩ => St.to XU.V XU.hV (s_append h_t63 Try.underlying23 el_40 rfl (j := 5) h5 rfl) (fun _ => rfl) (fun _ => rfl), (by intro _ h; cases h; rfl), ⟨fun χ58 Ω _ => St.toR (r_faddr (fo := 2) Try.underlying25 rfl rfl Try.sizeOf23 rfl) (fun _ => rfl) (fun _ => rfl), (by intro _ h; cases h; rfl), ⟨fun χ58 Ω ⟨h3, h5, _⟩ => St.to XU.U XU.hU (s_cstore (out := [slv (rI .i64) j18.2, pv x12.1, pv (χ58 15).V.1, iv .i64 t5.Style]) Try.sizeOf23 rfl (j := 3) h3 (part_own rfl (j := 5) h5) rfl rfl rfl) (fun _ => rfl) (fun _ => rfl), (by intro _ h; cases h), trivial⟩⟩⟩⟩⟩⟩⟩⟩⟩⟩⟩⟩⟩⟩⟩⟩⟩⟩ (fun _ => ⟨rfl, rfl, rfl, rfl, rfl, trivial⟩) (fun _ => rfl) (fun χ58 => ?_)
          refine n_block ?_
          refine n_then ?_
          refine ref_region ?_
          refine s_rd (r_move rfl) rfl ?_
          refine s_rd (r_sub rfl rfl) rfl ?_
          refine s_rd (r_assign rfl) rfl ?_
          refine b_let (f := iv .i64) (t := 6) rfl fun i65 => ?_
          refine l_nil ?_
          exact goB (χ58 15).V (weak [0, 1, 2, 3, 4, 5] ⟨rfl, rfl, rfl, rfl, rfl, trivial⟩ ⟨rfl, rfl, rfl, rfl, rfl, rfl, trivial⟩)
        · refine ref_exit ?_
          refine x_then ?_
          exact brkB x56 (weak [0, 2, 3, 4, 5] ⟨rfl, rfl, rfl, trivial⟩ ⟨rfl, rfl, rfl, rfl, rfl, trivial⟩)
      · refine n_then ?_
        refine ref_seq ?_
        refine ref_region ?_
        refine s_rd (r_cloadS Try.isAgg25 Try.sizeOf25 rfl (j := 2) rfl rfl rfl) rfl ?_
        refine s_st0 (s_cstore (out := [slv (rI .i64) j18.2, pv x12.1, pv y67.1, iv .i64 t5.Style]) Try.sizeOf25 rfl (j := 1) rfl (part_agO (ψs := [slv (rI .i64) j18.2, pv x12.1, pv y67.1, iv .i64 t5.Style]) rfl ⟨.inl slv_at, .inr ⟨_, _, _, _, _, 3, rfl, rfl⟩, .inr ⟨_, _, _, _, _, 4, rfl, rfl⟩, .inl iv_at, trivial⟩) rfl rfl rfl) (fun _ => ?_)
        refine l_nil ?_
        refine n_then ?_
        refine ref_ret ?_
        refine b_of (frzGL [(50, ag [slv (rI .i64) j18.2, slv (rI .i64) j11.2, pv y67.1, iv .i64 t5.Style])] [(1, b2, [slv (rI .i64) j18.2, slv (rI .i64) j11.2, pv y67.1, iv .i64 t5.Style]), (2, (χ3 4).Nn, [slv (rI .i64) j18.2, slv (rI .i64) j11.2, pv y67.1, iv .i64 t5.Style])] (j := 3) rfl ⟨⟨_, rfl, .inr ⟨_, _, rfl, rfl, ⟨.inl rfl, .inr ⟨rfl, rfl⟩, .inl rfl, .inl rfl, trivial⟩⟩⟩, trivial⟩ ⟨⟨_, rfl, ⟨.inl rfl, .inr ⟨rfl, rfl⟩, .inl rfl, .inl rfl, trivial⟩⟩, ⟨_, rfl, ⟨.inl rfl, .inr ⟨rfl, rfl⟩, .inl rfl, .inl rfl, trivial⟩⟩, trivial⟩) ?_
        refine b_of (frzGL [(50, ag [slv (rI .i64) j18.2, slv (rI .i64) j11.2, slv rT_api_Move q66.2, iv .i64 t5.Style])] [(1, b2, [slv (rI .i64) j18.2, slv (rI .i64) j11.2, slv rT_api_Move q66.2, iv .i64 t5.Style]), (2, (χ3 4).Nn, [slv (rI .i64) j18.2, slv (rI .i64) j11.2, slv rT_api_Move q66.2, iv .i64 t5.Style])] (j := 4) rfl ⟨⟨_, rfl, .inr ⟨_, _, rfl, rfl, ⟨.inl rfl, .inl rfl, .inr ⟨rfl, rfl⟩, .inl rfl, trivial⟩⟩⟩, trivial⟩ ⟨⟨_, rfl, ⟨.inl rfl, .inl rfl, .inr ⟨rfl, rfl⟩, .inl rfl, trivial⟩⟩, ⟨_, rfl, ⟨.inl rfl, .inl rfl, .inr ⟨rfl, rfl⟩, .inl rfl, trivial⟩⟩, trivial⟩) ?_
        exact fin1 (.inl rfl) () [0] rfl ⟨rfl, trivial⟩ rfl (rv_cell rfl (j := 1) rfl Try.isAgg25 Try.sizeOf25 rfl rfl)

/-! deliberation/deliberationlaw28.ParticipantLoses -/
noncomputable def law28_ParticipantLoses_m (l_0 : (List Int)) : Option (Bool) :=
  Option.bind (keep_New_m l_0) fun s1 =>
  Option.bind (net_Graph_m s1 5) fun t3 =>
  Option.bind (keep_Src_N_m t3.2 t3.1.N) fun root5 =>
  Option.bind (net_Grounded_m t3.1) fun t6 =>
  Option.bind (ref27_New_m t3.1 root5.1 (T_arr2_3.mk 80 80)) fun t8 =>
  Option.bind (law28_player_m root5.2 t3.1) fun t10 =>
  Option.bind (keep_Src_Range_m t10.2 1 3) fun t13 =>
  Option.bind (participant_Full_m t3.1 t13.1) fun t14 =>
  joinM (fun j21 : T_api_Player × T_api_Player × Int =>
      Option.bind (participant_Run_m t8.1 j21.1 j21.2.1) fun t24 =>
      bif t24.2 != 0 then
        some false
      else
        bif (t24.1.Moves.length : Int) == 0 then
          some false
        else
          Option.bind (ref27_End_m t24.1) fun t27 =>
          bif t27.Winner == j21.2.2 then
            Option.bind (law28_awake_m ) fun t29 =>
            some t29
          else
            bif t27.Reason == 2 then
              Option.bind (law28_awake_m ) fun t30 =>
              some t30
            else
              some false) fun k23 =>
  Option.bind (idxM t6.1 root5.1) fun t19 =>
  bif t19 == 1 then
    k23 (t14, (T_api_Player.mk t10.1.Pool t10.1.Withheld [] t10.1.Style), 1)
  else
    k23 ((T_api_Player.mk t10.1.Pool t10.1.Withheld [] t10.1.Style), t14, 2)

theorem law28_ParticipantLoses_ok {l_0 : (List Int)} {r : Bool} (hm : law28_ParticipantLoses_m l_0 = some r) :
    FnOk prog 6 [slv (rI .i64) l_0] [] (fun (x : Unit) => [bv r]) (fun (x : Unit) => []) := by
  refine fn_ok (X := Unit) (fn := Try.f6) (N := 84) (m := law28_ParticipantLoses_m l_0) (res := fun r x => [bv r]) (Ω1 := fun r x => []) Try.func6 rfl rfl hm rfl (fun E hM => ?_)
  unfold law28_ParticipantLoses_m
  refine ref_seq ?_
  refine ref_region ?_
  refine s_rd (r_assign rfl) rfl ?_
  refine l_nil ?_
  refine n_then ?_
  refine ref_seq ?_
  refine ref_region ?_
  refine s_rd (r_move rfl) rfl ?_
  refine pull fun s1 h_s1 => ?_
  refine s_st (s_call (ψ := fun (x2 : Nat) => pv (ptr x2 0)) (args := [.tmp 18]) Try.call9 rfl (keep_New_ok h_s1) ⟨arg rfl, trivial⟩ (fun _ _ _ _ h => h)) rfl (fun x2 => ?_)
  refine s_rd (r_assign rfl) rfl ?_
  refine l_nil ?_
  refine n_then ?_
  refine ref_seq ?_
  refine ref_region ?_
  refine s_rd (r_move rfl) rfl ?_
  refine pull fun t3 h_t3 => ?_
  refine s_st (s_callC [0] [true] (fun (_ : Unit) => [oc x2 [slv (rI .i64) t3.2.L, iv .i64 t3.2.At]]) (fun (_ : Unit) => []) (fun (_ : Unit) => ag [iv .i64 t3.1.N, slv rT_api_Pair t3.1.L]) (args := [.tmp 20, .const (.int .i64 (5))]) (caps := []) Try.call20 rfl (net_Graph_ok h_t3) ⟨rfl, rfl, trivial⟩ (fun _ => rfl) (fun _ => trivial) (fun _ => rfl) ⟨arg rfl, arg rfl, trivial⟩ (fun _ _ _ _ h => h)) rfl (fun _ => ?_)
  refine s_st (s_alloc zt_28) rfl (fun b4 => ?_)
  refine s_st0 (s_cstore (out := [iv .i64 t3.1.N, slv rT_api_Pair t3.1.L]) Try.sizeOf28 rfl (j := 1) rfl (part_ag (ψs := [iv .i64 t3.1.N, slv rT_api_Pair t3.1.L]) rfl (by intro φ h; simp only [List.mem_cons, List.not_mem_nil, or_false] at h; rcases h with rfl | rfl <;> first | exact iv_at | exact bv_at | exact sv_at | exact slv_at | exact pv_at rfl)) rfl rfl rfl) (fun _ => ?_)
  refine l_nil ?_
  refine b_of (nrm [oc x2 [slv (rI .i64) t3.2.L, iv .i64 t3.2.At], oc b4 [iv .i64 t3.1.N, slv rT_api_Pair t3.1.L]] rfl) ?_
  refine n_then ?_
  refine ref_seq ?_
  refine ref_region ?_
  refine s_rd (r_move rfl) rfl ?_
  refine s_rd (r_faddr (fo := 0) Try.underlying28 rfl rfl Try.sizeOf3 rfl) rfl ?_
  refine s_rd (r_cload Try.isAgg3 rfl (j := 1) rfl rfl) rfl ?_
  refine pull fun root5 h_root5 => ?_
  refine s_st (s_callC [0] [true] (fun (_ : Unit) => [oc x2 [slv (rI .i64) root5.2.L, iv .i64 root5.2.At]]) (fun (_ : Unit) => []) (fun (_ : Unit) => iv .i64 root5.1) (args := [.tmp 22, .tmp 24]) (caps := []) Try.call22 rfl (keep_Src_N_ok h_root5) ⟨rfl, rfl, trivial⟩ (fun _ => rfl) (fun _ => trivial) (fun _ => rfl) ⟨arg rfl, arg rfl, trivial⟩ (fun _ _ _ _ h => h)) rfl (fun _ => ?_)
  refine s_rd (r_assign rfl) rfl ?_
  refine l_nil ?_
  refine n_then ?_
  refine ref_seq ?_
  refine ref_region ?_
  refine s_rd (r_cloadS Try.isAgg28 Try.sizeOf28 rfl (j := 1) rfl rfl rfl) rfl ?_
  refine pull fun t6 h_t6 => ?_
  refine s_st (s_call (ψ := fun (x7 : (Value × List Nat) × (Value × List Nat)) => tup [pv x7.1.1, pv x7.2.1]) (args := [.tmp 27]) Try.call28 rfl (net_Grounded_ok h_t6) ⟨arg rfl, trivial⟩ (fun _ _ _ _ h => h)) rfl (fun x7 => ?_)
  refine s_rd (r_move rfl) rfl ?_
  refine s_rd (r_extract rfl rfl) rfl ?_
  refine s_rd (r_extract rfl rfl) rfl ?_
  refine s_rd (r_assign rfl) rfl ?_
  refine s_rd (r_assign rfl) rfl ?_
  refine l_nil ?_
  refine n_then ?_
  refine ref_seq ?_
  refine ref_region ?_
  refine s_rd (r_cloadS Try.isAgg28 Try.sizeOf28 rfl (j := 1) rfl rfl rfl) rfl ?_
  refine s_rd (r_move rfl) rfl ?_
  refine s_rd (r_buildA (ps := [(0, .const (.int .i64 (80))), (1, .const (.int .i64 (80)))]) (rs := [(0, [iv .i64 80]), (1, [iv .i64 80])]) (sz := 1) Try.underlying33 Try.sizeOf3 ⟨_, _, Try.type33, rfl⟩ zs_33 ⟨rfl, (part_at rfl iv_at), ⟨rfl, (part_at rfl iv_at), trivial⟩⟩ rfl rfl) rfl ?_
  refine pull fun t8 h_t8 => ?_
  refine s_st (s_call (ψ := fun (_ : Unit) => tup [ag [iv .i64 t8.1.Graph.N, slv rT_api_Pair t8.1.Graph.L, iv .i64 t8.1.Root, iv .i64 t8.1.Limits.i0, iv .i64 t8.1.Limits.i1, slv rT_api_Move t8.1.Moves], iv .i64 t8.2]) (args := [.tmp 32, .tmp 33, .tmp 34]) Try.call21 rfl (ref27_New_ok h_t8) ⟨arg rfl, arg rfl, arg rfl, trivial⟩ (fun _ _ _ _ h => h)) rfl (fun _ => ?_)
  refine s_rd (r_move rfl) rfl ?_
  refine s_rd (r_extract rfl rfl) rfl ?_
  refine s_rd (r_extract rfl rfl) rfl ?_
  refine s_st (s_alloc zt_35) rfl (fun b9 => ?_)
  refine s_st0 (s_cstore (out := [iv .i64 t8.1.Graph.N, slv rT_api_Pair t8.1.Graph.L, iv .i64 t8.1.Root, iv .i64 t8.1.Limits.i0, iv .i64 t8.1.Limits.i1, slv rT_api_Move t8.1.Moves]) Try.sizeOf35 rfl (j := 4) rfl (part_ag (ψs := [iv .i64 t8.1.Graph.N, slv rT_api_Pair t8.1.Graph.L, iv .i64 t8.1.Root, iv .i64 t8.1.Limits.i0, iv .i64 t8.1.Limits.i1, slv rT_api_Move t8.1.Moves]) rfl (by intro φ h; simp only [List.mem_cons, List.not_mem_nil, or_false] at h; rcases h with rfl | rfl | rfl | rfl | rfl | rfl <;> first | exact iv_at | exact bv_at | exact sv_at | exact slv_at | exact pv_at rfl)) rfl rfl rfl) (fun _ => ?_)
  refine s_rd (r_assign rfl) rfl ?_
  refine l_nil ?_
  refine b_of (nrm [oc x2 [slv (rI .i64) root5.2.L, iv .i64 root5.2.At], oc b4 [iv .i64 t3.1.N, slv rT_api_Pair t3.1.L], oa (rI .i64) x7.1.1 x7.1.2 t6.1, oa (rI .i64) x7.2.1 x7.2.2 t6.2, oc b9 [iv .i64 t8.1.Graph.N, slv rT_api_Pair t8.1.Graph.L, iv .i64 t8.1.Root, iv .i64 t8.1.Limits.i0, iv .i64 t8.1.Limits.i1, slv rT_api_Move t8.1.Moves]] rfl) ?_
  refine n_then ?_
  refine ref_seq ?_
  refine ref_region ?_
  refine s_rd (r_move rfl) rfl ?_
  refine s_rd (r_cloadS Try.isAgg28 Try.sizeOf28 rfl (j := 1) rfl rfl rfl) rfl ?_
  refine pull fun t10 h_t10 => ?_
  refine s_st (s_callC [0] [true] (fun (_ : Unit) => [oc x2 [slv (rI .i64) t10.2.L, iv .i64 t10.2.At]]) (fun (_ : Unit) => []) (fun (_ : Unit) => ag [slv (rI .i64) t10.1.Pool, slv (rI .i64) t10.1.Withheld, slv rT_api_Move t10.1.Script, iv .i64 t10.1.Style]) (args := [.tmp 38, .tmp 39]) (caps := []) Try.call11 rfl (law28_player_ok h_t10) ⟨rfl, rfl, trivial⟩ (fun _ => rfl) (fun _ => trivial) (fun _ => rfl) ⟨arg rfl, arg rfl, trivial⟩ (fun _ _ _ _ h => h)) rfl (fun _ => ?_)
  refine s_st (s_alloc zt_25) rfl (fun b11 => ?_)
  refine s_st0 (s_cstore (out := [slv (rI .i64) t10.1.Pool, slv (rI .i64) t10.1.Withheld, slv rT_api_Move t10.1.Script, iv .i64 t10.1.Style]) Try.sizeOf25 rfl (j := 5) rfl (part_ag (ψs := [slv (rI .i64) t10.1.Pool, slv (rI .i64) t10.1.Withheld, slv rT_api_Move t10.1.Script, iv .i64 t10.1.Style]) rfl (by intro φ h; simp only [List.mem_cons, List.not_mem_nil, or_false] at h; rcases h with rfl | rfl | rfl | rfl <;> first | exact iv_at | exact bv_at | exact sv_at | exact slv_at | exact pv_at rfl)) rfl rfl rfl) (fun _ => ?_)
  refine l_nil ?_
  refine n_then ?_
  refine ref_seq ?_
  refine ref_region ?_
  refine s_rd (r_faddr (fo := 2) Try.underlying25 rfl rfl Try.sizeOf23 rfl) rfl ?_
  refine s_st0 (s_cstore (out := [slv (rI .i64) t10.1.Pool, slv (rI .i64) t10.1.Withheld, pv (.slice none 0 0), iv .i64 t10.1.Style]) Try.sizeOf23 rfl (j := 5) rfl (part_at (φ := pv (.slice none 0 0)) rfl (pv_at rfl)) rfl rfl rfl) (fun _ => ?_)
  refine l_nil ?_
  refine b_of (nrm [oc x2 [slv (rI .i64) t10.2.L, iv .i64 t10.2.At], oc b4 [iv .i64 t3.1.N, slv rT_api_Pair t3.1.L], oa (rI .i64) x7.1.1 x7.1.2 t6.1, oa (rI .i64) x7.2.1 x7.2.2 t6.2, oc b9 [iv .i64 t8.1.Graph.N, slv rT_api_Pair t8.1.Graph.L, iv .i64 t8.1.Root, iv .i64 t8.1.Limits.i0, iv .i64 t8.1.Limits.i1, slv rT_api_Move t8.1.Moves], oc b11 [slv (rI .i64) t10.1.Pool, slv (rI .i64) t10.1.Withheld, pv (.slice none 0 0), iv .i64 t10.1.Style]] rfl) ?_
  refine n_then ?_
  refine ref_seq ?_
  refine pull fun t13 h_t13 => ?_
  refine pull fun t14 h_t14 => ?_
  refine ref_drawI 1 [⟨[], [], [], [1], [], fun us u => ag [iv .i64 t3.1.N, slv rT_api_Pair t3.1.L], fun us u => []⟩, ⟨[], [], [], [], [], fun us u => pv (ptr x2 0), fun us u => []⟩, ⟨[1], [], [0], [0], [0], fun us u => iv .i64 t13.1, fun us u => [oc x2 [slv (rI .i64) t13.2.L, iv .i64 t13.2.At]]⟩, ⟨[0, 1, 2], [], [], [], [], fun us u => ag [slv (rI .i64) t14.Pool, slv (rI .i64) t14.Withheld, slv rT_api_Move t14.Script, iv .i64 t14.Style], fun us u => []⟩, ⟨[], [], [6], [6], [], fun us u => pv (ptr u.Nn 0), fun us u => [oc u.Nn [pv (.slice none 0 0), pv (.slice none 0 0), pv (.slice none 0 0), iv .i64 0]]⟩, ⟨[0, 1, 2, 3, 4], [4], [6], [6], [6], fun us u => pv undef, fun us u => [oc (us.getD 0 .none).Nn [slv (rI .i64) t14.Pool, slv (rI .i64) t14.Withheld, slv rT_api_Move t14.Script, iv .i64 t14.Style]]⟩] (fun χ12 => [(5, iv .i64 root5.1), (6, pv x7.1.1), (8, pv (ptr b9 0)), (10, pv (ptr b11 0)), (11, pv (ptr (χ12 4).Nn 0))]) (fun χ12 => [oc x2 [slv (rI .i64) t13.2.L, iv .i64 t13.2.At], oc b4 [iv .i64 t3.1.N, slv rT_api_Pair t3.1.L], oa (rI .i64) x7.1.1 x7.1.2 t6.1, oa (rI .i64) x7.2.1 x7.2.2 t6.2, oc b9 [iv .i64 t8.1.Graph.N, slv rT_api_Pair t8.1.Graph.L, iv .i64 t8.1.Root, iv .i64 t8.1.Limits.i0, iv .i64 t8.1.Limits.i1, slv rT_api_Move t8.1.Moves], oc b11 [slv (rI .i64) t10.1.Pool, slv (rI .i64) t10.1.Withheld, pv (.slice none 0 0), iv .i64 t10.1.Style], oc (χ12 4).Nn [slv (rI .i64) t14.Pool, slv (rI .i64) t14.Withheld, slv rT_api_Move t14.Script, iv .i64 t14.Style]]) rfl (by kernel_rfl) ⟨fun χ12 Ω ⟨h1, _⟩ => St.toR (r_cloadS Try.isAgg28 Try.sizeOf28 rfl (j := 1) h1 rfl rfl) (fun _ => rfl) (fun _ => rfl), (by intro _ h; cases h; rfl), ⟨fun χ12 Ω _ => St.toR (r_move rfl) (fun _ => rfl) (fun _ => rfl), (by intro _ h; cases h; rfl), ⟨fun χ12 Ω ⟨h0, _⟩ => St.to XU.U XU.hU (St.placeL [] (s_callC [0] [true] (fun (_ : Unit) => [oc x2 [slv (rI .i64) t13.2.L, iv .i64 t13.2.At]]) (fun (_ : Unit) => []) (fun (_ : Unit) => iv .i64 t13.1) (args := [.tmp 43, .const (.int .i64 (1)), .const (.int .i64 (3))]) (caps := []) Try.call27 rfl (keep_Src_Range_ok h_t13) ⟨h0, rfl, trivial⟩ (fun _ => rfl) (fun _ => trivial) (fun _ => rfl) ⟨arg rfl, arg rfl, arg rfl, trivial⟩ (fun _ _ _ _ h => h)) (fun _ => rfl) (fun _ => trivial)) (fun _ => rfl) (fun _ => rfl), (by intro _ h; cases h; rfl), ⟨fun χ12 Ω _ => St.to XU.U XU.hU (St.placeL [] (s_call (ψ := fun (_ : Unit) => ag [slv (rI .i64) t14.Pool, slv (rI .i64) t14.Withheld, slv rT_api_Move t14.Script, iv .i64 t14.Style]) (args := [.tmp 42, .tmp 44]) Try.call17 rfl (participant_Full_ok h_t14) ⟨arg rfl, arg rfl, trivial⟩ (fun _ _ _ _ h => h)) (fun _ => rfl) (fun _ => trivial)) (fun _ => rfl) (fun _ => rfl), (by intro _ h; cases h; rfl), ⟨fun χ12 Ω ⟨h6, _⟩ => St.to XU.Nn XU.hN (St.placeL (os := fun _ => [_]) [6] (s_alloc zt_25) (fun _ => rfl) (fun _ => ⟨h6, rfl, trivial⟩)) (fun _ => rfl) (fun _ => rfl), (by intro _ h; cases h; rfl), ⟨fun χ12 Ω ⟨h6, _⟩ => St.to XU.U XU.hU (s_cstore (out := [slv (rI .i64) t14.Pool, slv (rI .i64) t14.Withheld, slv rT_api_Move t14.Script, iv .i64 t14.Style]) Try.sizeOf25 rfl (j := 6) h6 (part_ag (ψs := [slv (rI .i64) t14.Pool, slv (rI .i64) t14.Withheld, slv rT_api_Move t14.Script, iv .i64 t14.Style]) rfl (by intro φ h; simp only [List.mem_cons, List.not_mem_nil, or_false] at h; rcases h with rfl | rfl | rfl | rfl <;> first | exact iv_at | exact bv_at | exact sv_at | exact slv_at | exact pv_at rfl)) rfl rfl rfl) (fun _ => rfl) (fun _ => rfl), (by intro _ h; cases h), trivial⟩⟩⟩⟩⟩⟩ (fun _ => ⟨rfl, rfl, rfl, rfl, rfl, trivial⟩) (fun _ => rfl) (fun χ12 => ?_)
  refine n_then ?_
  refine ref_seq ?_
  refine ref_drawI 2 [⟨[], [], [], [5], [], fun us u => ag [slv (rI .i64) t10.1.Pool, slv (rI .i64) t10.1.Withheld, pv (.slice none 0 0), iv .i64 t10.1.Style], fun us u => []⟩, ⟨[], [], [], [6], [], fun us u => ag [slv (rI .i64) t14.Pool, slv (rI .i64) t14.Withheld, slv rT_api_Move t14.Script, iv .i64 t14.Style], fun us u => []⟩, ⟨[], [], [7], [7], [], fun us u => pv (ptr u.Nn 0), fun us u => [oc u.Nn [pv (.slice none 0 0), pv (.slice none 0 0), pv (.slice none 0 0), iv .i64 0]]⟩, ⟨[], [], [8], [8], [], fun us u => pv (ptr u.Nn 0), fun us u => [oc u.Nn [pv (.slice none 0 0), pv (.slice none 0 0), pv (.slice none 0 0), iv .i64 0]]⟩, ⟨[0, 2, 3], [2], [7], [7], [7], fun us u => pv undef, fun us u => [oc (us.getD 0 .none).Nn [slv (rI .i64) t10.1.Pool, slv (rI .i64) t10.1.Withheld, pv (.slice none 0 0), iv .i64 t10.1.Style]]⟩, ⟨[0, 1, 2, 3, 4], [3], [8], [8], [8], fun us u => pv undef, fun us u => [oc (us.getD 0 .none).Nn [slv (rI .i64) t14.Pool, slv (rI .i64) t14.Withheld, slv rT_api_Move t14.Script, iv .i64 t14.Style]]⟩, ⟨[0, 1, 2, 3, 4, 5], [], [], [], [], fun us u => iv .i64 2, fun us u => []⟩] (fun χ16 => [(5, iv .i64 root5.1), (6, pv x7.1.1), (8, pv (ptr b9 0)), (10, pv (ptr b11 0)), (11, pv (ptr (χ12 4).Nn 0)), (12, pv (ptr (χ16 2).Nn 0)), (13, pv (ptr (χ16 3).Nn 0)), (14, iv .i64 2)]) (fun χ16 => [oc x2 [slv (rI .i64) t13.2.L, iv .i64 t13.2.At], oc b4 [iv .i64 t3.1.N, slv rT_api_Pair t3.1.L], oa (rI .i64) x7.1.1 x7.1.2 t6.1, oa (rI .i64) x7.2.1 x7.2.2 t6.2, oc b9 [iv .i64 t8.1.Graph.N, slv rT_api_Pair t8.1.Graph.L, iv .i64 t8.1.Root, iv .i64 t8.1.Limits.i0, iv .i64 t8.1.Limits.i1, slv rT_api_Move t8.1.Moves], oc b11 [slv (rI .i64) t10.1.Pool, slv (rI .i64) t10.1.Withheld, pv (.slice none 0 0), iv .i64 t10.1.Style], oc (χ12 4).Nn [slv (rI .i64) t14.Pool, slv (rI .i64) t14.Withheld, slv rT_api_Move t14.Script, iv .i64 t14.Style], oc (χ16 2).Nn [slv (rI .i64) t10.1.Pool, slv (rI .i64) t10.1.Withheld, pv (.slice none 0 0), iv .i64 t10.1.Style], oc (χ16 3).Nn [slv (rI .i64) t14.Pool, slv (rI .i64) t14.Withheld, slv rT_api_Move t14.Script, iv .i64 t14.Style]]) rfl (by kernel_rfl) ⟨fun χ16 Ω ⟨h5, _⟩ => St.toR (r_cloadS Try.isAgg25 Try.sizeOf25 rfl (j := 5) h5 rfl rfl) (fun _ => rfl) (fun _ => rfl), (by intro _ h; cases h; rfl), ⟨fun χ16 Ω ⟨h6, _⟩ => St.toR (r_cloadS Try.isAgg25 Try.sizeOf25 rfl (j := 6) h6 rfl rfl) (fun _ => rfl) (fun _ => rfl), (by intro _ h; cases h; rfl), ⟨fun χ16 Ω ⟨h7, _⟩ => St.to XU.Nn XU.hN (St.placeL (os := fun _ => [_]) [7] (s_alloc zt_25) (fun _ => rfl) (fun _ => ⟨h7, rfl, trivial⟩)) (fun _ => rfl) (fun _ => rfl), (by intro _ h; cases h; rfl), ⟨fun χ16 Ω ⟨h8, _⟩ => St.to XU.Nn XU.hN (St.placeL (os := fun _ => [_]) [8] (s_alloc zt_25) (fun _ => rfl) (fun _ => ⟨h8, rfl, trivial⟩)) (fun _ => rfl) (fun _ => rfl), (by intro _ h; cases h; rfl), ⟨fun χ16 Ω ⟨h7, _⟩ => St.to XU.U XU.hU (s_cstore (out := [slv (rI .i64) t10.1.Pool, slv (rI .i64) t10.1.Withheld, pv (.slice none 0 0), iv .i64 t10.1.Style]) Try.sizeOf25 rfl (j := 7) h7 (part_agO (ψs := [slv (rI .i64) t10.1.Pool, slv (rI .i64) t10.1.Withheld, pv (.slice none 0 0), iv .i64 t10.1.Style]) rfl ⟨.inl slv_at, .inl slv_at, .inl (pv_at rfl), .inl iv_at, trivial⟩) rfl rfl rfl) (fun _ => rfl) (fun _ => rfl), (by intro _ h; cases h), ⟨fun χ16 Ω ⟨h8, _⟩ => St.to XU.U XU.hU (s_cstore (out := [slv (rI .i64) t14.Pool, slv (rI .i64) t14.Withheld, slv rT_api_Move t14.Script, iv .i64 t14.Style]) Try.sizeOf25 rfl (j := 8) h8 (part_ag (ψs := [slv (rI .i64) t14.Pool, slv (rI .i64) t14.Withheld, slv rT_api_Move t14.Script, iv .i64 t14.Style]) rfl (by intro φ h; simp only [List.mem_cons, List.not_mem_nil, or_false] at h; rcases h with rfl | rfl | rfl | rfl <;> first | exact iv_at | exact bv_at | exact sv_at | exact slv_at | exact pv_at rfl)) rfl rfl rfl) (fun _ => rfl) (fun _ => rfl), (by intro _ h; cases h), ⟨fun χ16 Ω _ => St.toR (r_assign rfl) (fun _ => rfl) (fun _ => rfl), (by intro _ h; cases h; rfl), trivial⟩⟩⟩⟩⟩⟩⟩ (fun _ => ⟨rfl, rfl, rfl, rfl, rfl, rfl, rfl, rfl, trivial⟩) (fun _ => rfl) (fun χ16 => ?_)
  refine n_then ?_
  refine ref_seq ?_
  refine ref_join (fun (j21 : T_api_Player × T_api_Player × Int) (x22 : Unit) => [(8, pv (ptr b9 0)), (12, pv (ptr (χ16 2).Nn 0)), (13, pv (ptr (χ16 3).Nn 0)), (14, iv .i64 j21.2.2)]) (fun (j21 : T_api_Player × T_api_Player × Int) (x22 : Unit) => [oc b9 [iv .i64 t8.1.Graph.N, slv rT_api_Pair t8.1.Graph.L, iv .i64 t8.1.Root, iv .i64 t8.1.Limits.i0, iv .i64 t8.1.Limits.i1, slv rT_api_Move t8.1.Moves], oc (χ16 2).Nn [slv (rI .i64) j21.1.Pool, slv (rI .i64) j21.1.Withheld, slv rT_api_Move j21.1.Script, iv .i64 j21.1.Style], oc (χ16 3).Nn [slv (rI .i64) j21.2.1.Pool, slv (rI .i64) j21.2.1.Withheld, slv rT_api_Move j21.2.1.Script, iv .i64 j21.2.1.Style]]) (fun k23 hk23 => ?_) (fun j21 x22 => ?_)
  · refine ref_seq ?_
    refine ref_region ?_
    refine s_rd (r_move rfl) rfl ?_
    refine s_rd (r_move rfl) rfl ?_
    refine pull fun t19 h_t19 => ?_
    refine s_rd (r_oindex h_t19 Try.underlying22 el_3 rfl (j := 2) rfl rfl) rfl ?_
    refine s_rd (r_oload h_t19 el_3 rfl (j := 2) rfl) rfl ?_
    refine s_rd (r_eql rfl rfl) rfl ?_
    refine l_nil ?_
    refine n_then ?_
    refine ref_cond rfl (fun hb20 => ?_) (fun hb20 => ?_)
    · refine ref_draw [0, 1] rfl (by kernel_rfl) (fun hok => ?_)
      refine a_rd (i := 0) hok rfl (by kernel_rfl) rfl (r_cloadS Try.isAgg25 Try.sizeOf25 rfl (j := 6) rfl rfl rfl) rfl ?_
      refine a_rd (i := 1) hok rfl (by kernel_rfl) rfl (r_cloadS Try.isAgg25 Try.sizeOf25 rfl (j := 5) rfl rfl rfl) rfl ?_
      refine a_next hok 2 [] (by kernel_rfl) ?_ trivial
      refine a_st (i := 2) hok rfl rfl (s_cstore (out := [slv (rI .i64) t14.Pool, slv (rI .i64) t14.Withheld, slv rT_api_Move t14.Script, iv .i64 t14.Style]) Try.sizeOf25 rfl (j := 7) rfl (part_ag (ψs := [slv (rI .i64) t14.Pool, slv (rI .i64) t14.Withheld, slv rT_api_Move t14.Script, iv .i64 t14.Style]) rfl (by intro φ h; simp only [List.mem_cons, List.not_mem_nil, or_false] at h; rcases h with rfl | rfl | rfl | rfl <;> first | exact iv_at | exact bv_at | exact sv_at | exact slv_at | exact pv_at rfl)) rfl rfl rfl) (by intro _ h; cases h) (fun _ => ⟨⟨⟨rfl, rfl⟩, trivial⟩, ⟨trivial, trivial⟩⟩) (fun _ => ?_)
      refine a_next hok 3 [] (by kernel_rfl) ?_ trivial
      refine a_st (i := 3) hok rfl rfl (s_cstore (out := [slv (rI .i64) t10.1.Pool, slv (rI .i64) t10.1.Withheld, pv (.slice none 0 0), iv .i64 t10.1.Style]) Try.sizeOf25 rfl (j := 8) rfl (part_agO (ψs := [slv (rI .i64) t10.1.Pool, slv (rI .i64) t10.1.Withheld, pv (.slice none 0 0), iv .i64 t10.1.Style]) rfl ⟨.inl slv_at, .inl slv_at, .inl (pv_at rfl), .inl iv_at, trivial⟩) rfl rfl rfl) (by intro _ h; cases h) (fun _ => ⟨trivial, ⟨trivial, trivial⟩⟩) (fun _ => ?_)
      refine a_next hok 4 [] (by kernel_rfl) ?_ trivial
      refine a_st (i := 4) hok rfl rfl (St.ofRd (r_assign rfl)) (by intro _ h; cases h; rfl) (fun _ => ⟨trivial, ⟨trivial, trivial⟩⟩) (fun _ => ?_)
      refine a_fin hok (by kernel_rfl) ?_
      refine b_of (nilG rT_api_Move [] [(8, (χ16 3).Nn, [slv (rI .i64) t10.1.Pool, slv (rI .i64) t10.1.Withheld, slv rT_api_Move [], iv .i64 t10.1.Style])] trivial ⟨⟨_, rfl, ⟨.inl rfl, .inl rfl, .inr ⟨rfl, rfl⟩, .inl rfl, trivial⟩⟩, trivial⟩) ?_
      exact b_to (hk23 (t14, (T_api_Player.mk t10.1.Pool t10.1.Withheld [] t10.1.Style), 1) ()) (weak [4, 7, 8] ⟨rfl, rfl, rfl, rfl, trivial⟩ ⟨rfl, rfl, rfl, trivial⟩)
    · refine ref_skip ?_
      refine b_of (nilG rT_api_Move [] [(7, (χ16 2).Nn, [slv (rI .i64) t10.1.Pool, slv (rI .i64) t10.1.Withheld, slv rT_api_Move [], iv .i64 t10.1.Style])] trivial ⟨⟨_, rfl, ⟨.inl rfl, .inl rfl, .inr ⟨rfl, rfl⟩, .inl rfl, trivial⟩⟩, trivial⟩) ?_
      exact b_to (hk23 ((T_api_Player.mk t10.1.Pool t10.1.Withheld [] t10.1.Style), t14, 2) ()) (weak [4, 7, 8] ⟨rfl, rfl, rfl, rfl, trivial⟩ ⟨rfl, rfl, rfl, trivial⟩)
  · refine n_then ?_
    refine ref_seq ?_
    refine ref_region ?_
    refine s_rd (r_cloadS Try.isAgg35 Try.sizeOf35 rfl (j := 0) rfl rfl rfl) rfl ?_
    refine s_rd (r_cloadS Try.isAgg25 Try.sizeOf25 rfl (j := 1) rfl rfl rfl) rfl ?_
    refine s_rd (r_cloadS Try.isAgg25 Try.sizeOf25 rfl (j := 2) rfl rfl rfl) rfl ?_
    refine pull fun t24 h_t24 => ?_
    refine s_st (s_call (ψ := fun (_ : Unit) => tup [ag [iv .i64 t24.1.Graph.N, slv rT_api_Pair t24.1.Graph.L, iv .i64 t24.1.Root, iv .i64 t24.1.Limits.i0, iv .i64 t24.1.Limits.i1, slv rT_api_Move t24.1.Moves], iv .i64 t24.2]) (args := [.tmp 56, .tmp 57, .tmp 58]) Try.call14 rfl (participant_Run_ok h_t24) ⟨arg rfl, arg rfl, arg rfl, trivial⟩ (fun _ _ _ _ h => h)) rfl (fun _ => ?_)
    refine s_rd (r_move rfl) rfl ?_
    refine s_rd (r_extract rfl rfl) rfl ?_
    refine s_rd (r_extract rfl rfl) rfl ?_
    refine s_st (s_alloc zt_35) rfl (fun b25 => ?_)
    refine s_st0 (s_cstore (out := [iv .i64 t24.1.Graph.N, slv rT_api_Pair t24.1.Graph.L, iv .i64 t24.1.Root, iv .i64 t24.1.Limits.i0, iv .i64 t24.1.Limits.i1, slv rT_api_Move t24.1.Moves]) Try.sizeOf35 rfl (j := 3) rfl (part_ag (ψs := [iv .i64 t24.1.Graph.N, slv rT_api_Pair t24.1.Graph.L, iv .i64 t24.1.Root, iv .i64 t24.1.Limits.i0, iv .i64 t24.1.Limits.i1, slv rT_api_Move t24.1.Moves]) rfl (by intro φ h; simp only [List.mem_cons, List.not_mem_nil, or_false] at h; rcases h with rfl | rfl | rfl | rfl | rfl | rfl <;> first | exact iv_at | exact bv_at | exact sv_at | exact slv_at | exact pv_at rfl)) rfl rfl rfl) (fun _ => ?_)
    refine s_rd (r_assign rfl) rfl ?_
    refine l_nil ?_
    refine n_then ?_
    refine ref_seq ?_
    refine ref_seq ?_
    refine ref_region ?_
    refine s_rd (r_move rfl) rfl ?_
    refine s_rd (r_neq rfl rfl) rfl ?_
    refine s_rd (r_move rfl) rfl ?_
    refine b_split (t := 64) rfl (fun _ => ?_) (fun _ => ?_)
    · refine s_off rfl rfl rfl rfl rfl ?_
      refine s_off rfl rfl rfl rfl rfl ?_
      refine s_off rfl rfl rfl rfl rfl ?_
      refine s_off rfl rfl rfl rfl rfl ?_
      refine s_rd (r_pickT rfl rfl) rfl ?_
      refine l_nil ?_
      refine n_then ?_
      refine ref_condT rfl rfl ?_
      refine ref_seq ?_
      refine ref_region ?_
      refine s_rd (r_assign rfl) rfl ?_
      refine l_nil ?_
      refine n_then ?_
      refine ref_ret ?_
      refine r_then ?_
      exact fin1 (.inl rfl) () [] rfl trivial rfl (rv_tmp rfl)
    · refine s_on rfl rfl rfl ?_
      refine s_rd (r_faddr (fo := 5) Try.underlying35 rfl rfl Try.sizeOf23 rfl) rfl ?_
      refine s_on rfl rfl rfl ?_
      refine s_rd (r_cload Try.isAgg23 rfl (j := 3) rfl rfl) rfl ?_
      refine s_on rfl rfl rfl ?_
      refine s_rd (r_len Try.underlying23 rfl) rfl ?_
      refine s_on rfl rfl rfl ?_
      refine s_rd (r_eql rfl rfl) rfl ?_
      refine s_rd (r_pickF rfl rfl) rfl ?_
      refine l_nil ?_
      refine n_then ?_
      refine ref_cond rfl (fun hb26 => ?_) (fun hb26 => ?_)
      · refine ref_seq ?_
        refine ref_region ?_
        refine s_rd (r_assign rfl) rfl ?_
        refine l_nil ?_
        refine n_then ?_
        refine ref_ret ?_
        refine r_then ?_
        exact fin1 (.inl rfl) () [] rfl trivial rfl (rv_tmp rfl)
      · refine ref_skip ?_
        refine n_then ?_
        refine ref_seq ?_
        refine ref_region ?_
        refine s_rd (r_cloadS Try.isAgg35 Try.sizeOf35 rfl (j := 3) rfl rfl rfl) rfl ?_
        refine pull fun t27 h_t27 => ?_
        refine s_st (s_call (ψ := fun (_ : Unit) => ag [iv .i64 t27.Winner, iv .i64 t27.Reason]) (args := [.tmp 70]) Try.call23 rfl (ref27_End_ok h_t27) ⟨arg rfl, trivial⟩ (fun _ _ _ _ h => h)) rfl (fun _ => ?_)
        refine s_st (s_alloc zt_57) rfl (fun b28 => ?_)
        refine s_st0 (s_cstore (out := [iv .i64 t27.Winner, iv .i64 t27.Reason]) Try.sizeOf57 rfl (j := 4) rfl (part_ag (ψs := [iv .i64 t27.Winner, iv .i64 t27.Reason]) rfl (by intro φ h; simp only [List.mem_cons, List.not_mem_nil, or_false] at h; rcases h with rfl | rfl <;> first | exact iv_at | exact bv_at | exact sv_at | exact slv_at | exact pv_at rfl)) rfl rfl rfl) (fun _ => ?_)
        refine l_nil ?_
        refine b_of (nrm [oc b9 [iv .i64 t8.1.Graph.N, slv rT_api_Pair t8.1.Graph.L, iv .i64 t8.1.Root, iv .i64 t8.1.Limits.i0, iv .i64 t8.1.Limits.i1, slv rT_api_Move t8.1.Moves], oc (χ16 2).Nn [slv (rI .i64) j21.1.Pool, slv (rI .i64) j21.1.Withheld, slv rT_api_Move j21.1.Script, iv .i64 j21.1.Style], oc (χ16 3).Nn [slv (rI .i64) j21.2.1.Pool, slv (rI .i64) j21.2.1.Withheld, slv rT_api_Move j21.2.1.Script, iv .i64 j21.2.1.Style], oc b25 [iv .i64 t24.1.Graph.N, slv rT_api_Pair t24.1.Graph.L, iv .i64 t24.1.Root, iv .i64 t24.1.Limits.i0, iv .i64 t24.1.Limits.i1, slv rT_api_Move t24.1.Moves], oc b28 [iv .i64 t27.Winner, iv .i64 t27.Reason]] rfl) ?_
        refine n_then ?_
        refine ref_seq ?_
        refine ref_region ?_
        refine s_rd (r_faddr (fo := 0) Try.underlying57 rfl rfl Try.sizeOf3 rfl) rfl ?_
        refine s_rd (r_cload Try.isAgg3 rfl (j := 4) rfl rfl) rfl ?_
        refine s_rd (r_move rfl) rfl ?_
        refine s_rd (r_eql rfl rfl) rfl ?_
        refine s_rd (r_move rfl) rfl ?_
        refine b_split (t := 76) rfl (fun _ => ?_) (fun _ => ?_)
        · refine s_off rfl rfl rfl rfl rfl ?_
          refine s_off rfl rfl rfl rfl rfl ?_
          refine s_off rfl rfl rfl rfl rfl ?_
          refine s_rd (r_pickT rfl rfl) rfl ?_
          refine s_rd (r_move rfl) rfl ?_
          refine s_on rfl rfl rfl ?_
          refine pull fun t29 h_t29 => ?_
          refine s_st (s_call (ψ := fun (_ : Unit) => bv t29) (args := []) Try.call8 rfl (law28_awake_ok h_t29) trivial (fun _ _ _ _ h => h)) rfl (fun _ => ?_)
          refine s_rd (r_pickT rfl rfl) rfl ?_
          refine s_rd (r_assign rfl) rfl ?_
          refine l_nil ?_
          refine n_then ?_
          refine ref_ret ?_
          exact fin1 (.inl rfl) () [] rfl trivial rfl (rv_tmp rfl)
        · refine s_on rfl rfl rfl ?_
          refine s_rd (r_faddr (fo := 1) Try.underlying57 rfl rfl Try.sizeOf3 rfl) rfl ?_
          refine s_on rfl rfl rfl ?_
          refine s_rd (r_cload Try.isAgg3 rfl (j := 4) rfl rfl) rfl ?_
          refine s_on rfl rfl rfl ?_
          refine s_rd (r_eql rfl rfl) rfl ?_
          refine s_rd (r_pickF rfl rfl) rfl ?_
          refine s_rd (r_move rfl) rfl ?_
          refine b_split (t := 81) rfl (fun _ => ?_) (fun _ => ?_)
          · refine s_on rfl rfl rfl ?_
            refine pull fun t30 h_t30 => ?_
            refine s_st (s_call (ψ := fun (_ : Unit) => bv t30) (args := []) Try.call8 rfl (law28_awake_ok h_t30) trivial (fun _ _ _ _ h => h)) rfl (fun _ => ?_)
            refine s_rd (r_pickT rfl rfl) rfl ?_
            refine s_rd (r_assign rfl) rfl ?_
            refine l_nil ?_
            refine n_then ?_
            refine ref_ret ?_
            exact fin1 (.inl rfl) () [] rfl trivial rfl (rv_tmp rfl)
          · refine s_off rfl rfl rfl rfl rfl ?_
            refine s_rd (r_pickF rfl rfl) rfl ?_
            refine s_rd (r_assign rfl) rfl ?_
            refine l_nil ?_
            refine n_then ?_
            refine ref_ret ?_
            exact fin1 (.inl rfl) () [] rfl trivial rfl (rv_tmp rfl)

end Go.Dc
