/- Part LAW28S.A0 of a proof that a law of the program returns true: general lemmas, no condition. -/
import Derived.Test.YtodnndlcnignbaaLAW28STypes
import Derived.Test.YtodnndlcnignbaaProg
set_option linter.unusedVariables false
set_option maxRecDepth 100000
set_option maxHeartbeats 4000000
namespace Go.Dc
open Go.Proofs
open Go.Proofs.Try (prog)

/-! deliberation/deliberationkeep.New -/
noncomputable def keep_New_m (l_0 : (List Int)) : Option (T_deliberationkeep_Src) :=
  Option.bind (slM l_0 0 (imin (l_0.length : Int) 2000)) fun t1 =>
  some (T_deliberationkeep_Src.mk t1 0)

theorem keep_New_ok {l_0 : (List Int)} {r : T_deliberationkeep_Src} (hm : keep_New_m l_0 = some r) :
    FnOk prog 9 [slv (rI .i64) l_0] [] (fun (x : Nat) => [pv (ptr x 0)]) (fun (x : Nat) => [oc x [slv (rI .i64) r.L, iv .i64 r.At]]) := by
  refine fn_ok (X := Nat) (fn := Try.f9) (N := 10) (m := keep_New_m l_0) (res := fun r x => [pv (ptr x 0)]) (Ω1 := fun r x => [oc x [slv (rI .i64) r.L, iv .i64 r.At]]) Try.func9 rfl rfl hm rfl (fun E hM => ?_)
  unfold keep_New_m
  refine ref_seq ?_
  refine ref_region ?_
  refine s_rd (r_assign rfl) rfl ?_
  refine l_nil ?_
  refine n_then ?_
  refine ref_seq ?_
  refine ref_region ?_
  refine s_rd (r_move rfl) rfl ?_
  refine s_rd (r_move rfl) rfl ?_
  refine s_rd (r_len Try.underlying22 rfl) rfl ?_
  refine s_rd (r_min rfl rfl) rfl ?_
  refine pull fun t1 h_t1 => ?_
  refine s_rd (r_slice h_t1 Try.underlying22 el_3 rfl .dft (.of rfl)) rfl ?_
  refine s_rd (r_build (ps := [(0, .tmp 7)]) (rs := [(0, [slv (rI .i64) t1])]) st_69 zs_69 ⟨rfl, (part_at rfl slv_at), trivial⟩ rfl rfl) rfl ?_
  refine s_st (s_box (part_ag (ψs := [slv (rI .i64) t1, iv .i64 0]) rfl (by intro φ h; simp only [List.mem_cons, List.not_mem_nil, or_false] at h; rcases h with rfl | rfl <;> first | exact iv_at | exact bv_at | exact sv_at | exact slv_at | exact pv_at rfl))) rfl (fun b2 => ?_)
  refine s_rd (r_assign rfl) rfl ?_
  refine l_nil ?_
  refine n_then ?_
  refine ref_ret ?_
  exact fin1 (.inl rfl) b2 [0] rfl ⟨rfl, trivial⟩ rfl (rv_tmp rfl)

/-! (*deliberation/deliberationkeep.Src).Raw -/
noncomputable def keep_Src_Raw_m (s_0 : T_deliberationkeep_Src) : Option (Int × T_deliberationkeep_Src) :=
  bif decide (s_0.At ≥ (s_0.L.length : Int)) then
    some (0, s_0)
  else
    Option.bind (idxM s_0.L (isub .i64 (iadd .i64 s_0.At 1) 1)) fun t2 =>
    some (t2, (T_deliberationkeep_Src.mk s_0.L (iadd .i64 s_0.At 1)))

theorem keep_Src_Raw_ok {s_0 : T_deliberationkeep_Src} {b_0 : Nat} {r : Int × T_deliberationkeep_Src} (hm : keep_Src_Raw_m s_0 = some r) :
    FnOk prog 53 [pv (ptr b_0 0)] [oc b_0 [slv (rI .i64) s_0.L, iv .i64 s_0.At]] (fun (x : Unit) => [iv .i64 r.1]) (fun (x : Unit) => [oc b_0 [slv (rI .i64) r.2.L, iv .i64 r.2.At]]) := by
  refine fn_ok (X := Unit) (fn := Try.f53) (N := 31) (m := keep_Src_Raw_m s_0) (res := fun r x => [iv .i64 r.1]) (Ω1 := fun r x => [oc b_0 [slv (rI .i64) r.2.L, iv .i64 r.2.At]]) Try.func53 rfl rfl hm rfl (fun E hM => ?_)
  unfold keep_Src_Raw_m
  refine ref_seq ?_
  refine ref_region ?_
  refine s_rd (r_assign rfl) rfl ?_
  refine l_nil ?_
  refine n_then ?_
  refine ref_seq ?_
  refine ref_seq ?_
  refine ref_draw [0, 1, 2, 3, 4, 5, 6, 7, 8, 9] rfl (by kernel_rfl) (fun hok => ?_)
  refine a_rd (i := 0) hok rfl (by kernel_rfl) rfl (r_move rfl) rfl ?_
  refine a_rd (i := 1) hok rfl (by kernel_rfl) rfl (r_nilc rfl) rfl ?_
  refine a_rd (i := 2) hok rfl (by kernel_rfl) rfl (r_faddr (fo := 1) Try.underlying69 rfl rfl Try.sizeOf3 rfl) rfl ?_
  refine a_rd (i := 3) hok rfl (by kernel_rfl) rfl (r_cload Try.isAgg3 rfl (j := 0) rfl rfl) rfl ?_
  refine a_rd (i := 4) hok rfl (by kernel_rfl) rfl (r_move rfl) rfl ?_
  refine a_rd (i := 5) hok rfl (by kernel_rfl) rfl (r_nilc rfl) rfl ?_
  refine a_rd (i := 6) hok rfl (by kernel_rfl) rfl (r_faddr (fo := 0) Try.underlying69 rfl rfl Try.sizeOf22 rfl) rfl ?_
  refine a_rd (i := 7) hok rfl (by kernel_rfl) rfl (r_cload Try.isAgg22 rfl (j := 0) rfl rfl) rfl ?_
  refine a_rd (i := 8) hok rfl (by kernel_rfl) rfl (r_len Try.underlying22 rfl) rfl ?_
  refine a_rd (i := 9) hok rfl (by kernel_rfl) rfl (r_geq rfl rfl) rfl ?_
  refine a_fin hok (by kernel_rfl) ?_
  refine n_then ?_
  refine ref_cond rfl (fun hb1 => ?_) (fun hb1 => ?_)
  · refine ref_seq ?_
    refine ref_region ?_
    refine s_rd (r_assign rfl) rfl ?_
    refine l_nil ?_
    refine n_then ?_
    refine ref_ret ?_
    refine r_then ?_
    exact fin1 (.inl rfl) () [0] rfl ⟨rfl, trivial⟩ rfl (rv_tmp rfl)
  · refine ref_skip ?_
    refine n_then ?_
    refine ref_seq ?_
    refine ref_region ?_
    refine s_rd (r_move rfl) rfl ?_
    refine s_rd (r_nilc rfl) rfl ?_
    refine s_rd (r_faddr (fo := 1) Try.underlying69 rfl rfl Try.sizeOf3 rfl) rfl ?_
    refine s_rd (r_cload Try.isAgg3 rfl (j := 0) rfl rfl) rfl ?_
    refine s_rd (r_add rfl rfl) rfl ?_
    refine s_rd (r_nilc rfl) rfl ?_
    refine s_rd (r_faddr (fo := 1) Try.underlying69 rfl rfl Try.sizeOf3 rfl) rfl ?_
    refine s_st0 (s_cstore (out := [slv (rI .i64) s_0.L, iv .i64 (iadd .i64 s_0.At 1)]) Try.sizeOf3 rfl (j := 0) rfl (part_at rfl iv_at) rfl rfl rfl) (fun _ => ?_)
    refine l_nil ?_
    refine n_then ?_
    refine ref_seq ?_
    refine ref_draw [0, 1, 2, 3, 4, 5, 6, 7, 8, 9, 10] rfl (by kernel_rfl) (fun hok => ?_)
    refine a_rd (i := 0) hok rfl (by kernel_rfl) rfl (r_move rfl) rfl ?_
    refine a_rd (i := 1) hok rfl (by kernel_rfl) rfl (r_nilc rfl) rfl ?_
    refine a_rd (i := 2) hok rfl (by kernel_rfl) rfl (r_faddr (fo := 0) Try.underlying69 rfl rfl Try.sizeOf22 rfl) rfl ?_
    refine a_rd (i := 3) hok rfl (by kernel_rfl) rfl (r_cload Try.isAgg22 rfl (j := 0) rfl rfl) rfl ?_
    refine a_rd (i := 4) hok rfl (by kernel_rfl) rfl (r_move rfl) rfl ?_
    refine a_rd (i := 5) hok rfl (by kernel_rfl) rfl (r_nilc rfl) rfl ?_
    refine a_rd (i := 6) hok rfl (by kernel_rfl) rfl (r_faddr (fo := 1) Try.underlying69 rfl rfl Try.sizeOf3 rfl) rfl ?_
    refine a_rd (i := 7) hok rfl (by kernel_rfl) rfl (r_cload Try.isAgg3 rfl (j := 0) rfl rfl) rfl ?_
    refine a_rd (i := 8) hok rfl (by kernel_rfl) rfl (r_sub rfl rfl) rfl ?_
    refine pull fun t2 h_t2 => ?_
    refine a_rd (i := 9) hok rfl (by kernel_rfl) rfl (r_index h_t2 Try.underlying22 el_3 rfl rfl) rfl ?_
    refine a_rd (i := 10) hok rfl (by kernel_rfl) rfl (r_load el_3 rfl) rfl ?_
    refine a_next hok 11 [] (by kernel_rfl) ?_ trivial
    refine a_st (i := 11) hok rfl rfl (St.ofRd (r_assign rfl)) (by intro _ h; cases h; rfl) (fun _ => ⟨trivial, ⟨trivial, ⟨trivial, ⟨trivial, ⟨trivial, ⟨trivial, ⟨trivial, ⟨trivial, ⟨trivial, ⟨trivial, ⟨trivial, trivial⟩⟩⟩⟩⟩⟩⟩⟩⟩⟩⟩) (fun _ => ?_)
    refine a_fin hok (by kernel_rfl) ?_
    refine n_then ?_
    refine ref_ret ?_
    exact fin1 (.inl rfl) () [0] rfl ⟨rfl, trivial⟩ rfl (rv_tmp rfl)

/-! deliberation/deliberationkeep.Mod -/
noncomputable def keep_Mod_m (x_0 : Int) (n_1 : Int) : Option (Int) :=
  bif decide (n_1 < 1) then
    some 0
  else
    Option.bind (iremM .i64 x_0 n_1) fun x2 =>
    bif decide (x2 < 0) then
      letM (iadd .i64 x2 n_1) fun x4 =>
      some x4
    else
      some x2

theorem keep_Mod_ok {x_0 : Int} {n_1 : Int} {r : Int} (hm : keep_Mod_m x_0 n_1 = some r) :
    FnOk prog 52 [iv .i64 x_0, iv .i64 n_1] [] (fun (x : Unit) => [iv .i64 r]) (fun (x : Unit) => []) := by
  refine fn_ok (X := Unit) (fn := Try.f52) (N := 16) (m := keep_Mod_m x_0 n_1) (res := fun r x => [iv .i64 r]) (Ω1 := fun r x => []) Try.func52 rfl rfl hm rfl (fun E hM => ?_)
  unfold keep_Mod_m
  refine ref_seq ?_
  refine ref_region ?_
  refine s_rd (r_assign rfl) rfl ?_
  refine l_nil ?_
  refine n_then ?_
  refine ref_seq ?_
  refine ref_seq ?_
  refine ref_region ?_
  refine s_rd (r_move rfl) rfl ?_
  refine s_rd (r_lss rfl rfl) rfl ?_
  refine l_nil ?_
  refine n_then ?_
  refine ref_cond rfl (fun hb1 => ?_) (fun hb1 => ?_)
  · refine ref_seq ?_
    refine ref_region ?_
    refine s_rd (r_assign rfl) rfl ?_
    refine l_nil ?_
    refine n_then ?_
    refine ref_ret ?_
    refine r_then ?_
    exact fin1 (.inl rfl) () [] rfl trivial rfl (rv_tmp rfl)
  · refine ref_skip ?_
    refine n_then ?_
    refine ref_seq ?_
    refine ref_region ?_
    refine s_rd (r_move rfl) rfl ?_
    refine s_rd (r_move rfl) rfl ?_
    refine pull fun x2 h_x2 => ?_
    refine s_rd (r_remM h_x2 rfl rfl) rfl ?_
    refine s_rd (r_assign rfl) rfl ?_
    refine l_nil ?_
    refine n_then ?_
    refine ref_seq ?_
    refine ref_seq ?_
    refine ref_region ?_
    refine s_rd (r_move rfl) rfl ?_
    refine s_rd (r_lss rfl rfl) rfl ?_
    refine l_nil ?_
    refine n_then ?_
    refine ref_cond rfl (fun hb3 => ?_) (fun hb3 => ?_)
    · refine ref_region ?_
      refine s_rd (r_move rfl) rfl ?_
      refine s_rd (r_move rfl) rfl ?_
      refine s_rd (r_add rfl rfl) rfl ?_
      refine s_rd (r_assign rfl) rfl ?_
      refine b_let (f := iv .i64) (t := 0) rfl fun x4 => ?_
      refine l_nil ?_
      refine n_then ?_
      refine ref_seq ?_
      refine ref_region ?_
      refine s_rd (r_move rfl) rfl ?_
      refine s_rd (r_assign rfl) rfl ?_
      refine l_nil ?_
      refine n_then ?_
      refine ref_ret ?_
      exact fin1 (.inl rfl) () [] rfl trivial rfl (rv_tmp rfl)
    · refine ref_skip ?_
      refine n_then ?_
      refine ref_seq ?_
      refine ref_region ?_
      refine s_rd (r_move rfl) rfl ?_
      refine s_rd (r_assign rfl) rfl ?_
      refine l_nil ?_
      refine n_then ?_
      refine ref_ret ?_
      exact fin1 (.inl rfl) () [] rfl trivial rfl (rv_tmp rfl)

/-! (*deliberation/deliberationkeep.Src).N -/
noncomputable def keep_Src_N_m (s_0 : T_deliberationkeep_Src) (n_1 : Int) : Option (Int × T_deliberationkeep_Src) :=
  Option.bind (keep_Src_Raw_m s_0) fun t1 =>
  Option.bind (keep_Mod_m t1.1 n_1) fun t2 =>
  some (t2, t1.2)

theorem keep_Src_N_ok {s_0 : T_deliberationkeep_Src} {n_1 : Int} {b_0 : Nat} {r : Int × T_deliberationkeep_Src} (hm : keep_Src_N_m s_0 n_1 = some r) :
    FnOk prog 22 [pv (ptr b_0 0), iv .i64 n_1] [oc b_0 [slv (rI .i64) s_0.L, iv .i64 s_0.At]] (fun (x : Unit) => [iv .i64 r.1]) (fun (x : Unit) => [oc b_0 [slv (rI .i64) r.2.L, iv .i64 r.2.At]]) := by
  refine fn_ok (X := Unit) (fn := Try.f22) (N := 9) (m := keep_Src_N_m s_0 n_1) (res := fun r x => [iv .i64 r.1]) (Ω1 := fun r x => [oc b_0 [slv (rI .i64) r.2.L, iv .i64 r.2.At]]) Try.func22 rfl rfl hm rfl (fun E hM => ?_)
  unfold keep_Src_N_m
  refine ref_seq ?_
  refine ref_region ?_
  refine s_rd (r_assign rfl) rfl ?_
  refine l_nil ?_
  refine n_then ?_
  refine ref_seq ?_
  refine ref_region ?_
  refine s_rd (r_move rfl) rfl ?_
  refine pull fun t1 h_t1 => ?_
  refine s_st (s_callC [0] [true] (fun (_ : Unit) => [oc b_0 [slv (rI .i64) t1.2.L, iv .i64 t1.2.At]]) (fun (_ : Unit) => []) (fun (_ : Unit) => iv .i64 t1.1) (args := [.tmp 5]) (caps := []) Try.call53 rfl (keep_Src_Raw_ok h_t1) ⟨rfl, rfl, trivial⟩ (fun _ => rfl) (fun _ => trivial) (fun _ => rfl) ⟨arg rfl, trivial⟩ (fun _ _ _ _ h => h)) rfl (fun _ => ?_)
  refine s_rd (r_move rfl) rfl ?_
  refine pull fun t2 h_t2 => ?_
  refine s_st (s_call (ψ := fun (_ : Unit) => iv .i64 t2) (args := [.tmp 6, .tmp 7]) Try.call52 rfl (keep_Mod_ok h_t2) ⟨arg rfl, arg rfl, trivial⟩ (fun _ _ _ _ h => h)) rfl (fun _ => ?_)
  refine s_rd (r_assign rfl) rfl ?_
  refine l_nil ?_
  refine n_then ?_
  refine ref_ret ?_
  exact fin1 (.inl rfl) () [0] rfl ⟨rfl, trivial⟩ rfl (rv_tmp rfl)

/-! (*deliberation/deliberationkeep.Src).Range -/
noncomputable def keep_Src_Range_m (s_0 : T_deliberationkeep_Src) (lo_1 : Int) (hi_2 : Int) : Option (Int × T_deliberationkeep_Src) :=
  Option.bind (keep_Src_N_m s_0 (iadd .i64 (isub .i64 hi_2 lo_1) 1)) fun t1 =>
  letM (iadd .i64 lo_1 t1.1) fun t2 =>
  some (t2, t1.2)

theorem keep_Src_Range_ok {s_0 : T_deliberationkeep_Src} {lo_1 : Int} {hi_2 : Int} {b_0 : Nat} {r : Int × T_deliberationkeep_Src} (hm : keep_Src_Range_m s_0 lo_1 hi_2 = some r) :
    FnOk prog 27 [pv (ptr b_0 0), iv .i64 lo_1, iv .i64 hi_2] [oc b_0 [slv (rI .i64) s_0.L, iv .i64 s_0.At]] (fun (x : Unit) => [iv .i64 r.1]) (fun (x : Unit) => [oc b_0 [slv (rI .i64) r.2.L, iv .i64 r.2.At]]) := by
  refine fn_ok (X := Unit) (fn := Try.f27) (N := 15) (m := keep_Src_Range_m s_0 lo_1 hi_2) (res := fun r x => [iv .i64 r.1]) (Ω1 := fun r x => [oc b_0 [slv (rI .i64) r.2.L, iv .i64 r.2.At]]) Try.func27 rfl rfl hm rfl (fun E hM => ?_)
  unfold keep_Src_Range_m
  refine ref_seq ?_
  refine ref_region ?_
  refine s_rd (r_assign rfl) rfl ?_
  refine l_nil ?_
  refine n_then ?_
  refine ref_seq ?_
  refine ref_region ?_
  refine s_rd (r_move rfl) rfl ?_
  refine s_rd (r_move rfl) rfl ?_
  refine s_rd (r_move rfl) rfl ?_
  refine s_rd (r_move rfl) rfl ?_
  refine s_rd (r_sub rfl rfl) rfl ?_
  refine s_rd (r_add rfl rfl) rfl ?_
  refine pull fun t1 h_t1 => ?_
  refine s_st (s_callC [0] [true] (fun (_ : Unit) => [oc b_0 [slv (rI .i64) t1.2.L, iv .i64 t1.2.At]]) (fun (_ : Unit) => []) (fun (_ : Unit) => iv .i64 t1.1) (args := [.tmp 8, .tmp 12]) (caps := []) Try.call22 rfl (keep_Src_N_ok h_t1) ⟨rfl, rfl, trivial⟩ (fun _ => rfl) (fun _ => trivial) (fun _ => rfl) ⟨arg rfl, arg rfl, trivial⟩ (fun _ _ _ _ h => h)) rfl (fun _ => ?_)
  refine s_rd (r_add rfl rfl) rfl ?_
  refine s_rd (r_assign rfl) rfl ?_
  refine b_let (f := iv .i64) (t := 6) rfl fun t2 => ?_
  refine l_nil ?_
  refine n_then ?_
  refine ref_ret ?_
  exact fin1 (.inl rfl) () [0] rfl ⟨rfl, trivial⟩ rfl (rv_tmp rfl)

/-! deliberation/deliberationnet.Graph -/
noncomputable def net_Graph_l2 (t2 : Int × T_deliberationkeep_Src) (dense4 : Int × T_deliberationkeep_Src) (s159 : Int × T_deliberationkeep_Src × (List T_api_Pair)) (s186 : Int × T_deliberationkeep_Src × (List T_api_Pair)) : Option (Sum (T_deliberationkeep_Src × (List T_api_Pair)) (Int × T_deliberationkeep_Src × (List T_api_Pair))) :=
  bif decide (s186.1 < t2.1) then
    joinM (fun j190 : Int =>
        Option.bind (keep_Src_N_m s186.2.1 j190) fun t193 =>
        bif t193.1 == 1 then
          Option.bind (appM 16 s186.2.2 [(T_api_Pair.mk s159.1 s186.1)]) fun t195 =>
          letM (iadd .i64 s186.1 1) fun b197 =>
          some (Sum.inr (b197, t193.2, t195))
        else
          letM (iadd .i64 s186.1 1) fun b198 =>
          some (Sum.inr (b198, t193.2, s186.2.2))) fun k192 =>
    bif s159.1 == s186.1 then
      k192 9
    else
      k192 dense4.1
  else
    some (Sum.inl (s186.2.1, s186.2.2))

noncomputable def net_Graph_l1 (t2 : Int × T_deliberationkeep_Src) (dense4 : Int × T_deliberationkeep_Src) (s159 : Int × T_deliberationkeep_Src × (List T_api_Pair)) : Option (Sum (T_deliberationkeep_Src × (List T_api_Pair)) (Int × T_deliberationkeep_Src × (List T_api_Pair))) :=
  bif decide (s159.1 < t2.1) then
    Option.bind (loopC (net_Graph_l2 t2 dense4 s159) (0, s159.2.1, s159.2.2)) fun q199 : T_deliberationkeep_Src × (List T_api_Pair) =>
    letM (iadd .i64 s159.1 1) fun a_201 =>
    some (Sum.inr (a_201, q199.1, q199.2))
  else
    some (Sum.inl (s159.2.1, s159.2.2))

noncomputable def net_Graph_m (s_0 : T_deliberationkeep_Src) (n_1 : Int) : Option (T_api_Graph × T_deliberationkeep_Src) :=
  Option.bind (keep_Src_Range_m s_0 1 n_1) fun t2 =>
  Option.bind (keep_Src_Range_m t2.2 2 5) fun dense4 =>
  Option.bind (loopC (net_Graph_l1 t2 dense4) (0, dense4.2, [])) fun q202 : T_deliberationkeep_Src × (List T_api_Pair) =>
  some ((T_api_Graph.mk t2.1 q202.2), q202.1)

theorem net_Graph_ok {s_0 : T_deliberationkeep_Src} {n_1 : Int} {b_0 : Nat} {r : T_api_Graph × T_deliberationkeep_Src} (hm : net_Graph_m s_0 n_1 = some r) :
    FnOk prog 20 [pv (ptr b_0 0), iv .i64 n_1] [oc b_0 [slv (rI .i64) s_0.L, iv .i64 s_0.At]] (fun (x : Unit) => [ag [iv .i64 r.1.N, slv rT_api_Pair r.1.L]]) (fun (x : Unit) => [oc b_0 [slv (rI .i64) r.2.L, iv .i64 r.2.At]]) := by
  refine fn_ok (X := Unit) (fn := Try.f20) (N := 45) (m := net_Graph_m s_0 n_1) (res := fun r x => [ag [iv .i64 r.1.N, slv rT_api_Pair r.1.L]]) (Ω1 := fun r x => [oc b_0 [slv (rI .i64) r.2.L, iv .i64 r.2.At]]) Try.func20 rfl rfl hm rfl (fun E hM => ?_)
  unfold net_Graph_m
  refine ref_seq ?_
  refine ref_region ?_
  refine s_st (s_alloc zt_28) rfl (fun b1 => ?_)
  refine l_nil ?_
  refine n_then ?_
  refine ref_seq ?_
  refine ref_region ?_
  refine s_rd (r_move rfl) rfl ?_
  refine s_rd (r_move rfl) rfl ?_
  refine pull fun t2 h_t2 => ?_
  refine s_st (s_callC [0] [true] (fun (_ : Unit) => [oc b_0 [slv (rI .i64) t2.2.L, iv .i64 t2.2.At]]) (fun (_ : Unit) => []) (fun (_ : Unit) => iv .i64 t2.1) (args := [.tmp 10, .const (.int .i64 (1)), .tmp 11]) (caps := []) Try.call27 rfl (keep_Src_Range_ok h_t2) ⟨rfl, rfl, trivial⟩ (fun _ => rfl) (fun _ => trivial) (fun _ => rfl) ⟨arg rfl, arg rfl, arg rfl, trivial⟩ (fun _ _ _ _ h => h)) rfl (fun _ => ?_)
  refine s_rd (r_build (ps := [(0, .tmp 12)]) (rs := [(0, [iv .i64 t2.1])]) st_28 zs_28 ⟨rfl, (part_at rfl iv_at), trivial⟩ rfl rfl) rfl ?_
  refine s_st (s_alloc zt_28) rfl (fun b3 => ?_)
  refine s_st0 (s_cstore (out := [iv .i64 t2.1, pv (.slice none 0 0)]) Try.sizeOf28 rfl (j := 2) rfl (part_agO (ψs := [iv .i64 t2.1, pv (.slice none 0 0)]) rfl ⟨.inl iv_at, .inl (pv_at rfl), trivial⟩) rfl rfl rfl) (fun _ => ?_)
  refine l_nil ?_
  refine b_of (nrm [oc b_0 [slv (rI .i64) t2.2.L, iv .i64 t2.2.At], oc b1 [iv .i64 0, pv (.slice none 0 0)], oc b3 [iv .i64 t2.1, pv (.slice none 0 0)]] rfl) ?_
  refine n_then ?_
  refine ref_seq ?_
  refine ref_region ?_
  refine s_rd (r_move rfl) rfl ?_
  refine pull fun dense4 h_dense4 => ?_
  refine s_st (s_callC [0] [true] (fun (_ : Unit) => [oc b_0 [slv (rI .i64) dense4.2.L, iv .i64 dense4.2.At]]) (fun (_ : Unit) => []) (fun (_ : Unit) => iv .i64 dense4.1) (args := [.tmp 14, .const (.int .i64 (2)), .const (.int .i64 (5))]) (caps := []) Try.call27 rfl (keep_Src_Range_ok h_dense4) ⟨rfl, rfl, trivial⟩ (fun _ => rfl) (fun _ => trivial) (fun _ => rfl) ⟨arg rfl, arg rfl, arg rfl, trivial⟩ (fun _ _ _ _ h => h)) rfl (fun _ => ?_)
  refine s_rd (r_assign rfl) rfl ?_
  refine l_nil ?_
  refine n_then ?_
  refine ref_seq ?_
  refine ref_seq ?_
  refine ref_region ?_
  refine s_rd (r_assign rfl) rfl ?_
  refine l_nil ?_
  refine n_then ?_
  refine b_of (own_nil rT_api_Pair) ?_
  refine ref_loopB (f := (net_Graph_l1 t2 dense4)) (Γl := (fun (s159 : Int × T_deliberationkeep_Src × (List T_api_Pair)) (x160 : (Value × List Nat)) => [(0, pv (ptr b_0 0)), (4, pv (ptr b1 0)), (5, pv (ptr b3 0)), (6, iv .i64 dense4.1), (7, iv .i64 s159.1)])) (Ωl := (fun (s159 : Int × T_deliberationkeep_Src × (List T_api_Pair)) (x160 : (Value × List Nat)) => [oc b_0 [slv (rI .i64) s159.2.1.L, iv .i64 s159.2.1.At], oc b1 [iv .i64 0, pv (.slice none 0 0)], oc b3 [iv .i64 t2.1, pv x160.1], oa rT_api_Pair x160.1 x160.2 s159.2.2])) (Γb := (fun (q202 : T_deliberationkeep_Src × (List T_api_Pair)) (y203 : (Value × List Nat)) => [(0, pv (ptr b_0 0)), (4, pv (ptr b1 0)), (5, pv (ptr b3 0))])) (Ωb := (fun (q202 : T_deliberationkeep_Src × (List T_api_Pair)) (y203 : (Value × List Nat)) => [oc b_0 [slv (rI .i64) q202.1.L, iv .i64 q202.1.At], oc b1 [iv .i64 0, pv (.slice none 0 0)], oc b3 [iv .i64 t2.1, pv y203.1], oa rT_api_Pair y203.1 y203.2 q202.2])) (0, dense4.2, []) ((.slice none 0 0), []) (weak [0, 1, 2, 3] ⟨rfl, rfl, rfl, rfl, rfl, trivial⟩ ⟨rfl, rfl, rfl, rfl, trivial⟩) (fun s159 x160 => ?_) (fun q202 y203 => ?_)
  · unfold net_Graph_l1
    refine ref_seq ?_
    refine ref_seq ?_
    refine ref_region ?_
    refine s_rd (r_move rfl) rfl ?_
    refine s_rd (r_faddr (fo := 0) Try.underlying28 rfl rfl Try.sizeOf3 rfl) rfl ?_
    refine s_rd (r_cload Try.isAgg3 rfl (j := 2) rfl rfl) rfl ?_
    refine s_rd (r_lss rfl rfl) rfl ?_
    refine l_nil ?_
    refine n_then ?_
    refine ref_cond rfl (fun hb161 => ?_) (fun hb161 => ?_)
    · refine ref_skip ?_
      refine n_then ?_
      refine ref_seq ?_
      refine ref_block ?_
      refine ref_seq ?_
      refine ref_region ?_
      refine s_rd (r_assign rfl) rfl ?_
      refine l_nil ?_
      refine n_then ?_
      refine ref_loopB (f := (net_Graph_l2 t2 dense4 s159)) (Γl := (fun (s186 : Int × T_deliberationkeep_Src × (List T_api_Pair)) (x187 : (Value × List Nat)) => [(0, pv (ptr b_0 0)), (4, pv (ptr b1 0)), (5, pv (ptr b3 0)), (6, iv .i64 dense4.1), (7, iv .i64 s159.1), (8, iv .i64 s186.1)])) (Ωl := (fun (s186 : Int × T_deliberationkeep_Src × (List T_api_Pair)) (x187 : (Value × List Nat)) => [oc b_0 [slv (rI .i64) s186.2.1.L, iv .i64 s186.2.1.At], oc b1 [iv .i64 0, pv (.slice none 0 0)], oc b3 [iv .i64 t2.1, pv x187.1], oa rT_api_Pair x187.1 x187.2 s186.2.2])) (Γb := (fun (q199 : T_deliberationkeep_Src × (List T_api_Pair)) (y200 : (Value × List Nat)) => [(0, pv (ptr b_0 0)), (4, pv (ptr b1 0)), (5, pv (ptr b3 0)), (6, iv .i64 dense4.1), (7, iv .i64 s159.1)])) (Ωb := (fun (q199 : T_deliberationkeep_Src × (List T_api_Pair)) (y200 : (Value × List Nat)) => [oc b_0 [slv (rI .i64) q199.1.L, iv .i64 q199.1.At], oc b1 [iv .i64 0, pv (.slice none 0 0)], oc b3 [iv .i64 t2.1, pv y200.1], oa rT_api_Pair y200.1 y200.2 q199.2])) (0, s159.2.1, s159.2.2) x160 (weak [0, 1, 2, 3] ⟨rfl, rfl, rfl, rfl, rfl, rfl, trivial⟩ ⟨rfl, rfl, rfl, rfl, trivial⟩) (fun s186 x187 => ?_) (fun q199 y200 => ?_)
      · unfold net_Graph_l2
        refine ref_seq ?_
        refine ref_seq ?_
        refine ref_region ?_
        refine s_rd (r_move rfl) rfl ?_
        refine s_rd (r_faddr (fo := 0) Try.underlying28 rfl rfl Try.sizeOf3 rfl) rfl ?_
        refine s_rd (r_cload Try.isAgg3 rfl (j := 2) rfl rfl) rfl ?_
        refine s_rd (r_lss rfl rfl) rfl ?_
        refine l_nil ?_
        refine n_then ?_
        refine ref_cond rfl (fun hb188 => ?_) (fun hb188 => ?_)
        · refine ref_skip ?_
          refine n_then ?_
          refine ref_seq ?_
          refine ref_block ?_
          refine ref_seq ?_
          refine ref_region ?_
          refine s_rd (r_move rfl) rfl ?_
          refine s_rd (r_assign rfl) rfl ?_
          refine l_nil ?_
          refine n_then ?_
          refine ref_seq ?_
          refine ref_join (fun (j190 : Int) (x191 : Unit) => [(0, pv (ptr b_0 0)), (4, pv (ptr b1 0)), (5, pv (ptr b3 0)), (6, iv .i64 dense4.1), (7, iv .i64 s159.1), (8, iv .i64 s186.1), (9, iv .i64 j190)]) (fun (j190 : Int) (x191 : Unit) => [oc b_0 [slv (rI .i64) s186.2.1.L, iv .i64 s186.2.1.At], oc b1 [iv .i64 0, pv (.slice none 0 0)], oc b3 [iv .i64 t2.1, pv x187.1], oa rT_api_Pair x187.1 x187.2 s186.2.2]) (fun k192 hk192 => ?_) (fun j190 x191 => ?_)
          · refine ref_seq ?_
            refine ref_region ?_
            refine s_rd (r_move rfl) rfl ?_
            refine s_rd (r_move rfl) rfl ?_
            refine s_rd (r_eql rfl rfl) rfl ?_
            refine l_nil ?_
            refine n_then ?_
            refine ref_cond rfl (fun hb189 => ?_) (fun hb189 => ?_)
            · refine ref_region ?_
              refine s_rd (r_assign rfl) rfl ?_
              refine l_nil ?_
              exact b_to (hk192 9 ()) (weak [0, 1, 2, 3] ⟨rfl, rfl, rfl, rfl, rfl, rfl, rfl, trivial⟩ ⟨rfl, rfl, rfl, rfl, trivial⟩)
            · refine ref_skip ?_
              exact b_to (hk192 dense4.1 ()) (weak [0, 1, 2, 3] ⟨rfl, rfl, rfl, rfl, rfl, rfl, rfl, trivial⟩ ⟨rfl, rfl, rfl, rfl, trivial⟩)
          · refine n_then ?_
            refine ref_seq ?_
            refine ref_region ?_
            refine s_rd (r_move rfl) rfl ?_
            refine s_rd (r_move rfl) rfl ?_
            refine pull fun t193 h_t193 => ?_
            refine s_st (s_callC [0] [true] (fun (_ : Unit) => [oc b_0 [slv (rI .i64) t193.2.L, iv .i64 t193.2.At]]) (fun (_ : Unit) => []) (fun (_ : Unit) => iv .i64 t193.1) (args := [.tmp 32, .tmp 33]) (caps := []) Try.call22 rfl (keep_Src_N_ok h_t193) ⟨rfl, rfl, trivial⟩ (fun _ => rfl) (fun _ => trivial) (fun _ => rfl) ⟨arg rfl, arg rfl, trivial⟩ (fun _ _ _ _ h => h)) rfl (fun _ => ?_)
            refine s_rd (r_eql rfl rfl) rfl ?_
            refine l_nil ?_
            refine n_then ?_
            refine ref_cond rfl (fun hb194 => ?_) (fun hb194 => ?_)
            · refine ref_region ?_
              refine s_rd (r_faddr (fo := 1) Try.underlying28 rfl rfl Try.sizeOf26 rfl) rfl ?_
              refine s_rd (r_cload Try.isAgg26 rfl (j := 2) rfl rfl) rfl ?_
              refine s_rd (r_move rfl) rfl ?_
              refine s_rd (r_move rfl) rfl ?_
              refine s_rd (r_build (ps := [(0, .tmp 38), (1, .tmp 39)]) (rs := [(0, [iv .i64 s159.1]), (1, [iv .i64 s186.1])]) st_67 zs_67 ⟨rfl, (part_at rfl iv_at), ⟨rfl, (part_at rfl iv_at), trivial⟩⟩ rfl rfl) rfl ?_
              refine s_st (s_bslice (xs := [.tmp 40]) (ds := [(T_api_Pair.mk s159.1 s186.1)]) Try.underlying26 el_67 rfl (Nat.le_of_ble_eq_true rfl) ⟨(part_ag (ψs := [iv .i64 s159.1, iv .i64 s186.1]) rfl (by intro φ h; simp only [List.mem_cons, List.not_mem_nil, or_false] at h; rcases h with rfl | rfl <;> first | exact iv_at | exact bv_at | exact sv_at | exact slv_at | exact pv_at rfl)), trivial⟩) rfl (fun _ => ?_)
              refine pull fun t195 h_t195 => ?_
              refine s_st (s_append h_t195 Try.underlying26 el_67 rfl (j := 3) rfl rfl) rfl (fun o196 => ?_)
              refine s_rd (r_faddr (fo := 1) Try.underlying28 rfl rfl Try.sizeOf26 rfl) rfl ?_
              refine s_st0 (s_cstore (out := [iv .i64 t2.1, pv o196.1]) Try.sizeOf26 rfl (j := 2) rfl (part_own rfl (j := 3) rfl) rfl rfl rfl) (fun _ => ?_)
              refine l_nil ?_
              refine b_of (nrm [oc b_0 [slv (rI .i64) t193.2.L, iv .i64 t193.2.At], oc b1 [iv .i64 0, pv (.slice none 0 0)], oc b3 [iv .i64 t2.1, pv o196.1], oa rT_api_Pair o196.1 o196.2 t195] rfl) ?_
              refine n_block ?_
              refine n_then ?_
              refine ref_region ?_
              refine s_rd (r_move rfl) rfl ?_
              refine s_rd (r_add rfl rfl) rfl ?_
              refine s_rd (r_assign rfl) rfl ?_
              refine b_let (f := iv .i64) (t := 8) rfl fun b197 => ?_
              refine l_nil ?_
              exact goB o196 (weak [0, 1, 2, 3] ⟨rfl, rfl, rfl, rfl, rfl, rfl, trivial⟩ ⟨rfl, rfl, rfl, rfl, trivial⟩)
            · refine ref_skip ?_
              refine n_block ?_
              refine n_then ?_
              refine ref_region ?_
              refine s_rd (r_move rfl) rfl ?_
              refine s_rd (r_add rfl rfl) rfl ?_
              refine s_rd (r_assign rfl) rfl ?_
              refine b_let (f := iv .i64) (t := 8) rfl fun b198 => ?_
              refine l_nil ?_
              exact goB x187 (weak [0, 1, 2, 3] ⟨rfl, rfl, rfl, rfl, rfl, rfl, trivial⟩ ⟨rfl, rfl, rfl, rfl, trivial⟩)
        · refine ref_exit ?_
          refine x_then ?_
          exact brkB x187 (weak [0, 1, 2, 3] ⟨rfl, rfl, rfl, rfl, rfl, trivial⟩ ⟨rfl, rfl, rfl, rfl, trivial⟩)
      · refine n_block ?_
        refine n_then ?_
        refine ref_region ?_
        refine s_rd (r_move rfl) rfl ?_
        refine s_rd (r_add rfl rfl) rfl ?_
        refine s_rd (r_assign rfl) rfl ?_
        refine b_let (f := iv .i64) (t := 7) rfl fun a_201 => ?_
        refine l_nil ?_
        exact goB y200 (weak [0, 1, 2, 3] ⟨rfl, rfl, rfl, rfl, rfl, trivial⟩ ⟨rfl, rfl, rfl, rfl, trivial⟩)
    · refine ref_exit ?_
      refine x_then ?_
      exact brkB x160 (weak [0, 1, 2, 3] ⟨rfl, rfl, rfl, trivial⟩ ⟨rfl, rfl, rfl, rfl, trivial⟩)
  · refine n_then ?_
    refine ref_seq ?_
    refine ref_region ?_
    refine s_rd (r_cloadS Try.isAgg28 Try.sizeOf28 rfl (j := 2) rfl rfl rfl) rfl ?_
    refine s_st0 (s_cstore (out := [iv .i64 t2.1, pv y203.1]) Try.sizeOf28 rfl (j := 1) rfl (part_agO (ψs := [iv .i64 t2.1, pv y203.1]) rfl ⟨.inl iv_at, .inr ⟨_, _, _, _, _, 3, rfl, rfl⟩, trivial⟩) rfl rfl rfl) (fun _ => ?_)
    refine l_nil ?_
    refine n_then ?_
    refine ref_ret ?_
    refine b_of (frzGL [(44, ag [iv .i64 t2.1, slv rT_api_Pair q202.2])] [(1, b1, [iv .i64 t2.1, slv rT_api_Pair q202.2]), (2, b3, [iv .i64 t2.1, slv rT_api_Pair q202.2])] (j := 3) rfl ⟨⟨_, rfl, .inr ⟨_, _, rfl, rfl, ⟨.inl rfl, .inr ⟨rfl, rfl⟩, trivial⟩⟩⟩, trivial⟩ ⟨⟨_, rfl, ⟨.inl rfl, .inr ⟨rfl, rfl⟩, trivial⟩⟩, ⟨_, rfl, ⟨.inl rfl, .inr ⟨rfl, rfl⟩, trivial⟩⟩, trivial⟩) ?_
    exact fin1 (.inl rfl) () [0] rfl ⟨rfl, trivial⟩ rfl (rv_cell rfl (j := 1) rfl Try.isAgg28 Try.sizeOf28 rfl rfl)

/-! deliberation/deliberationref10.Validate -/
noncomputable def ref10_Validate_l1 (g_0 : T_api_Graph) (s13 : Int) : Option (Sum ((Sum (Int) (Unit))) (Int)) :=
  bif decide (s13 < (g_0.L.length : Int)) then
    Option.bind (idxM g_0.L s13) fun t16 =>
    bif decide (t16.From < 0) then
      some (Sum.inl (Sum.inl 1))
    else
      bif decide (t16.From ≥ g_0.N) then
        some (Sum.inl (Sum.inl 1))
      else
        bif decide (t16.To < 0) then
          some (Sum.inl (Sum.inl 1))
        else
          bif decide (t16.To ≥ g_0.N) then
            some (Sum.inl (Sum.inl 1))
          else
            bif decide (s13 > 0) then
              Option.bind (idxM g_0.L (isub .i64 s13 1)) fun t19 =>
              bif decide (t19.From > t16.From) then
                some (Sum.inl (Sum.inl 8))
              else
                Option.bind (idxM g_0.L (isub .i64 s13 1)) fun t20 =>
                bif t20.From == t16.From then
                  Option.bind (idxM g_0.L (isub .i64 s13 1)) fun t21 =>
                  bif decide (t21.To ≥ t16.To) then
                    some (Sum.inl (Sum.inl 8))
                  else
                    letM (iadd .i64 s13 1) fun i23 =>
                    some (Sum.inr i23)
                else
                  letM (iadd .i64 s13 1) fun i24 =>
                  some (Sum.inr i24)
            else
              letM (iadd .i64 s13 1) fun i25 =>
              some (Sum.inr i25)
  else
    some (Sum.inl (Sum.inr ()))

noncomputable def ref10_Validate_m (g_0 : T_api_Graph) : Option (Int) :=
  bif decide (g_0.N < 0) then
    some 1
  else
    bif decide (g_0.N > 40) then
      some 1
    else
      Option.bind (loopC (ref10_Validate_l1 g_0) 0) (sumK (fun a : Int => some a) fun q26 : Unit =>
        some 0)

theorem ref10_Validate_ok {g_0 : T_api_Graph} {r : Int} (hm : ref10_Validate_m g_0 = some r) :
    FnOk prog 51 [ag [iv .i64 g_0.N, slv rT_api_Pair g_0.L]] [] (fun (x : Unit) => [iv .i64 r]) (fun (x : Unit) => []) := by
  refine fn_ok (X := Unit) (fn := Try.f51) (N := 85) (m := ref10_Validate_m g_0) (res := fun r x => [iv .i64 r]) (Ω1 := fun r x => []) Try.func51 rfl rfl hm rfl (fun E hM => ?_)
  unfold ref10_Validate_m
  refine ref_seq ?_
  refine ref_region ?_
  refine s_st (s_box (part_ag (ψs := [iv .i64 g_0.N, slv rT_api_Pair g_0.L]) rfl (by intro φ h; simp only [List.mem_cons, List.not_mem_nil, or_false] at h; rcases h with rfl | rfl <;> first | exact iv_at | exact bv_at | exact sv_at | exact slv_at | exact pv_at rfl))) rfl (fun b1 => ?_)
  refine s_rd (r_assign rfl) rfl ?_
  refine l_nil ?_
  refine n_then ?_
  refine ref_seq ?_
  refine ref_seq ?_
  refine ref_region ?_
  refine s_rd (r_faddr (fo := 0) Try.underlying28 rfl rfl Try.sizeOf3 rfl) rfl ?_
  refine s_rd (r_cload Try.isAgg3 rfl (j := 0) rfl rfl) rfl ?_
  refine s_rd (r_lss rfl rfl) rfl ?_
  refine s_rd (r_move rfl) rfl ?_
  refine b_split (t := 8) rfl (fun _ => ?_) (fun _ => ?_)
  · refine s_off rfl rfl rfl rfl rfl ?_
    refine s_off rfl rfl rfl rfl rfl ?_
    refine s_off rfl rfl rfl rfl rfl ?_
    refine s_rd (r_pickT rfl rfl) rfl ?_
    refine l_nil ?_
    refine n_then ?_
    refine ref_condT rfl rfl ?_
    refine ref_seq ?_
    refine ref_region ?_
    refine s_rd (r_assign rfl) rfl ?_
    refine l_nil ?_
    refine n_then ?_
    refine ref_ret ?_
    refine r_then ?_
    exact fin1 (.inl rfl) () [] rfl trivial rfl (rv_tmp rfl)
  · refine s_on rfl rfl rfl ?_
    refine s_rd (r_faddr (fo := 0) Try.underlying28 rfl rfl Try.sizeOf3 rfl) rfl ?_
    refine s_on rfl rfl rfl ?_
    refine s_rd (r_cload Try.isAgg3 rfl (j := 0) rfl rfl) rfl ?_
    refine s_on rfl rfl rfl ?_
    refine s_rd (r_gtr rfl rfl) rfl ?_
    refine s_rd (r_pickF rfl rfl) rfl ?_
    refine l_nil ?_
    refine n_then ?_
    refine ref_cond rfl (fun hb2 => ?_) (fun hb2 => ?_)
    · refine ref_seq ?_
      refine ref_region ?_
      refine s_rd (r_assign rfl) rfl ?_
      refine l_nil ?_
      refine n_then ?_
      refine ref_ret ?_
      refine r_then ?_
      exact fin1 (.inl rfl) () [] rfl trivial rfl (rv_tmp rfl)
    · refine ref_skip ?_
      refine n_then ?_
      refine ref_seq ?_
      refine ref_seq ?_
      refine ref_region ?_
      refine s_rd (r_assign rfl) rfl ?_
      refine l_nil ?_
      refine n_then ?_
      refine ref_loopX (f := (ref10_Validate_l1 g_0)) (Γl := (fun (s13 : Int) (x14 : Unit) => [(1, pv (ptr b1 0)), (3, iv .i64 s13)])) (Ωl := (fun (s13 : Int) (x14 : Unit) => [oc b1 [iv .i64 g_0.N, slv rT_api_Pair g_0.L]])) (Γb := (fun (q26 : Unit) (y27 : Unit) => [])) (Ωb := (fun (q26 : Unit) (y27 : Unit) => [])) (kr := (fun a : Int => some a)) 0 () (weak [0] ⟨rfl, rfl, trivial⟩ ⟨rfl, trivial⟩) (fun s13 x14 => ?_) (fun q26 y27 => ?_)
      · unfold ref10_Validate_l1
        refine ref_seq ?_
        refine ref_seq ?_
        refine ref_region ?_
        refine s_rd (r_move rfl) rfl ?_
        refine s_rd (r_faddr (fo := 1) Try.underlying28 rfl rfl Try.sizeOf26 rfl) rfl ?_
        refine s_rd (r_cload Try.isAgg26 rfl (j := 0) rfl rfl) rfl ?_
        refine s_rd (r_len Try.underlying26 rfl) rfl ?_
        refine s_rd (r_lss rfl rfl) rfl ?_
        refine l_nil ?_
        refine n_then ?_
        refine ref_cond rfl (fun hb15 => ?_) (fun hb15 => ?_)
        · refine ref_skip ?_
          refine n_then ?_
          refine ref_seq ?_
          refine ref_block ?_
          refine ref_seq ?_
          refine ref_region ?_
          refine s_rd (r_faddr (fo := 1) Try.underlying28 rfl rfl Try.sizeOf26 rfl) rfl ?_
          refine s_rd (r_cload Try.isAgg26 rfl (j := 0) rfl rfl) rfl ?_
          refine s_rd (r_move rfl) rfl ?_
          refine pull fun t16 h_t16 => ?_
          refine s_rd (r_index h_t16 Try.underlying26 el_67 rfl rfl) rfl ?_
          refine s_rd (r_load el_67 rfl) rfl ?_
          refine s_st (s_alloc zt_67) rfl (fun b17 => ?_)
          refine s_st0 (s_cstore (out := [iv .i64 t16.From, iv .i64 t16.To]) Try.sizeOf67 rfl (j := 1) rfl (part_ag (ψs := [iv .i64 t16.From, iv .i64 t16.To]) rfl (by intro φ h; simp only [List.mem_cons, List.not_mem_nil, or_false] at h; rcases h with rfl | rfl <;> first | exact iv_at | exact bv_at | exact sv_at | exact slv_at | exact pv_at rfl)) rfl rfl rfl) (fun _ => ?_)
          refine l_nil ?_
          refine n_then ?_
          refine ref_seq ?_
          refine ref_seq ?_
          refine ref_region ?_
          refine s_rd (r_faddr (fo := 0) Try.underlying67 rfl rfl Try.sizeOf3 rfl) rfl ?_
          refine s_rd (r_cload Try.isAgg3 rfl (j := 1) rfl rfl) rfl ?_
          refine s_rd (r_lss rfl rfl) rfl ?_
          refine s_rd (r_move rfl) rfl ?_
          refine b_split (t := 28) rfl (fun _ => ?_) (fun _ => ?_)
          · refine s_off rfl rfl rfl rfl rfl ?_
            refine s_off rfl rfl rfl rfl rfl ?_
            refine s_off rfl rfl rfl rfl rfl ?_
            refine s_off rfl rfl rfl rfl rfl ?_
            refine s_off rfl rfl rfl rfl rfl ?_
            refine s_rd (r_pickT rfl rfl) rfl ?_
            refine s_rd (r_move rfl) rfl ?_
            refine s_off rfl rfl rfl rfl rfl ?_
            refine s_off rfl rfl rfl rfl rfl ?_
            refine s_off rfl rfl rfl rfl rfl ?_
            refine s_rd (r_pickT rfl rfl) rfl ?_
            refine s_rd (r_move rfl) rfl ?_
            refine s_off rfl rfl rfl rfl rfl ?_
            refine s_off rfl rfl rfl rfl rfl ?_
            refine s_off rfl rfl rfl rfl rfl ?_
            refine s_off rfl rfl rfl rfl rfl ?_
            refine s_off rfl rfl rfl rfl rfl ?_
            refine s_rd (r_pickT rfl rfl) rfl ?_
            refine l_nil ?_
            refine n_then ?_
            refine ref_condT rfl rfl ?_
            refine ref_seq ?_
            refine ref_region ?_
            refine s_rd (r_assign rfl) rfl ?_
            refine l_nil ?_
            refine n_then ?_
            refine ref_ret ?_
            refine r_then ?_
            refine r_block ?_
            refine r_then ?_
            refine retX ?_
            refine r_block ?_
            refine r_then ?_
            exact fin1 (.inl rfl) () [] rfl trivial rfl (rv_tmp rfl)
          · refine s_on rfl rfl rfl ?_
            refine s_rd (r_faddr (fo := 0) Try.underlying67 rfl rfl Try.sizeOf3 rfl) rfl ?_
            refine s_on rfl rfl rfl ?_
            refine s_rd (r_cload Try.isAgg3 rfl (j := 1) rfl rfl) rfl ?_
            refine s_on rfl rfl rfl ?_
            refine s_rd (r_faddr (fo := 0) Try.underlying28 rfl rfl Try.sizeOf3 rfl) rfl ?_
            refine s_on rfl rfl rfl ?_
            refine s_rd (r_cload Try.isAgg3 rfl (j := 0) rfl rfl) rfl ?_
            refine s_on rfl rfl rfl ?_
            refine s_rd (r_geq rfl rfl) rfl ?_
            refine s_rd (r_pickF rfl rfl) rfl ?_
            refine s_rd (r_move rfl) rfl ?_
            refine b_split (t := 35) rfl (fun _ => ?_) (fun _ => ?_)
            · refine s_off rfl rfl rfl rfl rfl ?_
              refine s_off rfl rfl rfl rfl rfl ?_
              refine s_off rfl rfl rfl rfl rfl ?_
              refine s_rd (r_pickT rfl rfl) rfl ?_
              refine s_rd (r_move rfl) rfl ?_
              refine s_off rfl rfl rfl rfl rfl ?_
              refine s_off rfl rfl rfl rfl rfl ?_
              refine s_off rfl rfl rfl rfl rfl ?_
              refine s_off rfl rfl rfl rfl rfl ?_
              refine s_off rfl rfl rfl rfl rfl ?_
              refine s_rd (r_pickT rfl rfl) rfl ?_
              refine l_nil ?_
              refine n_then ?_
              refine ref_condT rfl rfl ?_
              refine ref_seq ?_
              refine ref_region ?_
              refine s_rd (r_assign rfl) rfl ?_
              refine l_nil ?_
              refine n_then ?_
              refine ref_ret ?_
              refine r_then ?_
              refine r_block ?_
              refine r_then ?_
              refine retX ?_
              refine r_block ?_
              refine r_then ?_
              exact fin1 (.inl rfl) () [] rfl trivial rfl (rv_tmp rfl)
            · refine s_on rfl rfl rfl ?_
              refine s_rd (r_faddr (fo := 1) Try.underlying67 rfl rfl Try.sizeOf3 rfl) rfl ?_
              refine s_on rfl rfl rfl ?_
              refine s_rd (r_cload Try.isAgg3 rfl (j := 1) rfl rfl) rfl ?_
              refine s_on rfl rfl rfl ?_
              refine s_rd (r_lss rfl rfl) rfl ?_
              refine s_rd (r_pickF rfl rfl) rfl ?_
              refine s_rd (r_move rfl) rfl ?_
              refine b_split (t := 40) rfl (fun _ => ?_) (fun _ => ?_)
              · refine s_off rfl rfl rfl rfl rfl ?_
                refine s_off rfl rfl rfl rfl rfl ?_
                refine s_off rfl rfl rfl rfl rfl ?_
                refine s_off rfl rfl rfl rfl rfl ?_
                refine s_off rfl rfl rfl rfl rfl ?_
                refine s_rd (r_pickT rfl rfl) rfl ?_
                refine l_nil ?_
                refine n_then ?_
                refine ref_condT rfl rfl ?_
                refine ref_seq ?_
                refine ref_region ?_
                refine s_rd (r_assign rfl) rfl ?_
                refine l_nil ?_
                refine n_then ?_
                refine ref_ret ?_
                refine r_then ?_
                refine r_block ?_
                refine r_then ?_
                refine retX ?_
                refine r_block ?_
                refine r_then ?_
                exact fin1 (.inl rfl) () [] rfl trivial rfl (rv_tmp rfl)
              · refine s_on rfl rfl rfl ?_
                refine s_rd (r_faddr (fo := 1) Try.underlying67 rfl rfl Try.sizeOf3 rfl) rfl ?_
                refine s_on rfl rfl rfl ?_
                refine s_rd (r_cload Try.isAgg3 rfl (j := 1) rfl rfl) rfl ?_
                refine s_on rfl rfl rfl ?_
                refine s_rd (r_faddr (fo := 0) Try.underlying28 rfl rfl Try.sizeOf3 rfl) rfl ?_
                refine s_on rfl rfl rfl ?_
                refine s_rd (r_cload Try.isAgg3 rfl (j := 0) rfl rfl) rfl ?_
                refine s_on rfl rfl rfl ?_
                refine s_rd (r_geq rfl rfl) rfl ?_
                refine s_rd (r_pickF rfl rfl) rfl ?_
                refine l_nil ?_
                refine n_then ?_
                refine ref_cond rfl (fun hb18 => ?_) (fun hb18 => ?_)
                · refine ref_seq ?_
                  refine ref_region ?_
                  refine s_rd (r_assign rfl) rfl ?_
                  refine l_nil ?_
                  refine n_then ?_
                  refine ref_ret ?_
                  refine r_then ?_
                  refine r_block ?_
                  refine r_then ?_
                  refine retX ?_
                  refine r_block ?_
                  refine r_then ?_
                  exact fin1 (.inl rfl) () [] rfl trivial rfl (rv_tmp rfl)
                · refine ref_skip ?_
                  refine n_then ?_
                  refine ref_seq ?_
                  refine ref_draw [0, 1, 2, 3, 4, 5, 6, 7, 8, 9, 10, 11, 12, 13, 14, 15, 16, 17, 18, 19, 20, 21, 22, 23, 24, 25, 26, 27, 28, 29, 30, 31, 32, 33, 34, 35, 36, 37] rfl (by kernel_rfl) (fun hok => ?_)
                  refine a_rd (i := 0) hok rfl (by kernel_rfl) rfl (r_move rfl) rfl ?_
                  refine a_rd (i := 1) hok rfl (by kernel_rfl) rfl (r_gtr rfl rfl) rfl ?_
                  refine a_rd (i := 2) hok rfl (by kernel_rfl) rfl (r_move rfl) rfl ?_
                  refine b_split (t := 49) rfl (fun _ => ?_) (fun _ => ?_)
                  · refine a_rdOn (i := 3) hok rfl rfl rfl rfl (by kernel_rfl) rfl (r_faddr (fo := 1) Try.underlying28 rfl rfl Try.sizeOf26 rfl) rfl ?_
                    refine a_rdOn (i := 4) hok rfl rfl rfl rfl (by kernel_rfl) rfl (r_cload Try.isAgg26 rfl (j := 0) rfl rfl) rfl ?_
                    refine a_rdOn (i := 5) hok rfl rfl rfl rfl (by kernel_rfl) rfl (r_move rfl) rfl ?_
                    refine a_rdOn (i := 6) hok rfl rfl rfl rfl (by kernel_rfl) rfl (r_sub rfl rfl) rfl ?_
                    refine pull fun t19 h_t19 => ?_
                    refine a_rdOn (i := 7) hok rfl rfl rfl rfl (by kernel_rfl) rfl (r_index h_t19 Try.underlying26 el_67 rfl rfl) rfl ?_
                    refine a_rdOn (i := 8) hok rfl rfl rfl rfl (by kernel_rfl) rfl (r_fea (fo := 0) (ρ := rT_api_Pair) (y := t19) (ρ' := (rI .i64)) (z := t19.From) Try.underlying67 rfl rfl Try.sizeOf3 rfl rfl rfl) rfl ?_
                    refine a_rdOn (i := 9) hok rfl rfl rfl rfl (by kernel_rfl) rfl (r_load el_3 rfl) rfl ?_
                    refine a_rdOn (i := 10) hok rfl rfl rfl rfl (by kernel_rfl) rfl (r_faddr (fo := 0) Try.underlying67 rfl rfl Try.sizeOf3 rfl) rfl ?_
                    refine a_rdOn (i := 11) hok rfl rfl rfl rfl (by kernel_rfl) rfl (r_cload Try.isAgg3 rfl (j := 1) rfl rfl) rfl ?_
                    refine a_rdOn (i := 12) hok rfl rfl rfl rfl (by kernel_rfl) rfl (r_gtr rfl rfl) rfl ?_
                    refine a_rdOn (i := 13) hok rfl rfl rfl rfl (by kernel_rfl) rfl (r_move rfl) rfl ?_
                    refine b_split (t := 60) rfl (fun _ => ?_) (fun _ => ?_)
                    · refine a_off (i := 14) hok rfl rfl rfl rfl rfl (by kernel_rfl) rfl rfl ?_
                      refine a_off (i := 15) hok rfl rfl rfl rfl rfl (by kernel_rfl) rfl rfl ?_
                      refine a_off (i := 16) hok rfl rfl rfl rfl rfl (by kernel_rfl) rfl rfl ?_
                      refine a_off (i := 17) hok rfl rfl rfl rfl rfl (by kernel_rfl) rfl rfl ?_
                      refine a_off (i := 18) hok rfl rfl rfl rfl rfl (by kernel_rfl) rfl rfl ?_
                      refine a_off (i := 19) hok rfl rfl rfl rfl rfl (by kernel_rfl) rfl rfl ?_
                      refine a_off (i := 20) hok rfl rfl rfl rfl rfl (by kernel_rfl) rfl rfl ?_
                      refine a_off (i := 21) hok rfl rfl rfl rfl rfl (by kernel_rfl) rfl rfl ?_
                      refine a_off (i := 22) hok rfl rfl rfl rfl rfl (by kernel_rfl) rfl rfl ?_
                      refine a_off (i := 23) hok rfl rfl rfl rfl rfl (by kernel_rfl) rfl rfl ?_
                      refine a_off (i := 24) hok rfl rfl rfl rfl rfl (by kernel_rfl) rfl rfl ?_
                      refine a_offU (i := 25) hok rfl rfl rfl (by kernel_rfl) rfl rfl ?_
                      refine a_offU (i := 26) hok rfl rfl rfl (by kernel_rfl) rfl rfl ?_
                      refine a_offU (i := 27) hok rfl rfl rfl (by kernel_rfl) rfl rfl ?_
                      refine a_offU (i := 28) hok rfl rfl rfl (by kernel_rfl) rfl rfl ?_
                      refine a_offU (i := 29) hok rfl rfl rfl (by kernel_rfl) rfl rfl ?_
                      refine a_offU (i := 30) hok rfl rfl rfl (by kernel_rfl) rfl rfl ?_
                      refine a_offU (i := 31) hok rfl rfl rfl (by kernel_rfl) rfl rfl ?_
                      refine a_offU (i := 32) hok rfl rfl rfl (by kernel_rfl) rfl rfl ?_
                      refine a_offU (i := 33) hok rfl rfl rfl (by kernel_rfl) rfl rfl ?_
                      refine a_offU (i := 34) hok rfl rfl rfl (by kernel_rfl) rfl rfl ?_
                      refine a_off (i := 35) hok rfl rfl rfl rfl rfl (by kernel_rfl) rfl rfl ?_
                      refine a_rdOn (i := 36) hok rfl rfl rfl rfl (by kernel_rfl) rfl (r_pickT rfl rfl) rfl ?_
                      refine a_rd (i := 37) hok rfl (by kernel_rfl) rfl (r_pickT rfl rfl) rfl ?_
                      refine a_fin hok (by kernel_rfl) ?_
                      refine n_then ?_
                      refine ref_condT rfl rfl ?_
                      refine ref_seq ?_
                      refine ref_region ?_
                      refine s_rd (r_assign rfl) rfl ?_
                      refine l_nil ?_
                      refine n_then ?_
                      refine ref_ret ?_
                      refine r_block ?_
                      refine r_then ?_
                      refine retX ?_
                      refine r_block ?_
                      refine r_then ?_
                      exact fin1 (.inl rfl) () [] rfl trivial rfl (rv_tmp rfl)
                    · refine a_rdOn (i := 14) hok rfl rfl rfl rfl (by kernel_rfl) rfl (r_faddr (fo := 1) Try.underlying28 rfl rfl Try.sizeOf26 rfl) rfl ?_
                      refine a_rdOn (i := 15) hok rfl rfl rfl rfl (by kernel_rfl) rfl (r_cload Try.isAgg26 rfl (j := 0) rfl rfl) rfl ?_
                      refine a_rdOn (i := 16) hok rfl rfl rfl rfl (by kernel_rfl) rfl (r_move rfl) rfl ?_
                      refine a_rdOn (i := 17) hok rfl rfl rfl rfl (by kernel_rfl) rfl (r_sub rfl rfl) rfl ?_
                      refine pull fun t20 h_t20 => ?_
                      refine a_rdOn (i := 18) hok rfl rfl rfl rfl (by kernel_rfl) rfl (r_index h_t20 Try.underlying26 el_67 rfl rfl) rfl ?_
                      refine a_rdOn (i := 19) hok rfl rfl rfl rfl (by kernel_rfl) rfl (r_fea (fo := 0) (ρ := rT_api_Pair) (y := t20) (ρ' := (rI .i64)) (z := t20.From) Try.underlying67 rfl rfl Try.sizeOf3 rfl rfl rfl) rfl ?_
                      refine a_rdOn (i := 20) hok rfl rfl rfl rfl (by kernel_rfl) rfl (r_load el_3 rfl) rfl ?_
                      refine a_rdOn (i := 21) hok rfl rfl rfl rfl (by kernel_rfl) rfl (r_faddr (fo := 0) Try.underlying67 rfl rfl Try.sizeOf3 rfl) rfl ?_
                      refine a_rdOn (i := 22) hok rfl rfl rfl rfl (by kernel_rfl) rfl (r_cload Try.isAgg3 rfl (j := 1) rfl rfl) rfl ?_
                      refine a_rdOn (i := 23) hok rfl rfl rfl rfl (by kernel_rfl) rfl (r_eql rfl rfl) rfl ?_
                      refine a_rdOn (i := 24) hok rfl rfl rfl rfl (by kernel_rfl) rfl (r_move rfl) rfl ?_
                      refine b_split (t := 71) rfl (fun _ => ?_) (fun _ => ?_)
                      · refine a_rdOn (i := 25) hok rfl rfl rfl rfl (by kernel_rfl) rfl (r_faddr (fo := 1) Try.underlying28 rfl rfl Try.sizeOf26 rfl) rfl ?_
                        refine a_rdOn (i := 26) hok rfl rfl rfl rfl (by kernel_rfl) rfl (r_cload Try.isAgg26 rfl (j := 0) rfl rfl) rfl ?_
                        refine a_rdOn (i := 27) hok rfl rfl rfl rfl (by kernel_rfl) rfl (r_move rfl) rfl ?_
                        refine a_rdOn (i := 28) hok rfl rfl rfl rfl (by kernel_rfl) rfl (r_sub rfl rfl) rfl ?_
                        refine pull fun t21 h_t21 => ?_
                        refine a_rdOn (i := 29) hok rfl rfl rfl rfl (by kernel_rfl) rfl (r_index h_t21 Try.underlying26 el_67 rfl rfl) rfl ?_
                        refine a_rdOn (i := 30) hok rfl rfl rfl rfl (by kernel_rfl) rfl (r_fea (fo := 1) (ρ := rT_api_Pair) (y := t21) (ρ' := (rI .i64)) (z := t21.To) Try.underlying67 rfl rfl Try.sizeOf3 rfl rfl rfl) rfl ?_
                        refine a_rdOn (i := 31) hok rfl rfl rfl rfl (by kernel_rfl) rfl (r_load el_3 rfl) rfl ?_
                        refine a_rdOn (i := 32) hok rfl rfl rfl rfl (by kernel_rfl) rfl (r_faddr (fo := 1) Try.underlying67 rfl rfl Try.sizeOf3 rfl) rfl ?_
                        refine a_rdOn (i := 33) hok rfl rfl rfl rfl (by kernel_rfl) rfl (r_cload Try.isAgg3 rfl (j := 1) rfl rfl) rfl ?_
                        refine a_rdOn (i := 34) hok rfl rfl rfl rfl (by kernel_rfl) rfl (r_geq rfl rfl) rfl ?_
                        refine a_rdOn (i := 35) hok rfl rfl rfl rfl (by kernel_rfl) rfl (r_pickT rfl rfl) rfl ?_
                        refine a_rdOn (i := 36) hok rfl rfl rfl rfl (by kernel_rfl) rfl (r_pickF rfl rfl) rfl ?_
                        refine a_rd (i := 37) hok rfl (by kernel_rfl) rfl (r_pickT rfl rfl) rfl ?_
                        refine a_fin hok (by kernel_rfl) ?_
                        refine n_then ?_
                        refine ref_cond rfl (fun hb22 => ?_) (fun hb22 => ?_)
                        · refine ref_seq ?_
                          refine ref_region ?_
                          refine s_rd (r_assign rfl) rfl ?_
                          refine l_nil ?_
                          refine n_then ?_
                          refine ref_ret ?_
                          refine r_block ?_
                          refine r_then ?_
                          refine retX ?_
                          refine r_block ?_
                          refine r_then ?_
                          exact fin1 (.inl rfl) () [] rfl trivial rfl (rv_tmp rfl)
                        · refine ref_skip ?_
                          refine n_block ?_
                          refine n_then ?_
                          refine ref_region ?_
                          refine s_rd (r_move rfl) rfl ?_
                          refine s_rd (r_add rfl rfl) rfl ?_
                          refine s_rd (r_assign rfl) rfl ?_
                          refine b_let (f := iv .i64) (t := 3) rfl fun i23 => ?_
                          refine l_nil ?_
                          exact goX () (weak [0] ⟨rfl, rfl, trivial⟩ ⟨rfl, trivial⟩)
                      · refine a_off (i := 25) hok rfl rfl rfl rfl rfl (by kernel_rfl) rfl rfl ?_
                        refine a_off (i := 26) hok rfl rfl rfl rfl rfl (by kernel_rfl) rfl rfl ?_
                        refine a_off (i := 27) hok rfl rfl rfl rfl rfl (by kernel_rfl) rfl rfl ?_
                        refine a_off (i := 28) hok rfl rfl rfl rfl rfl (by kernel_rfl) rfl rfl ?_
                        refine a_off (i := 29) hok rfl rfl rfl rfl rfl (by kernel_rfl) rfl rfl ?_
                        refine a_off (i := 30) hok rfl rfl rfl rfl rfl (by kernel_rfl) rfl rfl ?_
                        refine a_off (i := 31) hok rfl rfl rfl rfl rfl (by kernel_rfl) rfl rfl ?_
                        refine a_off (i := 32) hok rfl rfl rfl rfl rfl (by kernel_rfl) rfl rfl ?_
                        refine a_off (i := 33) hok rfl rfl rfl rfl rfl (by kernel_rfl) rfl rfl ?_
                        refine a_off (i := 34) hok rfl rfl rfl rfl rfl (by kernel_rfl) rfl rfl ?_
                        refine a_rdOn (i := 35) hok rfl rfl rfl rfl (by kernel_rfl) rfl (r_pickF rfl rfl) rfl ?_
                        refine a_rdOn (i := 36) hok rfl rfl rfl rfl (by kernel_rfl) rfl (r_pickF rfl rfl) rfl ?_
                        refine a_rd (i := 37) hok rfl (by kernel_rfl) rfl (r_pickT rfl rfl) rfl ?_
                        refine a_fin hok (by kernel_rfl) ?_
                        refine n_then ?_
                        refine ref_condF rfl rfl ?_
                        refine ref_skip ?_
                        refine n_block ?_
                        refine n_then ?_
                        refine ref_region ?_
                        refine s_rd (r_move rfl) rfl ?_
                        refine s_rd (r_add rfl rfl) rfl ?_
                        refine s_rd (r_assign rfl) rfl ?_
                        refine b_let (f := iv .i64) (t := 3) rfl fun i24 => ?_
                        refine l_nil ?_
                        exact goX () (weak [0] ⟨rfl, rfl, trivial⟩ ⟨rfl, trivial⟩)
                  · refine a_off (i := 3) hok rfl rfl rfl rfl rfl (by kernel_rfl) rfl rfl ?_
                    refine a_off (i := 4) hok rfl rfl rfl rfl rfl (by kernel_rfl) rfl rfl ?_
                    refine a_off (i := 5) hok rfl rfl rfl rfl rfl (by kernel_rfl) rfl rfl ?_
                    refine a_off (i := 6) hok rfl rfl rfl rfl rfl (by kernel_rfl) rfl rfl ?_
                    refine a_off (i := 7) hok rfl rfl rfl rfl rfl (by kernel_rfl) rfl rfl ?_
                    refine a_off (i := 8) hok rfl rfl rfl rfl rfl (by kernel_rfl) rfl rfl ?_
                    refine a_off (i := 9) hok rfl rfl rfl rfl rfl (by kernel_rfl) rfl rfl ?_
                    refine a_off (i := 10) hok rfl rfl rfl rfl rfl (by kernel_rfl) rfl rfl ?_
                    refine a_off (i := 11) hok rfl rfl rfl rfl rfl (by kernel_rfl) rfl rfl ?_
                    refine a_off (i := 12) hok rfl rfl rfl rfl rfl (by kernel_rfl) rfl rfl ?_
                    refine a_off (i := 13) hok rfl rfl rfl rfl rfl (by kernel_rfl) rfl rfl ?_
                    refine a_offU (i := 14) hok rfl rfl rfl (by kernel_rfl) rfl rfl ?_
                    refine a_offU (i := 15) hok rfl rfl rfl (by kernel_rfl) rfl rfl ?_
                    refine a_offU (i := 16) hok rfl rfl rfl (by kernel_rfl) rfl rfl ?_
                    refine a_offU (i := 17) hok rfl rfl rfl (by kernel_rfl) rfl rfl ?_
                    refine a_offU (i := 18) hok rfl rfl rfl (by kernel_rfl) rfl rfl ?_
                    refine a_offU (i := 19) hok rfl rfl rfl (by kernel_rfl) rfl rfl ?_
                    refine a_offU (i := 20) hok rfl rfl rfl (by kernel_rfl) rfl rfl ?_
                    refine a_offU (i := 21) hok rfl rfl rfl (by kernel_rfl) rfl rfl ?_
                    refine a_offU (i := 22) hok rfl rfl rfl (by kernel_rfl) rfl rfl ?_
                    refine a_offU (i := 23) hok rfl rfl rfl (by kernel_rfl) rfl rfl ?_
                    refine a_offU (i := 24) hok rfl rfl rfl (by kernel_rfl) rfl rfl ?_
                    refine a_offU (i := 25) hok rfl rfl rfl (by kernel_rfl) rfl rfl ?_
                    refine a_offU (i := 26) hok rfl rfl rfl (by kernel_rfl) rfl rfl ?_
                    refine a_offU (i := 27) hok rfl rfl rfl (by kernel_rfl) rfl rfl ?_
                    refine a_offU (i := 28) hok rfl rfl rfl (by kernel_rfl) rfl rfl ?_
                    refine a_offU (i := 29) hok rfl rfl rfl (by kernel_rfl) rfl rfl ?_
                    refine a_offU (i := 30) hok rfl rfl rfl (by kernel_rfl) rfl rfl ?_
                    refine a_offU (i := 31) hok rfl rfl rfl (by kernel_rfl) rfl rfl ?_
                    refine a_offU (i := 32) hok rfl rfl rfl (by kernel_rfl) rfl rfl ?_
                    refine a_offU (i := 33) hok rfl rfl rfl (by kernel_rfl) rfl rfl ?_
                    refine a_offU (i := 34) hok rfl rfl rfl (by kernel_rfl) rfl rfl ?_
                    refine a_offU (i := 35) hok rfl rfl rfl (by kernel_rfl) rfl rfl ?_
                    refine a_off (i := 36) hok rfl rfl rfl rfl rfl (by kernel_rfl) rfl rfl ?_
                    refine a_rd (i := 37) hok rfl (by kernel_rfl) rfl (r_pickF rfl rfl) rfl ?_
                    refine a_fin hok (by kernel_rfl) ?_
                    refine n_then ?_
                    refine ref_condF rfl rfl ?_
                    refine ref_skip ?_
                    refine n_block ?_
                    refine n_then ?_
                    refine ref_region ?_
                    refine s_rd (r_move rfl) rfl ?_
                    refine s_rd (r_add rfl rfl) rfl ?_
                    refine s_rd (r_assign rfl) rfl ?_
                    refine b_let (f := iv .i64) (t := 3) rfl fun i25 => ?_
                    refine l_nil ?_
                    exact goX () (weak [0] ⟨rfl, rfl, trivial⟩ ⟨rfl, trivial⟩)
        · refine ref_exit ?_
          refine x_then ?_
          exact brkX () (weak [] trivial trivial)
      · refine n_then ?_
        refine ref_seq ?_
        refine ref_region ?_
        refine s_rd (r_assign rfl) rfl ?_
        refine l_nil ?_
        refine n_then ?_
        refine ref_ret ?_
        exact fin1 (.inl rfl) () [] rfl trivial rfl (rv_tmp rfl)

/-! deliberation/deliberationref27.New -/
noncomputable def ref27_New_m (g_0 : T_api_Graph) (root_1 : Int) (limits_2 : T_arr2_3) : Option (T_api_Dialogue × Int) :=
  Option.bind (ref10_Validate_m g_0) fun e4 =>
  bif e4 != 0 then
    some ((T_api_Dialogue.mk (T_api_Graph.mk 0 []) 0 (T_arr2_3.mk 0 0) []), e4)
  else
    bif decide (root_1 < 0) then
      some ((T_api_Dialogue.mk (T_api_Graph.mk 0 []) 0 (T_arr2_3.mk 0 0) []), 1)
    else
      bif decide (root_1 ≥ g_0.N) then
        some ((T_api_Dialogue.mk (T_api_Graph.mk 0 []) 0 (T_arr2_3.mk 0 0) []), 1)
      else
        bif decide (limits_2.i0 < 1) then
          some ((T_api_Dialogue.mk (T_api_Graph.mk 0 []) 0 (T_arr2_3.mk 0 0) []), 1)
        else
          bif decide (limits_2.i0 > 200) then
            some ((T_api_Dialogue.mk (T_api_Graph.mk 0 []) 0 (T_arr2_3.mk 0 0) []), 1)
          else
            bif decide (limits_2.i1 < 0) then
              some ((T_api_Dialogue.mk (T_api_Graph.mk 0 []) 0 (T_arr2_3.mk 0 0) []), 1)
            else
              bif decide (limits_2.i1 > 200) then
                some ((T_api_Dialogue.mk (T_api_Graph.mk 0 []) 0 (T_arr2_3.mk 0 0) []), 1)
              else
                some ((T_api_Dialogue.mk g_0 root_1 limits_2 [(T_api_Move.mk 1 1 root_1 0)]), 0)

theorem ref27_New_ok {g_0 : T_api_Graph} {root_1 : Int} {limits_2 : T_arr2_3} {r : T_api_Dialogue × Int} (hm : ref27_New_m g_0 root_1 limits_2 = some r) :
    FnOk prog 21 [ag [iv .i64 g_0.N, slv rT_api_Pair g_0.L], iv .i64 root_1, ag [iv .i64 limits_2.i0, iv .i64 limits_2.i1]] [] (fun (x : Unit) => [ag [iv .i64 r.1.Graph.N, slv rT_api_Pair r.1.Graph.L, iv .i64 r.1.Root, iv .i64 r.1.Limits.i0, iv .i64 r.1.Limits.i1, slv rT_api_Move r.1.Moves], iv .i64 r.2]) (fun (x : Unit) => []) := by
  refine fn_ok (X := Unit) (fn := Try.f21) (N := 51) (m := ref27_New_m g_0 root_1 limits_2) (res := fun r x => [ag [iv .i64 r.1.Graph.N, slv rT_api_Pair r.1.Graph.L, iv .i64 r.1.Root, iv .i64 r.1.Limits.i0, iv .i64 r.1.Limits.i1, slv rT_api_Move r.1.Moves], iv .i64 r.2]) (Ω1 := fun r x => []) Try.func21 rfl rfl hm rfl (fun E hM => ?_)
  unfold ref27_New_m
  refine ref_seq ?_
  refine ref_region ?_
  refine s_st (s_box (part_ag (ψs := [iv .i64 g_0.N, slv rT_api_Pair g_0.L]) rfl (by intro φ h; simp only [List.mem_cons, List.not_mem_nil, or_false] at h; rcases h with rfl | rfl <;> first | exact iv_at | exact bv_at | exact sv_at | exact slv_at | exact pv_at rfl))) rfl (fun b1 => ?_)
  refine s_st (s_box (part_ag (ψs := [iv .i64 limits_2.i0, iv .i64 limits_2.i1]) rfl (by intro φ h; simp only [List.mem_cons, List.not_mem_nil, or_false] at h; rcases h with rfl | rfl <;> first | exact iv_at | exact bv_at | exact sv_at | exact slv_at | exact pv_at rfl))) rfl (fun b2 => ?_)
  refine s_st (s_alloc zt_35) rfl (fun b3 => ?_)
  refine s_rd (r_assign rfl) rfl ?_
  refine l_nil ?_
  refine n_then ?_
  refine ref_seq ?_
  refine ref_seq ?_
  refine ref_region ?_
  refine s_rd (r_cloadS Try.isAgg28 Try.sizeOf28 rfl (j := 0) rfl rfl rfl) rfl ?_
  refine pull fun e4 h_e4 => ?_
  refine s_st (s_call (ψ := fun (_ : Unit) => iv .i64 e4) (args := [.tmp 9]) Try.call51 rfl (ref10_Validate_ok h_e4) ⟨arg rfl, trivial⟩ (fun _ _ _ _ h => h)) rfl (fun _ => ?_)
  refine s_rd (r_assign rfl) rfl ?_
  refine l_nil ?_
  refine b_of (nrm [oc b1 [iv .i64 g_0.N, slv rT_api_Pair g_0.L], oc b2 [iv .i64 limits_2.i0, iv .i64 limits_2.i1], oc b3 [iv .i64 0, pv (.slice none 0 0), iv .i64 0, iv .i64 0, iv .i64 0, pv (.slice none 0 0)]] rfl) ?_
  refine n_then ?_
  refine ref_seq ?_
  refine ref_region ?_
  refine s_rd (r_move rfl) rfl ?_
  refine s_rd (r_neq rfl rfl) rfl ?_
  refine l_nil ?_
  refine n_then ?_
  refine ref_cond rfl (fun hb5 => ?_) (fun hb5 => ?_)
  · refine ref_seq ?_
    refine ref_region ?_
    refine s_rd (r_build (ps := []) (rs := []) st_35 zs_35 trivial rfl rfl) rfl ?_
    refine s_rd (r_move rfl) rfl ?_
    refine s_st0 (s_cstore (out := [iv .i64 0, pv (.slice none 0 0), iv .i64 0, iv .i64 0, iv .i64 0, pv (.slice none 0 0)]) Try.sizeOf35 rfl (j := 2) rfl (part_agO (ψs := [iv .i64 0, pv (.slice none 0 0), iv .i64 0, iv .i64 0, iv .i64 0, pv (.slice none 0 0)]) rfl ⟨.inl iv_at, .inl (pv_at rfl), .inl iv_at, .inl iv_at, .inl iv_at, .inl (pv_at rfl), trivial⟩) rfl rfl rfl) (fun _ => ?_)
    refine s_rd (r_assign rfl) rfl ?_
    refine l_nil ?_
    refine n_then ?_
    refine ref_ret ?_
    refine r_then ?_
    refine b_of (ocW 2 [iv .i64 0, slv rT_api_Pair [], iv .i64 0, iv .i64 0, iv .i64 0, slv rT_api_Move []] rfl ⟨imp_rfl, nil_sl, imp_rfl, imp_rfl, imp_rfl, nil_sl, trivial⟩) ?_
    exact fin2 (.inl rfl) () [] rfl trivial rfl (rv_cell rfl (j := 2) rfl Try.isAgg35 Try.sizeOf35 rfl rfl) (rv_tmp rfl)
  · refine ref_skip ?_
    refine n_then ?_
    refine ref_seq ?_
    refine ref_seq ?_
    refine ref_region ?_
    refine s_rd (r_move rfl) rfl ?_
    refine s_rd (r_lss rfl rfl) rfl ?_
    refine s_rd (r_move rfl) rfl ?_
    refine b_split (t := 17) rfl (fun _ => ?_) (fun _ => ?_)
    · refine s_off rfl rfl rfl rfl rfl ?_
      refine s_off rfl rfl rfl rfl rfl ?_
      refine s_off rfl rfl rfl rfl rfl ?_
      refine s_off rfl rfl rfl rfl rfl ?_
      refine s_rd (r_pickT rfl rfl) rfl ?_
      refine s_rd (r_move rfl) rfl ?_
      refine s_off rfl rfl rfl rfl rfl ?_
      refine s_off rfl rfl rfl rfl rfl ?_
      refine s_off rfl rfl rfl rfl rfl ?_
      refine s_rd (r_pickT rfl rfl) rfl ?_
      refine s_rd (r_move rfl) rfl ?_
      refine s_off rfl rfl rfl rfl rfl ?_
      refine s_off rfl rfl rfl rfl rfl ?_
      refine s_off rfl rfl rfl rfl rfl ?_
      refine s_rd (r_pickT rfl rfl) rfl ?_
      refine s_rd (r_move rfl) rfl ?_
      refine s_off rfl rfl rfl rfl rfl ?_
      refine s_off rfl rfl rfl rfl rfl ?_
      refine s_off rfl rfl rfl rfl rfl ?_
      refine s_rd (r_pickT rfl rfl) rfl ?_
      refine s_rd (r_move rfl) rfl ?_
      refine s_off rfl rfl rfl rfl rfl ?_
      refine s_off rfl rfl rfl rfl rfl ?_
      refine s_off rfl rfl rfl rfl rfl ?_
      refine s_rd (r_pickT rfl rfl) rfl ?_
      refine l_nil ?_
      refine n_then ?_
      refine ref_condT rfl rfl ?_
      refine ref_seq ?_
      refine ref_region ?_
      refine s_rd (r_build (ps := []) (rs := []) st_35 zs_35 trivial rfl rfl) rfl ?_
      refine s_st0 (s_cstore (out := [iv .i64 0, pv (.slice none 0 0), iv .i64 0, iv .i64 0, iv .i64 0, pv (.slice none 0 0)]) Try.sizeOf35 rfl (j := 2) rfl (part_agO (ψs := [iv .i64 0, pv (.slice none 0 0), iv .i64 0, iv .i64 0, iv .i64 0, pv (.slice none 0 0)]) rfl ⟨.inl iv_at, .inl (pv_at rfl), .inl iv_at, .inl iv_at, .inl iv_at, .inl (pv_at rfl), trivial⟩) rfl rfl rfl) (fun _ => ?_)
      refine s_rd (r_assign rfl) rfl ?_
      refine l_nil ?_
      refine n_then ?_
      refine ref_ret ?_
      refine r_then ?_
      refine b_of (ocW 2 [iv .i64 0, slv rT_api_Pair [], iv .i64 0, iv .i64 0, iv .i64 0, slv rT_api_Move []] rfl ⟨imp_rfl, nil_sl, imp_rfl, imp_rfl, imp_rfl, nil_sl, trivial⟩) ?_
      exact fin2 (.inl rfl) () [] rfl trivial rfl (rv_cell rfl (j := 2) rfl Try.isAgg35 Try.sizeOf35 rfl rfl) (rv_tmp rfl)
    · refine s_on rfl rfl rfl ?_
      refine s_rd (r_move rfl) rfl ?_
      refine s_on rfl rfl rfl ?_
      refine s_rd (r_faddr (fo := 0) Try.underlying28 rfl rfl Try.sizeOf3 rfl) rfl ?_
      refine s_on rfl rfl rfl ?_
      refine s_rd (r_cload Try.isAgg3 rfl (j := 0) rfl rfl) rfl ?_
      refine s_on rfl rfl rfl ?_
      refine s_rd (r_geq rfl rfl) rfl ?_
      refine s_rd (r_pickF rfl rfl) rfl ?_
      refine s_rd (r_move rfl) rfl ?_
      refine b_split (t := 23) rfl (fun _ => ?_) (fun _ => ?_)
      · refine s_off rfl rfl rfl rfl rfl ?_
        refine s_off rfl rfl rfl rfl rfl ?_
        refine s_off rfl rfl rfl rfl rfl ?_
        refine s_rd (r_pickT rfl rfl) rfl ?_
        refine s_rd (r_move rfl) rfl ?_
        refine s_off rfl rfl rfl rfl rfl ?_
        refine s_off rfl rfl rfl rfl rfl ?_
        refine s_off rfl rfl rfl rfl rfl ?_
        refine s_rd (r_pickT rfl rfl) rfl ?_
        refine s_rd (r_move rfl) rfl ?_
        refine s_off rfl rfl rfl rfl rfl ?_
        refine s_off rfl rfl rfl rfl rfl ?_
        refine s_off rfl rfl rfl rfl rfl ?_
        refine s_rd (r_pickT rfl rfl) rfl ?_
        refine s_rd (r_move rfl) rfl ?_
        refine s_off rfl rfl rfl rfl rfl ?_
        refine s_off rfl rfl rfl rfl rfl ?_
        refine s_off rfl rfl rfl rfl rfl ?_
        refine s_rd (r_pickT rfl rfl) rfl ?_
        refine l_nil ?_
        refine n_then ?_
        refine ref_condT rfl rfl ?_
        refine ref_seq ?_
        refine ref_region ?_
        refine s_rd (r_build (ps := []) (rs := []) st_35 zs_35 trivial rfl rfl) rfl ?_
        refine s_st0 (s_cstore (out := [iv .i64 0, pv (.slice none 0 0), iv .i64 0, iv .i64 0, iv .i64 0, pv (.slice none 0 0)]) Try.sizeOf35 rfl (j := 2) rfl (part_agO (ψs := [iv .i64 0, pv (.slice none 0 0), iv .i64 0, iv .i64 0, iv .i64 0, pv (.slice none 0 0)]) rfl ⟨.inl iv_at, .inl (pv_at rfl), .inl iv_at, .inl iv_at, .inl iv_at, .inl (pv_at rfl), trivial⟩) rfl rfl rfl) (fun _ => ?_)
        refine s_rd (r_assign rfl) rfl ?_
        refine l_nil ?_
        refine n_then ?_
        refine ref_ret ?_
        refine r_then ?_
        refine b_of (ocW 2 [iv .i64 0, slv rT_api_Pair [], iv .i64 0, iv .i64 0, iv .i64 0, slv rT_api_Move []] rfl ⟨imp_rfl, nil_sl, imp_rfl, imp_rfl, imp_rfl, nil_sl, trivial⟩) ?_
        exact fin2 (.inl rfl) () [] rfl trivial rfl (rv_cell rfl (j := 2) rfl Try.isAgg35 Try.sizeOf35 rfl rfl) (rv_tmp rfl)
      · refine s_on rfl rfl rfl ?_
        refine s_rd (r_aaddr (sz := 1) ⟨by decide, by decide⟩ Try.underlying33 Try.sizeOf3 rfl rfl) rfl ?_
        refine s_on rfl rfl rfl ?_
        refine s_rd (r_cload Try.isAgg3 rfl (j := 1) rfl rfl) rfl ?_
        refine s_on rfl rfl rfl ?_
        refine s_rd (r_lss rfl rfl) rfl ?_
        refine s_rd (r_pickF rfl rfl) rfl ?_
        refine s_rd (r_move rfl) rfl ?_
        refine b_split (t := 28) rfl (fun _ => ?_) (fun _ => ?_)
        · refine s_off rfl rfl rfl rfl rfl ?_
          refine s_off rfl rfl rfl rfl rfl ?_
          refine s_off rfl rfl rfl rfl rfl ?_
          refine s_rd (r_pickT rfl rfl) rfl ?_
          refine s_rd (r_move rfl) rfl ?_
          refine s_off rfl rfl rfl rfl rfl ?_
          refine s_off rfl rfl rfl rfl rfl ?_
          refine s_off rfl rfl rfl rfl rfl ?_
          refine s_rd (r_pickT rfl rfl) rfl ?_
          refine s_rd (r_move rfl) rfl ?_
          refine s_off rfl rfl rfl rfl rfl ?_
          refine s_off rfl rfl rfl rfl rfl ?_
          refine s_off rfl rfl rfl rfl rfl ?_
          refine s_rd (r_pickT rfl rfl) rfl ?_
          refine l_nil ?_
          refine n_then ?_
          refine ref_condT rfl rfl ?_
          refine ref_seq ?_
          refine ref_region ?_
          refine s_rd (r_build (ps := []) (rs := []) st_35 zs_35 trivial rfl rfl) rfl ?_
          refine s_st0 (s_cstore (out := [iv .i64 0, pv (.slice none 0 0), iv .i64 0, iv .i64 0, iv .i64 0, pv (.slice none 0 0)]) Try.sizeOf35 rfl (j := 2) rfl (part_agO (ψs := [iv .i64 0, pv (.slice none 0 0), iv .i64 0, iv .i64 0, iv .i64 0, pv (.slice none 0 0)]) rfl ⟨.inl iv_at, .inl (pv_at rfl), .inl iv_at, .inl iv_at, .inl iv_at, .inl (pv_at rfl), trivial⟩) rfl rfl rfl) (fun _ => ?_)
          refine s_rd (r_assign rfl) rfl ?_
          refine l_nil ?_
          refine n_then ?_
          refine ref_ret ?_
          refine r_then ?_
          refine b_of (ocW 2 [iv .i64 0, slv rT_api_Pair [], iv .i64 0, iv .i64 0, iv .i64 0, slv rT_api_Move []] rfl ⟨imp_rfl, nil_sl, imp_rfl, imp_rfl, imp_rfl, nil_sl, trivial⟩) ?_
          exact fin2 (.inl rfl) () [] rfl trivial rfl (rv_cell rfl (j := 2) rfl Try.isAgg35 Try.sizeOf35 rfl rfl) (rv_tmp rfl)
        · refine s_on rfl rfl rfl ?_
          refine s_rd (r_aaddr (sz := 1) ⟨by decide, by decide⟩ Try.underlying33 Try.sizeOf3 rfl rfl) rfl ?_
          refine s_on rfl rfl rfl ?_
          refine s_rd (r_cload Try.isAgg3 rfl (j := 1) rfl rfl) rfl ?_
          refine s_on rfl rfl rfl ?_
          refine s_rd (r_gtr rfl rfl) rfl ?_
          refine s_rd (r_pickF rfl rfl) rfl ?_
          refine s_rd (r_move rfl) rfl ?_
          refine b_split (t := 33) rfl (fun _ => ?_) (fun _ => ?_)
          · refine s_off rfl rfl rfl rfl rfl ?_
            refine s_off rfl rfl rfl rfl rfl ?_
            refine s_off rfl rfl rfl rfl rfl ?_
            refine s_rd (r_pickT rfl rfl) rfl ?_
            refine s_rd (r_move rfl) rfl ?_
            refine s_off rfl rfl rfl rfl rfl ?_
            refine s_off rfl rfl rfl rfl rfl ?_
            refine s_off rfl rfl rfl rfl rfl ?_
            refine s_rd (r_pickT rfl rfl) rfl ?_
            refine l_nil ?_
            refine n_then ?_
            refine ref_condT rfl rfl ?_
            refine ref_seq ?_
            refine ref_region ?_
            refine s_rd (r_build (ps := []) (rs := []) st_35 zs_35 trivial rfl rfl) rfl ?_
            refine s_st0 (s_cstore (out := [iv .i64 0, pv (.slice none 0 0), iv .i64 0, iv .i64 0, iv .i64 0, pv (.slice none 0 0)]) Try.sizeOf35 rfl (j := 2) rfl (part_agO (ψs := [iv .i64 0, pv (.slice none 0 0), iv .i64 0, iv .i64 0, iv .i64 0, pv (.slice none 0 0)]) rfl ⟨.inl iv_at, .inl (pv_at rfl), .inl iv_at, .inl iv_at, .inl iv_at, .inl (pv_at rfl), trivial⟩) rfl rfl rfl) (fun _ => ?_)
            refine s_rd (r_assign rfl) rfl ?_
            refine l_nil ?_
            refine n_then ?_
            refine ref_ret ?_
            refine r_then ?_
            refine b_of (ocW 2 [iv .i64 0, slv rT_api_Pair [], iv .i64 0, iv .i64 0, iv .i64 0, slv rT_api_Move []] rfl ⟨imp_rfl, nil_sl, imp_rfl, imp_rfl, imp_rfl, nil_sl, trivial⟩) ?_
            exact fin2 (.inl rfl) () [] rfl trivial rfl (rv_cell rfl (j := 2) rfl Try.isAgg35 Try.sizeOf35 rfl rfl) (rv_tmp rfl)
          · refine s_on rfl rfl rfl ?_
            refine s_rd (r_aaddr (sz := 1) ⟨by decide, by decide⟩ Try.underlying33 Try.sizeOf3 rfl rfl) rfl ?_
            refine s_on rfl rfl rfl ?_
            refine s_rd (r_cload Try.isAgg3 rfl (j := 1) rfl rfl) rfl ?_
            refine s_on rfl rfl rfl ?_
            refine s_rd (r_lss rfl rfl) rfl ?_
            refine s_rd (r_pickF rfl rfl) rfl ?_
            refine s_rd (r_move rfl) rfl ?_
            refine b_split (t := 38) rfl (fun _ => ?_) (fun _ => ?_)
            · refine s_off rfl rfl rfl rfl rfl ?_
              refine s_off rfl rfl rfl rfl rfl ?_
              refine s_off rfl rfl rfl rfl rfl ?_
              refine s_rd (r_pickT rfl rfl) rfl ?_
              refine l_nil ?_
              refine n_then ?_
              refine ref_condT rfl rfl ?_
              refine ref_seq ?_
              refine ref_region ?_
              refine s_rd (r_build (ps := []) (rs := []) st_35 zs_35 trivial rfl rfl) rfl ?_
              refine s_st0 (s_cstore (out := [iv .i64 0, pv (.slice none 0 0), iv .i64 0, iv .i64 0, iv .i64 0, pv (.slice none 0 0)]) Try.sizeOf35 rfl (j := 2) rfl (part_agO (ψs := [iv .i64 0, pv (.slice none 0 0), iv .i64 0, iv .i64 0, iv .i64 0, pv (.slice none 0 0)]) rfl ⟨.inl iv_at, .inl (pv_at rfl), .inl iv_at, .inl iv_at, .inl iv_at, .inl (pv_at rfl), trivial⟩) rfl rfl rfl) (fun _ => ?_)
              refine s_rd (r_assign rfl) rfl ?_
              refine l_nil ?_
              refine n_then ?_
              refine ref_ret ?_
              refine r_then ?_
              refine b_of (ocW 2 [iv .i64 0, slv rT_api_Pair [], iv .i64 0, iv .i64 0, iv .i64 0, slv rT_api_Move []] rfl ⟨imp_rfl, nil_sl, imp_rfl, imp_rfl, imp_rfl, nil_sl, trivial⟩) ?_
              exact fin2 (.inl rfl) () [] rfl trivial rfl (rv_cell rfl (j := 2) rfl Try.isAgg35 Try.sizeOf35 rfl rfl) (rv_tmp rfl)
            · refine s_on rfl rfl rfl ?_
              refine s_rd (r_aaddr (sz := 1) ⟨by decide, by decide⟩ Try.underlying33 Try.sizeOf3 rfl rfl) rfl ?_
              refine s_on rfl rfl rfl ?_
              refine s_rd (r_cload Try.isAgg3 rfl (j := 1) rfl rfl) rfl ?_
              refine s_on rfl rfl rfl ?_
              refine s_rd (r_gtr rfl rfl) rfl ?_
              refine s_rd (r_pickF rfl rfl) rfl ?_
              refine l_nil ?_
              refine n_then ?_
              refine ref_cond rfl (fun hb6 => ?_) (fun hb6 => ?_)
              · refine ref_seq ?_
                refine ref_region ?_
                refine s_rd (r_build (ps := []) (rs := []) st_35 zs_35 trivial rfl rfl) rfl ?_
                refine s_st0 (s_cstore (out := [iv .i64 0, pv (.slice none 0 0), iv .i64 0, iv .i64 0, iv .i64 0, pv (.slice none 0 0)]) Try.sizeOf35 rfl (j := 2) rfl (part_agO (ψs := [iv .i64 0, pv (.slice none 0 0), iv .i64 0, iv .i64 0, iv .i64 0, pv (.slice none 0 0)]) rfl ⟨.inl iv_at, .inl (pv_at rfl), .inl iv_at, .inl iv_at, .inl iv_at, .inl (pv_at rfl), trivial⟩) rfl rfl rfl) (fun _ => ?_)
                refine s_rd (r_assign rfl) rfl ?_
                refine l_nil ?_
                refine n_then ?_
                refine ref_ret ?_
                refine r_then ?_
                refine b_of (ocW 2 [iv .i64 0, slv rT_api_Pair [], iv .i64 0, iv .i64 0, iv .i64 0, slv rT_api_Move []] rfl ⟨imp_rfl, nil_sl, imp_rfl, imp_rfl, imp_rfl, nil_sl, trivial⟩) ?_
                exact fin2 (.inl rfl) () [] rfl trivial rfl (rv_cell rfl (j := 2) rfl Try.isAgg35 Try.sizeOf35 rfl rfl) (rv_tmp rfl)
              · refine ref_skip ?_
                refine n_then ?_
                refine ref_seq ?_
                refine ref_region ?_
                refine s_rd (r_cloadS Try.isAgg28 Try.sizeOf28 rfl (j := 0) rfl rfl rfl) rfl ?_
                refine s_rd (r_move rfl) rfl ?_
                refine s_rd (r_cloadS Try.isAgg33 Try.sizeOf33 rfl (j := 1) rfl rfl rfl) rfl ?_
                refine s_rd (r_move rfl) rfl ?_
                refine s_rd (r_build (ps := [(0, .const (.int .i64 (1))), (1, .const (.int .i64 (1))), (2, .tmp 47)]) (rs := [(0, [iv .i64 1]), (1, [iv .i64 1]), (2, [iv .i64 root_1])]) st_40 zs_40 ⟨rfl, (part_at rfl iv_at), ⟨rfl, (part_at rfl iv_at), ⟨rfl, (part_at rfl iv_at), trivial⟩⟩⟩ rfl rfl) rfl ?_
                refine s_st (s_bslice (xs := [.tmp 48]) (ds := [(T_api_Move.mk 1 1 root_1 0)]) Try.underlying23 el_40 rfl (Nat.le_of_ble_eq_true rfl) ⟨(part_ag (ψs := [iv .i64 1, iv .i64 1, iv .i64 root_1, iv .i64 0]) rfl (by intro φ h; simp only [List.mem_cons, List.not_mem_nil, or_false] at h; rcases h with rfl | rfl | rfl | rfl <;> first | exact iv_at | exact bv_at | exact sv_at | exact slv_at | exact pv_at rfl)), trivial⟩) rfl (fun _ => ?_)
                refine s_rd (r_build (ps := [(0, .tmp 44), (1, .tmp 45), (2, .tmp 46), (3, .tmp 49)]) (rs := [(0, [iv .i64 g_0.N, slv rT_api_Pair g_0.L]), (1, [iv .i64 root_1]), (2, [iv .i64 limits_2.i0, iv .i64 limits_2.i1]), (3, [slv rT_api_Move [(T_api_Move.mk 1 1 root_1 0)]])]) st_35 zs_35 ⟨rfl, (part_ag (ψs := [iv .i64 g_0.N, slv rT_api_Pair g_0.L]) rfl (by intro φ h; simp only [List.mem_cons, List.not_mem_nil, or_false] at h; rcases h with rfl | rfl <;> first | exact iv_at | exact bv_at | exact sv_at | exact slv_at | exact pv_at rfl)), ⟨rfl, (part_at rfl iv_at), ⟨rfl, (part_ag (ψs := [iv .i64 limits_2.i0, iv .i64 limits_2.i1]) rfl (by intro φ h; simp only [List.mem_cons, List.not_mem_nil, or_false] at h; rcases h with rfl | rfl <;> first | exact iv_at | exact bv_at | exact sv_at | exact slv_at | exact pv_at rfl)), ⟨rfl, (part_at rfl slv_at), trivial⟩⟩⟩⟩ rfl rfl) rfl ?_
                refine s_st0 (s_cstore (out := [iv .i64 g_0.N, slv rT_api_Pair g_0.L, iv .i64 root_1, iv .i64 limits_2.i0, iv .i64 limits_2.i1, slv rT_api_Move [(T_api_Move.mk 1 1 root_1 0)]]) Try.sizeOf35 rfl (j := 2) rfl (part_ag (ψs := [iv .i64 g_0.N, slv rT_api_Pair g_0.L, iv .i64 root_1, iv .i64 limits_2.i0, iv .i64 limits_2.i1, slv rT_api_Move [(T_api_Move.mk 1 1 root_1 0)]]) rfl (by intro φ h; simp only [List.mem_cons, List.not_mem_nil, or_false] at h; rcases h with rfl | rfl | rfl | rfl | rfl | rfl <;> first | exact iv_at | exact bv_at | exact sv_at | exact slv_at | exact pv_at rfl)) rfl rfl rfl) (fun _ => ?_)
                refine s_rd (r_assign rfl) rfl ?_
                refine l_nil ?_
                refine n_then ?_
                refine ref_ret ?_
                exact fin2 (.inl rfl) () [] rfl trivial rfl (rv_cell rfl (j := 2) rfl Try.isAgg35 Try.sizeOf35 rfl rfl) (rv_tmp rfl)

/-! deliberation/deliberationref28.Full -/
noncomputable def ref28_Full_l1 (g_0 : T_api_Graph) (s23 : Int × (List Int)) : Option (Sum ((List Int)) (Int × (List Int))) :=
  bif decide (s23.1 < g_0.N) then
    Option.bind (appM 8 s23.2 [s23.1]) fun t26 =>
    letM (iadd .i64 s23.1 1) fun a_28 =>
    some (Sum.inr (a_28, t26))
  else
    some (Sum.inl s23.2)

noncomputable def ref28_Full_m (g_0 : T_api_Graph) (style_1 : Int) : Option (T_api_Player) :=
  Option.bind (ref10_Validate_m g_0) fun t3 =>
  bif t3 != 0 then
    some (T_api_Player.mk [] [] [] 0)
  else
    Option.bind (loopC (ref28_Full_l1 g_0) (0, [])) fun q29 : (List Int) =>
    some (T_api_Player.mk q29 [] [] style_1)

theorem ref28_Full_ok {g_0 : T_api_Graph} {style_1 : Int} {r : T_api_Player} (hm : ref28_Full_m g_0 style_1 = some r) :
    FnOk prog 18 [ag [iv .i64 g_0.N, slv rT_api_Pair g_0.L], iv .i64 style_1] [] (fun (x : Unit) => [ag [slv (rI .i64) r.Pool, pv (.slice none 0 0), pv (.slice none 0 0), iv .i64 r.Style]]) (fun (x : Unit) => []) := by
  refine fn_ok (X := Unit) (fn := Try.f18) (N := 26) (m := ref28_Full_m g_0 style_1) (res := fun r x => [ag [slv (rI .i64) r.Pool, pv (.slice none 0 0), pv (.slice none 0 0), iv .i64 r.Style]]) (Ω1 := fun r x => []) Try.func18 rfl rfl hm rfl (fun E hM => ?_)
  unfold ref28_Full_m
  refine ref_seq ?_
  refine ref_region ?_
  refine s_st (s_box (part_ag (ψs := [iv .i64 g_0.N, slv rT_api_Pair g_0.L]) rfl (by intro φ h; simp only [List.mem_cons, List.not_mem_nil, or_false] at h; rcases h with rfl | rfl <;> first | exact iv_at | exact bv_at | exact sv_at | exact slv_at | exact pv_at rfl))) rfl (fun b1 => ?_)
  refine s_st (s_alloc zt_25) rfl (fun b2 => ?_)
  refine l_nil ?_
  refine n_then ?_
  refine ref_seq ?_
  refine ref_seq ?_
  refine ref_region ?_
  refine s_rd (r_cloadS Try.isAgg28 Try.sizeOf28 rfl (j := 0) rfl rfl rfl) rfl ?_
  refine pull fun t3 h_t3 => ?_
  refine s_st (s_call (ψ := fun (_ : Unit) => iv .i64 t3) (args := [.tmp 7]) Try.call51 rfl (ref10_Validate_ok h_t3) ⟨arg rfl, trivial⟩ (fun _ _ _ _ h => h)) rfl (fun _ => ?_)
  refine s_rd (r_neq rfl rfl) rfl ?_
  refine l_nil ?_
  refine n_then ?_
  refine ref_cond rfl (fun hb4 => ?_) (fun hb4 => ?_)
  · refine ref_seq ?_
    refine ref_region ?_
    refine s_rd (r_build (ps := []) (rs := []) st_25 zs_25 trivial rfl rfl) rfl ?_
    refine s_st0 (s_cstore (out := [pv (.slice none 0 0), pv (.slice none 0 0), pv (.slice none 0 0), iv .i64 0]) Try.sizeOf25 rfl (j := 1) rfl (part_agO (ψs := [pv (.slice none 0 0), pv (.slice none 0 0), pv (.slice none 0 0), iv .i64 0]) rfl ⟨.inl (pv_at rfl), .inl (pv_at rfl), .inl (pv_at rfl), .inl iv_at, trivial⟩) rfl rfl rfl) (fun _ => ?_)
    refine l_nil ?_
    refine b_of (nrm [oc b1 [iv .i64 g_0.N, slv rT_api_Pair g_0.L], oc b2 [pv (.slice none 0 0), pv (.slice none 0 0), pv (.slice none 0 0), iv .i64 0]] rfl) ?_
    refine n_then ?_
    refine ref_ret ?_
    refine r_then ?_
    refine b_of (ocW 1 [slv (rI .i64) [], pv (.slice none 0 0), pv (.slice none 0 0), iv .i64 0] rfl ⟨nil_sl, imp_rfl, imp_rfl, imp_rfl, trivial⟩) ?_
    exact fin1 (.inl rfl) () [] rfl trivial rfl (rv_cell rfl (j := 1) rfl Try.isAgg25 Try.sizeOf25 rfl rfl)
  · refine ref_skip ?_
    refine n_then ?_
    refine ref_seq ?_
    refine ref_region ?_
    refine s_rd (r_move rfl) rfl ?_
    refine s_rd (r_build (ps := [(3, .tmp 11)]) (rs := [(3, [iv .i64 style_1])]) st_25 zs_25 ⟨rfl, (part_at rfl iv_at), trivial⟩ rfl rfl) rfl ?_
    refine s_st (s_alloc zt_25) rfl (fun b5 => ?_)
    refine s_st0 (s_cstore (out := [pv (.slice none 0 0), pv (.slice none 0 0), pv (.slice none 0 0), iv .i64 style_1]) Try.sizeOf25 rfl (j := 2) rfl (part_agO (ψs := [pv (.slice none 0 0), pv (.slice none 0 0), pv (.slice none 0 0), iv .i64 style_1]) rfl ⟨.inl (pv_at rfl), .inl (pv_at rfl), .inl (pv_at rfl), .inl iv_at, trivial⟩) rfl rfl rfl) (fun _ => ?_)
    refine l_nil ?_
    refine b_of (nrm [oc b1 [iv .i64 g_0.N, slv rT_api_Pair g_0.L], oc b2 [pv (.slice none 0 0), pv (.slice none 0 0), pv (.slice none 0 0), iv .i64 0], oc b5 [pv (.slice none 0 0), pv (.slice none 0 0), pv (.slice none 0 0), iv .i64 style_1]] rfl) ?_
    refine n_then ?_
    refine ref_seq ?_
    refine ref_seq ?_
    refine ref_region ?_
    refine s_rd (r_assign rfl) rfl ?_
    refine l_nil ?_
    refine n_then ?_
    refine b_of (own_nil (rI .i64)) ?_
    refine ref_loopB (f := (ref28_Full_l1 g_0)) (Γl := (fun (s23 : Int × (List Int)) (x24 : (Value × List Nat)) => [(2, pv (ptr b1 0)), (4, pv (ptr b2 0)), (5, pv (ptr b5 0)), (6, iv .i64 s23.1)])) (Ωl := (fun (s23 : Int × (List Int)) (x24 : (Value × List Nat)) => [oc b1 [iv .i64 g_0.N, slv rT_api_Pair g_0.L], oc b2 [pv (.slice none 0 0), pv (.slice none 0 0), pv (.slice none 0 0), iv .i64 0], oc b5 [pv x24.1, pv (.slice none 0 0), pv (.slice none 0 0), iv .i64 style_1], oa (rI .i64) x24.1 x24.2 s23.2])) (Γb := (fun (q29 : (List Int)) (y30 : (Value × List Nat)) => [(4, pv (ptr b2 0)), (5, pv (ptr b5 0))])) (Ωb := (fun (q29 : (List Int)) (y30 : (Value × List Nat)) => [oc b2 [pv (.slice none 0 0), pv (.slice none 0 0), pv (.slice none 0 0), iv .i64 0], oc b5 [pv y30.1, pv (.slice none 0 0), pv (.slice none 0 0), iv .i64 style_1], oa (rI .i64) y30.1 y30.2 q29])) (0, []) ((.slice none 0 0), []) (weak [0, 1, 2, 3] ⟨rfl, rfl, rfl, rfl, trivial⟩ ⟨rfl, rfl, rfl, rfl, trivial⟩) (fun s23 x24 => ?_) (fun q29 y30 => ?_)
    · unfold ref28_Full_l1
      refine ref_seq ?_
      refine ref_seq ?_
      refine ref_region ?_
      refine s_rd (r_move rfl) rfl ?_
      refine s_rd (r_faddr (fo := 0) Try.underlying28 rfl rfl Try.sizeOf3 rfl) rfl ?_
      refine s_rd (r_cload Try.isAgg3 rfl (j := 0) rfl rfl) rfl ?_
      refine s_rd (r_lss rfl rfl) rfl ?_
      refine l_nil ?_
      refine n_then ?_
      refine ref_cond rfl (fun hb25 => ?_) (fun hb25 => ?_)
      · refine ref_skip ?_
        refine n_then ?_
        refine ref_seq ?_
        refine ref_block ?_
        refine ref_region ?_
        refine s_rd (r_faddr (fo := 0) Try.underlying25 rfl rfl Try.sizeOf22 rfl) rfl ?_
        refine s_rd (r_cload Try.isAgg22 rfl (j := 2) rfl rfl) rfl ?_
        refine s_rd (r_move rfl) rfl ?_
        refine s_st (s_bslice (xs := [.tmp 21]) (ds := [s23.1]) Try.underlying22 el_3 rfl (Nat.le_of_ble_eq_true rfl) ⟨(part_at rfl iv_at), trivial⟩) rfl (fun _ => ?_)
        refine pull fun t26 h_t26 => ?_
        refine s_st (s_append h_t26 Try.underlying22 el_3 rfl (j := 3) rfl rfl) rfl (fun o27 => ?_)
        refine s_rd (r_faddr (fo := 0) Try.underlying25 rfl rfl Try.sizeOf22 rfl) rfl ?_
        refine s_st0 (s_cstore (out := [pv o27.1, pv (.slice none 0 0), pv (.slice none 0 0), iv .i64 style_1]) Try.sizeOf22 rfl (j := 2) rfl (part_own rfl (j := 3) rfl) rfl rfl rfl) (fun _ => ?_)
        refine l_nil ?_
        refine n_block ?_
        refine n_then ?_
        refine ref_region ?_
        refine s_rd (r_move rfl) rfl ?_
        refine s_rd (r_add rfl rfl) rfl ?_
        refine s_rd (r_assign rfl) rfl ?_
        refine b_let (f := iv .i64) (t := 6) rfl fun a_28 => ?_
        refine l_nil ?_
        exact goB o27 (weak [0, 1, 2, 3] ⟨rfl, rfl, rfl, rfl, trivial⟩ ⟨rfl, rfl, rfl, rfl, trivial⟩)
      · refine ref_exit ?_
        refine x_then ?_
        exact brkB x24 (weak [1, 2, 3] ⟨rfl, rfl, trivial⟩ ⟨rfl, rfl, rfl, trivial⟩)
    · refine n_then ?_
      refine ref_seq ?_
      refine ref_region ?_
      refine s_rd (r_cloadS Try.isAgg25 Try.sizeOf25 rfl (j := 1) rfl rfl rfl) rfl ?_
      refine s_st0 (s_cstore (out := [pv y30.1, pv (.slice none 0 0), pv (.slice none 0 0), iv .i64 style_1]) Try.sizeOf25 rfl (j := 0) rfl (part_agO (ψs := [pv y30.1, pv (.slice none 0 0), pv (.slice none 0 0), iv .i64 style_1]) rfl ⟨.inr ⟨_, _, _, _, _, 2, rfl, rfl⟩, .inl (pv_at rfl), .inl (pv_at rfl), .inl iv_at, trivial⟩) rfl rfl rfl) (fun _ => ?_)
      refine l_nil ?_
      refine n_then ?_
      refine ref_ret ?_
      refine b_of (frzGL [(25, ag [slv (rI .i64) q29, pv (.slice none 0 0), pv (.slice none 0 0), iv .i64 style_1])] [(0, b2, [slv (rI .i64) q29, pv (.slice none 0 0), pv (.slice none 0 0), iv .i64 style_1]), (1, b5, [slv (rI .i64) q29, pv (.slice none 0 0), pv (.slice none 0 0), iv .i64 style_1])] (j := 2) rfl ⟨⟨_, rfl, .inr ⟨_, _, rfl, rfl, ⟨.inr ⟨rfl, rfl⟩, .inl rfl, .inl rfl, .inl rfl, trivial⟩⟩⟩, trivial⟩ ⟨⟨_, rfl, ⟨.inr ⟨rfl, rfl⟩, .inl rfl, .inl rfl, .inl rfl, trivial⟩⟩, ⟨_, rfl, ⟨.inr ⟨rfl, rfl⟩, .inl rfl, .inl rfl, .inl rfl, trivial⟩⟩, trivial⟩) ?_
      exact fin1 (.inl rfl) () [] rfl trivial rfl (rv_cell rfl (j := 0) rfl Try.isAgg25 Try.sizeOf25 rfl rfl)

/-! deliberation/deliberationnet.Some -/
noncomputable def net_Some_l1 (n_1 : Int) (s17 : Int × T_deliberationkeep_Src × (List Int)) : Option (Sum (T_deliberationkeep_Src × (List Int)) (Int × T_deliberationkeep_Src × (List Int))) :=
  bif decide (s17.1 < n_1) then
    Option.bind (keep_Src_N_m s17.2.1 3) fun t20 =>
    bif t20.1 == 0 then
      Option.bind (appM 8 s17.2.2 [s17.1]) fun out22 =>
      letM (iadd .i64 s17.1 1) fun i24 =>
      some (Sum.inr (i24, t20.2, out22))
    else
      letM (iadd .i64 s17.1 1) fun i25 =>
      some (Sum.inr (i25, t20.2, s17.2.2))
  else
    some (Sum.inl (s17.2.1, s17.2.2))

noncomputable def net_Some_m (s_0 : T_deliberationkeep_Src) (n_1 : Int) : Option (List Int × T_deliberationkeep_Src) :=
  Option.bind (loopC (net_Some_l1 n_1) (0, s_0, [])) fun q26 : T_deliberationkeep_Src × (List Int) =>
  some (q26.2, q26.1)

theorem net_Some_ok {s_0 : T_deliberationkeep_Src} {n_1 : Int} {b_0 : Nat} {r : List Int × T_deliberationkeep_Src} (hm : net_Some_m s_0 n_1 = some r) :
    FnOk prog 31 [pv (ptr b_0 0), iv .i64 n_1] [oc b_0 [slv (rI .i64) s_0.L, iv .i64 s_0.At]] (fun (x : (Value × List Nat)) => [pv x.1]) (fun (x : (Value × List Nat)) => [oc b_0 [slv (rI .i64) r.2.L, iv .i64 r.2.At], oa (rI .i64) x.1 x.2 r.1]) := by
  refine fn_ok (X := (Value × List Nat)) (fn := Try.f31) (N := 20) (m := net_Some_m s_0 n_1) (res := fun r x => [pv x.1]) (Ω1 := fun r x => [oc b_0 [slv (rI .i64) r.2.L, iv .i64 r.2.At], oa (rI .i64) x.1 x.2 r.1]) Try.func31 rfl rfl hm rfl (fun E hM => ?_)
  unfold net_Some_m
  refine ref_seq ?_
  refine ref_region ?_
  refine s_rd (r_assign rfl) rfl ?_
  refine l_nil ?_
  refine n_then ?_
  refine ref_seq ?_
  refine ref_region ?_
  refine s_rd (r_assign rfl) rfl ?_
  refine l_nil ?_
  refine n_then ?_
  refine ref_seq ?_
  refine ref_seq ?_
  refine ref_region ?_
  refine s_rd (r_assign rfl) rfl ?_
  refine l_nil ?_
  refine n_then ?_
  refine b_of (own_nil (rI .i64)) ?_
  refine ref_loopB (f := (net_Some_l1 n_1)) (Γl := (fun (s17 : Int × T_deliberationkeep_Src × (List Int)) (x18 : (Value × List Nat)) => [(0, pv (ptr b_0 0)), (1, iv .i64 n_1), (5, pv x18.1), (6, iv .i64 s17.1)])) (Ωl := (fun (s17 : Int × T_deliberationkeep_Src × (List Int)) (x18 : (Value × List Nat)) => [oc b_0 [slv (rI .i64) s17.2.1.L, iv .i64 s17.2.1.At], oa (rI .i64) x18.1 x18.2 s17.2.2])) (Γb := (fun (q26 : T_deliberationkeep_Src × (List Int)) (y27 : (Value × List Nat)) => [(0, pv (ptr b_0 0)), (5, pv y27.1)])) (Ωb := (fun (q26 : T_deliberationkeep_Src × (List Int)) (y27 : (Value × List Nat)) => [oc b_0 [slv (rI .i64) q26.1.L, iv .i64 q26.1.At], oa (rI .i64) y27.1 y27.2 q26.2])) (0, s_0, []) ((.slice none 0 0), []) (weak [0, 1] ⟨rfl, rfl, rfl, rfl, trivial⟩ ⟨rfl, rfl, trivial⟩) (fun s17 x18 => ?_) (fun q26 y27 => ?_)
  · unfold net_Some_l1
    refine ref_seq ?_
    refine ref_seq ?_
    refine ref_region ?_
    refine s_rd (r_move rfl) rfl ?_
    refine s_rd (r_move rfl) rfl ?_
    refine s_rd (r_lss rfl rfl) rfl ?_
    refine l_nil ?_
    refine n_then ?_
    refine ref_cond rfl (fun hb19 => ?_) (fun hb19 => ?_)
    · refine ref_skip ?_
      refine n_then ?_
      refine ref_seq ?_
      refine ref_block ?_
      refine ref_seq ?_
      refine ref_region ?_
      refine s_rd (r_move rfl) rfl ?_
      refine pull fun t20 h_t20 => ?_
      refine s_st (s_callC [0] [true] (fun (_ : Unit) => [oc b_0 [slv (rI .i64) t20.2.L, iv .i64 t20.2.At]]) (fun (_ : Unit) => []) (fun (_ : Unit) => iv .i64 t20.1) (args := [.tmp 12, .const (.int .i64 (3))]) (caps := []) Try.call22 rfl (keep_Src_N_ok h_t20) ⟨rfl, rfl, trivial⟩ (fun _ => rfl) (fun _ => trivial) (fun _ => rfl) ⟨arg rfl, arg rfl, trivial⟩ (fun _ _ _ _ h => h)) rfl (fun _ => ?_)
      refine s_rd (r_eql rfl rfl) rfl ?_
      refine l_nil ?_
      refine n_then ?_
      refine ref_cond rfl (fun hb21 => ?_) (fun hb21 => ?_)
      · refine ref_region ?_
        refine s_rd (r_move rfl) rfl ?_
        refine s_rd (r_move rfl) rfl ?_
        refine s_st (s_bslice (xs := [.tmp 16]) (ds := [s17.1]) Try.underlying22 el_3 rfl (Nat.le_of_ble_eq_true rfl) ⟨(part_at rfl iv_at), trivial⟩) rfl (fun _ => ?_)
        refine pull fun out22 h_out22 => ?_
        refine s_st (s_append h_out22 Try.underlying22 el_3 rfl (j := 1) rfl rfl) rfl (fun o23 => ?_)
        refine s_rd (r_assign rfl) rfl ?_
        refine l_nil ?_
        refine n_block ?_
        refine n_then ?_
        refine ref_region ?_
        refine s_rd (r_move rfl) rfl ?_
        refine s_rd (r_add rfl rfl) rfl ?_
        refine s_rd (r_assign rfl) rfl ?_
        refine b_let (f := iv .i64) (t := 6) rfl fun i24 => ?_
        refine l_nil ?_
        exact goB o23 (weak [0, 1] ⟨rfl, rfl, rfl, rfl, trivial⟩ ⟨rfl, rfl, trivial⟩)
      · refine ref_skip ?_
        refine n_block ?_
        refine n_then ?_
        refine ref_region ?_
        refine s_rd (r_move rfl) rfl ?_
        refine s_rd (r_add rfl rfl) rfl ?_
        refine s_rd (r_assign rfl) rfl ?_
        refine b_let (f := iv .i64) (t := 6) rfl fun i25 => ?_
        refine l_nil ?_
        exact goB x18 (weak [0, 1] ⟨rfl, rfl, rfl, rfl, trivial⟩ ⟨rfl, rfl, trivial⟩)
    · refine ref_exit ?_
      refine x_then ?_
      exact brkB x18 (weak [0, 1] ⟨rfl, rfl, trivial⟩ ⟨rfl, rfl, trivial⟩)
  · refine n_then ?_
    refine ref_seq ?_
    refine ref_region ?_
    refine s_rd (r_move rfl) rfl ?_
    refine s_rd (r_assign rfl) rfl ?_
    refine l_nil ?_
    refine n_then ?_
    refine ref_ret ?_
    exact fin1 (.inl rfl) y27 [0, 1] rfl ⟨rfl, rfl, trivial⟩ rfl (rv_tmp rfl)

/-! (*deliberation/deliberationkeep.Src).Pick -/
noncomputable def keep_Src_Pick_m (s_0 : T_deliberationkeep_Src) (l_1 : (List Int)) : Option (Int × T_deliberationkeep_Src) :=
  Option.bind (keep_Src_N_m s_0 (l_1.length : Int)) fun t1 =>
  Option.bind (idxM l_1 t1.1) fun t2 =>
  some (t2, t1.2)

theorem keep_Src_Pick_ok {s_0 : T_deliberationkeep_Src} {l_1 : (List Int)} {b_0 : Nat} {r : Int × T_deliberationkeep_Src} (hm : keep_Src_Pick_m s_0 l_1 = some r) :
    FnOk prog 29 [pv (ptr b_0 0), slv (rI .i64) l_1] [oc b_0 [slv (rI .i64) s_0.L, iv .i64 s_0.At]] (fun (x : Unit) => [iv .i64 r.1]) (fun (x : Unit) => [oc b_0 [slv (rI .i64) r.2.L, iv .i64 r.2.At]]) := by
  refine fn_ok (X := Unit) (fn := Try.f29) (N := 12) (m := keep_Src_Pick_m s_0 l_1) (res := fun r x => [iv .i64 r.1]) (Ω1 := fun r x => [oc b_0 [slv (rI .i64) r.2.L, iv .i64 r.2.At]]) Try.func29 rfl rfl hm rfl (fun E hM => ?_)
  unfold keep_Src_Pick_m
  refine ref_seq ?_
  refine ref_region ?_
  refine s_rd (r_assign rfl) rfl ?_
  refine l_nil ?_
  refine n_then ?_
  refine ref_seq ?_
  refine ref_region ?_
  refine s_rd (r_move rfl) rfl ?_
  refine s_rd (r_move rfl) rfl ?_
  refine s_rd (r_move rfl) rfl ?_
  refine s_rd (r_len Try.underlying22 rfl) rfl ?_
  refine pull fun t1 h_t1 => ?_
  refine s_st (s_callC [0] [true] (fun (_ : Unit) => [oc b_0 [slv (rI .i64) t1.2.L, iv .i64 t1.2.At]]) (fun (_ : Unit) => []) (fun (_ : Unit) => iv .i64 t1.1) (args := [.tmp 6, .tmp 8]) (caps := []) Try.call22 rfl (keep_Src_N_ok h_t1) ⟨rfl, rfl, trivial⟩ (fun _ => rfl) (fun _ => trivial) (fun _ => rfl) ⟨arg rfl, arg rfl, trivial⟩ (fun _ _ _ _ h => h)) rfl (fun _ => ?_)
  refine pull fun t2 h_t2 => ?_
  refine s_rd (r_index h_t2 Try.underlying22 el_3 rfl rfl) rfl ?_
  refine s_rd (r_load el_3 rfl) rfl ?_
  refine s_rd (r_assign rfl) rfl ?_
  refine l_nil ?_
  refine n_then ?_
  refine ref_ret ?_
  exact fin1 (.inl rfl) () [0] rfl ⟨rfl, trivial⟩ rfl (rv_tmp rfl)

/-! deliberation/deliberationlaw28.player -/
noncomputable def law28_player_l1 (g_1 : T_api_Graph) (s55 : Int × T_deliberationkeep_Src × (List T_api_Move)) : Option (Sum (T_deliberationkeep_Src × (List T_api_Move)) (Int × T_deliberationkeep_Src × (List T_api_Move))) :=
  bif decide (s55.1 > 0) then
    Option.bind (keep_Src_N_m s55.2.1 3) fun t59 =>
    Option.bind (keep_Src_Pick_m t59.2 [2, 2, 3, 4, 0]) fun t60 =>
    Option.bind (keep_Src_N_m t60.2 g_1.N) fun t61 =>
    Option.bind (keep_Src_N_m t61.2 5) fun t62 =>
    Option.bind (appM 32 s55.2.2 [(T_api_Move.mk t59.1 t60.1 t61.1 t62.1)]) fun t63 =>
    letM (isub .i64 s55.1 1) fun i65 =>
    some (Sum.inr (i65, t62.2, t63))
  else
    some (Sum.inl (s55.2.1, s55.2.2))

noncomputable def law28_player_m (s_0 : T_deliberationkeep_Src) (g_1 : T_api_Graph) : Option (T_api_Player × T_deliberationkeep_Src) :=
  Option.bind (keep_Src_Range_m s_0 1 3) fun t4 =>
  Option.bind (ref28_Full_m g_1 t4.1) fun t5 =>
  joinM (fun j11 : T_deliberationkeep_Src × (List Int) =>
      joinM (fun j18 : T_deliberationkeep_Src × (List Int) =>
          Option.bind (keep_Src_N_m j18.1 4) fun i21 =>
          Option.bind (loopC (law28_player_l1 g_1) (i21.1, i21.2, [])) fun q66 : T_deliberationkeep_Src × (List T_api_Move) =>
          some ((T_api_Player.mk j18.2 j11.2 q66.2 t5.Style), q66.1)) fun k20 =>
      Option.bind (keep_Src_N_m j11.1 3) fun t14 =>
      bif t14.1 == 0 then
        Option.bind (net_Some_m t14.2 g_1.N) fun t16 =>
        k20 (t16.2, t16.1)
      else
        k20 (t14.2, t5.Pool)) fun k13 =>
  Option.bind (keep_Src_N_m t4.2 2) fun t7 =>
  bif t7.1 == 0 then
    Option.bind (net_Some_m t7.2 g_1.N) fun t9 =>
    k13 (t9.2, t9.1)
  else
    k13 (t7.2, [])

theorem law28_player_ok {s_0 : T_deliberationkeep_Src} {g_1 : T_api_Graph} {b_0 : Nat} {r : T_api_Player × T_deliberationkeep_Src} (hm : law28_player_m s_0 g_1 = some r) :
    FnOk prog 11 [pv (ptr b_0 0), ag [iv .i64 g_1.N, slv rT_api_Pair g_1.L]] [oc b_0 [slv (rI .i64) s_0.L, iv .i64 s_0.At]] (fun (x : Unit) => [ag [slv (rI .i64) r.1.Pool, slv (rI .i64) r.1.Withheld, slv rT_api_Move r.1.Script, iv .i64 r.1.Style]]) (fun (x : Unit) => [oc b_0 [slv (rI .i64) r.2.L, iv .i64 r.2.At]]) := by
  refine fn_ok (X := Unit) (fn := Try.f11) (N := 51) (m := law28_player_m s_0 g_1) (res := fun r x => [ag [slv (rI .i64) r.1.Pool, slv (rI .i64) r.1.Withheld, slv rT_api_Move r.1.Script, iv .i64 r.1.Style]]) (Ω1 := fun r x => [oc b_0 [slv (rI .i64) r.2.L, iv .i64 r.2.At]]) Try.func11 rfl rfl hm rfl (fun E hM => ?_)
  unfold law28_player_m
  refine ref_seq ?_
  refine ref_region ?_
  refine s_st (s_box (part_ag (ψs := [iv .i64 g_1.N, slv rT_api_Pair g_1.L]) rfl (by intro φ h; simp only [List.mem_cons, List.not_mem_nil, or_false] at h; rcases h with rfl | rfl <;> first | exact iv_at | exact bv_at | exact sv_at | exact slv_at | exact pv_at rfl))) rfl (fun b1 => ?_)
  refine s_st (s_alloc zt_25) rfl (fun b2 => ?_)
  refine l_nil ?_
  refine n_then ?_
  refine ref_seq ?_
  refine pull fun t4 h_t4 => ?_
  refine pull fun t5 h_t5 => ?_
  refine ref_drawI 1 [⟨[], [], [], [1], [], fun us u => ag [iv .i64 g_1.N, slv rT_api_Pair g_1.L], fun us u => []⟩, ⟨[], [], [], [], [], fun us u => pv (ptr b_0 0), fun us u => []⟩, ⟨[1], [], [0], [0], [0], fun us u => iv .i64 t4.1, fun us u => [oc b_0 [slv (rI .i64) t4.2.L, iv .i64 t4.2.At]]⟩, ⟨[0, 1, 2], [], [], [], [], fun us u => ag [slv (rI .i64) t5.Pool, pv (.slice none 0 0), pv (.slice none 0 0), iv .i64 t5.Style], fun us u => []⟩, ⟨[], [], [3], [3], [], fun us u => pv (ptr u.Nn 0), fun us u => [oc u.Nn [pv (.slice none 0 0), pv (.slice none 0 0), pv (.slice none 0 0), iv .i64 0]]⟩, ⟨[0, 1, 2, 3, 4], [4], [3], [3], [3], fun us u => pv undef, fun us u => [oc (us.getD 0 .none).Nn [slv (rI .i64) t5.Pool, pv (.slice none 0 0), pv (.slice none 0 0), iv .i64 t5.Style]]⟩] (fun χ3 => [(0, pv (ptr b_0 0)), (3, pv (ptr b1 0)), (4, pv (ptr b2 0)), (5, pv (ptr (χ3 4).Nn 0))]) (fun χ3 => [oc b_0 [slv (rI .i64) t4.2.L, iv .i64 t4.2.At], oc b1 [iv .i64 g_1.N, slv rT_api_Pair g_1.L], oc b2 [pv (.slice none 0 0), pv (.slice none 0 0), pv (.slice none 0 0), iv .i64 0], oc (χ3 4).Nn [slv (rI .i64) t5.Pool, pv (.slice none 0 0), pv (.slice none 0 0), iv .i64 t5.Style]]) rfl (by kernel_rfl) ⟨fun χ3 Ω ⟨h1, _⟩ => St.toR (r_cloadS Try.isAgg28 Try.sizeOf28 rfl (j := 1) h1 rfl rfl) (fun _ => rfl) (fun _ => rfl), (by intro _ h; cases h; rfl), ⟨fun χ3 Ω _ => St.toR (r_move rfl) (fun _ => rfl) (fun _ => rfl), (by intro _ h; cases h; rfl), ⟨fun χ3 Ω ⟨h0, _⟩ => St.to XU.U XU.hU (St.placeL [] (s_callC [0] [true] (fun (_ : Unit) => [oc b_0 [slv (rI .i64) t4.2.L, iv .i64 t4.2.At]]) (fun (_ : Unit) => []) (fun (_ : Unit) => iv .i64 t4.1) (args := [.tmp 8, .const (.int .i64 (1)), .const (.int .i64 (3))]) (caps := []) Try.call27 rfl (keep_Src_Range_ok h_t4) ⟨h0, rfl, trivial⟩ (fun _ => rfl) (fun _ => trivial) (fun _ => rfl) ⟨arg rfl, arg rfl, arg rfl, trivial⟩ (fun _ _ _ _ h => h)) (fun _ => rfl) (fun _ => trivial)) (fun _ => rfl) (fun _ => rfl), (by intro _ h; cases h; rfl), ⟨fun χ3 Ω _ => St.to XU.U XU.hU (St.placeL [] (s_call (ψ := fun (_ : Unit) => ag [slv (rI .i64) t5.Pool, pv (.slice none 0 0), pv (.slice none 0 0), iv .i64 t5.Style]) (args := [.tmp 7, .tmp 9]) Try.call18 rfl (ref28_Full_ok h_t5) ⟨arg rfl, arg rfl, trivial⟩ (fun _ _ _ _ h => h)) (fun _ => rfl) (fun _ => trivial)) (fun _ => rfl) (fun _ => rfl), (by intro _ h; cases h; rfl), ⟨fun χ3 Ω ⟨h3, _⟩ => St.to XU.Nn XU.hN (St.placeL (os := fun _ => [_]) [3] (s_alloc zt_25) (fun _ => rfl) (fun _ => ⟨h3, rfl, trivial⟩)) (fun _ => rfl) (fun _ => rfl), (by intro _ h; cases h; rfl), ⟨fun χ3 Ω ⟨h3, _⟩ => St.to XU.U XU.hU (s_cstore (out := [slv (rI .i64) t5.Pool, pv (.slice none 0 0), pv (.slice none 0 0), iv .i64 t5.Style]) Try.sizeOf25 rfl (j := 3) h3 (part_agO (ψs := [slv (rI .i64) t5.Pool, pv (.slice none 0 0), pv (.slice none 0 0), iv .i64 t5.Style]) rfl ⟨.inl slv_at, .inl (pv_at rfl), .inl (pv_at rfl), .inl iv_at, trivial⟩) rfl rfl rfl) (fun _ => rfl) (fun _ => rfl), (by intro _ h; cases h), trivial⟩⟩⟩⟩⟩⟩ (fun _ => ⟨rfl, rfl, rfl, rfl, trivial⟩) (fun _ => rfl) (fun χ3 => ?_)
  refine n_then ?_
  refine ref_seq ?_
  refine ref_join (fun (j11 : T_deliberationkeep_Src × (List Int)) (x12 : (Value × List Nat)) => [(0, pv (ptr b_0 0)), (3, pv (ptr b1 0)), (4, pv (ptr b2 0)), (5, pv (ptr (χ3 4).Nn 0))]) (fun (j11 : T_deliberationkeep_Src × (List Int)) (x12 : (Value × List Nat)) => [oc b_0 [slv (rI .i64) j11.1.L, iv .i64 j11.1.At], oc b1 [iv .i64 g_1.N, slv rT_api_Pair g_1.L], oc b2 [pv (.slice none 0 0), pv (.slice none 0 0), pv (.slice none 0 0), iv .i64 0], oc (χ3 4).Nn [slv (rI .i64) t5.Pool, pv x12.1, pv (.slice none 0 0), iv .i64 t5.Style], oa (rI .i64) x12.1 x12.2 j11.2]) (fun k13 hk13 => ?_) (fun j11 x12 => ?_)
  · refine ref_seq ?_
    refine ref_region ?_
    refine s_rd (r_move rfl) rfl ?_
    refine pull fun t7 h_t7 => ?_
    refine s_st (s_callC [0] [true] (fun (_ : Unit) => [oc b_0 [slv (rI .i64) t7.2.L, iv .i64 t7.2.At]]) (fun (_ : Unit) => []) (fun (_ : Unit) => iv .i64 t7.1) (args := [.tmp 11, .const (.int .i64 (2))]) (caps := []) Try.call22 rfl (keep_Src_N_ok h_t7) ⟨rfl, rfl, trivial⟩ (fun _ => rfl) (fun _ => trivial) (fun _ => rfl) ⟨arg rfl, arg rfl, trivial⟩ (fun _ _ _ _ h => h)) rfl (fun _ => ?_)
    refine s_rd (r_eql rfl rfl) rfl ?_
    refine l_nil ?_
    refine n_then ?_
    refine ref_cond rfl (fun hb8 => ?_) (fun hb8 => ?_)
    · refine ref_region ?_
      refine s_rd (r_move rfl) rfl ?_
      refine s_rd (r_faddr (fo := 0) Try.underlying28 rfl rfl Try.sizeOf3 rfl) rfl ?_
      refine s_rd (r_cload Try.isAgg3 rfl (j := 1) rfl rfl) rfl ?_
      refine pull fun t9 h_t9 => ?_
      refine s_st (s_callC [0] [true] (fun (x10 : (Value × List Nat)) => [oc b_0 [slv (rI .i64) t9.2.L, iv .i64 t9.2.At]]) (fun (x10 : (Value × List Nat)) => [oa (rI .i64) x10.1 x10.2 t9.1]) (fun (x10 : (Value × List Nat)) => pv x10.1) (args := [.tmp 14, .tmp 16]) (caps := []) Try.call31 rfl (net_Some_ok h_t9) ⟨rfl, rfl, trivial⟩ (fun _ => rfl) (fun _ => trivial) (fun _ => rfl) ⟨arg rfl, arg rfl, trivial⟩ (fun _ _ _ _ h => h)) rfl (fun x10 => ?_)
      refine s_rd (r_faddr (fo := 1) Try.underlying25 rfl rfl Try.sizeOf22 rfl) rfl ?_
      refine s_st0 (s_cstore (out := [slv (rI .i64) t5.Pool, pv x10.1, pv (.slice none 0 0), iv .i64 t5.Style]) Try.sizeOf22 rfl (j := 3) rfl (part_own rfl (j := 4) rfl) rfl rfl rfl) (fun _ => ?_)
      refine l_nil ?_
      exact b_to (hk13 (t9.2, t9.1) x10) (weak [0, 1, 2, 3, 4] ⟨rfl, rfl, rfl, rfl, trivial⟩ ⟨rfl, rfl, rfl, rfl, rfl, trivial⟩)
    · refine ref_skip ?_
      refine b_of (own_nil (rI .i64)) ?_
      exact b_to (hk13 (t7.2, []) ((.slice none 0 0), [])) (weak [0, 1, 2, 3, 4] ⟨rfl, rfl, rfl, rfl, trivial⟩ ⟨rfl, rfl, rfl, rfl, rfl, trivial⟩)
  · refine n_then ?_
    refine ref_seq ?_
    refine ref_join (fun (j18 : T_deliberationkeep_Src × (List Int)) (x19 : Unit) => [(0, pv (ptr b_0 0)), (3, pv (ptr b1 0)), (4, pv (ptr b2 0)), (5, pv (ptr (χ3 4).Nn 0))]) (fun (j18 : T_deliberationkeep_Src × (List Int)) (x19 : Unit) => [oc b_0 [slv (rI .i64) j18.1.L, iv .i64 j18.1.At], oc b1 [iv .i64 g_1.N, slv rT_api_Pair g_1.L], oc b2 [pv (.slice none 0 0), pv (.slice none 0 0), pv (.slice none 0 0), iv .i64 0], oc (χ3 4).Nn [slv (rI .i64) j18.2, pv x12.1, pv (.slice none 0 0), iv .i64 t5.Style], oa (rI .i64) x12.1 x12.2 j11.2]) (fun k20 hk20 => ?_) (fun j18 x19 => ?_)
    · refine ref_seq ?_
      refine ref_region ?_
      refine s_rd (r_move rfl) rfl ?_
      refine pull fun t14 h_t14 => ?_
      refine s_st (s_callC [0] [true] (fun (_ : Unit) => [oc b_0 [slv (rI .i64) t14.2.L, iv .i64 t14.2.At]]) (fun (_ : Unit) => []) (fun (_ : Unit) => iv .i64 t14.1) (args := [.tmp 19, .const (.int .i64 (3))]) (caps := []) Try.call22 rfl (keep_Src_N_ok h_t14) ⟨rfl, rfl, trivial⟩ (fun _ => rfl) (fun _ => trivial) (fun _ => rfl) ⟨arg rfl, arg rfl, trivial⟩ (fun _ _ _ _ h => h)) rfl (fun _ => ?_)
      refine s_rd (r_eql rfl rfl) rfl ?_
      refine l_nil ?_
      refine n_then ?_
      refine ref_cond rfl (fun hb15 => ?_) (fun hb15 => ?_)
      · refine ref_region ?_
        refine s_rd (r_move rfl) rfl ?_
        refine s_rd (r_faddr (fo := 0) Try.underlying28 rfl rfl Try.sizeOf3 rfl) rfl ?_
        refine s_rd (r_cload Try.isAgg3 rfl (j := 1) rfl rfl) rfl ?_
        refine pull fun t16 h_t16 => ?_
        refine s_st (s_callC [0] [true] (fun (x17 : (Value × List Nat)) => [oc b_0 [slv (rI .i64) t16.2.L, iv .i64 t16.2.At]]) (fun (x17 : (Value × List Nat)) => [oa (rI .i64) x17.1 x17.2 t16.1]) (fun (x17 : (Value × List Nat)) => pv x17.1) (args := [.tmp 22, .tmp 24]) (caps := []) Try.call31 rfl (net_Some_ok h_t16) ⟨rfl, rfl, trivial⟩ (fun _ => rfl) (fun _ => trivial) (fun _ => rfl) ⟨arg rfl, arg rfl, trivial⟩ (fun _ _ _ _ h => h)) rfl (fun x17 => ?_)
        refine s_rd (r_faddr (fo := 0) Try.underlying25 rfl rfl Try.sizeOf22 rfl) rfl ?_
        refine s_st0 (s_cstore (out := [pv x17.1, pv x12.1, pv (.slice none 0 0), iv .i64 t5.Style]) Try.sizeOf22 rfl (j := 3) rfl (part_own rfl (j := 5) rfl) rfl rfl rfl) (fun _ => ?_)
        refine l_nil ?_
        refine b_of (frzGL [(25, slv (rI .i64) t16.1)] [(3, (χ3 4).Nn, [slv (rI .i64) t16.1, pv x12.1, pv (.slice none 0 0), iv .i64 t5.Style])] (j := 5) rfl ⟨⟨_, rfl, .inl ⟨rfl, rfl⟩⟩, trivial⟩ ⟨⟨_, rfl, ⟨.inr ⟨rfl, rfl⟩, .inl rfl, .inl rfl, .inl rfl, trivial⟩⟩, trivial⟩) ?_
        exact b_to (hk20 (t16.2, t16.1) ()) (weak [0, 1, 2, 3, 4] ⟨rfl, rfl, rfl, rfl, trivial⟩ ⟨rfl, rfl, rfl, rfl, rfl, trivial⟩)
      · refine ref_skip ?_
        exact b_to (hk20 (t14.2, t5.Pool) ()) (weak [0, 1, 2, 3, 4] ⟨rfl, rfl, rfl, rfl, trivial⟩ ⟨rfl, rfl, rfl, rfl, rfl, trivial⟩)
    · refine n_then ?_
      refine ref_seq ?_
      refine ref_seq ?_
      refine ref_region ?_
      refine s_rd (r_move rfl) rfl ?_
      refine pull fun i21 h_i21 => ?_
      refine s_st (s_callC [0] [true] (fun (_ : Unit) => [oc b_0 [slv (rI .i64) i21.2.L, iv .i64 i21.2.At]]) (fun (_ : Unit) => []) (fun (_ : Unit) => iv .i64 i21.1) (args := [.tmp 27, .const (.int .i64 (4))]) (caps := []) Try.call22 rfl (keep_Src_N_ok h_i21) ⟨rfl, rfl, trivial⟩ (fun _ => rfl) (fun _ => trivial) (fun _ => rfl) ⟨arg rfl, arg rfl, trivial⟩ (fun _ _ _ _ h => h)) rfl (fun _ => ?_)
      refine s_rd (r_assign rfl) rfl ?_
      refine l_nil ?_
      refine n_then ?_
      refine b_of (own_nil rT_api_Move) ?_
      refine ref_loopB (f := (law28_player_l1 g_1)) (Γl := (fun (s55 : Int × T_deliberationkeep_Src × (List T_api_Move)) (x56 : (Value × List Nat)) => [(0, pv (ptr b_0 0)), (3, pv (ptr b1 0)), (4, pv (ptr b2 0)), (5, pv (ptr (χ3 4).Nn 0)), (6, iv .i64 s55.1)])) (Ωl := (fun (s55 : Int × T_deliberationkeep_Src × (List T_api_Move)) (x56 : (Value × List Nat)) => [oc b_0 [slv (rI .i64) s55.2.1.L, iv .i64 s55.2.1.At], oc b1 [iv .i64 g_1.N, slv rT_api_Pair g_1.L], oc b2 [pv (.slice none 0 0), pv (.slice none 0 0), pv (.slice none 0 0), iv .i64 0], oc (χ3 4).Nn [slv (rI .i64) j18.2, pv x12.1, pv x56.1, iv .i64 t5.Style], oa (rI .i64) x12.1 x12.2 j11.2, oa rT_api_Move x56.1 x56.2 s55.2.2])) (Γb := (fun (q66 : T_deliberationkeep_Src × (List T_api_Move)) (y67 : (Value × List Nat)) => [(0, pv (ptr b_0 0)), (4, pv (ptr b2 0)), (5, pv (ptr (χ3 4).Nn 0))])) (Ωb := (fun (q66 : T_deliberationkeep_Src × (List T_api_Move)) (y67 : (Value × List Nat)) => [oc b_0 [slv (rI .i64) q66.1.L, iv .i64 q66.1.At], oc b2 [pv (.slice none 0 0), pv (.slice none 0 0), pv (.slice none 0 0), iv .i64 0], oc (χ3 4).Nn [slv (rI .i64) j18.2, pv x12.1, pv y67.1, iv .i64 t5.Style], oa (rI .i64) x12.1 x12.2 j11.2, oa rT_api_Move y67.1 y67.2 q66.2])) (i21.1, i21.2, []) ((.slice none 0 0), []) (weak [0, 1, 2, 3, 4, 5] ⟨rfl, rfl, rfl, rfl, rfl, trivial⟩ ⟨rfl, rfl, rfl, rfl, rfl, rfl, trivial⟩) (fun s55 x56 => ?_) (fun q66 y67 => ?_)
      · unfold law28_player_l1
        refine ref_seq ?_
        refine ref_seq ?_
        refine ref_region ?_
        refine s_rd (r_move rfl) rfl ?_
        refine s_rd (r_gtr rfl rfl) rfl ?_
        refine l_nil ?_
        refine n_then ?_
        refine ref_cond rfl (fun hb57 => ?_) (fun hb57 => ?_)
        · refine ref_skip ?_
          refine n_then ?_
          refine ref_seq ?_
          refine ref_block ?_
          refine pull fun t59 h_t59 => ?_
          refine pull fun t60 h_t60 => ?_
          refine pull fun t61 h_t61 => ?_
          refine pull fun t62 h_t62 => ?_
          refine pull fun t63 h_t63 => ?_
          refine ref_drawI 0 [⟨[], [], [], [], [], fun us u => pv (ptr (χ3 4).Nn 2), fun us u => []⟩, ⟨[0], [], [], [3], [], fun us u => pv x56.1, fun us u => []⟩, ⟨[], [], [], [], [], fun us u => pv (ptr b_0 0), fun us u => []⟩, ⟨[2], [], [0], [0], [0], fun us u => iv .i64 t59.1, fun us u => [oc b_0 [slv (rI .i64) t59.2.L, iv .i64 t59.2.At]]⟩, ⟨[], [], [], [], [], fun us u => pv (ptr b_0 0), fun us u => []⟩, ⟨[], [], [], [], [], fun us u => slv (rI .i64) [2, 2, 3, 4, 0], fun us u => []⟩, ⟨[2, 3, 4, 5], [], [0], [0], [0], fun us u => iv .i64 t60.1, fun us u => [oc b_0 [slv (rI .i64) t60.2.L, iv .i64 t60.2.At]]⟩, ⟨[], [], [], [], [], fun us u => pv (ptr b_0 0), fun us u => []⟩, ⟨[], [], [], [], [], fun us u => pv (ptr b1 0), fun us u => []⟩, ⟨[8], [], [], [1], [], fun us u => iv .i64 g_1.N, fun us u => []⟩, ⟨[2, 3, 4, 5, 6, 7, 8, 9], [], [0], [0], [0], fun us u => iv .i64 t61.1, fun us u => [oc b_0 [slv (rI .i64) t61.2.L, iv .i64 t61.2.At]]⟩, ⟨[], [], [], [], [], fun us u => pv (ptr b_0 0), fun us u => []⟩, ⟨[2, 3, 4, 5, 6, 7, 8, 9, 10, 11], [], [0], [0], [0], fun us u => iv .i64 t62.1, fun us u => [oc b_0 [slv (rI .i64) t62.2.L, iv .i64 t62.2.At]]⟩, ⟨[2, 3, 4, 5, 6, 7, 8, 9, 10, 11, 12], [], [], [], [], fun us u => ag [iv .i64 t59.1, iv .i64 t60.1, iv .i64 t61.1, iv .i64 t62.1], fun us u => []⟩, ⟨[2, 3, 4, 5, 6, 7, 8, 9, 10, 11, 12, 13], [], [], [], [], fun us u => slv rT_api_Move [(T_api_Move.mk t59.1 t60.1 t61.1 t62.1)], fun us u => []⟩, ⟨[0, 1, 2, 3, 4, 5, 6, 7, 8, 9, 10, 11, 12, 13, 14], [], [5], [5], [5], fun us u => pv u.V.1, fun us u => [oa rT_api_Move u.V.1 u.V.2 t63]⟩, ⟨[0, 1, 2, 3, 4, 5, 6, 7, 8, 9, 10, 11, 12, 13, 14, 15], [], [], [], [], fun us u => pv (ptr (χ3 4).Nn 2), fun us u => []⟩, ⟨[0, 1, 2, 3, 4, 5, 6, 7, 8, 9, 10, 11, 12, 13, 14, 15, 16], [15], [3], [3, 5], [3], fun us u => pv undef, fun us u => [oc (χ3 4).Nn [slv (rI .i64) j18.2, pv x12.1, pv (us.getD 0 .none).V.1, iv .i64 t5.Style]]⟩] (fun χ58 => [(0, pv (ptr b_0 0)), (3, pv (ptr b1 0)), (4, pv (ptr b2 0)), (5, pv (ptr (χ3 4).Nn 0)), (6, iv .i64 s55.1)]) (fun χ58 => [oc b_0 [slv (rI .i64) t62.2.L, iv .i64 t62.2.At], oc b1 [iv .i64 g_1.N, slv rT_api_Pair g_1.L], oc b2 [pv (.slice none 0 0), pv (.slice none 0 0), pv (.slice none 0 0), iv .i64 0], oc (χ3 4).Nn [slv (rI .i64) j18.2, pv x12.1, pv (χ58 15).V.1, iv .i64 t5.Style], oa (rI .i64) x12.1 x12.2 j11.2, oa rT_api_Move (χ58 15).V.1 (χ58 15).V.2 t63]) rfl (by kernel_rfl) ⟨fun χ58 Ω _ => St.toR (r_faddr (fo := 2) Try.underlying25 rfl rfl Try.sizeOf23 rfl) (fun _ => rfl) (fun _ => rfl), (by intro _ h; cases h; rfl), ⟨fun χ58 Ω ⟨h3, _⟩ => St.toR (r_cload Try.isAgg23 rfl (j := 3) h3 rfl) (fun _ => rfl) (fun _ => rfl), (by intro _ h; cases h; rfl), ⟨fun χ58 Ω _ => St.toR (r_move rfl) (fun _ => rfl) (fun _ => rfl), (by intro _ h; cases h; rfl), ⟨fun χ58 Ω ⟨h0, _⟩ => St.to XU.U XU.hU (St.placeL [] (s_callC [0] [true] (fun (_ : Unit) => [oc b_0 [slv (rI .i64) t59.2.L, iv .i64 t59.2.At]]) (fun (_ : Unit) => []) (fun (_ : Unit) => iv .i64 t59.1) (args := [.tmp 35, .const (.int .i64 (3))]) (caps := []) Try.call22 rfl (keep_Src_N_ok h_t59) ⟨h0, rfl, trivial⟩ (fun _ => rfl) (fun _ => trivial) (fun _ => rfl) ⟨arg rfl, arg rfl, trivial⟩ (fun _ _ _ _ h => h)) (fun _ => rfl) (fun _ => trivial)) (fun _ => rfl) (fun _ => rfl), (by intro _ h; cases h; rfl), ⟨fun χ58 Ω _ => St.toR (r_move rfl) (fun _ => rfl) (fun _ => rfl), (by intro _ h; cases h; rfl), ⟨fun χ58 Ω _ => St.to XU.U XU.hU (s_bslice (xs := [.const (.int .i64 (2)), .const (.int .i64 (2)), .const (.int .i64 (3)), .const (.int .i64 (4)), .const (.int .i64 (0))]) (ds := [2, 2, 3, 4, 0]) Try.underlying22 el_3 rfl (Nat.le_of_ble_eq_true rfl) ⟨(part_at rfl iv_at), ⟨(part_at rfl iv_at), ⟨(part_at rfl iv_at), ⟨(part_at rfl iv_at), ⟨(part_at rfl iv_at), trivial⟩⟩⟩⟩⟩) (fun _ => rfl) (fun _ => rfl), (by intro _ h; cases h; rfl), ⟨fun χ58 Ω ⟨h0, _⟩ => St.to XU.U XU.hU (St.placeL [] (s_callC [0] [true] (fun (_ : Unit) => [oc b_0 [slv (rI .i64) t60.2.L, iv .i64 t60.2.At]]) (fun (_ : Unit) => []) (fun (_ : Unit) => iv .i64 t60.1) (args := [.tmp 37, .tmp 38]) (caps := []) Try.call29 rfl (keep_Src_Pick_ok h_t60) ⟨h0, rfl, trivial⟩ (fun _ => rfl) (fun _ => trivial) (fun _ => rfl) ⟨arg rfl, arg rfl, trivial⟩ (fun _ _ _ _ h => h)) (fun _ => rfl) (fun _ => trivial)) (fun _ => rfl) (fun _ => rfl), (by intro _ h; cases h; rfl), ⟨fun χ58 Ω _ => St.toR (r_move rfl) (fun _ => rfl) (fun _ => rfl), (by intro _ h; cases h; rfl), ⟨fun χ58 Ω _ => St.toR (r_faddr (fo := 0) Try.underlying28 rfl rfl Try.sizeOf3 rfl) (fun _ => rfl) (fun _ => rfl), (by intro _ h; cases h; rfl), ⟨fun χ58 Ω ⟨h1, _⟩ => St.toR (r_cload Try.isAgg3 rfl (j := 1) h1 rfl) (fun _ => rfl) (fun _ => rfl), (by intro _ h; cases h; rfl), ⟨fun χ58 Ω ⟨h0, _⟩ => St.to XU.U XU.hU (St.placeL [] (s_callC [0] [true] (fun (_ : Unit) => [oc b_0 [slv (rI .i64) t61.2.L, iv .i64 t61.2.At]]) (fun (_ : Unit) => []) (fun (_ : Unit) => iv .i64 t61.1) (args := [.tmp 40, .tmp 42]) (caps := []) Try.call22 rfl (keep_Src_N_ok h_t61) ⟨h0, rfl, trivial⟩ (fun _ => rfl) (fun _ => trivial) (fun _ => rfl) ⟨arg rfl, arg rfl, trivial⟩ (fun _ _ _ _ h => h)) (fun _ => rfl) (fun _ => trivial)) (fun _ => rfl) (fun _ => rfl), (by intro _ h; cases h; rfl), ⟨fun χ58 Ω _ => St.toR (r_move rfl) (fun _ => rfl) (fun _ => rfl), (by intro _ h; cases h; rfl), ⟨fun χ58 Ω ⟨h0, _⟩ => St.to XU.U XU.hU (St.placeL [] (s_callC [0] [true] (fun (_ : Unit) => [oc b_0 [slv (rI .i64) t62.2.L, iv .i64 t62.2.At]]) (fun (_ : Unit) => []) (fun (_ : Unit) => iv .i64 t62.1) (args := [.tmp 44, .const (.int .i64 (5))]) (caps := []) Try.call22 rfl (keep_Src_N_ok h_t62) ⟨h0, rfl, trivial⟩ (fun _ => rfl) (fun _ => trivial) (fun _ => rfl) ⟨arg rfl, arg rfl, trivial⟩ (fun _ _ _ _ h => h)) (fun _ => rfl) (fun _ => trivial)) (fun _ => rfl) (fun _ => rfl), (by intro _ h; cases h; rfl), ⟨fun χ58 Ω _ => St.toR (r_build (ps := [(0, .tmp 36), (1, .tmp 39), (2, .tmp 43), (3, .tmp 45)]) (rs := [(0, [iv .i64 t59.1]), (1, [iv .i64 t60.1]), (2, [iv .i64 t61.1]), (3, [iv .i64 t62.1])]) st_40 zs_40 ⟨rfl, (part_at rfl iv_at), ⟨rfl, (part_at rfl iv_at), ⟨rfl, (part_at rfl iv_at), ⟨rfl, (part_at rfl iv_at), trivial⟩⟩⟩⟩ rfl rfl) (fun _ => rfl) (fun _ => rfl), (by intro _ h; cases h; rfl), ⟨fun χ58 Ω _ => St.to XU.U XU.hU (s_bslice (xs := [.tmp 46]) (ds := [(T_api_Move.mk t59.1 t60.1 t61.1 t62.1)]) Try.underlying23 el_40 rfl (Nat.le_of_ble_eq_true rfl) ⟨(part_ag (ψs := [iv .i64 t59.1, iv .i64 t60.1, iv .i64 t61.1, iv .i64 t62.1]) rfl (by intro φ h; simp only [List.mem_cons, List.not_mem_nil, or_false] at h; rcases h with rfl | rfl | rfl | rfl <;> first | exact iv_at | exact bv_at | exact sv_at | exact slv_at | exact pv_at rfl)), trivial⟩) (fun _ => rfl) (fun _ => rfl), (by intro _ h; cases h; rfl), ⟨fun χ58 Ω ⟨h5, _⟩ => St.to XU.V XU.hV (s_append h_t63 Try.underlying23 el_40 rfl (j := 5) h5 rfl) (fun _ => rfl) (fun _ => rfl), (by intro _ h; cases h; rfl), ⟨fun χ58 Ω _ => St.toR (r_faddr (fo := 2) Try.underlying25 rfl rfl Try.sizeOf23 rfl) (fun _ => rfl) (fun _ => rfl), (by intro _ h; cases h; rfl), ⟨fun χ58 Ω ⟨h3, h5, _⟩ => St.to XU.U XU.hU (s_cstore (out := [slv (rI .i64) j18.2, pv x12.1, pv (χ58 15).V.1, iv .i64 t5.Style]) Try.sizeOf23 rfl (j := 3) h3 (part_own rfl (j := 5) h5) rfl rfl rfl) (fun _ => rfl) (fun _ => rfl), (by intro _ h; cases h), trivial⟩⟩⟩⟩⟩⟩⟩⟩⟩⟩⟩⟩⟩⟩⟩⟩⟩⟩ (fun _ => ⟨rfl, rfl, rfl, rfl, rfl, trivial⟩) (fun _ => rfl) (fun χ58 => ?_)
          refine n_block ?_
          refine n_then ?_
          refine ref_region ?_
          refine s_rd (r_move rfl) rfl ?_
          refine s_rd (r_sub rfl rfl) rfl ?_
          refine s_rd (r_assign rfl) rfl ?_
          refine b_let (f := iv .i64) (t := 6) rfl fun i65 => ?_
          refine l_nil ?_
          exact goB (χ58 15).V (weak [0, 1, 2, 3, 4, 5] ⟨rfl, rfl, rfl, rfl, rfl, trivial⟩ ⟨rfl, rfl, rfl, rfl, rfl, rfl, trivial⟩)
        · refine ref_exit ?_
          refine x_then ?_
          exact brkB x56 (weak [0, 2, 3, 4, 5] ⟨rfl, rfl, rfl, trivial⟩ ⟨rfl, rfl, rfl, rfl, rfl, trivial⟩)
      · refine n_then ?_
        refine ref_seq ?_
        refine ref_region ?_
        refine s_rd (r_cloadS Try.isAgg25 Try.sizeOf25 rfl (j := 2) rfl rfl rfl) rfl ?_
        refine s_st0 (s_cstore (out := [slv (rI .i64) j18.2, pv x12.1, pv y67.1, iv .i64 t5.Style]) Try.sizeOf25 rfl (j := 1) rfl (part_agO (ψs := [slv (rI .i64) j18.2, pv x12.1, pv y67.1, iv .i64 t5.Style]) rfl ⟨.inl slv_at, .inr ⟨_, _, _, _, _, 3, rfl, rfl⟩, .inr ⟨_, _, _, _, _, 4, rfl, rfl⟩, .inl iv_at, trivial⟩) rfl rfl rfl) (fun _ => ?_)
        refine l_nil ?_
        refine n_then ?_
        refine ref_ret ?_
        refine b_of (frzGL [(50, ag [slv (rI .i64) j18.2, slv (rI .i64) j11.2, pv y67.1, iv .i64 t5.Style])] [(1, b2, [slv (rI .i64) j18.2, slv (rI .i64) j11.2, pv y67.1, iv .i64 t5.Style]), (2, (χ3 4).Nn, [slv (rI .i64) j18.2, slv (rI .i64) j11.2, pv y67.1, iv .i64 t5.Style])] (j := 3) rfl ⟨⟨_, rfl, .inr ⟨_, _, rfl, rfl, ⟨.inl rfl, .inr ⟨rfl, rfl⟩, .inl rfl, .inl rfl, trivial⟩⟩⟩, trivial⟩ ⟨⟨_, rfl, ⟨.inl rfl, .inr ⟨rfl, rfl⟩, .inl rfl, .inl rfl, trivial⟩⟩, ⟨_, rfl, ⟨.inl rfl, .inr ⟨rfl, rfl⟩, .inl rfl, .inl rfl, trivial⟩⟩, trivial⟩) ?_
        refine b_of (frzGL [(50, ag [slv (rI .i64) j18.2, slv (rI .i64) j11.2, slv rT_api_Move q66.2, iv .i64 t5.Style])] [(1, b2, [slv (rI .i64) j18.2, slv (rI .i64) j11.2, slv rT_api_Move q66.2, iv .i64 t5.Style]), (2, (χ3 4).Nn, [slv (rI .i64) j18.2, slv (rI .i64) j11.2, slv rT_api_Move q66.2, iv .i64 t5.Style])] (j := 4) rfl ⟨⟨_, rfl, .inr ⟨_, _, rfl, rfl, ⟨.inl rfl, .inl rfl, .inr ⟨rfl, rfl⟩, .inl rfl, trivial⟩⟩⟩, trivial⟩ ⟨⟨_, rfl, ⟨.inl rfl, .inl rfl, .inr ⟨rfl, rfl⟩, .inl rfl, trivial⟩⟩, ⟨_, rfl, ⟨.inl rfl, .inl rfl, .inr ⟨rfl, rfl⟩, .inl rfl, trivial⟩⟩, trivial⟩) ?_
        exact fin1 (.inl rfl) () [0] rfl ⟨rfl, trivial⟩ rfl (rv_cell rfl (j := 1) rfl Try.isAgg25 Try.sizeOf25 rfl rfl)

/-! deliberation/network.Ascending -/
noncomputable def network_Ascending_l1 (l_0 : (List Int)) (nodes_1 : Int) (s7 : Int) : Option (Sum ((Sum (Bool) (Unit))) (Int)) :=
  bif decide (s7 < (l_0.length : Int)) then
    Option.bind (idxM l_0 s7) fun n10 =>
    bif decide (n10 < 0) then
      some (Sum.inl (Sum.inl false))
    else
      bif decide (n10 ≥ nodes_1) then
        some (Sum.inl (Sum.inl false))
      else
        bif decide (s7 > 0) then
          Option.bind (idxM l_0 (isub .i64 s7 1)) fun t11 =>
          bif decide (n10 ≤ t11) then
            some (Sum.inl (Sum.inl false))
          else
            some (Sum.inr (iadd .i64 s7 1))
        else
          some (Sum.inr (iadd .i64 s7 1))
  else
    some (Sum.inl (Sum.inr ()))

noncomputable def network_Ascending_m (l_0 : (List Int)) (nodes_1 : Int) : Option (Bool) :=
  Option.bind (loopC (network_Ascending_l1 l_0 nodes_1) 0) (sumK (fun a : Bool => some a) fun q13 : Unit =>
    some true)

theorem network_Ascending_ok {l_0 : (List Int)} {nodes_1 : Int} {r : Bool} (hm : network_Ascending_m l_0 nodes_1 = some r) :
    FnOk prog 63 [slv (rI .i64) l_0, iv .i64 nodes_1] [] (fun (x : Unit) => [bv r]) (fun (x : Unit) => []) := by
  refine fn_ok (X := Unit) (fn := Try.f63) (N := 35) (m := network_Ascending_m l_0 nodes_1) (res := fun r x => [bv r]) (Ω1 := fun r x => []) Try.func63 rfl rfl hm rfl (fun E hM => ?_)
  unfold network_Ascending_m
  refine ref_seq ?_
  refine ref_region ?_
  refine s_rd (r_assign rfl) rfl ?_
  refine l_nil ?_
  refine n_then ?_
  refine ref_seq ?_
  refine ref_seq ?_
  refine ref_region ?_
  refine s_rd (r_move rfl) rfl ?_
  refine s_rd (r_len Try.underlying22 rfl) rfl ?_
  refine s_rd (r_move rfl) rfl ?_
  refine l_nil ?_
  refine n_then ?_
  refine ref_loopX (f := (network_Ascending_l1 l_0 nodes_1)) (Γl := (fun (s7 : Int) (x8 : Unit) => [(0, slv (rI .i64) l_0), (1, iv .i64 nodes_1), (7, slv (rI .i64) l_0), (8, iv .i64 (l_0.length : Int)), (9, iv .i64 s7)])) (Ωl := (fun (s7 : Int) (x8 : Unit) => [])) (Γb := (fun (q13 : Unit) (y14 : Unit) => [])) (Ωb := (fun (q13 : Unit) (y14 : Unit) => [])) (kr := (fun a : Bool => some a)) 0 () (weak [] ⟨rfl, rfl, rfl, rfl, rfl, trivial⟩ trivial) (fun s7 x8 => ?_) (fun q13 y14 => ?_)
  · unfold network_Ascending_l1
    refine ref_seq ?_
    refine ref_region ?_
    refine s_rd (r_lss rfl rfl) rfl ?_
    refine l_nil ?_
    refine n_then ?_
    refine ref_seq ?_
    refine ref_cond rfl (fun hb9 => ?_) (fun hb9 => ?_)
    · refine ref_skip ?_
      refine n_then ?_
      refine ref_seq ?_
      refine ref_block ?_
      refine ref_seq ?_
      refine ref_region ?_
      refine s_rd (r_move rfl) rfl ?_
      refine pull fun n10 h_n10 => ?_
      refine s_rd (r_index h_n10 Try.underlying22 el_3 rfl rfl) rfl ?_
      refine s_rd (r_load el_3 rfl) rfl ?_
      refine s_rd (r_assign rfl) rfl ?_
      refine s_rd (r_assign rfl) rfl ?_
      refine l_nil ?_
      refine n_then ?_
      refine ref_seq ?_
      refine ref_region ?_
      refine s_rd (r_move rfl) rfl ?_
      refine s_rd (r_lss rfl rfl) rfl ?_
      refine s_rd (r_move rfl) rfl ?_
      refine b_split (t := 16) rfl (fun _ => ?_) (fun _ => ?_)
      · refine s_off rfl rfl rfl rfl rfl ?_
        refine s_off rfl rfl rfl rfl rfl ?_
        refine s_off rfl rfl rfl rfl rfl ?_
        refine s_rd (r_pickT rfl rfl) rfl ?_
        refine s_rd (r_move rfl) rfl ?_
        refine s_off rfl rfl rfl rfl rfl ?_
        refine s_off rfl rfl rfl rfl rfl ?_
        refine s_off rfl rfl rfl rfl rfl ?_
        refine s_offU rfl rfl rfl ?_
        refine s_offU rfl rfl rfl ?_
        refine s_offU rfl rfl rfl ?_
        refine s_offU rfl rfl rfl ?_
        refine s_offU rfl rfl rfl ?_
        refine s_offU rfl rfl rfl ?_
        refine s_offU rfl rfl rfl ?_
        refine s_off rfl rfl rfl rfl rfl ?_
        refine s_rd (r_pickT rfl rfl) rfl ?_
        refine l_nil ?_
        refine n_then ?_
        refine ref_condT rfl rfl ?_
        refine ref_seq ?_
        refine ref_region ?_
        refine s_rd (r_assign rfl) rfl ?_
        refine l_nil ?_
        refine n_then ?_
        refine ref_ret ?_
        refine r_block ?_
        refine r_then ?_
        refine retX ?_
        refine r_block ?_
        refine r_then ?_
        exact fin1 (.inl rfl) () [] rfl trivial rfl (rv_tmp rfl)
      · refine s_on rfl rfl rfl ?_
        refine s_rd (r_move rfl) rfl ?_
        refine s_on rfl rfl rfl ?_
        refine s_rd (r_move rfl) rfl ?_
        refine s_on rfl rfl rfl ?_
        refine s_rd (r_geq rfl rfl) rfl ?_
        refine s_rd (r_pickF rfl rfl) rfl ?_
        refine s_rd (r_move rfl) rfl ?_
        refine b_split (t := 21) rfl (fun _ => ?_) (fun _ => ?_)
        · refine s_off rfl rfl rfl rfl rfl ?_
          refine s_off rfl rfl rfl rfl rfl ?_
          refine s_off rfl rfl rfl rfl rfl ?_
          refine s_offU rfl rfl rfl ?_
          refine s_offU rfl rfl rfl ?_
          refine s_offU rfl rfl rfl ?_
          refine s_offU rfl rfl rfl ?_
          refine s_offU rfl rfl rfl ?_
          refine s_offU rfl rfl rfl ?_
          refine s_offU rfl rfl rfl ?_
          refine s_off rfl rfl rfl rfl rfl ?_
          refine s_rd (r_pickT rfl rfl) rfl ?_
          refine l_nil ?_
          refine n_then ?_
          refine ref_condT rfl rfl ?_
          refine ref_seq ?_
          refine ref_region ?_
          refine s_rd (r_assign rfl) rfl ?_
          refine l_nil ?_
          refine n_then ?_
          refine ref_ret ?_
          refine r_block ?_
          refine r_then ?_
          refine retX ?_
          refine r_block ?_
          refine r_then ?_
          exact fin1 (.inl rfl) () [] rfl trivial rfl (rv_tmp rfl)
        · refine s_on rfl rfl rfl ?_
          refine s_rd (r_move rfl) rfl ?_
          refine s_on rfl rfl rfl ?_
          refine s_rd (r_gtr rfl rfl) rfl ?_
          refine s_on rfl rfl rfl ?_
          refine s_rd (r_move rfl) rfl ?_
          refine b_split (t := 24) rfl (fun _ => ?_) (fun _ => ?_)
          · refine s_on rfl rfl rfl ?_
            refine s_rd (r_move rfl) rfl ?_
            refine s_on rfl rfl rfl ?_
            refine s_rd (r_move rfl) rfl ?_
            refine s_on rfl rfl rfl ?_
            refine s_rd (r_move rfl) rfl ?_
            refine s_on rfl rfl rfl ?_
            refine s_rd (r_sub rfl rfl) rfl ?_
            refine s_on rfl rfl rfl ?_
            refine pull fun t11 h_t11 => ?_
            refine s_rd (r_index h_t11 Try.underlying22 el_3 rfl rfl) rfl ?_
            refine s_on rfl rfl rfl ?_
            refine s_rd (r_load el_3 rfl) rfl ?_
            refine s_on rfl rfl rfl ?_
            refine s_rd (r_leq rfl rfl) rfl ?_
            refine s_on rfl rfl rfl ?_
            refine s_rd (r_pickT rfl rfl) rfl ?_
            refine s_rd (r_pickF rfl rfl) rfl ?_
            refine l_nil ?_
            refine n_then ?_
            refine ref_cond rfl (fun hb12 => ?_) (fun hb12 => ?_)
            · refine ref_seq ?_
              refine ref_region ?_
              refine s_rd (r_assign rfl) rfl ?_
              refine l_nil ?_
              refine n_then ?_
              refine ref_ret ?_
              refine r_block ?_
              refine r_then ?_
              refine retX ?_
              refine r_block ?_
              refine r_then ?_
              exact fin1 (.inl rfl) () [] rfl trivial rfl (rv_tmp rfl)
            · refine ref_skip ?_
              refine n_block ?_
              refine n_then ?_
              refine ref_region ?_
              refine s_rd (r_add rfl rfl) rfl ?_
              refine s_rd (r_move rfl) rfl ?_
              refine l_nil ?_
              exact goX () (weak [] ⟨rfl, rfl, rfl, rfl, rfl, trivial⟩ trivial)
          · refine s_off rfl rfl rfl rfl rfl ?_
            refine s_off rfl rfl rfl rfl rfl ?_
            refine s_off rfl rfl rfl rfl rfl ?_
            refine s_off rfl rfl rfl rfl rfl ?_
            refine s_off rfl rfl rfl rfl rfl ?_
            refine s_off rfl rfl rfl rfl rfl ?_
            refine s_off rfl rfl rfl rfl rfl ?_
            refine s_on rfl rfl rfl ?_
            refine s_rd (r_pickF rfl rfl) rfl ?_
            refine s_rd (r_pickF rfl rfl) rfl ?_
            refine l_nil ?_
            refine n_then ?_
            refine ref_condF rfl rfl ?_
            refine ref_skip ?_
            refine n_block ?_
            refine n_then ?_
            refine ref_region ?_
            refine s_rd (r_add rfl rfl) rfl ?_
            refine s_rd (r_move rfl) rfl ?_
            refine l_nil ?_
            exact goX () (weak [] ⟨rfl, rfl, rfl, rfl, rfl, trivial⟩ trivial)
    · refine ref_exit ?_
      refine x_then ?_
      exact brkX () (weak [] trivial trivial)
  · refine n_then ?_
    refine ref_seq ?_
    refine ref_region ?_
    refine s_rd (r_assign rfl) rfl ?_
    refine l_nil ?_
    refine n_then ?_
    refine ref_ret ?_
    exact fin1 (.inl rfl) () [] rfl trivial rfl (rv_tmp rfl)

/-! deliberation/participant.valid -/
noncomputable def participant_valid_m (d_0 : T_api_Dialogue) (p_1 : T_api_Player) : Option (Int) :=
  joinM (fun j5 : Bool =>
      bif j5 then
        some 1
      else
        bif decide (p_1.Style < 1) then
          some 4
        else
          letM (decide (p_1.Style > 3)) fun t9 =>
          bif t9 then
            some 4
          else
            some 0) fun k7 =>
  Option.bind (network_Ascending_m p_1.Pool d_0.Graph.N) fun t3 =>
  bif !t3 then
    k7 true
  else
    Option.bind (network_Ascending_m p_1.Withheld d_0.Graph.N) fun t4 =>
    k7 (!t4)

theorem participant_valid_ok {d_0 : T_api_Dialogue} {p_1 : T_api_Player} {r : Int} (hm : participant_valid_m d_0 p_1 = some r) :
    FnOk prog 33 [ag [iv .i64 d_0.Graph.N, slv rT_api_Pair d_0.Graph.L, iv .i64 d_0.Root, iv .i64 d_0.Limits.i0, iv .i64 d_0.Limits.i1, slv rT_api_Move d_0.Moves], ag [slv (rI .i64) p_1.Pool, slv (rI .i64) p_1.Withheld, slv rT_api_Move p_1.Script, iv .i64 p_1.Style]] [] (fun (x : Unit) => [iv .i64 r]) (fun (x : Unit) => []) := by
  refine fn_ok (X := Unit) (fn := Try.f33) (N := 31) (m := participant_valid_m d_0 p_1) (res := fun r x => [iv .i64 r]) (Ω1 := fun r x => []) Try.func33 rfl rfl hm rfl (fun E hM => ?_)
  unfold participant_valid_m
  refine ref_seq ?_
  refine ref_region ?_
  refine s_st (s_box (part_ag (ψs := [iv .i64 d_0.Graph.N, slv rT_api_Pair d_0.Graph.L, iv .i64 d_0.Root, iv .i64 d_0.Limits.i0, iv .i64 d_0.Limits.i1, slv rT_api_Move d_0.Moves]) rfl (by intro φ h; simp only [List.mem_cons, List.not_mem_nil, or_false] at h; rcases h with rfl | rfl | rfl | rfl | rfl | rfl <;> first | exact iv_at | exact bv_at | exact sv_at | exact slv_at | exact pv_at rfl))) rfl (fun b1 => ?_)
  refine s_st (s_box (part_ag (ψs := [slv (rI .i64) p_1.Pool, slv (rI .i64) p_1.Withheld, slv rT_api_Move p_1.Script, iv .i64 p_1.Style]) rfl (by intro φ h; simp only [List.mem_cons, List.not_mem_nil, or_false] at h; rcases h with rfl | rfl | rfl | rfl <;> first | exact iv_at | exact bv_at | exact sv_at | exact slv_at | exact pv_at rfl))) rfl (fun b2 => ?_)
  refine s_rd (r_assign rfl) rfl ?_
  refine l_nil ?_
  refine n_then ?_
  refine ref_seq ?_
  refine ref_block ?_
  refine ref_seq ?_
  refine ref_join (fun (j5 : Bool) (x6 : Unit) => [(3, pv (ptr b2 0)), (5, bv j5)]) (fun (j5 : Bool) (x6 : Unit) => [oc b2 [slv (rI .i64) p_1.Pool, slv (rI .i64) p_1.Withheld, slv rT_api_Move p_1.Script, iv .i64 p_1.Style]]) (fun k7 hk7 => ?_) (fun j5 x6 => ?_)
  · refine ref_region ?_
    refine s_rd (r_faddr (fo := 0) Try.underlying25 rfl rfl Try.sizeOf22 rfl) rfl ?_
    refine s_rd (r_cload Try.isAgg22 rfl (j := 1) rfl rfl) rfl ?_
    refine s_rd (r_faddr (fo := 0) Try.underlying35 rfl rfl Try.sizeOf28 rfl) rfl ?_
    refine s_rd (r_faddr (fo := 0) Try.underlying28 rfl rfl Try.sizeOf3 rfl) rfl ?_
    refine s_rd (r_cload Try.isAgg3 rfl (j := 0) rfl rfl) rfl ?_
    refine pull fun t3 h_t3 => ?_
    refine s_st (s_call (ψ := fun (_ : Unit) => bv t3) (args := [.tmp 7, .tmp 10]) Try.call63 rfl (network_Ascending_ok h_t3) ⟨arg rfl, arg rfl, trivial⟩ (fun _ _ _ _ h => h)) rfl (fun _ => ?_)
    refine s_rd (r_not rfl) rfl ?_
    refine s_rd (r_move rfl) rfl ?_
    refine b_split (t := 13) rfl (fun _ => ?_) (fun _ => ?_)
    · refine s_off rfl rfl rfl rfl rfl ?_
      refine s_off rfl rfl rfl rfl rfl ?_
      refine s_off rfl rfl rfl rfl rfl ?_
      refine s_off rfl rfl rfl rfl rfl ?_
      refine s_off rfl rfl rfl rfl rfl ?_
      refine s_off rfl rfl rfl rfl rfl ?_
      refine s_off rfl rfl rfl rfl rfl ?_
      refine s_rd (r_pickT rfl rfl) rfl ?_
      refine s_rd (r_assign rfl) rfl ?_
      refine l_nil ?_
      exact b_to (hk7 true ()) (weak [1] ⟨rfl, rfl, trivial⟩ ⟨rfl, trivial⟩)
    · refine s_on rfl rfl rfl ?_
      refine s_rd (r_faddr (fo := 1) Try.underlying25 rfl rfl Try.sizeOf22 rfl) rfl ?_
      refine s_on rfl rfl rfl ?_
      refine s_rd (r_cload Try.isAgg22 rfl (j := 1) rfl rfl) rfl ?_
      refine s_on rfl rfl rfl ?_
      refine s_rd (r_faddr (fo := 0) Try.underlying35 rfl rfl Try.sizeOf28 rfl) rfl ?_
      refine s_on rfl rfl rfl ?_
      refine s_rd (r_faddr (fo := 0) Try.underlying28 rfl rfl Try.sizeOf3 rfl) rfl ?_
      refine s_on rfl rfl rfl ?_
      refine s_rd (r_cload Try.isAgg3 rfl (j := 0) rfl rfl) rfl ?_
      refine s_on rfl rfl rfl ?_
      refine pull fun t4 h_t4 => ?_
      refine s_st (s_call (ψ := fun (_ : Unit) => bv t4) (args := [.tmp 15, .tmp 18]) Try.call63 rfl (network_Ascending_ok h_t4) ⟨arg rfl, arg rfl, trivial⟩ (fun _ _ _ _ h => h)) rfl (fun _ => ?_)
      refine s_on rfl rfl rfl ?_
      refine s_rd (r_not rfl) rfl ?_
      refine s_rd (r_pickF rfl rfl) rfl ?_
      refine s_rd (r_assign rfl) rfl ?_
      refine l_nil ?_
      refine b_of (nrm [oc b1 [iv .i64 d_0.Graph.N, slv rT_api_Pair d_0.Graph.L, iv .i64 d_0.Root, iv .i64 d_0.Limits.i0, iv .i64 d_0.Limits.i1, slv rT_api_Move d_0.Moves], oc b2 [slv (rI .i64) p_1.Pool, slv (rI .i64) p_1.Withheld, slv rT_api_Move p_1.Script, iv .i64 p_1.Style]] rfl) ?_
      exact b_to (hk7 (!t4) ()) (weak [1] ⟨rfl, rfl, trivial⟩ ⟨rfl, trivial⟩)
  · refine n_then ?_
    refine ref_cond rfl (fun hb8 => ?_) (fun hb8 => ?_)
    · refine ref_seq ?_
      refine ref_region ?_
      refine s_rd (r_assign rfl) rfl ?_
      refine l_nil ?_
      refine n_then ?_
      refine ref_ret ?_
      refine r_block ?_
      refine r_then ?_
      exact fin1 (.inl rfl) () [] rfl trivial rfl (rv_tmp rfl)
    · refine ref_seq ?_
      refine ref_region ?_
      refine s_rd (r_faddr (fo := 3) Try.underlying25 rfl rfl Try.sizeOf3 rfl) rfl ?_
      refine s_rd (r_cload Try.isAgg3 rfl (j := 0) rfl rfl) rfl ?_
      refine s_rd (r_lss rfl rfl) rfl ?_
      refine s_rd (r_move rfl) rfl ?_
      refine b_split (t := 26) rfl (fun _ => ?_) (fun _ => ?_)
      · refine s_off rfl rfl rfl rfl rfl ?_
        refine s_off rfl rfl rfl rfl rfl ?_
        refine s_off rfl rfl rfl rfl rfl ?_
        refine s_rd (r_pickT rfl rfl) rfl ?_
        refine s_rd (r_assign rfl) rfl ?_
        refine l_nil ?_
        refine n_then ?_
        refine ref_condT rfl rfl ?_
        refine ref_seq ?_
        refine ref_region ?_
        refine s_rd (r_assign rfl) rfl ?_
        refine l_nil ?_
        refine n_then ?_
        refine ref_ret ?_
        refine r_block ?_
        refine r_then ?_
        exact fin1 (.inl rfl) () [] rfl trivial rfl (rv_tmp rfl)
      · refine s_on rfl rfl rfl ?_
        refine s_rd (r_faddr (fo := 3) Try.underlying25 rfl rfl Try.sizeOf3 rfl) rfl ?_
        refine s_on rfl rfl rfl ?_
        refine s_rd (r_cload Try.isAgg3 rfl (j := 0) rfl rfl) rfl ?_
        refine s_on rfl rfl rfl ?_
        refine s_rd (r_gtr rfl rfl) rfl ?_
        refine s_rd (r_pickF rfl rfl) rfl ?_
        refine s_rd (r_assign rfl) rfl ?_
        refine b_let (f := bv) (t := 22) rfl fun t9 => ?_
        refine l_nil ?_
        refine n_then ?_
        refine ref_cond rfl (fun hb10 => ?_) (fun hb10 => ?_)
        · refine ref_seq ?_
          refine ref_region ?_
          refine s_rd (r_assign rfl) rfl ?_
          refine l_nil ?_
          refine n_then ?_
          refine ref_ret ?_
          refine r_block ?_
          refine r_then ?_
          exact fin1 (.inl rfl) () [] rfl trivial rfl (rv_tmp rfl)
        · refine ref_skip ?_
          refine n_block ?_
          refine n_then ?_
          refine ref_seq ?_
          refine ref_region ?_
          refine s_rd (r_assign rfl) rfl ?_
          refine l_nil ?_
          refine n_then ?_
          refine ref_ret ?_
          exact fin1 (.inl rfl) () [] rfl trivial rfl (rv_tmp rfl)

/-! slices.Clone[[]deliberation/api.Pair,deliberation/api.Pair] -/
def slices_Clone_api_Pair_api_Pair_m (d_0 : List T_api_Pair) : Option (List T_api_Pair) := appM 16 [] d_0

theorem slices_Clone_api_Pair_api_Pair_ok {d_0 r : List T_api_Pair} (hm : slices_Clone_api_Pair_api_Pair_m d_0 = some r) : FnOk prog 45 [slv rT_api_Pair d_0] [] (fun (x : Value × List Nat) => [pv x.1]) (fun (x : Value × List Nat) => [oa rT_api_Pair x.1 x.2 r]) := by
  have hm' : appM 16 [] d_0 = some r := hm
  have hr : r = d_0 := by have := (appM_some hm').2; simpa using this
  subst hr
  refine fn_ok (X := Value × List Nat) (fn := Try.f45) (N := 8) (m := some ()) (r := ()) (res := fun _ x => [pv x.1]) (Ω1 := fun _ x => [oa rT_api_Pair x.1 x.2 r]) Try.func45 rfl rfl rfl rfl (fun E hM => ?_)
  refine ref_seq ?_
  refine ref_region ?_
  refine s_rd (r_assign rfl) rfl ?_
  refine l_nil ?_
  refine n_then ?_
  refine ref_seq ?_
  refine ref_seq ?_
  refine ref_region ?_
  refine s_rd (r_move rfl) rfl ?_
  refine s_st (s_isnil Try.underlying26 rfl) rfl (fun b => ?_)
  refine l_nil ?_
  refine n_then ?_
  refine ref_condE (b := b.1) rfl (fun hb => ?_) (fun hb => ?_)
  · refine ref_seq ?_
    refine ref_region ?_
    refine s_rd (r_assign rfl) rfl ?_
    refine l_nil ?_
    refine n_then ?_
    refine ref_ret ?_
    refine r_then ?_
    have hd := b.2 hb
    subst hd
    refine b_of (own_nil rT_api_Pair) ?_
    exact fin1 (.inl rfl) (.slice none 0 0, []) [0] rfl ⟨rfl, trivial⟩ rfl (rv_tmp rfl)
  · refine ref_skip ?_
    refine n_then ?_
    refine ref_seq ?_
    refine ref_region ?_
    refine s_st (s_bsliceO (xs := []) (ds := []) Try.underlying26 el_67 rfl (Nat.le_of_ble_eq_true rfl) trivial) rfl (fun o => ?_)
    refine s_rd (r_move rfl) rfl ?_
    refine s_st (s_append hm' Try.underlying26 el_67 rfl (j := 0) rfl rfl) rfl (fun o2 => ?_)
    refine s_rd (r_assign rfl) rfl ?_
    refine l_nil ?_
    refine n_then ?_
    refine ref_ret ?_
    exact fin1 (.inl rfl) o2 [0] rfl ⟨rfl, trivial⟩ rfl (rv_tmp rfl)

/-! slices.Clone[[]deliberation/api.Move,deliberation/api.Move] -/
def slices_Clone_api_Move_api_Move_m (d_0 : List T_api_Move) : Option (List T_api_Move) := appM 32 [] d_0

theorem slices_Clone_api_Move_api_Move_ok {d_0 r : List T_api_Move} (hm : slices_Clone_api_Move_api_Move_m d_0 = some r) : FnOk prog 46 [slv rT_api_Move d_0] [] (fun (x : Value × List Nat) => [pv x.1]) (fun (x : Value × List Nat) => [oa rT_api_Move x.1 x.2 r]) := by
  have hm' : appM 32 [] d_0 = some r := hm
  have hr : r = d_0 := by have := (appM_some hm').2; simpa using this
  subst hr
  refine fn_ok (X := Value × List Nat) (fn := Try.f46) (N := 8) (m := some ()) (r := ()) (res := fun _ x => [pv x.1]) (Ω1 := fun _ x => [oa rT_api_Move x.1 x.2 r]) Try.func46 rfl rfl rfl rfl (fun E hM => ?_)
  refine ref_seq ?_
  refine ref_region ?_
  refine s_rd (r_assign rfl) rfl ?_
  refine l_nil ?_
  refine n_then ?_
  refine ref_seq ?_
  refine ref_seq ?_
  refine ref_region ?_
  refine s_rd (r_move rfl) rfl ?_
  refine s_st (s_isnil Try.underlying23 rfl) rfl (fun b => ?_)
  refine l_nil ?_
  refine n_then ?_
  refine ref_condE (b := b.1) rfl (fun hb => ?_) (fun hb => ?_)
  · refine ref_seq ?_
    refine ref_region ?_
    refine s_rd (r_assign rfl) rfl ?_
    refine l_nil ?_
    refine n_then ?_
    refine ref_ret ?_
    refine r_then ?_
    have hd := b.2 hb
    subst hd
    refine b_of (own_nil rT_api_Move) ?_
    exact fin1 (.inl rfl) (.slice none 0 0, []) [0] rfl ⟨rfl, trivial⟩ rfl (rv_tmp rfl)
  · refine ref_skip ?_
    refine n_then ?_
    refine ref_seq ?_
    refine ref_region ?_
    refine s_st (s_bsliceO (xs := []) (ds := []) Try.underlying23 el_40 rfl (Nat.le_of_ble_eq_true rfl) trivial) rfl (fun o => ?_)
    refine s_rd (r_move rfl) rfl ?_
    refine s_st (s_append hm' Try.underlying23 el_40 rfl (j := 0) rfl rfl) rfl (fun o2 => ?_)
    refine s_rd (r_assign rfl) rfl ?_
    refine l_nil ?_
    refine n_then ?_
    refine ref_ret ?_
    exact fin1 (.inl rfl) o2 [0] rfl ⟨rfl, trivial⟩ rfl (rv_tmp rfl)

/-! deliberation/protocol.attacks -/
noncomputable def protocol_attacks_m (l_0 : (List T_api_Move)) (i_1 : Int) : Option (Bool) :=
  Option.bind (idxM l_0 i_1) fun t1 =>
  bif t1.Kind == 2 then
    Option.bind (idxM l_0 i_1) fun t2 =>
    bif decide (t2.Target ≥ 0) then
      Option.bind (idxM l_0 i_1) fun t3 =>
      letM (decide (t3.Target < i_1)) fun t4 =>
      some t4
    else
      some false
  else
    some false

theorem protocol_attacks_ok {l_0 : (List T_api_Move)} {i_1 : Int} {r : Bool} (hm : protocol_attacks_m l_0 i_1 = some r) :
    FnOk prog 86 [slv rT_api_Move l_0, iv .i64 i_1] [] (fun (x : Unit) => [bv r]) (fun (x : Unit) => []) := by
  refine fn_ok (X := Unit) (fn := Try.f86) (N := 28) (m := protocol_attacks_m l_0 i_1) (res := fun r x => [bv r]) (Ω1 := fun r x => []) Try.func86 rfl rfl hm rfl (fun E hM => ?_)
  unfold protocol_attacks_m
  refine ref_seq ?_
  refine ref_region ?_
  refine s_rd (r_assign rfl) rfl ?_
  refine l_nil ?_
  refine n_then ?_
  refine ref_seq ?_
  refine ref_region ?_
  refine s_rd (r_move rfl) rfl ?_
  refine s_rd (r_move rfl) rfl ?_
  refine pull fun t1 h_t1 => ?_
  refine s_rd (r_index h_t1 Try.underlying23 el_40 rfl rfl) rfl ?_
  refine s_rd (r_fea (fo := 1) (ρ := rT_api_Move) (y := t1) (ρ' := (rI .i64)) (z := t1.Kind) Try.underlying40 rfl rfl Try.sizeOf3 rfl rfl rfl) rfl ?_
  refine s_rd (r_load el_3 rfl) rfl ?_
  refine s_rd (r_eql rfl rfl) rfl ?_
  refine s_rd (r_move rfl) rfl ?_
  refine b_split (t := 11) rfl (fun _ => ?_) (fun _ => ?_)
  · refine s_on rfl rfl rfl ?_
    refine s_rd (r_move rfl) rfl ?_
    refine s_on rfl rfl rfl ?_
    refine s_rd (r_move rfl) rfl ?_
    refine s_on rfl rfl rfl ?_
    refine pull fun t2 h_t2 => ?_
    refine s_rd (r_index h_t2 Try.underlying23 el_40 rfl rfl) rfl ?_
    refine s_on rfl rfl rfl ?_
    refine s_rd (r_fea (fo := 3) (ρ := rT_api_Move) (y := t2) (ρ' := (rI .i64)) (z := t2.Target) Try.underlying40 rfl rfl Try.sizeOf3 rfl rfl rfl) rfl ?_
    refine s_on rfl rfl rfl ?_
    refine s_rd (r_load el_3 rfl) rfl ?_
    refine s_on rfl rfl rfl ?_
    refine s_rd (r_geq rfl rfl) rfl ?_
    refine s_rd (r_pickT rfl rfl) rfl ?_
    refine s_rd (r_move rfl) rfl ?_
    refine b_split (t := 19) rfl (fun _ => ?_) (fun _ => ?_)
    · refine s_on rfl rfl rfl ?_
      refine s_rd (r_move rfl) rfl ?_
      refine s_on rfl rfl rfl ?_
      refine s_rd (r_move rfl) rfl ?_
      refine s_on rfl rfl rfl ?_
      refine pull fun t3 h_t3 => ?_
      refine s_rd (r_index h_t3 Try.underlying23 el_40 rfl rfl) rfl ?_
      refine s_on rfl rfl rfl ?_
      refine s_rd (r_fea (fo := 3) (ρ := rT_api_Move) (y := t3) (ρ' := (rI .i64)) (z := t3.Target) Try.underlying40 rfl rfl Try.sizeOf3 rfl rfl rfl) rfl ?_
      refine s_on rfl rfl rfl ?_
      refine s_rd (r_load el_3 rfl) rfl ?_
      refine s_on rfl rfl rfl ?_
      refine s_rd (r_move rfl) rfl ?_
      refine s_on rfl rfl rfl ?_
      refine s_rd (r_lss rfl rfl) rfl ?_
      refine s_rd (r_pickT rfl rfl) rfl ?_
      refine s_rd (r_assign rfl) rfl ?_
      refine b_let (f := bv) (t := 4) rfl fun t4 => ?_
      refine l_nil ?_
      refine n_then ?_
      refine ref_ret ?_
      exact fin1 (.inl rfl) () [] rfl trivial rfl (rv_tmp rfl)
    · refine s_off rfl rfl rfl rfl rfl ?_
      refine s_off rfl rfl rfl rfl rfl ?_
      refine s_off rfl rfl rfl rfl rfl ?_
      refine s_off rfl rfl rfl rfl rfl ?_
      refine s_off rfl rfl rfl rfl rfl ?_
      refine s_off rfl rfl rfl rfl rfl ?_
      refine s_off rfl rfl rfl rfl rfl ?_
      refine s_rd (r_pickF rfl rfl) rfl ?_
      refine s_rd (r_assign rfl) rfl ?_
      refine l_nil ?_
      refine n_then ?_
      refine ref_ret ?_
      exact fin1 (.inl rfl) () [] rfl trivial rfl (rv_tmp rfl)
  · refine s_off rfl rfl rfl rfl rfl ?_
    refine s_off rfl rfl rfl rfl rfl ?_
    refine s_off rfl rfl rfl rfl rfl ?_
    refine s_off rfl rfl rfl rfl rfl ?_
    refine s_off rfl rfl rfl rfl rfl ?_
    refine s_off rfl rfl rfl rfl rfl ?_
    refine s_rd (r_pickF rfl rfl) rfl ?_
    refine s_rd (r_move rfl) rfl ?_
    refine s_off rfl rfl rfl rfl rfl ?_
    refine s_off rfl rfl rfl rfl rfl ?_
    refine s_off rfl rfl rfl rfl rfl ?_
    refine s_off rfl rfl rfl rfl rfl ?_
    refine s_off rfl rfl rfl rfl rfl ?_
    refine s_off rfl rfl rfl rfl rfl ?_
    refine s_off rfl rfl rfl rfl rfl ?_
    refine s_rd (r_pickF rfl rfl) rfl ?_
    refine s_rd (r_assign rfl) rfl ?_
    refine l_nil ?_
    refine n_then ?_
    refine ref_ret ?_
    exact fin1 (.inl rfl) () [] rfl trivial rfl (rv_tmp rfl)

/-! deliberation/protocol.Status -/
noncomputable def protocol_Status_l1 (d_0 : T_api_Dialogue) (s26 : Int × (List Bool)) : Option (Sum ((List Bool)) (Int × (List Bool))) :=
  bif decide (s26.1 < (d_0.Moves.length : Int)) then
    Option.bind (idxM d_0.Moves s26.1) fun t29 =>
    joinM (fun j31 : Bool =>
        bif j31 then
          Option.bind (idxM s26.2 t29.Target) fun t35 =>
          some (Sum.inr (iadd .i64 s26.1 1, s26.2.set (Int.toNat t29.Target) true))
        else
          some (Sum.inr (iadd .i64 s26.1 1, s26.2))) fun k33 =>
    bif t29.Kind == 3 then
      bif decide (t29.Target ≥ 0) then
        k33 (decide (t29.Target < (s26.2.length : Int)))
      else
        k33 false
    else
      k33 false
  else
    some (Sum.inl s26.2)

noncomputable def protocol_Status_l2 (d_0 : T_api_Dialogue) (q36 : (List Bool)) (s48 : Int × (List Int)) : Option (Sum ((List Int)) (Int × (List Int))) :=
  bif decide (s48.1 < (d_0.Moves.length : Int)) then
    bif s48.1 == 0 then
      Option.bind (idxM s48.2 s48.1) fun t55 =>
      some (Sum.inr (iadd .i64 s48.1 1, s48.2.set (Int.toNat s48.1) 1))
    else
      Option.bind (protocol_attacks_m d_0.Moves s48.1) fun t51 =>
      bif t51 then
        Option.bind (idxM q36 s48.1) fun t52 =>
        bif !t52 then
          Option.bind (idxM d_0.Moves s48.1) fun t53 =>
          Option.bind (idxM s48.2 t53.Target) fun t54 =>
          bif t54 != 0 then
            Option.bind (idxM s48.2 s48.1) fun t57 =>
            some (Sum.inr (iadd .i64 s48.1 1, s48.2.set (Int.toNat s48.1) 1))
          else
            some (Sum.inr (iadd .i64 s48.1 1, s48.2))
        else
          some (Sum.inr (iadd .i64 s48.1 1, s48.2))
      else
        some (Sum.inr (iadd .i64 s48.1 1, s48.2))
  else
    some (Sum.inl s48.2)

noncomputable def protocol_Status_l3 (d_0 : T_api_Dialogue) (s79 : Int × (List Int)) : Option (Sum ((List Int)) (Int × (List Int))) :=
  bif decide (s79.1 > 0) then
    Option.bind (idxM s79.2 s79.1) fun t82 =>
    bif t82 == 1 then
      Option.bind (idxM d_0.Moves s79.1) fun t84 =>
      Option.bind (idxM s79.2 t84.Target) fun t85 =>
      letM (isub .i64 s79.1 1) fun i86 =>
      some (Sum.inr (i86, s79.2.set (Int.toNat t84.Target) 2))
    else
      letM (isub .i64 s79.1 1) fun i87 =>
      some (Sum.inr (i87, s79.2))
  else
    some (Sum.inl s79.2)

noncomputable def protocol_Status_m (d_0 : T_api_Dialogue) : Option (List Int) :=
  Option.bind (mkM 8 0 (d_0.Moves.length : Int)) fun out2 =>
  Option.bind (mkM 1 false (d_0.Moves.length : Int)) fun retracted4 =>
  Option.bind (loopC (protocol_Status_l1 d_0) (0, retracted4)) fun q36 : (List Bool) =>
  Option.bind (loopC (protocol_Status_l2 d_0 q36) (0, out2)) fun q58 : (List Int) =>
  letM (isub .i64 (q58.length : Int) 1) fun i60 =>
  Option.bind (loopC (protocol_Status_l3 d_0) (i60, q58)) fun q88 : (List Int) =>
  some q88

theorem protocol_Status_ok {d_0 : T_api_Dialogue} {r : List Int} (hm : protocol_Status_m d_0 = some r) :
    FnOk prog 81 [ag [iv .i64 d_0.Graph.N, slv rT_api_Pair d_0.Graph.L, iv .i64 d_0.Root, iv .i64 d_0.Limits.i0, iv .i64 d_0.Limits.i1, slv rT_api_Move d_0.Moves]] [] (fun (x : (Value × List Nat)) => [pv x.1]) (fun (x : (Value × List Nat)) => [oa (rI .i64) x.1 x.2 r]) := by
  refine fn_ok (X := (Value × List Nat)) (fn := Try.f81) (N := 102) (m := protocol_Status_m d_0) (res := fun r x => [pv x.1]) (Ω1 := fun r x => [oa (rI .i64) x.1 x.2 r]) Try.func81 rfl rfl hm rfl (fun E hM => ?_)
  unfold protocol_Status_m
  refine ref_seq ?_
  refine ref_region ?_
  refine s_st (s_box (part_ag (ψs := [iv .i64 d_0.Graph.N, slv rT_api_Pair d_0.Graph.L, iv .i64 d_0.Root, iv .i64 d_0.Limits.i0, iv .i64 d_0.Limits.i1, slv rT_api_Move d_0.Moves]) rfl (by intro φ h; simp only [List.mem_cons, List.not_mem_nil, or_false] at h; rcases h with rfl | rfl | rfl | rfl | rfl | rfl <;> first | exact iv_at | exact bv_at | exact sv_at | exact slv_at | exact pv_at rfl))) rfl (fun b1 => ?_)
  refine s_rd (r_assign rfl) rfl ?_
  refine l_nil ?_
  refine n_then ?_
  refine ref_seq ?_
  refine ref_region ?_
  refine s_rd (r_faddr (fo := 5) Try.underlying35 rfl rfl Try.sizeOf23 rfl) rfl ?_
  refine s_rd (r_cload Try.isAgg23 rfl (j := 0) rfl rfl) rfl ?_
  refine s_rd (r_len Try.underlying23 rfl) rfl ?_
  refine pull fun out2 h_out2 => ?_
  refine s_st (s_make h_out2 Try.underlying22 el_3 ze_3 rfl rfl) rfl (fun o3 => ?_)
  refine s_rd (r_assign rfl) rfl ?_
  refine l_nil ?_
  refine n_then ?_
  refine ref_seq ?_
  refine ref_region ?_
  refine s_rd (r_faddr (fo := 5) Try.underlying35 rfl rfl Try.sizeOf23 rfl) rfl ?_
  refine s_rd (r_cload Try.isAgg23 rfl (j := 0) rfl rfl) rfl ?_
  refine s_rd (r_len Try.underlying23 rfl) rfl ?_
  refine pull fun retracted4 h_retracted4 => ?_
  refine s_st (s_make h_retracted4 Try.underlying93 el_4 ze_4 rfl rfl) rfl (fun o5 => ?_)
  refine s_rd (r_assign rfl) rfl ?_
  refine l_nil ?_
  refine n_then ?_
  refine ref_seq ?_
  refine ref_seq ?_
  refine ref_region ?_
  refine s_rd (r_faddr (fo := 5) Try.underlying35 rfl rfl Try.sizeOf23 rfl) rfl ?_
  refine s_rd (r_cload Try.isAgg23 rfl (j := 0) rfl rfl) rfl ?_
  refine s_rd (r_len Try.underlying23 rfl) rfl ?_
  refine s_rd (r_move rfl) rfl ?_
  refine l_nil ?_
  refine n_then ?_
  refine ref_loopB (f := (protocol_Status_l1 d_0)) (Γl := (fun (s26 : Int × (List Bool)) (x27 : Unit) => [(1, pv (ptr b1 0)), (3, pv o3.1), (4, pv o5.1), (18, slv rT_api_Move d_0.Moves), (19, iv .i64 (d_0.Moves.length : Int)), (20, iv .i64 s26.1)])) (Ωl := (fun (s26 : Int × (List Bool)) (x27 : Unit) => [oc b1 [iv .i64 d_0.Graph.N, slv rT_api_Pair d_0.Graph.L, iv .i64 d_0.Root, iv .i64 d_0.Limits.i0, iv .i64 d_0.Limits.i1, slv rT_api_Move d_0.Moves], oa (rI .i64) o3.1 o3.2 out2, oa rB o5.1 o5.2 s26.2])) (Γb := (fun (q36 : (List Bool)) (y37 : Unit) => [(1, pv (ptr b1 0)), (3, pv o3.1), (4, pv o5.1)])) (Ωb := (fun (q36 : (List Bool)) (y37 : Unit) => [oc b1 [iv .i64 d_0.Graph.N, slv rT_api_Pair d_0.Graph.L, iv .i64 d_0.Root, iv .i64 d_0.Limits.i0, iv .i64 d_0.Limits.i1, slv rT_api_Move d_0.Moves], oa (rI .i64) o3.1 o3.2 out2, oa rB o5.1 o5.2 q36])) (0, retracted4) () (weak [0, 1, 2] ⟨rfl, rfl, rfl, rfl, rfl, rfl, trivial⟩ ⟨rfl, rfl, rfl, trivial⟩) (fun s26 x27 => ?_) (fun q36 y37 => ?_)
  · unfold protocol_Status_l1
    refine ref_seq ?_
    refine ref_region ?_
    refine s_rd (r_lss rfl rfl) rfl ?_
    refine l_nil ?_
    refine n_then ?_
    refine ref_seq ?_
    refine ref_cond rfl (fun hb28 => ?_) (fun hb28 => ?_)
    · refine ref_skip ?_
      refine n_then ?_
      refine ref_seq ?_
      refine ref_block ?_
      refine ref_seq ?_
      refine ref_region ?_
      refine pull fun t29 h_t29 => ?_
      refine s_rd (r_index h_t29 Try.underlying23 el_40 rfl rfl) rfl ?_
      refine s_rd (r_load el_40 rfl) rfl ?_
      refine s_st (s_alloc zt_40) rfl (fun b30 => ?_)
      refine s_st0 (s_cstore (out := [iv .i64 t29.By, iv .i64 t29.Kind, iv .i64 t29.Node, iv .i64 t29.Target]) Try.sizeOf40 rfl (j := 3) rfl (part_ag (ψs := [iv .i64 t29.By, iv .i64 t29.Kind, iv .i64 t29.Node, iv .i64 t29.Target]) rfl (by intro φ h; simp only [List.mem_cons, List.not_mem_nil, or_false] at h; rcases h with rfl | rfl | rfl | rfl <;> first | exact iv_at | exact bv_at | exact sv_at | exact slv_at | exact pv_at rfl)) rfl rfl rfl) (fun _ => ?_)
      refine l_nil ?_
      refine b_of (nrm [oc b1 [iv .i64 d_0.Graph.N, slv rT_api_Pair d_0.Graph.L, iv .i64 d_0.Root, iv .i64 d_0.Limits.i0, iv .i64 d_0.Limits.i1, slv rT_api_Move d_0.Moves], oa (rI .i64) o3.1 o3.2 out2, oa rB o5.1 o5.2 s26.2, oc b30 [iv .i64 t29.By, iv .i64 t29.Kind, iv .i64 t29.Node, iv .i64 t29.Target]] rfl) ?_
      refine n_then ?_
      refine ref_seq ?_
      refine ref_join (fun (j31 : Bool) (x32 : Unit) => [(1, pv (ptr b1 0)), (3, pv o3.1), (4, pv o5.1), (6, pv (ptr b30 0)), (18, slv rT_api_Move d_0.Moves), (19, iv .i64 (d_0.Moves.length : Int)), (20, iv .i64 s26.1), (38, bv j31)]) (fun (j31 : Bool) (x32 : Unit) => [oc b1 [iv .i64 d_0.Graph.N, slv rT_api_Pair d_0.Graph.L, iv .i64 d_0.Root, iv .i64 d_0.Limits.i0, iv .i64 d_0.Limits.i1, slv rT_api_Move d_0.Moves], oa (rI .i64) o3.1 o3.2 out2, oa rB o5.1 o5.2 s26.2, oc b30 [iv .i64 t29.By, iv .i64 t29.Kind, iv .i64 t29.Node, iv .i64 t29.Target]]) (fun k33 hk33 => ?_) (fun j31 x32 => ?_)
      · refine ref_region ?_
        refine s_rd (r_faddr (fo := 1) Try.underlying40 rfl rfl Try.sizeOf3 rfl) rfl ?_
        refine s_rd (r_cload Try.isAgg3 rfl (j := 3) rfl rfl) rfl ?_
        refine s_rd (r_eql rfl rfl) rfl ?_
        refine s_rd (r_move rfl) rfl ?_
        refine b_split (t := 27) rfl (fun _ => ?_) (fun _ => ?_)
        · refine s_on rfl rfl rfl ?_
          refine s_rd (r_faddr (fo := 3) Try.underlying40 rfl rfl Try.sizeOf3 rfl) rfl ?_
          refine s_on rfl rfl rfl ?_
          refine s_rd (r_cload Try.isAgg3 rfl (j := 3) rfl rfl) rfl ?_
          refine s_on rfl rfl rfl ?_
          refine s_rd (r_geq rfl rfl) rfl ?_
          refine s_rd (r_pickT rfl rfl) rfl ?_
          refine s_rd (r_move rfl) rfl ?_
          refine b_split (t := 32) rfl (fun _ => ?_) (fun _ => ?_)
          · refine s_on rfl rfl rfl ?_
            refine s_rd (r_faddr (fo := 3) Try.underlying40 rfl rfl Try.sizeOf3 rfl) rfl ?_
            refine s_on rfl rfl rfl ?_
            refine s_rd (r_cload Try.isAgg3 rfl (j := 3) rfl rfl) rfl ?_
            refine s_on rfl rfl rfl ?_
            refine s_rd (r_move rfl) rfl ?_
            refine s_on rfl rfl rfl ?_
            refine s_rd (r_olen Try.underlying93 rfl (j := 2) rfl) rfl ?_
            refine s_on rfl rfl rfl ?_
            refine s_rd (r_lss rfl rfl) rfl ?_
            refine s_rd (r_pickT rfl rfl) rfl ?_
            refine l_nil ?_
            exact b_to (hk33 (decide (t29.Target < (s26.2.length : Int))) ()) (weak [0, 1, 2, 3] ⟨rfl, rfl, rfl, rfl, rfl, rfl, rfl, rfl, trivial⟩ ⟨rfl, rfl, rfl, rfl, trivial⟩)
          · refine s_off rfl rfl rfl rfl rfl ?_
            refine s_off rfl rfl rfl rfl rfl ?_
            refine s_off rfl rfl rfl rfl rfl ?_
            refine s_off rfl rfl rfl rfl rfl ?_
            refine s_off rfl rfl rfl rfl rfl ?_
            refine s_rd (r_pickF rfl rfl) rfl ?_
            refine l_nil ?_
            exact b_to (hk33 false ()) (weak [0, 1, 2, 3] ⟨rfl, rfl, rfl, rfl, rfl, rfl, rfl, rfl, trivial⟩ ⟨rfl, rfl, rfl, rfl, trivial⟩)
        · refine s_off rfl rfl rfl rfl rfl ?_
          refine s_off rfl rfl rfl rfl rfl ?_
          refine s_off rfl rfl rfl rfl rfl ?_
          refine s_rd (r_pickF rfl rfl) rfl ?_
          refine s_rd (r_move rfl) rfl ?_
          refine s_off rfl rfl rfl rfl rfl ?_
          refine s_off rfl rfl rfl rfl rfl ?_
          refine s_off rfl rfl rfl rfl rfl ?_
          refine s_off rfl rfl rfl rfl rfl ?_
          refine s_off rfl rfl rfl rfl rfl ?_
          refine s_rd (r_pickF rfl rfl) rfl ?_
          refine l_nil ?_
          exact b_to (hk33 false ()) (weak [0, 1, 2, 3] ⟨rfl, rfl, rfl, rfl, rfl, rfl, rfl, rfl, trivial⟩ ⟨rfl, rfl, rfl, rfl, trivial⟩)
      · refine n_then ?_
        refine ref_cond rfl (fun hb34 => ?_) (fun hb34 => ?_)
        · refine ref_region ?_
          refine s_rd (r_move rfl) rfl ?_
          refine s_rd (r_faddr (fo := 3) Try.underlying40 rfl rfl Try.sizeOf3 rfl) rfl ?_
          refine s_rd (r_cload Try.isAgg3 rfl (j := 3) rfl rfl) rfl ?_
          refine pull fun t35 h_t35 => ?_
          refine s_rd (r_oindex h_t35 Try.underlying93 el_4 rfl (j := 2) rfl rfl) rfl ?_
          refine s_st0 (s_ostore (u := true) h_t35 el_4 rfl (j := 2) rfl (part_at rfl bv_at)) (fun _ => ?_)
          refine l_nil ?_
          refine n_block ?_
          refine n_then ?_
          refine ref_region ?_
          refine s_rd (r_add rfl rfl) rfl ?_
          refine s_rd (r_move rfl) rfl ?_
          refine l_nil ?_
          exact goB () (weak [0, 1, 2] ⟨rfl, rfl, rfl, rfl, rfl, rfl, trivial⟩ ⟨rfl, rfl, rfl, trivial⟩)
        · refine ref_skip ?_
          refine n_block ?_
          refine n_then ?_
          refine ref_region ?_
          refine s_rd (r_add rfl rfl) rfl ?_
          refine s_rd (r_move rfl) rfl ?_
          refine l_nil ?_
          exact goB () (weak [0, 1, 2] ⟨rfl, rfl, rfl, rfl, rfl, rfl, trivial⟩ ⟨rfl, rfl, rfl, trivial⟩)
    · refine ref_exit ?_
      refine x_then ?_
      exact brkB () (weak [0, 1, 2] ⟨rfl, rfl, rfl, trivial⟩ ⟨rfl, rfl, rfl, trivial⟩)
  · refine n_then ?_
    refine ref_seq ?_
    refine ref_seq ?_
    refine ref_region ?_
    refine s_rd (r_faddr (fo := 5) Try.underlying35 rfl rfl Try.sizeOf23 rfl) rfl ?_
    refine s_rd (r_cload Try.isAgg23 rfl (j := 0) rfl rfl) rfl ?_
    refine s_rd (r_len Try.underlying23 rfl) rfl ?_
    refine s_rd (r_move rfl) rfl ?_
    refine l_nil ?_
    refine n_then ?_
    refine ref_loopB (f := (protocol_Status_l2 d_0 q36)) (Γl := (fun (s48 : Int × (List Int)) (x49 : Unit) => [(1, pv (ptr b1 0)), (3, pv o3.1), (4, pv o5.1), (46, iv .i64 (d_0.Moves.length : Int)), (47, iv .i64 s48.1)])) (Ωl := (fun (s48 : Int × (List Int)) (x49 : Unit) => [oc b1 [iv .i64 d_0.Graph.N, slv rT_api_Pair d_0.Graph.L, iv .i64 d_0.Root, iv .i64 d_0.Limits.i0, iv .i64 d_0.Limits.i1, slv rT_api_Move d_0.Moves], oa (rI .i64) o3.1 o3.2 s48.2, oa rB o5.1 o5.2 q36])) (Γb := (fun (q58 : (List Int)) (y59 : Unit) => [(1, pv (ptr b1 0)), (3, pv o3.1)])) (Ωb := (fun (q58 : (List Int)) (y59 : Unit) => [oc b1 [iv .i64 d_0.Graph.N, slv rT_api_Pair d_0.Graph.L, iv .i64 d_0.Root, iv .i64 d_0.Limits.i0, iv .i64 d_0.Limits.i1, slv rT_api_Move d_0.Moves], oa (rI .i64) o3.1 o3.2 q58])) (0, out2) () (weak [0, 1, 2] ⟨rfl, rfl, rfl, rfl, rfl, trivial⟩ ⟨rfl, rfl, rfl, trivial⟩) (fun s48 x49 => ?_) (fun q58 y59 => ?_)
    · unfold protocol_Status_l2
      refine ref_seq ?_
      refine ref_region ?_
      refine s_rd (r_lss rfl rfl) rfl ?_
      refine l_nil ?_
      refine n_then ?_
      refine ref_seq ?_
      refine ref_cond rfl (fun hb50 => ?_) (fun hb50 => ?_)
      · refine ref_skip ?_
        refine n_then ?_
        refine ref_seq ?_
        refine ref_block ?_
        refine ref_seq ?_
        refine ref_region ?_
        refine s_rd (r_move rfl) rfl ?_
        refine s_rd (r_assign rfl) rfl ?_
        refine l_nil ?_
        refine n_then ?_
        refine ref_seq ?_
        refine ref_region ?_
        refine s_rd (r_move rfl) rfl ?_
        refine s_rd (r_eql rfl rfl) rfl ?_
        refine s_rd (r_move rfl) rfl ?_
        refine b_split (t := 52) rfl (fun _ => ?_) (fun _ => ?_)
        · refine s_off rfl rfl rfl rfl rfl ?_
          refine s_off rfl rfl rfl rfl rfl ?_
          refine s_off rfl rfl rfl rfl rfl ?_
          refine s_off rfl rfl rfl rfl rfl ?_
          refine s_off rfl rfl rfl rfl rfl ?_
          refine s_offU rfl rfl rfl ?_
          refine s_offU rfl rfl rfl ?_
          refine s_offU rfl rfl rfl ?_
          refine s_offU rfl rfl rfl ?_
          refine s_offU rfl rfl rfl ?_
          refine s_off rfl rfl rfl rfl rfl ?_
          refine s_off rfl rfl rfl rfl rfl ?_
          refine s_offU rfl rfl rfl ?_
          refine s_offU rfl rfl rfl ?_
          refine s_offU rfl rfl rfl ?_
          refine s_offU rfl rfl rfl ?_
          refine s_offU rfl rfl rfl ?_
          refine s_offU rfl rfl rfl ?_
          refine s_offU rfl rfl rfl ?_
          refine s_offU rfl rfl rfl ?_
          refine s_offU rfl rfl rfl ?_
          refine s_offU rfl rfl rfl ?_
          refine s_off rfl rfl rfl rfl rfl ?_
          refine s_rd (r_pickT rfl rfl) rfl ?_
          refine l_nil ?_
          refine n_then ?_
          refine ref_condT rfl rfl ?_
          refine ref_region ?_
          refine s_rd (r_move rfl) rfl ?_
          refine s_rd (r_move rfl) rfl ?_
          refine pull fun t55 h_t55 => ?_
          refine s_rd (r_oindex h_t55 Try.underlying22 el_3 rfl (j := 1) rfl rfl) rfl ?_
          refine s_st0 (s_ostore (u := 1) h_t55 el_3 rfl (j := 1) rfl (part_at rfl iv_at)) (fun _ => ?_)
          refine l_nil ?_
          refine n_block ?_
          refine n_then ?_
          refine ref_region ?_
          refine s_rd (r_add rfl rfl) rfl ?_
          refine s_rd (r_move rfl) rfl ?_
          refine l_nil ?_
          exact goB () (weak [0, 1, 2] ⟨rfl, rfl, rfl, rfl, rfl, trivial⟩ ⟨rfl, rfl, rfl, trivial⟩)
        · refine s_on rfl rfl rfl ?_
          refine s_rd (r_faddr (fo := 5) Try.underlying35 rfl rfl Try.sizeOf23 rfl) rfl ?_
          refine s_on rfl rfl rfl ?_
          refine s_rd (r_cload Try.isAgg23 rfl (j := 0) rfl rfl) rfl ?_
          refine s_on rfl rfl rfl ?_
          refine s_rd (r_move rfl) rfl ?_
          refine s_on rfl rfl rfl ?_
          refine pull fun t51 h_t51 => ?_
          refine s_st (s_call (ψ := fun (_ : Unit) => bv t51) (args := [.tmp 54, .tmp 55]) Try.call86 rfl (protocol_attacks_ok h_t51) ⟨arg rfl, arg rfl, trivial⟩ (fun _ _ _ _ h => h)) rfl (fun _ => ?_)
          refine s_on rfl rfl rfl ?_
          refine s_rd (r_move rfl) rfl ?_
          refine b_split (t := 57) rfl (fun _ => ?_) (fun _ => ?_)
          · refine s_on rfl rfl rfl ?_
            refine s_rd (r_move rfl) rfl ?_
            refine s_on rfl rfl rfl ?_
            refine s_rd (r_move rfl) rfl ?_
            refine s_on rfl rfl rfl ?_
            refine pull fun t52 h_t52 => ?_
            refine s_rd (r_oindex h_t52 Try.underlying93 el_4 rfl (j := 2) rfl rfl) rfl ?_
            refine s_on rfl rfl rfl ?_
            refine s_rd (r_oload h_t52 el_4 rfl (j := 2) rfl) rfl ?_
            refine s_on rfl rfl rfl ?_
            refine s_rd (r_not rfl) rfl ?_
            refine s_on rfl rfl rfl ?_
            refine s_rd (r_pickT rfl rfl) rfl ?_
            refine s_on rfl rfl rfl ?_
            refine s_rd (r_move rfl) rfl ?_
            refine b_split (t := 64) rfl (fun _ => ?_) (fun _ => ?_)
            · refine s_on rfl rfl rfl ?_
              refine s_rd (r_move rfl) rfl ?_
              refine s_on rfl rfl rfl ?_
              refine s_rd (r_faddr (fo := 5) Try.underlying35 rfl rfl Try.sizeOf23 rfl) rfl ?_
              refine s_on rfl rfl rfl ?_
              refine s_rd (r_cload Try.isAgg23 rfl (j := 0) rfl rfl) rfl ?_
              refine s_on rfl rfl rfl ?_
              refine s_rd (r_move rfl) rfl ?_
              refine s_on rfl rfl rfl ?_
              refine pull fun t53 h_t53 => ?_
              refine s_rd (r_index h_t53 Try.underlying23 el_40 rfl rfl) rfl ?_
              refine s_on rfl rfl rfl ?_
              refine s_rd (r_fea (fo := 3) (ρ := rT_api_Move) (y := t53) (ρ' := (rI .i64)) (z := t53.Target) Try.underlying40 rfl rfl Try.sizeOf3 rfl rfl rfl) rfl ?_
              refine s_on rfl rfl rfl ?_
              refine s_rd (r_load el_3 rfl) rfl ?_
              refine s_on rfl rfl rfl ?_
              refine pull fun t54 h_t54 => ?_
              refine s_rd (r_oindex h_t54 Try.underlying22 el_3 rfl (j := 1) rfl rfl) rfl ?_
              refine s_on rfl rfl rfl ?_
              refine s_rd (r_oload h_t54 el_3 rfl (j := 1) rfl) rfl ?_
              refine s_on rfl rfl rfl ?_
              refine s_rd (r_neq rfl rfl) rfl ?_
              refine s_on rfl rfl rfl ?_
              refine s_rd (r_pickT rfl rfl) rfl ?_
              refine s_rd (r_pickF rfl rfl) rfl ?_
              refine l_nil ?_
              refine n_then ?_
              refine ref_cond rfl (fun hb56 => ?_) (fun hb56 => ?_)
              · refine ref_region ?_
                refine s_rd (r_move rfl) rfl ?_
                refine s_rd (r_move rfl) rfl ?_
                refine pull fun t57 h_t57 => ?_
                refine s_rd (r_oindex h_t57 Try.underlying22 el_3 rfl (j := 1) rfl rfl) rfl ?_
                refine s_st0 (s_ostore (u := 1) h_t57 el_3 rfl (j := 1) rfl (part_at rfl iv_at)) (fun _ => ?_)
                refine l_nil ?_
                refine n_block ?_
                refine n_then ?_
                refine ref_region ?_
                refine s_rd (r_add rfl rfl) rfl ?_
                refine s_rd (r_move rfl) rfl ?_
                refine l_nil ?_
                exact goB () (weak [0, 1, 2] ⟨rfl, rfl, rfl, rfl, rfl, trivial⟩ ⟨rfl, rfl, rfl, trivial⟩)
              · refine ref_skip ?_
                refine n_block ?_
                refine n_then ?_
                refine ref_region ?_
                refine s_rd (r_add rfl rfl) rfl ?_
                refine s_rd (r_move rfl) rfl ?_
                refine l_nil ?_
                exact goB () (weak [0, 1, 2] ⟨rfl, rfl, rfl, rfl, rfl, trivial⟩ ⟨rfl, rfl, rfl, trivial⟩)
            · refine s_off rfl rfl rfl rfl rfl ?_
              refine s_off rfl rfl rfl rfl rfl ?_
              refine s_off rfl rfl rfl rfl rfl ?_
              refine s_off rfl rfl rfl rfl rfl ?_
              refine s_off rfl rfl rfl rfl rfl ?_
              refine s_off rfl rfl rfl rfl rfl ?_
              refine s_off rfl rfl rfl rfl rfl ?_
              refine s_off rfl rfl rfl rfl rfl ?_
              refine s_off rfl rfl rfl rfl rfl ?_
              refine s_off rfl rfl rfl rfl rfl ?_
              refine s_on rfl rfl rfl ?_
              refine s_rd (r_pickF rfl rfl) rfl ?_
              refine s_rd (r_pickF rfl rfl) rfl ?_
              refine l_nil ?_
              refine n_then ?_
              refine ref_condF rfl rfl ?_
              refine ref_skip ?_
              refine n_block ?_
              refine n_then ?_
              refine ref_region ?_
              refine s_rd (r_add rfl rfl) rfl ?_
              refine s_rd (r_move rfl) rfl ?_
              refine l_nil ?_
              exact goB () (weak [0, 1, 2] ⟨rfl, rfl, rfl, rfl, rfl, trivial⟩ ⟨rfl, rfl, rfl, trivial⟩)
          · refine s_off rfl rfl rfl rfl rfl ?_
            refine s_off rfl rfl rfl rfl rfl ?_
            refine s_off rfl rfl rfl rfl rfl ?_
            refine s_off rfl rfl rfl rfl rfl ?_
            refine s_off rfl rfl rfl rfl rfl ?_
            refine s_on rfl rfl rfl ?_
            refine s_rd (r_pickF rfl rfl) rfl ?_
            refine s_on rfl rfl rfl ?_
            refine s_rd (r_move rfl) rfl ?_
            refine s_off rfl rfl rfl rfl rfl ?_
            refine s_off rfl rfl rfl rfl rfl ?_
            refine s_off rfl rfl rfl rfl rfl ?_
            refine s_off rfl rfl rfl rfl rfl ?_
            refine s_off rfl rfl rfl rfl rfl ?_
            refine s_off rfl rfl rfl rfl rfl ?_
            refine s_off rfl rfl rfl rfl rfl ?_
            refine s_off rfl rfl rfl rfl rfl ?_
            refine s_off rfl rfl rfl rfl rfl ?_
            refine s_off rfl rfl rfl rfl rfl ?_
            refine s_on rfl rfl rfl ?_
            refine s_rd (r_pickF rfl rfl) rfl ?_
            refine s_rd (r_pickF rfl rfl) rfl ?_
            refine l_nil ?_
            refine n_then ?_
            refine ref_condF rfl rfl ?_
            refine ref_skip ?_
            refine n_block ?_
            refine n_then ?_
            refine ref_region ?_
            refine s_rd (r_add rfl rfl) rfl ?_
            refine s_rd (r_move rfl) rfl ?_
            refine l_nil ?_
            exact goB () (weak [0, 1, 2] ⟨rfl, rfl, rfl, rfl, rfl, trivial⟩ ⟨rfl, rfl, rfl, trivial⟩)
      · refine ref_exit ?_
        refine x_then ?_
        exact brkB () (weak [0, 1] ⟨rfl, rfl, trivial⟩ ⟨rfl, rfl, trivial⟩)
    · refine n_then ?_
      refine ref_seq ?_
      refine ref_seq ?_
      refine ref_region ?_
      refine s_rd (r_move rfl) rfl ?_
      refine s_rd (r_olen Try.underlying22 rfl (j := 1) rfl) rfl ?_
      refine s_rd (r_sub rfl rfl) rfl ?_
      refine s_rd (r_assign rfl) rfl ?_
      refine b_let (f := iv .i64) (t := 8) rfl fun i60 => ?_
      refine l_nil ?_
      refine n_then ?_
      refine ref_loopB (f := (protocol_Status_l3 d_0)) (Γl := (fun (s79 : Int × (List Int)) (x80 : Unit) => [(1, pv (ptr b1 0)), (3, pv o3.1), (8, iv .i64 s79.1)])) (Ωl := (fun (s79 : Int × (List Int)) (x80 : Unit) => [oc b1 [iv .i64 d_0.Graph.N, slv rT_api_Pair d_0.Graph.L, iv .i64 d_0.Root, iv .i64 d_0.Limits.i0, iv .i64 d_0.Limits.i1, slv rT_api_Move d_0.Moves], oa (rI .i64) o3.1 o3.2 s79.2])) (Γb := (fun (q88 : (List Int)) (y89 : Unit) => [(3, pv o3.1)])) (Ωb := (fun (q88 : (List Int)) (y89 : Unit) => [oa (rI .i64) o3.1 o3.2 q88])) (i60, q58) () (weak [0, 1] ⟨rfl, rfl, rfl, trivial⟩ ⟨rfl, rfl, trivial⟩) (fun s79 x80 => ?_) (fun q88 y89 => ?_)
      · unfold protocol_Status_l3
        refine ref_seq ?_
        refine ref_seq ?_
        refine ref_region ?_
        refine s_rd (r_move rfl) rfl ?_
        refine s_rd (r_gtr rfl rfl) rfl ?_
        refine l_nil ?_
        refine n_then ?_
        refine ref_cond rfl (fun hb81 => ?_) (fun hb81 => ?_)
        · refine ref_skip ?_
          refine n_then ?_
          refine ref_seq ?_
          refine ref_block ?_
          refine ref_seq ?_
          refine ref_region ?_
          refine s_rd (r_move rfl) rfl ?_
          refine s_rd (r_move rfl) rfl ?_
          refine pull fun t82 h_t82 => ?_
          refine s_rd (r_oindex h_t82 Try.underlying22 el_3 rfl (j := 1) rfl rfl) rfl ?_
          refine s_rd (r_oload h_t82 el_3 rfl (j := 1) rfl) rfl ?_
          refine s_rd (r_eql rfl rfl) rfl ?_
          refine l_nil ?_
          refine n_then ?_
          refine ref_cond rfl (fun hb83 => ?_) (fun hb83 => ?_)
          · refine ref_region ?_
            refine s_rd (r_move rfl) rfl ?_
            refine s_rd (r_faddr (fo := 5) Try.underlying35 rfl rfl Try.sizeOf23 rfl) rfl ?_
            refine s_rd (r_cload Try.isAgg23 rfl (j := 0) rfl rfl) rfl ?_
            refine s_rd (r_move rfl) rfl ?_
            refine pull fun t84 h_t84 => ?_
            refine s_rd (r_index h_t84 Try.underlying23 el_40 rfl rfl) rfl ?_
            refine s_rd (r_fea (fo := 3) (ρ := rT_api_Move) (y := t84) (ρ' := (rI .i64)) (z := t84.Target) Try.underlying40 rfl rfl Try.sizeOf3 rfl rfl rfl) rfl ?_
            refine s_rd (r_load el_3 rfl) rfl ?_
            refine pull fun t85 h_t85 => ?_
            refine s_rd (r_oindex h_t85 Try.underlying22 el_3 rfl (j := 1) rfl rfl) rfl ?_
            refine s_st0 (s_ostore (u := 2) h_t85 el_3 rfl (j := 1) rfl (part_at rfl iv_at)) (fun _ => ?_)
            refine l_nil ?_
            refine n_block ?_
            refine n_then ?_
            refine ref_region ?_
            refine s_rd (r_move rfl) rfl ?_
            refine s_rd (r_sub rfl rfl) rfl ?_
            refine s_rd (r_assign rfl) rfl ?_
            refine b_let (f := iv .i64) (t := 8) rfl fun i86 => ?_
            refine l_nil ?_
            exact goB () (weak [0, 1] ⟨rfl, rfl, rfl, trivial⟩ ⟨rfl, rfl, trivial⟩)
          · refine ref_skip ?_
            refine n_block ?_
            refine n_then ?_
            refine ref_region ?_
            refine s_rd (r_move rfl) rfl ?_
            refine s_rd (r_sub rfl rfl) rfl ?_
            refine s_rd (r_assign rfl) rfl ?_
            refine b_let (f := iv .i64) (t := 8) rfl fun i87 => ?_
            refine l_nil ?_
            exact goB () (weak [0, 1] ⟨rfl, rfl, rfl, trivial⟩ ⟨rfl, rfl, trivial⟩)
        · refine ref_exit ?_
          refine x_then ?_
          exact brkB () (weak [1] ⟨rfl, trivial⟩ ⟨rfl, trivial⟩)
      · refine n_then ?_
        refine ref_seq ?_
        refine ref_region ?_
        refine s_rd (r_move rfl) rfl ?_
        refine s_rd (r_assign rfl) rfl ?_
        refine l_nil ?_
        refine n_then ?_
        refine ref_ret ?_
        exact fin1 (.inl rfl) o3 [0] rfl ⟨rfl, trivial⟩ rfl (rv_tmp rfl)

/-! deliberation/protocol.of -/
noncomputable def protocol_of_l1 (d_0 : T_api_Dialogue) (t4 : List Int) (j11 : Int) (s27 : Int × (List Bool)) : Option (Sum ((List Bool)) (Int × (List Bool))) :=
  bif decide (s27.1 < (d_0.Moves.length : Int)) then
    Option.bind (idxM t4 s27.1) fun t30 =>
    bif t30 == 0 then
      letM (iadd .i64 s27.1 1) fun i39 =>
      some (Sum.inr (i39, s27.2))
    else
      Option.bind (idxM d_0.Moves s27.1) fun t31 =>
      Option.bind (idxM s27.2 t31.Target) fun t32 =>
      bif !t32 then
        letM (iadd .i64 s27.1 1) fun i40 =>
        some (Sum.inr (i40, s27.2))
      else
        Option.bind (idxM d_0.Moves s27.1) fun t34 =>
        Option.bind (idxM d_0.Moves t34.Target) fun t35 =>
        bif t35.By == j11 then
          Option.bind (idxM s27.2 s27.1) fun t36 =>
          letM (iadd .i64 s27.1 1) fun i41 =>
          some (Sum.inr (i41, s27.2.set (Int.toNat s27.1) true))
        else
          Option.bind (idxM t4 s27.1) fun t37 =>
          Option.bind (idxM s27.2 s27.1) fun t38 =>
          letM (iadd .i64 s27.1 1) fun i42 =>
          some (Sum.inr (i42, s27.2.set (Int.toNat s27.1) (t37 == 1)))
  else
    some (Sum.inl s27.2)

noncomputable def protocol_of_m (d_0 : T_api_Dialogue) : Option (T_protocol_table) :=
  Option.bind (protocol_Status_m d_0) fun t4 =>
  Option.bind (mkM 1 false (d_0.Moves.length : Int)) fun t6 =>
  joinM (fun j11 : Int =>
      Option.bind (idxM t6 0) fun t14 =>
      Option.bind (loopC (protocol_of_l1 d_0 t4 j11) (1, t6.set (Int.toNat 0) true)) fun q43 : (List Bool) =>
      some (T_protocol_table.mk d_0 t4 j11 q43)) fun k13 =>
  Option.bind (idxM t4 0) fun t9 =>
  bif t9 == 2 then
    k13 2
  else
    k13 1

theorem protocol_of_ok {d_0 : T_api_Dialogue} {r : T_protocol_table} (hm : protocol_of_m d_0 = some r) :
    FnOk prog 62 [ag [iv .i64 d_0.Graph.N, slv rT_api_Pair d_0.Graph.L, iv .i64 d_0.Root, iv .i64 d_0.Limits.i0, iv .i64 d_0.Limits.i1, slv rT_api_Move d_0.Moves]] [] (fun (x : Unit) => [ag [iv .i64 r.d.Graph.N, slv rT_api_Pair r.d.Graph.L, iv .i64 r.d.Root, iv .i64 r.d.Limits.i0, iv .i64 r.d.Limits.i1, slv rT_api_Move r.d.Moves, slv (rI .i64) r.status, iv .i64 r.leader, slv rB r.leading]]) (fun (x : Unit) => []) := by
  refine fn_ok (X := Unit) (fn := Try.f62) (N := 75) (m := protocol_of_m d_0) (res := fun r x => [ag [iv .i64 r.d.Graph.N, slv rT_api_Pair r.d.Graph.L, iv .i64 r.d.Root, iv .i64 r.d.Limits.i0, iv .i64 r.d.Limits.i1, slv rT_api_Move r.d.Moves, slv (rI .i64) r.status, iv .i64 r.leader, slv rB r.leading]]) (Ω1 := fun r x => []) Try.func62 rfl rfl hm rfl (fun E hM => ?_)
  unfold protocol_of_m
  refine ref_seq ?_
  refine ref_region ?_
  refine s_st (s_box (part_ag (ψs := [iv .i64 d_0.Graph.N, slv rT_api_Pair d_0.Graph.L, iv .i64 d_0.Root, iv .i64 d_0.Limits.i0, iv .i64 d_0.Limits.i1, slv rT_api_Move d_0.Moves]) rfl (by intro φ h; simp only [List.mem_cons, List.not_mem_nil, or_false] at h; rcases h with rfl | rfl | rfl | rfl | rfl | rfl <;> first | exact iv_at | exact bv_at | exact sv_at | exact slv_at | exact pv_at rfl))) rfl (fun b1 => ?_)
  refine s_st (s_alloc zt_95) rfl (fun b2 => ?_)
  refine l_nil ?_
  refine n_then ?_
  refine ref_seq ?_
  refine pull fun t4 h_t4 => ?_
  refine pull fun t6 h_t6 => ?_
  refine ref_drawI 3 [⟨[], [], [], [0], [], fun us u => ag [iv .i64 d_0.Graph.N, slv rT_api_Pair d_0.Graph.L, iv .i64 d_0.Root, iv .i64 d_0.Limits.i0, iv .i64 d_0.Limits.i1, slv rT_api_Move d_0.Moves], fun us u => []⟩, ⟨[], [], [], [0], [], fun us u => ag [iv .i64 d_0.Graph.N, slv rT_api_Pair d_0.Graph.L, iv .i64 d_0.Root, iv .i64 d_0.Limits.i0, iv .i64 d_0.Limits.i1, slv rT_api_Move d_0.Moves], fun us u => []⟩, ⟨[1], [], [2], [2], [], fun us u => pv u.V.1, fun us u => [oa (rI .i64) u.V.1 u.V.2 t4]⟩, ⟨[], [], [], [], [], fun us u => pv (ptr b1 5), fun us u => []⟩, ⟨[3], [], [], [0], [], fun us u => slv rT_api_Move d_0.Moves, fun us u => []⟩, ⟨[3, 4], [], [], [], [], fun us u => iv .i64 (d_0.Moves.length : Int), fun us u => []⟩, ⟨[3, 4, 5], [], [3], [3], [], fun us u => pv u.V.1, fun us u => [oa rB u.V.1 u.V.2 t6]⟩, ⟨[0, 1, 2, 3, 4, 5, 6], [2, 6], [], [2, 3], [], fun us u => ag [iv .i64 d_0.Graph.N, slv rT_api_Pair d_0.Graph.L, iv .i64 d_0.Root, iv .i64 d_0.Limits.i0, iv .i64 d_0.Limits.i1, slv rT_api_Move d_0.Moves, pv (us.getD 0 .none).V.1, iv .i64 1, pv (us.getD 1 .none).V.1], fun us u => []⟩, ⟨[], [], [4], [4], [], fun us u => pv (ptr u.Nn 0), fun us u => [oc u.Nn [iv .i64 0, pv (.slice none 0 0), iv .i64 0, iv .i64 0, iv .i64 0, pv (.slice none 0 0), pv (.slice none 0 0), iv .i64 0, pv (.slice none 0 0)]]⟩, ⟨[0, 1, 2, 3, 4, 5, 6, 7, 8], [2, 6, 8], [4], [2, 3, 4], [4], fun us u => pv undef, fun us u => [oc (us.getD 2 .none).Nn [iv .i64 d_0.Graph.N, slv rT_api_Pair d_0.Graph.L, iv .i64 d_0.Root, iv .i64 d_0.Limits.i0, iv .i64 d_0.Limits.i1, slv rT_api_Move d_0.Moves, pv (us.getD 0 .none).V.1, iv .i64 1, pv (us.getD 1 .none).V.1]]⟩] (fun χ3 => [(1, pv (ptr b1 0)), (2, pv (ptr b2 0)), (3, pv (ptr (χ3 8).Nn 0))]) (fun χ3 => [oc b1 [iv .i64 d_0.Graph.N, slv rT_api_Pair d_0.Graph.L, iv .i64 d_0.Root, iv .i64 d_0.Limits.i0, iv .i64 d_0.Limits.i1, slv rT_api_Move d_0.Moves], oc b2 [iv .i64 0, pv (.slice none 0 0), iv .i64 0, iv .i64 0, iv .i64 0, pv (.slice none 0 0), pv (.slice none 0 0), iv .i64 0, pv (.slice none 0 0)], oa (rI .i64) (χ3 2).V.1 (χ3 2).V.2 t4, oa rB (χ3 6).V.1 (χ3 6).V.2 t6, oc (χ3 8).Nn [iv .i64 d_0.Graph.N, slv rT_api_Pair d_0.Graph.L, iv .i64 d_0.Root, iv .i64 d_0.Limits.i0, iv .i64 d_0.Limits.i1, slv rT_api_Move d_0.Moves, pv (χ3 2).V.1, iv .i64 1, pv (χ3 6).V.1]]) rfl (by kernel_rfl) ⟨fun χ3 Ω ⟨h0, _⟩ => St.toR (r_cloadS Try.isAgg35 Try.sizeOf35 rfl (j := 0) h0 rfl rfl) (fun _ => rfl) (fun _ => rfl), (by intro _ h; cases h; rfl), ⟨fun χ3 Ω ⟨h0, _⟩ => St.toR (r_cloadS Try.isAgg35 Try.sizeOf35 rfl (j := 0) h0 rfl rfl) (fun _ => rfl) (fun _ => rfl), (by intro _ h; cases h; rfl), ⟨fun χ3 Ω ⟨h2, _⟩ => St.to XU.V XU.hV (St.placeL [2] (s_call (ψ := fun (x5 : (Value × List Nat)) => pv x5.1) (args := [.tmp 6]) Try.call81 rfl (protocol_Status_ok h_t4) ⟨arg rfl, trivial⟩ (fun _ _ _ _ h => h)) (fun _ => rfl) (fun _ => ⟨h2, rfl, trivial⟩)) (fun _ => rfl) (fun _ => rfl), (by intro _ h; cases h; rfl), ⟨fun χ3 Ω _ => St.toR (r_faddr (fo := 5) Try.underlying35 rfl rfl Try.sizeOf23 rfl) (fun _ => rfl) (fun _ => rfl), (by intro _ h; cases h; rfl), ⟨fun χ3 Ω ⟨h0, _⟩ => St.toR (r_cload Try.isAgg23 rfl (j := 0) h0 rfl) (fun _ => rfl) (fun _ => rfl), (by intro _ h; cases h; rfl), ⟨fun χ3 Ω _ => St.toR (r_len Try.underlying23 rfl) (fun _ => rfl) (fun _ => rfl), (by intro _ h; cases h; rfl), ⟨fun χ3 Ω ⟨h3, _⟩ => St.to XU.V XU.hV (St.placeL (os := fun _ => [_]) [3] (s_make h_t6 Try.underlying93 el_4 ze_4 rfl rfl) (fun _ => rfl) (fun _ => ⟨h3, rfl, trivial⟩)) (fun _ => rfl) (fun _ => rfl), (by intro _ h; cases h; rfl), ⟨fun χ3 Ω ⟨h2, h3, _⟩ => St.toR (r_build (ps := [(0, .tmp 5), (1, .tmp 7), (2, .const (.int .i64 (1))), (3, .tmp 11)]) (rs := [(0, [iv .i64 d_0.Graph.N, slv rT_api_Pair d_0.Graph.L, iv .i64 d_0.Root, iv .i64 d_0.Limits.i0, iv .i64 d_0.Limits.i1, slv rT_api_Move d_0.Moves]), (1, [pv (χ3 2).V.1]), (2, [iv .i64 1]), (3, [pv (χ3 6).V.1])]) st_95 zs_95 ⟨rfl, (part_ag (ψs := [iv .i64 d_0.Graph.N, slv rT_api_Pair d_0.Graph.L, iv .i64 d_0.Root, iv .i64 d_0.Limits.i0, iv .i64 d_0.Limits.i1, slv rT_api_Move d_0.Moves]) rfl (by intro φ h; simp only [List.mem_cons, List.not_mem_nil, or_false] at h; rcases h with rfl | rfl | rfl | rfl | rfl | rfl <;> first | exact iv_at | exact bv_at | exact sv_at | exact slv_at | exact pv_at rfl)), ⟨rfl, (part_own rfl (j := 2) h2), ⟨rfl, (part_at rfl iv_at), ⟨rfl, (part_own rfl (j := 3) h3), trivial⟩⟩⟩⟩ rfl rfl) (fun _ => rfl) (fun _ => rfl), (by intro _ h; cases h; rfl), ⟨fun χ3 Ω ⟨h4, _⟩ => St.to XU.Nn XU.hN (St.placeL (os := fun _ => [_]) [4] (s_alloc zt_95) (fun _ => rfl) (fun _ => ⟨h4, rfl, trivial⟩)) (fun _ => rfl) (fun _ => rfl), (by intro _ h; cases h; rfl), ⟨fun χ3 Ω ⟨h2, h3, h4, _⟩ => St.to XU.U XU.hU (s_cstore (out := [iv .i64 d_0.Graph.N, slv rT_api_Pair d_0.Graph.L, iv .i64 d_0.Root, iv .i64 d_0.Limits.i0, iv .i64 d_0.Limits.i1, slv rT_api_Move d_0.Moves, pv (χ3 2).V.1, iv .i64 1, pv (χ3 6).V.1]) Try.sizeOf95 rfl (j := 4) h4 (part_agO (ψs := [iv .i64 d_0.Graph.N, slv rT_api_Pair d_0.Graph.L, iv .i64 d_0.Root, iv .i64 d_0.Limits.i0, iv .i64 d_0.Limits.i1, slv rT_api_Move d_0.Moves, pv (χ3 2).V.1, iv .i64 1, pv (χ3 6).V.1]) rfl ⟨.inl iv_at, .inl slv_at, .inl iv_at, .inl iv_at, .inl iv_at, .inl slv_at, .inr ⟨_, _, _, _, _, 2, rfl, h2⟩, .inl iv_at, .inr ⟨_, _, _, _, _, 3, rfl, h3⟩, trivial⟩) rfl rfl rfl) (fun _ => rfl) (fun _ => rfl), (by intro _ h; cases h), trivial⟩⟩⟩⟩⟩⟩⟩⟩⟩⟩ (fun _ => ⟨rfl, rfl, rfl, trivial⟩) (fun _ => rfl) (fun χ3 => ?_)
  refine n_then ?_
  refine ref_seq ?_
  refine ref_join (fun (j11 : Int) (x12 : Unit) => [(1, pv (ptr b1 0)), (2, pv (ptr b2 0)), (3, pv (ptr (χ3 8).Nn 0))]) (fun (j11 : Int) (x12 : Unit) => [oc b1 [iv .i64 d_0.Graph.N, slv rT_api_Pair d_0.Graph.L, iv .i64 d_0.Root, iv .i64 d_0.Limits.i0, iv .i64 d_0.Limits.i1, slv rT_api_Move d_0.Moves], oc b2 [iv .i64 0, pv (.slice none 0 0), iv .i64 0, iv .i64 0, iv .i64 0, pv (.slice none 0 0), pv (.slice none 0 0), iv .i64 0, pv (.slice none 0 0)], oc (χ3 8).Nn [iv .i64 d_0.Graph.N, slv rT_api_Pair d_0.Graph.L, iv .i64 d_0.Root, iv .i64 d_0.Limits.i0, iv .i64 d_0.Limits.i1, slv rT_api_Move d_0.Moves, pv (χ3 2).V.1, iv .i64 j11, pv (χ3 6).V.1], oa (rI .i64) (χ3 2).V.1 (χ3 2).V.2 t4, oa rB (χ3 6).V.1 (χ3 6).V.2 t6]) (fun k13 hk13 => ?_) (fun j11 x12 => ?_)
  · refine ref_seq ?_
    refine ref_region ?_
    refine s_rd (r_faddr (fo := 6) Try.underlying95 rfl rfl Try.sizeOf22 rfl) rfl ?_
    refine s_rd (r_cload Try.isAgg22 rfl (j := 4) rfl rfl) rfl ?_
    refine pull fun t9 h_t9 => ?_
    refine s_rd (r_oindex h_t9 Try.underlying22 el_3 rfl (j := 2) rfl rfl) rfl ?_
    refine s_rd (r_oload h_t9 el_3 rfl (j := 2) rfl) rfl ?_
    refine s_rd (r_eql rfl rfl) rfl ?_
    refine l_nil ?_
    refine n_then ?_
    refine ref_cond rfl (fun hb10 => ?_) (fun hb10 => ?_)
    · refine ref_region ?_
      refine s_rd (r_faddr (fo := 7) Try.underlying95 rfl rfl Try.sizeOf3 rfl) rfl ?_
      refine s_st0 (s_cstore (out := [iv .i64 d_0.Graph.N, slv rT_api_Pair d_0.Graph.L, iv .i64 d_0.Root, iv .i64 d_0.Limits.i0, iv .i64 d_0.Limits.i1, slv rT_api_Move d_0.Moves, pv (χ3 2).V.1, iv .i64 2, pv (χ3 6).V.1]) Try.sizeOf3 rfl (j := 4) rfl (part_at rfl iv_at) rfl rfl rfl) (fun _ => ?_)
      refine l_nil ?_
      exact b_to (hk13 2 ()) (weak [0, 1, 4, 2, 3] ⟨rfl, rfl, rfl, trivial⟩ ⟨rfl, rfl, rfl, rfl, rfl, trivial⟩)
    · refine ref_skip ?_
      exact b_to (hk13 1 ()) (weak [0, 1, 4, 2, 3] ⟨rfl, rfl, rfl, trivial⟩ ⟨rfl, rfl, rfl, rfl, rfl, trivial⟩)
  · refine n_then ?_
    refine ref_seq ?_
    refine ref_region ?_
    refine s_rd (r_faddr (fo := 8) Try.underlying95 rfl rfl Try.sizeOf93 rfl) rfl ?_
    refine s_rd (r_cload Try.isAgg93 rfl (j := 2) rfl rfl) rfl ?_
    refine pull fun t14 h_t14 => ?_
    refine s_rd (r_oindex h_t14 Try.underlying93 el_4 rfl (j := 4) rfl rfl) rfl ?_
    refine s_st0 (s_ostore (u := true) h_t14 el_4 rfl (j := 4) rfl (part_at rfl bv_at)) (fun _ => ?_)
    refine l_nil ?_
    refine n_then ?_
    refine ref_seq ?_
    refine ref_seq ?_
    refine ref_region ?_
    refine s_rd (r_assign rfl) rfl ?_
    refine l_nil ?_
    refine n_then ?_
    refine ref_loopB (f := (protocol_of_l1 d_0 t4 j11)) (Γl := (fun (s27 : Int × (List Bool)) (x28 : Unit) => [(1, pv (ptr b1 0)), (2, pv (ptr b2 0)), (3, pv (ptr (χ3 8).Nn 0)), (4, iv .i64 s27.1)])) (Ωl := (fun (s27 : Int × (List Bool)) (x28 : Unit) => [oc b1 [iv .i64 d_0.Graph.N, slv rT_api_Pair d_0.Graph.L, iv .i64 d_0.Root, iv .i64 d_0.Limits.i0, iv .i64 d_0.Limits.i1, slv rT_api_Move d_0.Moves], oc b2 [iv .i64 0, pv (.slice none 0 0), iv .i64 0, iv .i64 0, iv .i64 0, pv (.slice none 0 0), pv (.slice none 0 0), iv .i64 0, pv (.slice none 0 0)], oc (χ3 8).Nn [iv .i64 d_0.Graph.N, slv rT_api_Pair d_0.Graph.L, iv .i64 d_0.Root, iv .i64 d_0.Limits.i0, iv .i64 d_0.Limits.i1, slv rT_api_Move d_0.Moves, pv (χ3 2).V.1, iv .i64 j11, pv (χ3 6).V.1], oa (rI .i64) (χ3 2).V.1 (χ3 2).V.2 t4, oa rB (χ3 6).V.1 (χ3 6).V.2 s27.2])) (Γb := (fun (q43 : (List Bool)) (y44 : Unit) => [(2, pv (ptr b2 0)), (3, pv (ptr (χ3 8).Nn 0))])) (Ωb := (fun (q43 : (List Bool)) (y44 : Unit) => [oc b2 [iv .i64 0, pv (.slice none 0 0), iv .i64 0, iv .i64 0, iv .i64 0, pv (.slice none 0 0), pv (.slice none 0 0), iv .i64 0, pv (.slice none 0 0)], oc (χ3 8).Nn [iv .i64 d_0.Graph.N, slv rT_api_Pair d_0.Graph.L, iv .i64 d_0.Root, iv .i64 d_0.Limits.i0, iv .i64 d_0.Limits.i1, slv rT_api_Move d_0.Moves, pv (χ3 2).V.1, iv .i64 j11, pv (χ3 6).V.1], oa (rI .i64) (χ3 2).V.1 (χ3 2).V.2 t4, oa rB (χ3 6).V.1 (χ3 6).V.2 q43])) (1, t6.set (Int.toNat 0) true) () (weak [0, 1, 2, 3, 4] ⟨rfl, rfl, rfl, rfl, trivial⟩ ⟨rfl, rfl, rfl, rfl, rfl, trivial⟩) (fun s27 x28 => ?_) (fun q43 y44 => ?_)
    · unfold protocol_of_l1
      refine ref_seq ?_
      refine ref_seq ?_
      refine ref_region ?_
      refine s_rd (r_move rfl) rfl ?_
      refine s_rd (r_faddr (fo := 5) Try.underlying35 rfl rfl Try.sizeOf23 rfl) rfl ?_
      refine s_rd (r_cload Try.isAgg23 rfl (j := 0) rfl rfl) rfl ?_
      refine s_rd (r_len Try.underlying23 rfl) rfl ?_
      refine s_rd (r_lss rfl rfl) rfl ?_
      refine l_nil ?_
      refine n_then ?_
      refine ref_cond rfl (fun hb29 => ?_) (fun hb29 => ?_)
      · refine ref_skip ?_
        refine n_then ?_
        refine ref_seq ?_
        refine ref_block ?_
        refine ref_seq ?_
        refine ref_seq ?_
        refine ref_draw [0, 1, 2, 3, 4, 5, 6, 7, 8, 9, 10, 11, 12, 13, 14, 15, 16, 17, 18] rfl (by kernel_rfl) (fun hok => ?_)
        refine a_rd (i := 0) hok rfl (by kernel_rfl) rfl (r_faddr (fo := 6) Try.underlying95 rfl rfl Try.sizeOf22 rfl) rfl ?_
        refine a_rd (i := 1) hok rfl (by kernel_rfl) rfl (r_cload Try.isAgg22 rfl (j := 2) rfl rfl) rfl ?_
        refine a_rd (i := 2) hok rfl (by kernel_rfl) rfl (r_move rfl) rfl ?_
        refine pull fun t30 h_t30 => ?_
        refine a_rd (i := 3) hok rfl (by kernel_rfl) rfl (r_oindex h_t30 Try.underlying22 el_3 rfl (j := 3) rfl rfl) rfl ?_
        refine a_rd (i := 4) hok rfl (by kernel_rfl) rfl (r_oload h_t30 el_3 rfl (j := 3) rfl) rfl ?_
        refine a_rd (i := 5) hok rfl (by kernel_rfl) rfl (r_eql rfl rfl) rfl ?_
        refine a_rd (i := 6) hok rfl (by kernel_rfl) rfl (r_move rfl) rfl ?_
        refine b_split (t := 35) rfl (fun _ => ?_) (fun _ => ?_)
        · refine a_off (i := 7) hok rfl rfl rfl rfl rfl (by kernel_rfl) rfl rfl ?_
          refine a_off (i := 8) hok rfl rfl rfl rfl rfl (by kernel_rfl) rfl rfl ?_
          refine a_off (i := 9) hok rfl rfl rfl rfl rfl (by kernel_rfl) rfl rfl ?_
          refine a_off (i := 10) hok rfl rfl rfl rfl rfl (by kernel_rfl) rfl rfl ?_
          refine a_off (i := 11) hok rfl rfl rfl rfl rfl (by kernel_rfl) rfl rfl ?_
          refine a_off (i := 12) hok rfl rfl rfl rfl rfl (by kernel_rfl) rfl rfl ?_
          refine a_off (i := 13) hok rfl rfl rfl rfl rfl (by kernel_rfl) rfl rfl ?_
          refine a_off (i := 14) hok rfl rfl rfl rfl rfl (by kernel_rfl) rfl rfl ?_
          refine a_off (i := 15) hok rfl rfl rfl rfl rfl (by kernel_rfl) rfl rfl ?_
          refine a_off (i := 16) hok rfl rfl rfl rfl rfl (by kernel_rfl) rfl rfl ?_
          refine a_off (i := 17) hok rfl rfl rfl rfl rfl (by kernel_rfl) rfl rfl ?_
          refine a_rd (i := 18) hok rfl (by kernel_rfl) rfl (r_pickT rfl rfl) rfl ?_
          refine a_fin hok (by kernel_rfl) ?_
          refine n_then ?_
          refine ref_condT rfl rfl ?_
          refine ref_exit ?_
          refine x_then ?_
          refine x_eq ?_
          refine n_then ?_
          refine ref_region ?_
          refine s_rd (r_move rfl) rfl ?_
          refine s_rd (r_add rfl rfl) rfl ?_
          refine s_rd (r_assign rfl) rfl ?_
          refine b_let (f := iv .i64) (t := 4) rfl fun i39 => ?_
          refine l_nil ?_
          exact goB () (weak [0, 1, 2, 3, 4] ⟨rfl, rfl, rfl, rfl, trivial⟩ ⟨rfl, rfl, rfl, rfl, rfl, trivial⟩)
        · refine a_rdOn (i := 7) hok rfl rfl rfl rfl (by kernel_rfl) rfl (r_faddr (fo := 8) Try.underlying95 rfl rfl Try.sizeOf93 rfl) rfl ?_
          refine a_rdOn (i := 8) hok rfl rfl rfl rfl (by kernel_rfl) rfl (r_cload Try.isAgg93 rfl (j := 2) rfl rfl) rfl ?_
          refine a_rdOn (i := 9) hok rfl rfl rfl rfl (by kernel_rfl) rfl (r_faddr (fo := 5) Try.underlying35 rfl rfl Try.sizeOf23 rfl) rfl ?_
          refine a_rdOn (i := 10) hok rfl rfl rfl rfl (by kernel_rfl) rfl (r_cload Try.isAgg23 rfl (j := 0) rfl rfl) rfl ?_
          refine a_rdOn (i := 11) hok rfl rfl rfl rfl (by kernel_rfl) rfl (r_move rfl) rfl ?_
          refine pull fun t31 h_t31 => ?_
          refine a_rdOn (i := 12) hok rfl rfl rfl rfl (by kernel_rfl) rfl (r_index h_t31 Try.underlying23 el_40 rfl rfl) rfl ?_
          refine a_rdOn (i := 13) hok rfl rfl rfl rfl (by kernel_rfl) rfl (r_fea (fo := 3) (ρ := rT_api_Move) (y := t31) (ρ' := (rI .i64)) (z := t31.Target) Try.underlying40 rfl rfl Try.sizeOf3 rfl rfl rfl) rfl ?_
          refine a_rdOn (i := 14) hok rfl rfl rfl rfl (by kernel_rfl) rfl (r_load el_3 rfl) rfl ?_
          refine pull fun t32 h_t32 => ?_
          refine a_rdOn (i := 15) hok rfl rfl rfl rfl (by kernel_rfl) rfl (r_oindex h_t32 Try.underlying93 el_4 rfl (j := 4) rfl rfl) rfl ?_
          refine a_rdOn (i := 16) hok rfl rfl rfl rfl (by kernel_rfl) rfl (r_oload h_t32 el_4 rfl (j := 4) rfl) rfl ?_
          refine a_rdOn (i := 17) hok rfl rfl rfl rfl (by kernel_rfl) rfl (r_not rfl) rfl ?_
          refine a_rd (i := 18) hok rfl (by kernel_rfl) rfl (r_pickF rfl rfl) rfl ?_
          refine a_fin hok (by kernel_rfl) ?_
          refine n_then ?_
          refine ref_cond rfl (fun hb33 => ?_) (fun hb33 => ?_)
          · refine ref_exit ?_
            refine x_then ?_
            refine x_eq ?_
            refine n_then ?_
            refine ref_region ?_
            refine s_rd (r_move rfl) rfl ?_
            refine s_rd (r_add rfl rfl) rfl ?_
            refine s_rd (r_assign rfl) rfl ?_
            refine b_let (f := iv .i64) (t := 4) rfl fun i40 => ?_
            refine l_nil ?_
            exact goB () (weak [0, 1, 2, 3, 4] ⟨rfl, rfl, rfl, rfl, trivial⟩ ⟨rfl, rfl, rfl, rfl, rfl, trivial⟩)
          · refine ref_skip ?_
            refine n_then ?_
            refine ref_draw [0, 1, 2, 3, 4, 5, 6, 7, 8, 9, 10, 11, 12, 13, 14, 15, 16, 17, 18, 19, 20, 21, 22, 23, 24, 25] rfl (by kernel_rfl) (fun hok => ?_)
            refine a_rd (i := 0) hok rfl (by kernel_rfl) rfl (r_faddr (fo := 8) Try.underlying95 rfl rfl Try.sizeOf93 rfl) rfl ?_
            refine a_rd (i := 1) hok rfl (by kernel_rfl) rfl (r_cload Try.isAgg93 rfl (j := 2) rfl rfl) rfl ?_
            refine a_rd (i := 2) hok rfl (by kernel_rfl) rfl (r_move rfl) rfl ?_
            refine a_rd (i := 3) hok rfl (by kernel_rfl) rfl (r_faddr (fo := 5) Try.underlying35 rfl rfl Try.sizeOf23 rfl) rfl ?_
            refine a_rd (i := 4) hok rfl (by kernel_rfl) rfl (r_cload Try.isAgg23 rfl (j := 0) rfl rfl) rfl ?_
            refine a_rd (i := 5) hok rfl (by kernel_rfl) rfl (r_faddr (fo := 5) Try.underlying35 rfl rfl Try.sizeOf23 rfl) rfl ?_
            refine a_rd (i := 6) hok rfl (by kernel_rfl) rfl (r_cload Try.isAgg23 rfl (j := 0) rfl rfl) rfl ?_
            refine a_rd (i := 7) hok rfl (by kernel_rfl) rfl (r_move rfl) rfl ?_
            refine pull fun t34 h_t34 => ?_
            refine a_rd (i := 8) hok rfl (by kernel_rfl) rfl (r_index h_t34 Try.underlying23 el_40 rfl rfl) rfl ?_
            refine a_rd (i := 9) hok rfl (by kernel_rfl) rfl (r_fea (fo := 3) (ρ := rT_api_Move) (y := t34) (ρ' := (rI .i64)) (z := t34.Target) Try.underlying40 rfl rfl Try.sizeOf3 rfl rfl rfl) rfl ?_
            refine a_rd (i := 10) hok rfl (by kernel_rfl) rfl (r_load el_3 rfl) rfl ?_
            refine pull fun t35 h_t35 => ?_
            refine a_rd (i := 11) hok rfl (by kernel_rfl) rfl (r_index h_t35 Try.underlying23 el_40 rfl rfl) rfl ?_
            refine a_rd (i := 12) hok rfl (by kernel_rfl) rfl (r_fea (fo := 0) (ρ := rT_api_Move) (y := t35) (ρ' := (rI .i64)) (z := t35.By) Try.underlying40 rfl rfl Try.sizeOf3 rfl rfl rfl) rfl ?_
            refine a_rd (i := 13) hok rfl (by kernel_rfl) rfl (r_load el_3 rfl) rfl ?_
            refine a_rd (i := 14) hok rfl (by kernel_rfl) rfl (r_faddr (fo := 7) Try.underlying95 rfl rfl Try.sizeOf3 rfl) rfl ?_
            refine a_rd (i := 15) hok rfl (by kernel_rfl) rfl (r_cload Try.isAgg3 rfl (j := 2) rfl rfl) rfl ?_
            refine a_rd (i := 16) hok rfl (by kernel_rfl) rfl (r_eql rfl rfl) rfl ?_
            refine a_rd (i := 17) hok rfl (by kernel_rfl) rfl (r_move rfl) rfl ?_
            refine b_split (t := 65) rfl (fun _ => ?_) (fun _ => ?_)
            · refine a_off (i := 18) hok rfl rfl rfl rfl rfl (by kernel_rfl) rfl rfl ?_
              refine a_off (i := 19) hok rfl rfl rfl rfl rfl (by kernel_rfl) rfl rfl ?_
              refine a_off (i := 20) hok rfl rfl rfl rfl rfl (by kernel_rfl) rfl rfl ?_
              refine a_off (i := 21) hok rfl rfl rfl rfl rfl (by kernel_rfl) rfl rfl ?_
              refine a_off (i := 22) hok rfl rfl rfl rfl rfl (by kernel_rfl) rfl rfl ?_
              refine a_off (i := 23) hok rfl rfl rfl rfl rfl (by kernel_rfl) rfl rfl ?_
              refine a_rd (i := 24) hok rfl (by kernel_rfl) rfl (r_pickT rfl rfl) rfl ?_
              refine pull fun t36 h_t36 => ?_
              refine a_rd (i := 25) hok rfl (by kernel_rfl) rfl (r_oindex h_t36 Try.underlying93 el_4 rfl (j := 4) rfl rfl) rfl ?_
              refine a_next hok 26 [] (by kernel_rfl) ?_ trivial
              refine a_st (i := 26) hok rfl rfl (s_ostore (u := true) h_t36 el_4 rfl (j := 4) rfl (part_at rfl bv_at)) (by intro _ h; cases h) (fun _ => ⟨trivial, ⟨trivial, ⟨trivial, ⟨trivial, ⟨trivial, ⟨trivial, ⟨trivial, ⟨trivial, ⟨trivial, ⟨trivial, ⟨trivial, ⟨trivial, ⟨trivial, ⟨trivial, ⟨trivial, ⟨trivial, ⟨trivial, ⟨trivial, ⟨trivial, ⟨trivial, ⟨trivial, ⟨trivial, ⟨trivial, ⟨trivial, ⟨trivial, ⟨trivial, trivial⟩⟩⟩⟩⟩⟩⟩⟩⟩⟩⟩⟩⟩⟩⟩⟩⟩⟩⟩⟩⟩⟩⟩⟩⟩⟩) (fun _ => ?_)
              refine a_fin hok (by kernel_rfl) ?_
              refine n_block ?_
              refine n_then ?_
              refine ref_region ?_
              refine s_rd (r_move rfl) rfl ?_
              refine s_rd (r_add rfl rfl) rfl ?_
              refine s_rd (r_assign rfl) rfl ?_
              refine b_let (f := iv .i64) (t := 4) rfl fun i41 => ?_
              refine l_nil ?_
              exact goB () (weak [0, 1, 2, 3, 4] ⟨rfl, rfl, rfl, rfl, trivial⟩ ⟨rfl, rfl, rfl, rfl, rfl, trivial⟩)
            · refine a_rdOn (i := 18) hok rfl rfl rfl rfl (by kernel_rfl) rfl (r_faddr (fo := 6) Try.underlying95 rfl rfl Try.sizeOf22 rfl) rfl ?_
              refine a_rdOn (i := 19) hok rfl rfl rfl rfl (by kernel_rfl) rfl (r_cload Try.isAgg22 rfl (j := 2) rfl rfl) rfl ?_
              refine a_rdOn (i := 20) hok rfl rfl rfl rfl (by kernel_rfl) rfl (r_move rfl) rfl ?_
              refine pull fun t37 h_t37 => ?_
              refine a_rdOn (i := 21) hok rfl rfl rfl rfl (by kernel_rfl) rfl (r_oindex h_t37 Try.underlying22 el_3 rfl (j := 3) rfl rfl) rfl ?_
              refine a_rdOn (i := 22) hok rfl rfl rfl rfl (by kernel_rfl) rfl (r_oload h_t37 el_3 rfl (j := 3) rfl) rfl ?_
              refine a_rdOn (i := 23) hok rfl rfl rfl rfl (by kernel_rfl) rfl (r_eql rfl rfl) rfl ?_
              refine a_rd (i := 24) hok rfl (by kernel_rfl) rfl (r_pickF rfl rfl) rfl ?_
              refine pull fun t38 h_t38 => ?_
              refine a_rd (i := 25) hok rfl (by kernel_rfl) rfl (r_oindex h_t38 Try.underlying93 el_4 rfl (j := 4) rfl rfl) rfl ?_
              refine a_next hok 26 [] (by kernel_rfl) ?_ trivial
              refine a_st (i := 26) hok rfl rfl (s_ostore (u := t37 == 1) h_t38 el_4 rfl (j := 4) rfl (part_at rfl bv_at)) (by intro _ h; cases h) (fun _ => ⟨trivial, ⟨trivial, ⟨trivial, ⟨trivial, ⟨trivial, ⟨trivial, ⟨trivial, ⟨trivial, ⟨trivial, ⟨trivial, ⟨trivial, ⟨trivial, ⟨trivial, ⟨trivial, ⟨trivial, ⟨trivial, ⟨trivial, ⟨trivial, ⟨trivial, ⟨trivial, ⟨trivial, ⟨trivial, ⟨trivial, ⟨trivial, ⟨trivial, ⟨trivial, trivial⟩⟩⟩⟩⟩⟩⟩⟩⟩⟩⟩⟩⟩⟩⟩⟩⟩⟩⟩⟩⟩⟩⟩⟩⟩⟩) (fun _ => ?_)
              refine a_fin hok (by kernel_rfl) ?_
              refine n_block ?_
              refine n_then ?_
              refine ref_region ?_
              refine s_rd (r_move rfl) rfl ?_
              refine s_rd (r_add rfl rfl) rfl ?_
              refine s_rd (r_assign rfl) rfl ?_
              refine b_let (f := iv .i64) (t := 4) rfl fun i42 => ?_
              refine l_nil ?_
              exact goB () (weak [0, 1, 2, 3, 4] ⟨rfl, rfl, rfl, rfl, trivial⟩ ⟨rfl, rfl, rfl, rfl, rfl, trivial⟩)
      · refine ref_exit ?_
        refine x_then ?_
        exact brkB () (weak [1, 2, 3, 4] ⟨rfl, rfl, trivial⟩ ⟨rfl, rfl, rfl, rfl, trivial⟩)
    · refine n_then ?_
      refine ref_seq ?_
      refine ref_region ?_
      refine s_rd (r_cloadS Try.isAgg95 Try.sizeOf95 rfl (j := 1) rfl rfl rfl) rfl ?_
      refine s_st0 (s_cstore (out := [iv .i64 d_0.Graph.N, slv rT_api_Pair d_0.Graph.L, iv .i64 d_0.Root, iv .i64 d_0.Limits.i0, iv .i64 d_0.Limits.i1, slv rT_api_Move d_0.Moves, pv (χ3 2).V.1, iv .i64 j11, pv (χ3 6).V.1]) Try.sizeOf95 rfl (j := 0) rfl (part_agO (ψs := [iv .i64 d_0.Graph.N, slv rT_api_Pair d_0.Graph.L, iv .i64 d_0.Root, iv .i64 d_0.Limits.i0, iv .i64 d_0.Limits.i1, slv rT_api_Move d_0.Moves, pv (χ3 2).V.1, iv .i64 j11, pv (χ3 6).V.1]) rfl ⟨.inl iv_at, .inl slv_at, .inl iv_at, .inl iv_at, .inl iv_at, .inl slv_at, .inr ⟨_, _, _, _, _, 2, rfl, rfl⟩, .inl iv_at, .inr ⟨_, _, _, _, _, 3, rfl, rfl⟩, trivial⟩) rfl rfl rfl) (fun _ => ?_)
      refine l_nil ?_
      refine n_then ?_
      refine ref_ret ?_
      refine b_of (frzGL [(74, ag [iv .i64 d_0.Graph.N, slv rT_api_Pair d_0.Graph.L, iv .i64 d_0.Root, iv .i64 d_0.Limits.i0, iv .i64 d_0.Limits.i1, slv rT_api_Move d_0.Moves, slv (rI .i64) t4, iv .i64 j11, pv (χ3 6).V.1])] [(0, b2, [iv .i64 d_0.Graph.N, slv rT_api_Pair d_0.Graph.L, iv .i64 d_0.Root, iv .i64 d_0.Limits.i0, iv .i64 d_0.Limits.i1, slv rT_api_Move d_0.Moves, slv (rI .i64) t4, iv .i64 j11, pv (χ3 6).V.1]), (1, (χ3 8).Nn, [iv .i64 d_0.Graph.N, slv rT_api_Pair d_0.Graph.L, iv .i64 d_0.Root, iv .i64 d_0.Limits.i0, iv .i64 d_0.Limits.i1, slv rT_api_Move d_0.Moves, slv (rI .i64) t4, iv .i64 j11, pv (χ3 6).V.1])] (j := 2) rfl ⟨⟨_, rfl, .inr ⟨_, _, rfl, rfl, ⟨.inl rfl, .inl rfl, .inl rfl, .inl rfl, .inl rfl, .inl rfl, .inr ⟨rfl, rfl⟩, .inl rfl, .inl rfl, trivial⟩⟩⟩, trivial⟩ ⟨⟨_, rfl, ⟨.inl rfl, .inl rfl, .inl rfl, .inl rfl, .inl rfl, .inl rfl, .inr ⟨rfl, rfl⟩, .inl rfl, .inl rfl, trivial⟩⟩, ⟨_, rfl, ⟨.inl rfl, .inl rfl, .inl rfl, .inl rfl, .inl rfl, .inl rfl, .inr ⟨rfl, rfl⟩, .inl rfl, .inl rfl, trivial⟩⟩, trivial⟩) ?_
      refine b_of (frzGL [(74, ag [iv .i64 d_0.Graph.N, slv rT_api_Pair d_0.Graph.L, iv .i64 d_0.Root, iv .i64 d_0.Limits.i0, iv .i64 d_0.Limits.i1, slv rT_api_Move d_0.Moves, slv (rI .i64) t4, iv .i64 j11, slv rB q43])] [(0, b2, [iv .i64 d_0.Graph.N, slv rT_api_Pair d_0.Graph.L, iv .i64 d_0.Root, iv .i64 d_0.Limits.i0, iv .i64 d_0.Limits.i1, slv rT_api_Move d_0.Moves, slv (rI .i64) t4, iv .i64 j11, slv rB q43]), (1, (χ3 8).Nn, [iv .i64 d_0.Graph.N, slv rT_api_Pair d_0.Graph.L, iv .i64 d_0.Root, iv .i64 d_0.Limits.i0, iv .i64 d_0.Limits.i1, slv rT_api_Move d_0.Moves, slv (rI .i64) t4, iv .i64 j11, slv rB q43])] (j := 3) rfl ⟨⟨_, rfl, .inr ⟨_, _, rfl, rfl, ⟨.inl rfl, .inl rfl, .inl rfl, .inl rfl, .inl rfl, .inl rfl, .inl rfl, .inl rfl, .inr ⟨rfl, rfl⟩, trivial⟩⟩⟩, trivial⟩ ⟨⟨_, rfl, ⟨.inl rfl, .inl rfl, .inl rfl, .inl rfl, .inl rfl, .inl rfl, .inl rfl, .inl rfl, .inr ⟨rfl, rfl⟩, trivial⟩⟩, ⟨_, rfl, ⟨.inl rfl, .inl rfl, .inl rfl, .inl rfl, .inl rfl, .inl rfl, .inl rfl, .inl rfl, .inr ⟨rfl, rfl⟩, trivial⟩⟩, trivial⟩) ?_
      exact fin1 (.inl rfl) () [] rfl trivial rfl (rv_cell rfl (j := 0) rfl Try.isAgg95 Try.sizeOf95 rfl rfl)

/-! deliberation/protocol.other -/
noncomputable def protocol_other_m (player_0 : Int) : Option (Int) :=
  letM (isub .i64 3 player_0) fun t1 =>
  some t1

theorem protocol_other_ok {player_0 : Int} {r : Int} (hm : protocol_other_m player_0 = some r) :
    FnOk prog 61 [iv .i64 player_0] [] (fun (x : Unit) => [iv .i64 r]) (fun (x : Unit) => []) := by
  refine fn_ok (X := Unit) (fn := Try.f61) (N := 5) (m := protocol_other_m player_0) (res := fun r x => [iv .i64 r]) (Ω1 := fun r x => []) Try.func61 rfl rfl hm rfl (fun E hM => ?_)
  unfold protocol_other_m
  refine ref_seq ?_
  refine ref_region ?_
  refine s_rd (r_assign rfl) rfl ?_
  refine l_nil ?_
  refine n_then ?_
  refine ref_seq ?_
  refine ref_region ?_
  refine s_rd (r_move rfl) rfl ?_
  refine s_rd (r_sub rfl rfl) rfl ?_
  refine s_rd (r_assign rfl) rfl ?_
  refine b_let (f := iv .i64) (t := 2) rfl fun t1 => ?_
  refine l_nil ?_
  refine n_then ?_
  refine ref_ret ?_
  exact fin1 (.inl rfl) () [] rfl trivial rfl (rv_tmp rfl)

/-! slices.Index[[]deliberation/api.Move,deliberation/api.Move] -/
noncomputable def slices_Index_api_Move_api_Move_l1 (s_0 : (List T_api_Move)) (v_1 : T_api_Move) (s7 : Int) : Option (Sum ((Sum (Int) (Unit))) (Int)) :=
  bif decide (s7 < (s_0.length : Int)) then
    Option.bind (idxM s_0 s7) fun t10 =>
    bif decide (v_1 = t10) then
      some (Sum.inl (Sum.inl s7))
    else
      some (Sum.inr (iadd .i64 s7 1))
  else
    some (Sum.inl (Sum.inr ()))

noncomputable def slices_Index_api_Move_api_Move_m (s_0 : (List T_api_Move)) (v_1 : T_api_Move) : Option (Int) :=
  Option.bind (loopC (slices_Index_api_Move_api_Move_l1 s_0 v_1) 0) (sumK (fun a : Int => some a) fun q12 : Unit =>
    some (-1))

theorem slices_Index_api_Move_api_Move_ok {s_0 : (List T_api_Move)} {v_1 : T_api_Move} {r : Int} (hm : slices_Index_api_Move_api_Move_m s_0 v_1 = some r) :
    FnOk prog 83 [slv rT_api_Move s_0, ag [iv .i64 v_1.By, iv .i64 v_1.Kind, iv .i64 v_1.Node, iv .i64 v_1.Target]] [] (fun (x : Unit) => [iv .i64 r]) (fun (x : Unit) => []) := by
  refine fn_ok (X := Unit) (fn := Try.f83) (N := 19) (m := slices_Index_api_Move_api_Move_m s_0 v_1) (res := fun r x => [iv .i64 r]) (Ω1 := fun r x => []) Try.func83 rfl rfl hm rfl (fun E hM => ?_)
  unfold slices_Index_api_Move_api_Move_m
  refine ref_seq ?_
  refine ref_region ?_
  refine s_st (s_box (part_ag (ψs := [iv .i64 v_1.By, iv .i64 v_1.Kind, iv .i64 v_1.Node, iv .i64 v_1.Target]) rfl (by intro φ h; simp only [List.mem_cons, List.not_mem_nil, or_false] at h; rcases h with rfl | rfl | rfl | rfl <;> first | exact iv_at | exact bv_at | exact sv_at | exact slv_at | exact pv_at rfl))) rfl (fun b1 => ?_)
  refine s_rd (r_assign rfl) rfl ?_
  refine l_nil ?_
  refine n_then ?_
  refine ref_seq ?_
  refine ref_seq ?_
  refine ref_region ?_
  refine s_rd (r_move rfl) rfl ?_
  refine s_rd (r_len Try.underlying23 rfl) rfl ?_
  refine s_rd (r_move rfl) rfl ?_
  refine l_nil ?_
  refine n_then ?_
  refine ref_loopX (f := (slices_Index_api_Move_api_Move_l1 s_0 v_1)) (Γl := (fun (s7 : Int) (x8 : Unit) => [(0, slv rT_api_Move s_0), (3, pv (ptr b1 0)), (7, iv .i64 (s_0.length : Int)), (8, iv .i64 s7)])) (Ωl := (fun (s7 : Int) (x8 : Unit) => [oc b1 [iv .i64 v_1.By, iv .i64 v_1.Kind, iv .i64 v_1.Node, iv .i64 v_1.Target]])) (Γb := (fun (q12 : Unit) (y13 : Unit) => [])) (Ωb := (fun (q12 : Unit) (y13 : Unit) => [])) (kr := (fun a : Int => some a)) 0 () (weak [0] ⟨rfl, rfl, rfl, rfl, trivial⟩ ⟨rfl, trivial⟩) (fun s7 x8 => ?_) (fun q12 y13 => ?_)
  · unfold slices_Index_api_Move_api_Move_l1
    refine ref_seq ?_
    refine ref_region ?_
    refine s_rd (r_lss rfl rfl) rfl ?_
    refine l_nil ?_
    refine n_then ?_
    refine ref_seq ?_
    refine ref_cond rfl (fun hb9 => ?_) (fun hb9 => ?_)
    · refine ref_skip ?_
      refine n_then ?_
      refine ref_seq ?_
      refine ref_block ?_
      refine ref_seq ?_
      refine ref_region ?_
      refine s_rd (r_move rfl) rfl ?_
      refine s_rd (r_assign rfl) rfl ?_
      refine l_nil ?_
      refine n_then ?_
      refine ref_seq ?_
      refine ref_draw [0, 1, 2, 3, 4, 5] rfl (by kernel_rfl) (fun hok => ?_)
      refine a_rd (i := 0) hok rfl (by kernel_rfl) rfl (r_cloadS Try.isAgg40 Try.sizeOf40 rfl (j := 0) rfl rfl rfl) rfl ?_
      refine a_rd (i := 1) hok rfl (by kernel_rfl) rfl (r_move rfl) rfl ?_
      refine a_rd (i := 2) hok rfl (by kernel_rfl) rfl (r_move rfl) rfl ?_
      refine pull fun t10 h_t10 => ?_
      refine a_rd (i := 3) hok rfl (by kernel_rfl) rfl (r_index h_t10 Try.underlying23 el_40 rfl rfl) rfl ?_
      refine a_rd (i := 4) hok rfl (by kernel_rfl) rfl (r_load el_40 rfl) rfl ?_
      refine a_rd (i := 5) hok rfl (by kernel_rfl) rfl (r_steql (u := v_1) (v := t10) eq_40 rfl rfl rfl rfl) rfl ?_
      refine a_fin hok (by kernel_rfl) ?_
      refine n_then ?_
      refine ref_cond rfl (fun hb11 => ?_) (fun hb11 => ?_)
      · refine ref_seq ?_
        refine ref_region ?_
        refine s_rd (r_move rfl) rfl ?_
        refine s_rd (r_assign rfl) rfl ?_
        refine l_nil ?_
        refine n_then ?_
        refine ref_ret ?_
        refine r_block ?_
        refine r_then ?_
        refine retX ?_
        refine r_block ?_
        refine r_then ?_
        exact fin1 (.inl rfl) () [] rfl trivial rfl (rv_tmp rfl)
      · refine ref_skip ?_
        refine n_block ?_
        refine n_then ?_
        refine ref_region ?_
        refine s_rd (r_add rfl rfl) rfl ?_
        refine s_rd (r_move rfl) rfl ?_
        refine l_nil ?_
        exact goX () (weak [0] ⟨rfl, rfl, rfl, rfl, trivial⟩ ⟨rfl, trivial⟩)
    · refine ref_exit ?_
      refine x_then ?_
      exact brkX () (weak [] trivial trivial)
  · refine n_then ?_
    refine ref_seq ?_
    refine ref_region ?_
    refine s_rd (r_assign rfl) rfl ?_
    refine l_nil ?_
    refine n_then ?_
    refine ref_ret ?_
    exact fin1 (.inl rfl) () [] rfl trivial rfl (rv_tmp rfl)

/-! slices.Contains[[]deliberation/api.Move,deliberation/api.Move] -/
noncomputable def slices_Contains_api_Move_api_Move_m (s_0 : (List T_api_Move)) (v_1 : T_api_Move) : Option (Bool) :=
  Option.bind (slices_Index_api_Move_api_Move_m s_0 v_1) fun t2 =>
  letM (decide (t2 ≥ 0)) fun t3 =>
  some t3

theorem slices_Contains_api_Move_api_Move_ok {s_0 : (List T_api_Move)} {v_1 : T_api_Move} {r : Bool} (hm : slices_Contains_api_Move_api_Move_m s_0 v_1 = some r) :
    FnOk prog 67 [slv rT_api_Move s_0, ag [iv .i64 v_1.By, iv .i64 v_1.Kind, iv .i64 v_1.Node, iv .i64 v_1.Target]] [] (fun (x : Unit) => [bv r]) (fun (x : Unit) => []) := by
  refine fn_ok (X := Unit) (fn := Try.f67) (N := 9) (m := slices_Contains_api_Move_api_Move_m s_0 v_1) (res := fun r x => [bv r]) (Ω1 := fun r x => []) Try.func67 rfl rfl hm rfl (fun E hM => ?_)
  unfold slices_Contains_api_Move_api_Move_m
  refine ref_seq ?_
  refine ref_region ?_
  refine s_st (s_box (part_ag (ψs := [iv .i64 v_1.By, iv .i64 v_1.Kind, iv .i64 v_1.Node, iv .i64 v_1.Target]) rfl (by intro φ h; simp only [List.mem_cons, List.not_mem_nil, or_false] at h; rcases h with rfl | rfl | rfl | rfl <;> first | exact iv_at | exact bv_at | exact sv_at | exact slv_at | exact pv_at rfl))) rfl (fun b1 => ?_)
  refine s_rd (r_assign rfl) rfl ?_
  refine l_nil ?_
  refine n_then ?_
  refine ref_seq ?_
  refine ref_region ?_
  refine s_rd (r_move rfl) rfl ?_
  refine s_rd (r_cloadS Try.isAgg40 Try.sizeOf40 rfl (j := 0) rfl rfl rfl) rfl ?_
  refine pull fun t2 h_t2 => ?_
  refine s_st (s_call (ψ := fun (_ : Unit) => iv .i64 t2) (args := [.tmp 5, .tmp 6]) Try.call83 rfl (slices_Index_api_Move_api_Move_ok h_t2) ⟨arg rfl, arg rfl, trivial⟩ (fun _ _ _ _ h => h)) rfl (fun _ => ?_)
  refine s_rd (r_geq rfl rfl) rfl ?_
  refine s_rd (r_assign rfl) rfl ?_
  refine b_let (f := bv) (t := 4) rfl fun t3 => ?_
  refine l_nil ?_
  refine n_then ?_
  refine ref_ret ?_
  exact fin1 (.inl rfl) () [] rfl trivial rfl (rv_tmp rfl)

/-! (deliberation/protocol.table).moved -/
noncomputable def protocol_table_moved_l1 (t_0 : T_protocol_table) (node_2 : Int) (s11 : Int) : Option (Sum (Bool) (Int)) :=
  Option.bind (idxM t_0.d.Moves s11) fun t13 =>
  joinM (fun j16 : Unit =>
      bif s11 == 0 then
        some (Sum.inl false)
      else
        some (Sum.inr t13.Target)) fun k18 =>
  bif t13.By == 1 then
    bif t13.Node == node_2 then
      some (Sum.inl true)
    else
      k18 ()
  else
    k18 ()

noncomputable def protocol_table_moved_m (t_0 : T_protocol_table) (move_1 : Int) (node_2 : Int) : Option (Bool) :=
  Option.bind (loopC (protocol_table_moved_l1 t_0 node_2) move_1) (fun a : Bool => some a)

theorem protocol_table_moved_ok {t_0 : T_protocol_table} {move_1 : Int} {node_2 : Int} {r : Bool} (hm : protocol_table_moved_m t_0 move_1 node_2 = some r) :
    FnOk prog 82 [ag [iv .i64 t_0.d.Graph.N, slv rT_api_Pair t_0.d.Graph.L, iv .i64 t_0.d.Root, iv .i64 t_0.d.Limits.i0, iv .i64 t_0.d.Limits.i1, slv rT_api_Move t_0.d.Moves, slv (rI .i64) t_0.status, iv .i64 t_0.leader, slv rB t_0.leading], iv .i64 move_1, iv .i64 node_2] [] (fun (x : Unit) => [bv r]) (fun (x : Unit) => []) := by
  refine fn_ok (X := Unit) (fn := Try.f82) (N := 27) (m := protocol_table_moved_m t_0 move_1 node_2) (res := fun r x => [bv r]) (Ω1 := fun r x => []) Try.func82 rfl rfl hm rfl (fun E hM => ?_)
  unfold protocol_table_moved_m
  refine ref_seq ?_
  refine ref_region ?_
  refine s_st (s_box (part_ag (ψs := [iv .i64 t_0.d.Graph.N, slv rT_api_Pair t_0.d.Graph.L, iv .i64 t_0.d.Root, iv .i64 t_0.d.Limits.i0, iv .i64 t_0.d.Limits.i1, slv rT_api_Move t_0.d.Moves, slv (rI .i64) t_0.status, iv .i64 t_0.leader, slv rB t_0.leading]) rfl (by intro φ h; simp only [List.mem_cons, List.not_mem_nil, or_false] at h; rcases h with rfl | rfl | rfl | rfl | rfl | rfl | rfl | rfl | rfl <;> first | exact iv_at | exact bv_at | exact sv_at | exact slv_at | exact pv_at rfl))) rfl (fun b1 => ?_)
  refine s_rd (r_assign rfl) rfl ?_
  refine l_nil ?_
  refine n_then ?_
  refine ref_block (ref_loop (f := (protocol_table_moved_l1 t_0 node_2)) (Γl := (fun (s11 : Int) (x12 : Unit) => [(1, iv .i64 s11), (2, iv .i64 node_2), (3, pv (ptr b1 0))])) (Ωl := (fun (s11 : Int) (x12 : Unit) => [oc b1 [iv .i64 t_0.d.Graph.N, slv rT_api_Pair t_0.d.Graph.L, iv .i64 t_0.d.Root, iv .i64 t_0.d.Limits.i0, iv .i64 t_0.d.Limits.i1, slv rT_api_Move t_0.d.Moves, slv (rI .i64) t_0.status, iv .i64 t_0.leader, slv rB t_0.leading]])) (k := (fun a : Bool => some a)) move_1 () (weak [0] ⟨rfl, rfl, rfl, trivial⟩ ⟨rfl, trivial⟩) (fun s11 x12 => ?_))
  · unfold protocol_table_moved_l1
    refine ref_block ?_
    refine ref_seq ?_
    refine ref_region ?_
    refine s_rd (r_faddr (fo := 0) Try.underlying95 rfl rfl Try.sizeOf35 rfl) rfl ?_
    refine s_rd (r_faddr (fo := 5) Try.underlying35 rfl rfl Try.sizeOf23 rfl) rfl ?_
    refine s_rd (r_cload Try.isAgg23 rfl (j := 0) rfl rfl) rfl ?_
    refine s_rd (r_move rfl) rfl ?_
    refine pull fun t13 h_t13 => ?_
    refine s_rd (r_index h_t13 Try.underlying23 el_40 rfl rfl) rfl ?_
    refine s_rd (r_load el_40 rfl) rfl ?_
    refine s_st (s_alloc zt_40) rfl (fun b14 => ?_)
    refine s_st0 (s_cstore (out := [iv .i64 t13.By, iv .i64 t13.Kind, iv .i64 t13.Node, iv .i64 t13.Target]) Try.sizeOf40 rfl (j := 1) rfl (part_ag (ψs := [iv .i64 t13.By, iv .i64 t13.Kind, iv .i64 t13.Node, iv .i64 t13.Target]) rfl (by intro φ h; simp only [List.mem_cons, List.not_mem_nil, or_false] at h; rcases h with rfl | rfl | rfl | rfl <;> first | exact iv_at | exact bv_at | exact sv_at | exact slv_at | exact pv_at rfl)) rfl rfl rfl) (fun _ => ?_)
    refine l_nil ?_
    refine n_then ?_
    refine ref_seq ?_
    refine ref_join (fun (j16 : Unit) (x17 : Unit) => [(1, iv .i64 s11), (2, iv .i64 node_2), (3, pv (ptr b1 0)), (7, pv (ptr b14 0))]) (fun (j16 : Unit) (x17 : Unit) => [oc b1 [iv .i64 t_0.d.Graph.N, slv rT_api_Pair t_0.d.Graph.L, iv .i64 t_0.d.Root, iv .i64 t_0.d.Limits.i0, iv .i64 t_0.d.Limits.i1, slv rT_api_Move t_0.d.Moves, slv (rI .i64) t_0.status, iv .i64 t_0.leader, slv rB t_0.leading], oc b14 [iv .i64 t13.By, iv .i64 t13.Kind, iv .i64 t13.Node, iv .i64 t13.Target]]) (fun k18 hk18 => ?_) (fun j16 x17 => ?_)
    · refine ref_seq ?_
      refine ref_region ?_
      refine s_rd (r_faddr (fo := 0) Try.underlying40 rfl rfl Try.sizeOf3 rfl) rfl ?_
      refine s_rd (r_cload Try.isAgg3 rfl (j := 1) rfl rfl) rfl ?_
      refine s_rd (r_eql rfl rfl) rfl ?_
      refine s_rd (r_move rfl) rfl ?_
      refine b_split (t := 17) rfl (fun _ => ?_) (fun _ => ?_)
      · refine s_on rfl rfl rfl ?_
        refine s_rd (r_faddr (fo := 2) Try.underlying40 rfl rfl Try.sizeOf3 rfl) rfl ?_
        refine s_on rfl rfl rfl ?_
        refine s_rd (r_cload Try.isAgg3 rfl (j := 1) rfl rfl) rfl ?_
        refine s_on rfl rfl rfl ?_
        refine s_rd (r_move rfl) rfl ?_
        refine s_on rfl rfl rfl ?_
        refine s_rd (r_eql rfl rfl) rfl ?_
        refine s_rd (r_pickT rfl rfl) rfl ?_
        refine l_nil ?_
        refine n_then ?_
        refine ref_cond rfl (fun hb15 => ?_) (fun hb15 => ?_)
        · refine ref_seq ?_
          refine ref_region ?_
          refine s_rd (r_assign rfl) rfl ?_
          refine l_nil ?_
          refine n_then ?_
          refine ref_ret ?_
          refine r_then ?_
          refine r_block ?_
          refine r_loop ?_
          refine r_block ?_
          exact fin1 (.inl rfl) () [] rfl trivial rfl (rv_tmp rfl)
        · refine ref_skip ?_
          exact b_to (hk18 () ()) (weak [0, 1] ⟨rfl, rfl, rfl, rfl, trivial⟩ ⟨rfl, rfl, trivial⟩)
      · refine s_off rfl rfl rfl rfl rfl ?_
        refine s_off rfl rfl rfl rfl rfl ?_
        refine s_off rfl rfl rfl rfl rfl ?_
        refine s_off rfl rfl rfl rfl rfl ?_
        refine s_rd (r_pickF rfl rfl) rfl ?_
        refine l_nil ?_
        refine n_then ?_
        refine ref_condF rfl rfl ?_
        refine ref_skip ?_
        exact b_to (hk18 () ()) (weak [0, 1] ⟨rfl, rfl, rfl, rfl, trivial⟩ ⟨rfl, rfl, trivial⟩)
    · refine n_then ?_
      refine ref_seq ?_
      refine ref_seq ?_
      refine ref_region ?_
      refine s_rd (r_move rfl) rfl ?_
      refine s_rd (r_eql rfl rfl) rfl ?_
      refine l_nil ?_
      refine n_then ?_
      refine ref_cond rfl (fun hb19 => ?_) (fun hb19 => ?_)
      · refine ref_seq ?_
        refine ref_region ?_
        refine s_rd (r_assign rfl) rfl ?_
        refine l_nil ?_
        refine n_then ?_
        refine ref_ret ?_
        refine r_then ?_
        refine r_block ?_
        refine r_loop ?_
        refine r_block ?_
        exact fin1 (.inl rfl) () [] rfl trivial rfl (rv_tmp rfl)
      · refine ref_skip ?_
        refine n_then ?_
        refine ref_region ?_
        refine s_rd (r_faddr (fo := 3) Try.underlying40 rfl rfl Try.sizeOf3 rfl) rfl ?_
        refine s_rd (r_cload Try.isAgg3 rfl (j := 1) rfl rfl) rfl ?_
        refine s_rd (r_assign rfl) rfl ?_
        refine l_nil ?_
        refine n_block ?_
        exact n_loop () (weak [0] ⟨rfl, rfl, rfl, trivial⟩ ⟨rfl, trivial⟩)

end Go.Dc
