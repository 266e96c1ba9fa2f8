/- Part LAW27.A0 of a proof that a law of the program returns true: general lemmas, no condition. -/
import Derived.Test.YtlhfddobimfcbaaLAW27Types
import Derived.Test.YtlhfddobimfcbaaProg
set_option linter.unusedVariables false
set_option maxRecDepth 100000
set_option maxHeartbeats 4000000
namespace Go.Dc
open Go.Proofs
open Go.Proofs.Try (prog)

/-! deliberation/deliberationkeep.New -/
noncomputable def keep_New_m (l_0 : (List Int)) : Option (T_deliberationkeep_Src) :=
  Option.bind (slM l_0 0 (imin (l_0.length : Int) 2000)) fun t1 =>
  some (T_deliberationkeep_Src.mk t1 0)

theorem keep_New_ok {l_0 : (List Int)} {r : T_deliberationkeep_Src} (hm : keep_New_m l_0 = some r) :
    FnOk prog 7 [slv (rI .i64) l_0] [] (fun (x : Nat) => [pv (ptr x 0)]) (fun (x : Nat) => [oc x [slv (rI .i64) r.L, iv .i64 r.At]]) := by
  refine fn_ok (X := Nat) (fn := Try.f7) (N := 10) (m := keep_New_m l_0) (res := fun r x => [pv (ptr x 0)]) (Ω1 := fun r x => [oc x [slv (rI .i64) r.L, iv .i64 r.At]]) Try.func7 rfl rfl hm rfl (fun E hM => ?_)
  unfold keep_New_m
  refine ref_seq ?_
  refine ref_region ?_
  refine s_rd (r_assign rfl) rfl ?_
  refine l_nil ?_
  refine n_then ?_
  refine ref_seq ?_
  refine ref_region ?_
  refine s_rd (r_move rfl) rfl ?_
  refine s_rd (r_move rfl) rfl ?_
  refine s_rd (r_len Try.underlying22 rfl) rfl ?_
  refine s_rd (r_min rfl rfl) rfl ?_
  refine pull fun t1 h_t1 => ?_
  refine s_rd (r_slice h_t1 Try.underlying22 el_3 rfl .dft (.of rfl)) rfl ?_
  refine s_rd (r_build (ps := [(0, .tmp 7)]) (rs := [(0, [slv (rI .i64) t1])]) st_60 zs_60 ⟨rfl, (part_at rfl slv_at), trivial⟩ rfl rfl) rfl ?_
  refine s_st (s_box (part_ag (ψs := [slv (rI .i64) t1, iv .i64 0]) rfl (by intro φ h; simp only [List.mem_cons, List.not_mem_nil, or_false] at h; rcases h with rfl | rfl <;> first | exact iv_at | exact bv_at | exact sv_at | exact slv_at | exact pv_at rfl))) rfl (fun b2 => ?_)
  refine s_rd (r_assign rfl) rfl ?_
  refine l_nil ?_
  refine n_then ?_
  refine ref_ret ?_
  exact fin1 (.inl rfl) b2 [0] rfl ⟨rfl, trivial⟩ rfl (rv_tmp rfl)

/-! (*deliberation/deliberationkeep.Src).Raw -/
noncomputable def keep_Src_Raw_m (s_0 : T_deliberationkeep_Src) : Option (Int × T_deliberationkeep_Src) :=
  bif decide (s_0.At ≥ (s_0.L.length : Int)) then
    some (0, s_0)
  else
    Option.bind (idxM s_0.L (isub .i64 (iadd .i64 s_0.At 1) 1)) fun t2 =>
    some (t2, (T_deliberationkeep_Src.mk s_0.L (iadd .i64 s_0.At 1)))

theorem keep_Src_Raw_ok {s_0 : T_deliberationkeep_Src} {b_0 : Nat} {r : Int × T_deliberationkeep_Src} (hm : keep_Src_Raw_m s_0 = some r) :
    FnOk prog 32 [pv (ptr b_0 0)] [oc b_0 [slv (rI .i64) s_0.L, iv .i64 s_0.At]] (fun (x : Unit) => [iv .i64 r.1]) (fun (x : Unit) => [oc b_0 [slv (rI .i64) r.2.L, iv .i64 r.2.At]]) := by
  refine fn_ok (X := Unit) (fn := Try.f32) (N := 31) (m := keep_Src_Raw_m s_0) (res := fun r x => [iv .i64 r.1]) (Ω1 := fun r x => [oc b_0 [slv (rI .i64) r.2.L, iv .i64 r.2.At]]) Try.func32 rfl rfl hm rfl (fun E hM => ?_)
  unfold keep_Src_Raw_m
  refine ref_seq ?_
  refine ref_region ?_
  refine s_rd (r_assign rfl) rfl ?_
  refine l_nil ?_
  refine n_then ?_
  refine ref_seq ?_
  refine ref_seq ?_
  refine ref_draw [0, 1, 2, 3, 4, 5, 6, 7, 8, 9] rfl (by kernel_rfl) (fun hok => ?_)
  refine a_rd (i := 0) hok rfl (by kernel_rfl) rfl (r_move rfl) rfl ?_
  refine a_rd (i := 1) hok rfl (by kernel_rfl) rfl (r_nilc rfl) rfl ?_
  refine a_rd (i := 2) hok rfl (by kernel_rfl) rfl (r_faddr (fo := 1) Try.underlying60 rfl rfl Try.sizeOf3 rfl) rfl ?_
  refine a_rd (i := 3) hok rfl (by kernel_rfl) rfl (r_cload Try.isAgg3 rfl (j := 0) rfl rfl) rfl ?_
  refine a_rd (i := 4) hok rfl (by kernel_rfl) rfl (r_move rfl) rfl ?_
  refine a_rd (i := 5) hok rfl (by kernel_rfl) rfl (r_nilc rfl) rfl ?_
  refine a_rd (i := 6) hok rfl (by kernel_rfl) rfl (r_faddr (fo := 0) Try.underlying60 rfl rfl Try.sizeOf22 rfl) rfl ?_
  refine a_rd (i := 7) hok rfl (by kernel_rfl) rfl (r_cload Try.isAgg22 rfl (j := 0) rfl rfl) rfl ?_
  refine a_rd (i := 8) hok rfl (by kernel_rfl) rfl (r_len Try.underlying22 rfl) rfl ?_
  refine a_rd (i := 9) hok rfl (by kernel_rfl) rfl (r_geq rfl rfl) rfl ?_
  refine a_fin hok (by kernel_rfl) ?_
  refine n_then ?_
  refine ref_cond rfl (fun hb1 => ?_) (fun hb1 => ?_)
  · refine ref_seq ?_
    refine ref_region ?_
    refine s_rd (r_assign rfl) rfl ?_
    refine l_nil ?_
    refine n_then ?_
    refine ref_ret ?_
    refine r_then ?_
    exact fin1 (.inl rfl) () [0] rfl ⟨rfl, trivial⟩ rfl (rv_tmp rfl)
  · refine ref_skip ?_
    refine n_then ?_
    refine ref_seq ?_
    refine ref_region ?_
    refine s_rd (r_move rfl) rfl ?_
    refine s_rd (r_nilc rfl) rfl ?_
    refine s_rd (r_faddr (fo := 1) Try.underlying60 rfl rfl Try.sizeOf3 rfl) rfl ?_
    refine s_rd (r_cload Try.isAgg3 rfl (j := 0) rfl rfl) rfl ?_
    refine s_rd (r_add rfl rfl) rfl ?_
    refine s_rd (r_nilc rfl) rfl ?_
    refine s_rd (r_faddr (fo := 1) Try.underlying60 rfl rfl Try.sizeOf3 rfl) rfl ?_
    refine s_st0 (s_cstore (out := [slv (rI .i64) s_0.L, iv .i64 (iadd .i64 s_0.At 1)]) Try.sizeOf3 rfl (j := 0) rfl (part_at rfl iv_at) rfl rfl rfl) (fun _ => ?_)
    refine l_nil ?_
    refine n_then ?_
    refine ref_seq ?_
    refine ref_draw [0, 1, 2, 3, 4, 5, 6, 7, 8, 9, 10] rfl (by kernel_rfl) (fun hok => ?_)
    refine a_rd (i := 0) hok rfl (by kernel_rfl) rfl (r_move rfl) rfl ?_
    refine a_rd (i := 1) hok rfl (by kernel_rfl) rfl (r_nilc rfl) rfl ?_
    refine a_rd (i := 2) hok rfl (by kernel_rfl) rfl (r_faddr (fo := 0) Try.underlying60 rfl rfl Try.sizeOf22 rfl) rfl ?_
    refine a_rd (i := 3) hok rfl (by kernel_rfl) rfl (r_cload Try.isAgg22 rfl (j := 0) rfl rfl) rfl ?_
    refine a_rd (i := 4) hok rfl (by kernel_rfl) rfl (r_move rfl) rfl ?_
    refine a_rd (i := 5) hok rfl (by kernel_rfl) rfl (r_nilc rfl) rfl ?_
    refine a_rd (i := 6) hok rfl (by kernel_rfl) rfl (r_faddr (fo := 1) Try.underlying60 rfl rfl Try.sizeOf3 rfl) rfl ?_
    refine a_rd (i := 7) hok rfl (by kernel_rfl) rfl (r_cload Try.isAgg3 rfl (j := 0) rfl rfl) rfl ?_
    refine a_rd (i := 8) hok rfl (by kernel_rfl) rfl (r_sub rfl rfl) rfl ?_
    refine pull fun t2 h_t2 => ?_
    refine a_rd (i := 9) hok rfl (by kernel_rfl) rfl (r_index h_t2 Try.underlying22 el_3 rfl rfl) rfl ?_
    refine a_rd (i := 10) hok rfl (by kernel_rfl) rfl (r_load el_3 rfl) rfl ?_
    refine a_next hok 11 [] (by kernel_rfl) ?_ trivial
    refine a_st (i := 11) hok rfl rfl (St.ofRd (r_assign rfl)) (by intro _ h; cases h; rfl) (fun _ => ⟨trivial, ⟨trivial, ⟨trivial, ⟨trivial, ⟨trivial, ⟨trivial, ⟨trivial, ⟨trivial, ⟨trivial, ⟨trivial, ⟨trivial, trivial⟩⟩⟩⟩⟩⟩⟩⟩⟩⟩⟩) (fun _ => ?_)
    refine a_fin hok (by kernel_rfl) ?_
    refine n_then ?_
    refine ref_ret ?_
    exact fin1 (.inl rfl) () [0] rfl ⟨rfl, trivial⟩ rfl (rv_tmp rfl)

/-! deliberation/deliberationkeep.Mod -/
noncomputable def keep_Mod_m (x_0 : Int) (n_1 : Int) : Option (Int) :=
  bif decide (n_1 < 1) then
    some 0
  else
    Option.bind (iremM .i64 x_0 n_1) fun x2 =>
    bif decide (x2 < 0) then
      letM (iadd .i64 x2 n_1) fun x4 =>
      some x4
    else
      some x2

theorem keep_Mod_ok {x_0 : Int} {n_1 : Int} {r : Int} (hm : keep_Mod_m x_0 n_1 = some r) :
    FnOk prog 22 [iv .i64 x_0, iv .i64 n_1] [] (fun (x : Unit) => [iv .i64 r]) (fun (x : Unit) => []) := by
  refine fn_ok (X := Unit) (fn := Try.f22) (N := 16) (m := keep_Mod_m x_0 n_1) (res := fun r x => [iv .i64 r]) (Ω1 := fun r x => []) Try.func22 rfl rfl hm rfl (fun E hM => ?_)
  unfold keep_Mod_m
  refine ref_seq ?_
  refine ref_region ?_
  refine s_rd (r_assign rfl) rfl ?_
  refine l_nil ?_
  refine n_then ?_
  refine ref_seq ?_
  refine ref_seq ?_
  refine ref_region ?_
  refine s_rd (r_move rfl) rfl ?_
  refine s_rd (r_lss rfl rfl) rfl ?_
  refine l_nil ?_
  refine n_then ?_
  refine ref_cond rfl (fun hb1 => ?_) (fun hb1 => ?_)
  · refine ref_seq ?_
    refine ref_region ?_
    refine s_rd (r_assign rfl) rfl ?_
    refine l_nil ?_
    refine n_then ?_
    refine ref_ret ?_
    refine r_then ?_
    exact fin1 (.inl rfl) () [] rfl trivial rfl (rv_tmp rfl)
  · refine ref_skip ?_
    refine n_then ?_
    refine ref_seq ?_
    refine ref_region ?_
    refine s_rd (r_move rfl) rfl ?_
    refine s_rd (r_move rfl) rfl ?_
    refine pull fun x2 h_x2 => ?_
    refine s_rd (r_remM h_x2 rfl rfl) rfl ?_
    refine s_rd (r_assign rfl) rfl ?_
    refine l_nil ?_
    refine n_then ?_
    refine ref_seq ?_
    refine ref_seq ?_
    refine ref_region ?_
    refine s_rd (r_move rfl) rfl ?_
    refine s_rd (r_lss rfl rfl) rfl ?_
    refine l_nil ?_
    refine n_then ?_
    refine ref_cond rfl (fun hb3 => ?_) (fun hb3 => ?_)
    · refine ref_region ?_
      refine s_rd (r_move rfl) rfl ?_
      refine s_rd (r_move rfl) rfl ?_
      refine s_rd (r_add rfl rfl) rfl ?_
      refine s_rd (r_assign rfl) rfl ?_
      refine b_let (f := iv .i64) (t := 0) rfl fun x4 => ?_
      refine l_nil ?_
      refine n_then ?_
      refine ref_seq ?_
      refine ref_region ?_
      refine s_rd (r_move rfl) rfl ?_
      refine s_rd (r_assign rfl) rfl ?_
      refine l_nil ?_
      refine n_then ?_
      refine ref_ret ?_
      exact fin1 (.inl rfl) () [] rfl trivial rfl (rv_tmp rfl)
    · refine ref_skip ?_
      refine n_then ?_
      refine ref_seq ?_
      refine ref_region ?_
      refine s_rd (r_move rfl) rfl ?_
      refine s_rd (r_assign rfl) rfl ?_
      refine l_nil ?_
      refine n_then ?_
      refine ref_ret ?_
      exact fin1 (.inl rfl) () [] rfl trivial rfl (rv_tmp rfl)

/-! (*deliberation/deliberationkeep.Src).N -/
noncomputable def keep_Src_N_m (s_0 : T_deliberationkeep_Src) (n_1 : Int) : Option (Int × T_deliberationkeep_Src) :=
  Option.bind (keep_Src_Raw_m s_0) fun t1 =>
  Option.bind (keep_Mod_m t1.1 n_1) fun t2 =>
  some (t2, t1.2)

theorem keep_Src_N_ok {s_0 : T_deliberationkeep_Src} {n_1 : Int} {b_0 : Nat} {r : Int × T_deliberationkeep_Src} (hm : keep_Src_N_m s_0 n_1 = some r) :
    FnOk prog 11 [pv (ptr b_0 0), iv .i64 n_1] [oc b_0 [slv (rI .i64) s_0.L, iv .i64 s_0.At]] (fun (x : Unit) => [iv .i64 r.1]) (fun (x : Unit) => [oc b_0 [slv (rI .i64) r.2.L, iv .i64 r.2.At]]) := by
  refine fn_ok (X := Unit) (fn := Try.f11) (N := 9) (m := keep_Src_N_m s_0 n_1) (res := fun r x => [iv .i64 r.1]) (Ω1 := fun r x => [oc b_0 [slv (rI .i64) r.2.L, iv .i64 r.2.At]]) Try.func11 rfl rfl hm rfl (fun E hM => ?_)
  unfold keep_Src_N_m
  refine ref_seq ?_
  refine ref_region ?_
  refine s_rd (r_assign rfl) rfl ?_
  refine l_nil ?_
  refine n_then ?_
  refine ref_seq ?_
  refine ref_region ?_
  refine s_rd (r_move rfl) rfl ?_
  refine pull fun t1 h_t1 => ?_
  refine s_st (s_callO (js := [0]) (os := fun (_ : Unit) => [oc b_0 [slv (rI .i64) t1.2.L, iv .i64 t1.2.At]]) (ex := fun (_ : Unit) => []) (ψ := fun (_ : Unit) => iv .i64 t1.1) (args := [.tmp 5]) Try.call32 rfl (keep_Src_Raw_ok h_t1) ⟨rfl, trivial⟩ (fun _ => rfl) (fun _ => ⟨rfl, trivial⟩) ⟨arg rfl, trivial⟩ (fun _ _ _ _ h => h)) rfl (fun _ => ?_)
  refine s_rd (r_move rfl) rfl ?_
  refine pull fun t2 h_t2 => ?_
  refine s_st (s_call (ψ := fun (_ : Unit) => iv .i64 t2) (args := [.tmp 6, .tmp 7]) Try.call22 rfl (keep_Mod_ok h_t2) ⟨arg rfl, arg rfl, trivial⟩ (fun _ _ _ _ h => h)) rfl (fun _ => ?_)
  refine s_rd (r_assign rfl) rfl ?_
  refine l_nil ?_
  refine n_then ?_
  refine ref_ret ?_
  exact fin1 (.inl rfl) () [0] rfl ⟨rfl, trivial⟩ rfl (rv_tmp rfl)

/-! (*deliberation/deliberationkeep.Src).Range -/
noncomputable def keep_Src_Range_m (s_0 : T_deliberationkeep_Src) (lo_1 : Int) (hi_2 : Int) : Option (Int × T_deliberationkeep_Src) :=
  Option.bind (keep_Src_N_m s_0 (iadd .i64 (isub .i64 hi_2 lo_1) 1)) fun t1 =>
  letM (iadd .i64 lo_1 t1.1) fun t2 =>
  some (t2, t1.2)

theorem keep_Src_Range_ok {s_0 : T_deliberationkeep_Src} {lo_1 : Int} {hi_2 : Int} {b_0 : Nat} {r : Int × T_deliberationkeep_Src} (hm : keep_Src_Range_m s_0 lo_1 hi_2 = some r) :
    FnOk prog 40 [pv (ptr b_0 0), iv .i64 lo_1, iv .i64 hi_2] [oc b_0 [slv (rI .i64) s_0.L, iv .i64 s_0.At]] (fun (x : Unit) => [iv .i64 r.1]) (fun (x : Unit) => [oc b_0 [slv (rI .i64) r.2.L, iv .i64 r.2.At]]) := by
  refine fn_ok (X := Unit) (fn := Try.f40) (N := 15) (m := keep_Src_Range_m s_0 lo_1 hi_2) (res := fun r x => [iv .i64 r.1]) (Ω1 := fun r x => [oc b_0 [slv (rI .i64) r.2.L, iv .i64 r.2.At]]) Try.func40 rfl rfl hm rfl (fun E hM => ?_)
  unfold keep_Src_Range_m
  refine ref_seq ?_
  refine ref_region ?_
  refine s_rd (r_assign rfl) rfl ?_
  refine l_nil ?_
  refine n_then ?_
  refine ref_seq ?_
  refine ref_region ?_
  refine s_rd (r_move rfl) rfl ?_
  refine s_rd (r_move rfl) rfl ?_
  refine s_rd (r_move rfl) rfl ?_
  refine s_rd (r_move rfl) rfl ?_
  refine s_rd (r_sub rfl rfl) rfl ?_
  refine s_rd (r_add rfl rfl) rfl ?_
  refine pull fun t1 h_t1 => ?_
  refine s_st (s_callO (js := [0]) (os := fun (_ : Unit) => [oc b_0 [slv (rI .i64) t1.2.L, iv .i64 t1.2.At]]) (ex := fun (_ : Unit) => []) (ψ := fun (_ : Unit) => iv .i64 t1.1) (args := [.tmp 8, .tmp 12]) Try.call11 rfl (keep_Src_N_ok h_t1) ⟨rfl, trivial⟩ (fun _ => rfl) (fun _ => ⟨rfl, trivial⟩) ⟨arg rfl, arg rfl, trivial⟩ (fun _ _ _ _ h => h)) rfl (fun _ => ?_)
  refine s_rd (r_add rfl rfl) rfl ?_
  refine s_rd (r_assign rfl) rfl ?_
  refine b_let (f := iv .i64) (t := 6) rfl fun t2 => ?_
  refine l_nil ?_
  refine n_then ?_
  refine ref_ret ?_
  exact fin1 (.inl rfl) () [0] rfl ⟨rfl, trivial⟩ rfl (rv_tmp rfl)

/-! deliberation/deliberationnet.Graph -/
noncomputable def net_Graph_l2 (t2 : Int × T_deliberationkeep_Src) (dense4 : Int × T_deliberationkeep_Src) (s159 : Int × T_deliberationkeep_Src × (List T_api_Pair)) (s186 : Int × T_deliberationkeep_Src × (List T_api_Pair)) : Option (Sum (T_deliberationkeep_Src × (List T_api_Pair)) (Int × T_deliberationkeep_Src × (List T_api_Pair))) :=
  bif decide (s186.1 < t2.1) then
    joinM (fun j190 : Int =>
        Option.bind (keep_Src_N_m s186.2.1 j190) fun t193 =>
        bif t193.1 == 1 then
          Option.bind (appM 16 s186.2.2 [(T_api_Pair.mk s159.1 s186.1)]) fun t195 =>
          letM (iadd .i64 s186.1 1) fun b197 =>
          some (Sum.inr (b197, t193.2, t195))
        else
          letM (iadd .i64 s186.1 1) fun b198 =>
          some (Sum.inr (b198, t193.2, s186.2.2))) fun k192 =>
    bif s159.1 == s186.1 then
      k192 9
    else
      k192 dense4.1
  else
    some (Sum.inl (s186.2.1, s186.2.2))

noncomputable def net_Graph_l1 (t2 : Int × T_deliberationkeep_Src) (dense4 : Int × T_deliberationkeep_Src) (s159 : Int × T_deliberationkeep_Src × (List T_api_Pair)) : Option (Sum (T_deliberationkeep_Src × (List T_api_Pair)) (Int × T_deliberationkeep_Src × (List T_api_Pair))) :=
  bif decide (s159.1 < t2.1) then
    Option.bind (loopC (net_Graph_l2 t2 dense4 s159) (0, s159.2.1, s159.2.2)) fun q199 : T_deliberationkeep_Src × (List T_api_Pair) =>
    letM (iadd .i64 s159.1 1) fun a_201 =>
    some (Sum.inr (a_201, q199.1, q199.2))
  else
    some (Sum.inl (s159.2.1, s159.2.2))

noncomputable def net_Graph_m (s_0 : T_deliberationkeep_Src) (n_1 : Int) : Option (T_api_Graph × T_deliberationkeep_Src) :=
  Option.bind (keep_Src_Range_m s_0 1 n_1) fun t2 =>
  Option.bind (keep_Src_Range_m t2.2 2 5) fun dense4 =>
  Option.bind (loopC (net_Graph_l1 t2 dense4) (0, dense4.2, [])) fun q202 : T_deliberationkeep_Src × (List T_api_Pair) =>
  some ((T_api_Graph.mk t2.1 q202.2), q202.1)

theorem net_Graph_ok {s_0 : T_deliberationkeep_Src} {n_1 : Int} {b_0 : Nat} {r : T_api_Graph × T_deliberationkeep_Src} (hm : net_Graph_m s_0 n_1 = some r) :
    FnOk prog 17 [pv (ptr b_0 0), iv .i64 n_1] [oc b_0 [slv (rI .i64) s_0.L, iv .i64 s_0.At]] (fun (x : Unit) => [ag [iv .i64 r.1.N, slv rT_api_Pair r.1.L]]) (fun (x : Unit) => [oc b_0 [slv (rI .i64) r.2.L, iv .i64 r.2.At]]) := by
  refine fn_ok (X := Unit) (fn := Try.f17) (N := 45) (m := net_Graph_m s_0 n_1) (res := fun r x => [ag [iv .i64 r.1.N, slv rT_api_Pair r.1.L]]) (Ω1 := fun r x => [oc b_0 [slv (rI .i64) r.2.L, iv .i64 r.2.At]]) Try.func17 rfl rfl hm rfl (fun E hM => ?_)
  unfold net_Graph_m
  refine ref_seq ?_
  refine ref_region ?_
  refine s_st (s_alloc zt_27) rfl (fun b1 => ?_)
  refine l_nil ?_
  refine n_then ?_
  refine ref_seq ?_
  refine ref_region ?_
  refine s_rd (r_move rfl) rfl ?_
  refine s_rd (r_move rfl) rfl ?_
  refine pull fun t2 h_t2 => ?_
  refine s_st (s_callO (js := [0]) (os := fun (_ : Unit) => [oc b_0 [slv (rI .i64) t2.2.L, iv .i64 t2.2.At]]) (ex := fun (_ : Unit) => []) (ψ := fun (_ : Unit) => iv .i64 t2.1) (args := [.tmp 10, .const (.int .i64 (1)), .tmp 11]) Try.call40 rfl (keep_Src_Range_ok h_t2) ⟨rfl, trivial⟩ (fun _ => rfl) (fun _ => ⟨rfl, trivial⟩) ⟨arg rfl, arg rfl, arg rfl, trivial⟩ (fun _ _ _ _ h => h)) rfl (fun _ => ?_)
  refine s_rd (r_build (ps := [(0, .tmp 12)]) (rs := [(0, [iv .i64 t2.1])]) st_27 zs_27 ⟨rfl, (part_at rfl iv_at), trivial⟩ rfl rfl) rfl ?_
  refine s_st (s_alloc zt_27) rfl (fun b3 => ?_)
  refine s_st0 (s_cstore (out := [iv .i64 t2.1, pv (.slice none 0 0)]) Try.sizeOf27 rfl (j := 2) rfl (part_agO (ψs := [iv .i64 t2.1, pv (.slice none 0 0)]) rfl ⟨.inl iv_at, .inl (pv_at rfl), trivial⟩) rfl rfl rfl) (fun _ => ?_)
  refine l_nil ?_
  refine b_of (nrm [oc b_0 [slv (rI .i64) t2.2.L, iv .i64 t2.2.At], oc b1 [iv .i64 0, pv (.slice none 0 0)], oc b3 [iv .i64 t2.1, pv (.slice none 0 0)]] rfl) ?_
  refine n_then ?_
  refine ref_seq ?_
  refine ref_region ?_
  refine s_rd (r_move rfl) rfl ?_
  refine pull fun dense4 h_dense4 => ?_
  refine s_st (s_callO (js := [0]) (os := fun (_ : Unit) => [oc b_0 [slv (rI .i64) dense4.2.L, iv .i64 dense4.2.At]]) (ex := fun (_ : Unit) => []) (ψ := fun (_ : Unit) => iv .i64 dense4.1) (args := [.tmp 14, .const (.int .i64 (2)), .const (.int .i64 (5))]) Try.call40 rfl (keep_Src_Range_ok h_dense4) ⟨rfl, trivial⟩ (fun _ => rfl) (fun _ => ⟨rfl, trivial⟩) ⟨arg rfl, arg rfl, arg rfl, trivial⟩ (fun _ _ _ _ h => h)) rfl (fun _ => ?_)
  refine s_rd (r_assign rfl) rfl ?_
  refine l_nil ?_
  refine n_then ?_
  refine ref_seq ?_
  refine ref_seq ?_
  refine ref_region ?_
  refine s_rd (r_assign rfl) rfl ?_
  refine l_nil ?_
  refine n_then ?_
  refine b_of (own_nil rT_api_Pair) ?_
  refine ref_loopB (f := (net_Graph_l1 t2 dense4)) (Γl := (fun (s159 : Int × T_deliberationkeep_Src × (List T_api_Pair)) (x160 : (Value × List Nat)) => [(0, pv (ptr b_0 0)), (4, pv (ptr b1 0)), (5, pv (ptr b3 0)), (6, iv .i64 dense4.1), (7, iv .i64 s159.1)])) (Ωl := (fun (s159 : Int × T_deliberationkeep_Src × (List T_api_Pair)) (x160 : (Value × List Nat)) => [oc b_0 [slv (rI .i64) s159.2.1.L, iv .i64 s159.2.1.At], oc b1 [iv .i64 0, pv (.slice none 0 0)], oc b3 [iv .i64 t2.1, pv x160.1], oa rT_api_Pair x160.1 x160.2 s159.2.2])) (Γb := (fun (q202 : T_deliberationkeep_Src × (List T_api_Pair)) (y203 : (Value × List Nat)) => [(0, pv (ptr b_0 0)), (4, pv (ptr b1 0)), (5, pv (ptr b3 0))])) (Ωb := (fun (q202 : T_deliberationkeep_Src × (List T_api_Pair)) (y203 : (Value × List Nat)) => [oc b_0 [slv (rI .i64) q202.1.L, iv .i64 q202.1.At], oc b1 [iv .i64 0, pv (.slice none 0 0)], oc b3 [iv .i64 t2.1, pv y203.1], oa rT_api_Pair y203.1 y203.2 q202.2])) (0, dense4.2, []) ((.slice none 0 0), []) (weak [0, 1, 2, 3] ⟨rfl, rfl, rfl, rfl, rfl, trivial⟩ ⟨rfl, rfl, rfl, rfl, trivial⟩) (fun s159 x160 => ?_) (fun q202 y203 => ?_)
  · unfold net_Graph_l1
    refine ref_seq ?_
    refine ref_seq ?_
    refine ref_region ?_
    refine s_rd (r_move rfl) rfl ?_
    refine s_rd (r_faddr (fo := 0) Try.underlying27 rfl rfl Try.sizeOf3 rfl) rfl ?_
    refine s_rd (r_cload Try.isAgg3 rfl (j := 2) rfl rfl) rfl ?_
    refine s_rd (r_lss rfl rfl) rfl ?_
    refine l_nil ?_
    refine n_then ?_
    refine ref_cond rfl (fun hb161 => ?_) (fun hb161 => ?_)
    · refine ref_skip ?_
      refine n_then ?_
      refine ref_seq ?_
      refine ref_block ?_
      refine ref_seq ?_
      refine ref_region ?_
      refine s_rd (r_assign rfl) rfl ?_
      refine l_nil ?_
      refine n_then ?_
      refine ref_loopB (f := (net_Graph_l2 t2 dense4 s159)) (Γl := (fun (s186 : Int × T_deliberationkeep_Src × (List T_api_Pair)) (x187 : (Value × List Nat)) => [(0, pv (ptr b_0 0)), (4, pv (ptr b1 0)), (5, pv (ptr b3 0)), (6, iv .i64 dense4.1), (7, iv .i64 s159.1), (8, iv .i64 s186.1)])) (Ωl := (fun (s186 : Int × T_deliberationkeep_Src × (List T_api_Pair)) (x187 : (Value × List Nat)) => [oc b_0 [slv (rI .i64) s186.2.1.L, iv .i64 s186.2.1.At], oc b1 [iv .i64 0, pv (.slice none 0 0)], oc b3 [iv .i64 t2.1, pv x187.1], oa rT_api_Pair x187.1 x187.2 s186.2.2])) (Γb := (fun (q199 : T_deliberationkeep_Src × (List T_api_Pair)) (y200 : (Value × List Nat)) => [(0, pv (ptr b_0 0)), (4, pv (ptr b1 0)), (5, pv (ptr b3 0)), (6, iv .i64 dense4.1), (7, iv .i64 s159.1)])) (Ωb := (fun (q199 : T_deliberationkeep_Src × (List T_api_Pair)) (y200 : (Value × List Nat)) => [oc b_0 [slv (rI .i64) q199.1.L, iv .i64 q199.1.At], oc b1 [iv .i64 0, pv (.slice none 0 0)], oc b3 [iv .i64 t2.1, pv y200.1], oa rT_api_Pair y200.1 y200.2 q199.2])) (0, s159.2.1, s159.2.2) x160 (weak [0, 1, 2, 3] ⟨rfl, rfl, rfl, rfl, rfl, rfl, trivial⟩ ⟨rfl, rfl, rfl, rfl, trivial⟩) (fun s186 x187 => ?_) (fun q199 y200 => ?_)
      · unfold net_Graph_l2
        refine ref_seq ?_
        refine ref_seq ?_
        refine ref_region ?_
        refine s_rd (r_move rfl) rfl ?_
        refine s_rd (r_faddr (fo := 0) Try.underlying27 rfl rfl Try.sizeOf3 rfl) rfl ?_
        refine s_rd (r_cload Try.isAgg3 rfl (j := 2) rfl rfl) rfl ?_
        refine s_rd (r_lss rfl rfl) rfl ?_
        refine l_nil ?_
        refine n_then ?_
        refine ref_cond rfl (fun hb188 => ?_) (fun hb188 => ?_)
        · refine ref_skip ?_
          refine n_then ?_
          refine ref_seq ?_
          refine ref_block ?_
          refine ref_seq ?_
          refine ref_region ?_
          refine s_rd (r_move rfl) rfl ?_
          refine s_rd (r_assign rfl) rfl ?_
          refine l_nil ?_
          refine n_then ?_
          refine ref_seq ?_
          refine ref_join (fun (j190 : Int) (x191 : Unit) => [(0, pv (ptr b_0 0)), (4, pv (ptr b1 0)), (5, pv (ptr b3 0)), (6, iv .i64 dense4.1), (7, iv .i64 s159.1), (8, iv .i64 s186.1), (9, iv .i64 j190)]) (fun (j190 : Int) (x191 : Unit) => [oc b_0 [slv (rI .i64) s186.2.1.L, iv .i64 s186.2.1.At], oc b1 [iv .i64 0, pv (.slice none 0 0)], oc b3 [iv .i64 t2.1, pv x187.1], oa rT_api_Pair x187.1 x187.2 s186.2.2]) (fun k192 hk192 => ?_) (fun j190 x191 => ?_)
          · refine ref_seq ?_
            refine ref_region ?_
            refine s_rd (r_move rfl) rfl ?_
            refine s_rd (r_move rfl) rfl ?_
            refine s_rd (r_eql rfl rfl) rfl ?_
            refine l_nil ?_
            refine n_then ?_
            refine ref_cond rfl (fun hb189 => ?_) (fun hb189 => ?_)
            · refine ref_region ?_
              refine s_rd (r_assign rfl) rfl ?_
              refine l_nil ?_
              exact b_to (hk192 9 ()) (weak [0, 1, 2, 3] ⟨rfl, rfl, rfl, rfl, rfl, rfl, rfl, trivial⟩ ⟨rfl, rfl, rfl, rfl, trivial⟩)
            · refine ref_skip ?_
              exact b_to (hk192 dense4.1 ()) (weak [0, 1, 2, 3] ⟨rfl, rfl, rfl, rfl, rfl, rfl, rfl, trivial⟩ ⟨rfl, rfl, rfl, rfl, trivial⟩)
          · refine n_then ?_
            refine ref_seq ?_
            refine ref_region ?_
            refine s_rd (r_move rfl) rfl ?_
            refine s_rd (r_move rfl) rfl ?_
            refine pull fun t193 h_t193 => ?_
            refine s_st (s_callO (js := [0]) (os := fun (_ : Unit) => [oc b_0 [slv (rI .i64) t193.2.L, iv .i64 t193.2.At]]) (ex := fun (_ : Unit) => []) (ψ := fun (_ : Unit) => iv .i64 t193.1) (args := [.tmp 32, .tmp 33]) Try.call11 rfl (keep_Src_N_ok h_t193) ⟨rfl, trivial⟩ (fun _ => rfl) (fun _ => ⟨rfl, trivial⟩) ⟨arg rfl, arg rfl, trivial⟩ (fun _ _ _ _ h => h)) rfl (fun _ => ?_)
            refine s_rd (r_eql rfl rfl) rfl ?_
            refine l_nil ?_
            refine n_then ?_
            refine ref_cond rfl (fun hb194 => ?_) (fun hb194 => ?_)
            · refine ref_region ?_
              refine s_rd (r_faddr (fo := 1) Try.underlying27 rfl rfl Try.sizeOf25 rfl) rfl ?_
              refine s_rd (r_cload Try.isAgg25 rfl (j := 2) rfl rfl) rfl ?_
              refine s_rd (r_move rfl) rfl ?_
              refine s_rd (r_move rfl) rfl ?_
              refine s_rd (r_build (ps := [(0, .tmp 38), (1, .tmp 39)]) (rs := [(0, [iv .i64 s159.1]), (1, [iv .i64 s186.1])]) st_71 zs_71 ⟨rfl, (part_at rfl iv_at), ⟨rfl, (part_at rfl iv_at), trivial⟩⟩ rfl rfl) rfl ?_
              refine s_st (s_bslice (xs := [.tmp 40]) (ds := [(T_api_Pair.mk s159.1 s186.1)]) Try.underlying25 el_71 rfl (Nat.le_of_ble_eq_true rfl) ⟨(part_ag (ψs := [iv .i64 s159.1, iv .i64 s186.1]) rfl (by intro φ h; simp only [List.mem_cons, List.not_mem_nil, or_false] at h; rcases h with rfl | rfl <;> first | exact iv_at | exact bv_at | exact sv_at | exact slv_at | exact pv_at rfl)), trivial⟩) rfl (fun _ => ?_)
              refine pull fun t195 h_t195 => ?_
              refine s_st (s_append h_t195 Try.underlying25 el_71 rfl (j := 3) rfl rfl) rfl (fun o196 => ?_)
              refine s_rd (r_faddr (fo := 1) Try.underlying27 rfl rfl Try.sizeOf25 rfl) rfl ?_
              refine s_st0 (s_cstore (out := [iv .i64 t2.1, pv o196.1]) Try.sizeOf25 rfl (j := 2) rfl (part_own rfl (j := 3) rfl) rfl rfl rfl) (fun _ => ?_)
              refine l_nil ?_
              refine b_of (nrm [oc b_0 [slv (rI .i64) t193.2.L, iv .i64 t193.2.At], oc b1 [iv .i64 0, pv (.slice none 0 0)], oc b3 [iv .i64 t2.1, pv o196.1], oa rT_api_Pair o196.1 o196.2 t195] rfl) ?_
              refine n_block ?_
              refine n_then ?_
              refine ref_region ?_
              refine s_rd (r_move rfl) rfl ?_
              refine s_rd (r_add rfl rfl) rfl ?_
              refine s_rd (r_assign rfl) rfl ?_
              refine b_let (f := iv .i64) (t := 8) rfl fun b197 => ?_
              refine l_nil ?_
              exact goB o196 (weak [0, 1, 2, 3] ⟨rfl, rfl, rfl, rfl, rfl, rfl, trivial⟩ ⟨rfl, rfl, rfl, rfl, trivial⟩)
            · refine ref_skip ?_
              refine n_block ?_
              refine n_then ?_
              refine ref_region ?_
              refine s_rd (r_move rfl) rfl ?_
              refine s_rd (r_add rfl rfl) rfl ?_
              refine s_rd (r_assign rfl) rfl ?_
              refine b_let (f := iv .i64) (t := 8) rfl fun b198 => ?_
              refine l_nil ?_
              exact goB x187 (weak [0, 1, 2, 3] ⟨rfl, rfl, rfl, rfl, rfl, rfl, trivial⟩ ⟨rfl, rfl, rfl, rfl, trivial⟩)
        · refine ref_exit ?_
          refine x_then ?_
          exact brkB x187 (weak [0, 1, 2, 3] ⟨rfl, rfl, rfl, rfl, rfl, trivial⟩ ⟨rfl, rfl, rfl, rfl, trivial⟩)
      · refine n_block ?_
        refine n_then ?_
        refine ref_region ?_
        refine s_rd (r_move rfl) rfl ?_
        refine s_rd (r_add rfl rfl) rfl ?_
        refine s_rd (r_assign rfl) rfl ?_
        refine b_let (f := iv .i64) (t := 7) rfl fun a_201 => ?_
        refine l_nil ?_
        exact goB y200 (weak [0, 1, 2, 3] ⟨rfl, rfl, rfl, rfl, rfl, trivial⟩ ⟨rfl, rfl, rfl, rfl, trivial⟩)
    · refine ref_exit ?_
      refine x_then ?_
      exact brkB x160 (weak [0, 1, 2, 3] ⟨rfl, rfl, rfl, trivial⟩ ⟨rfl, rfl, rfl, rfl, trivial⟩)
  · refine n_then ?_
    refine ref_seq ?_
    refine ref_region ?_
    refine s_rd (r_cloadS Try.isAgg27 Try.sizeOf27 rfl (j := 2) rfl rfl rfl) rfl ?_
    refine s_st0 (s_cstore (out := [iv .i64 t2.1, pv y203.1]) Try.sizeOf27 rfl (j := 1) rfl (part_agO (ψs := [iv .i64 t2.1, pv y203.1]) rfl ⟨.inl iv_at, .inr ⟨_, _, _, _, _, 3, rfl, rfl⟩, trivial⟩) rfl rfl rfl) (fun _ => ?_)
    refine l_nil ?_
    refine n_then ?_
    refine ref_ret ?_
    refine b_of (frzGM [(44, ag [iv .i64 t2.1, slv rT_api_Pair q202.2])] [(1, b1, [iv .i64 t2.1, slv rT_api_Pair q202.2]), (2, b3, [iv .i64 t2.1, slv rT_api_Pair q202.2])] [0] (j := 3) rfl ⟨⟨_, rfl, .inr ⟨_, _, rfl, rfl, ⟨.inl rfl, .inr ⟨rfl, rfl⟩, trivial⟩⟩⟩, trivial⟩ ⟨⟨_, rfl, ⟨.inl rfl, .inr ⟨rfl, rfl⟩, trivial⟩⟩, ⟨_, rfl, ⟨.inl rfl, .inr ⟨rfl, rfl⟩, trivial⟩⟩, trivial⟩ hM ⟨⟨rfl, _, rfl, rfl⟩, trivial⟩) ?_
    exact fin1 (.inl rfl) () [0] rfl ⟨rfl, trivial⟩ rfl (rv_cell rfl (j := 1) rfl Try.isAgg27 Try.sizeOf27 rfl rfl)

/-! (*deliberation/deliberationkeep.Src).Pick -/
noncomputable def keep_Src_Pick_m (s_0 : T_deliberationkeep_Src) (l_1 : (List Int)) : Option (Int × T_deliberationkeep_Src) :=
  Option.bind (keep_Src_N_m s_0 (l_1.length : Int)) fun t1 =>
  Option.bind (idxM l_1 t1.1) fun t2 =>
  some (t2, t1.2)

theorem keep_Src_Pick_ok {s_0 : T_deliberationkeep_Src} {l_1 : (List Int)} {b_0 : Nat} {r : Int × T_deliberationkeep_Src} (hm : keep_Src_Pick_m s_0 l_1 = some r) :
    FnOk prog 29 [pv (ptr b_0 0), slv (rI .i64) l_1] [oc b_0 [slv (rI .i64) s_0.L, iv .i64 s_0.At]] (fun (x : Unit) => [iv .i64 r.1]) (fun (x : Unit) => [oc b_0 [slv (rI .i64) r.2.L, iv .i64 r.2.At]]) := by
  refine fn_ok (X := Unit) (fn := Try.f29) (N := 12) (m := keep_Src_Pick_m s_0 l_1) (res := fun r x => [iv .i64 r.1]) (Ω1 := fun r x => [oc b_0 [slv (rI .i64) r.2.L, iv .i64 r.2.At]]) Try.func29 rfl rfl hm rfl (fun E hM => ?_)
  unfold keep_Src_Pick_m
  refine ref_seq ?_
  refine ref_region ?_
  refine s_rd (r_assign rfl) rfl ?_
  refine l_nil ?_
  refine n_then ?_
  refine ref_seq ?_
  refine ref_region ?_
  refine s_rd (r_move rfl) rfl ?_
  refine s_rd (r_move rfl) rfl ?_
  refine s_rd (r_move rfl) rfl ?_
  refine s_rd (r_len Try.underlying22 rfl) rfl ?_
  refine pull fun t1 h_t1 => ?_
  refine s_st (s_callO (js := [0]) (os := fun (_ : Unit) => [oc b_0 [slv (rI .i64) t1.2.L, iv .i64 t1.2.At]]) (ex := fun (_ : Unit) => []) (ψ := fun (_ : Unit) => iv .i64 t1.1) (args := [.tmp 6, .tmp 8]) Try.call11 rfl (keep_Src_N_ok h_t1) ⟨rfl, trivial⟩ (fun _ => rfl) (fun _ => ⟨rfl, trivial⟩) ⟨arg rfl, arg rfl, trivial⟩ (fun _ _ _ _ h => h)) rfl (fun _ => ?_)
  refine pull fun t2 h_t2 => ?_
  refine s_rd (r_index h_t2 Try.underlying22 el_3 rfl rfl) rfl ?_
  refine s_rd (r_load el_3 rfl) rfl ?_
  refine s_rd (r_assign rfl) rfl ?_
  refine l_nil ?_
  refine n_then ?_
  refine ref_ret ?_
  exact fin1 (.inl rfl) () [0] rfl ⟨rfl, trivial⟩ rfl (rv_tmp rfl)

/-! deliberation/deliberationref10.Validate -/
noncomputable def ref10_Validate_l1 (g_0 : T_api_Graph) (s13 : Int) : Option (Sum ((Sum (Int) (Unit))) (Int)) :=
  bif decide (s13 < (g_0.L.length : Int)) then
    Option.bind (idxM g_0.L s13) fun t16 =>
    bif decide (t16.From < 0) then
      some (Sum.inl (Sum.inl 1))
    else
      bif decide (t16.From ≥ g_0.N) then
        some (Sum.inl (Sum.inl 1))
      else
        bif decide (t16.To < 0) then
          some (Sum.inl (Sum.inl 1))
        else
          bif decide (t16.To ≥ g_0.N) then
            some (Sum.inl (Sum.inl 1))
          else
            bif decide (s13 > 0) then
              Option.bind (idxM g_0.L (isub .i64 s13 1)) fun t19 =>
              bif decide (t19.From > t16.From) then
                some (Sum.inl (Sum.inl 8))
              else
                Option.bind (idxM g_0.L (isub .i64 s13 1)) fun t20 =>
                bif t20.From == t16.From then
                  Option.bind (idxM g_0.L (isub .i64 s13 1)) fun t21 =>
                  bif decide (t21.To ≥ t16.To) then
                    some (Sum.inl (Sum.inl 8))
                  else
                    letM (iadd .i64 s13 1) fun i23 =>
                    some (Sum.inr i23)
                else
                  letM (iadd .i64 s13 1) fun i24 =>
                  some (Sum.inr i24)
            else
              letM (iadd .i64 s13 1) fun i25 =>
              some (Sum.inr i25)
  else
    some (Sum.inl (Sum.inr ()))

noncomputable def ref10_Validate_m (g_0 : T_api_Graph) : Option (Int) :=
  bif decide (g_0.N < 0) then
    some 1
  else
    bif decide (g_0.N > 40) then
      some 1
    else
      Option.bind (loopC (ref10_Validate_l1 g_0) 0) (sumK (fun a : Int => some a) fun q26 : Unit =>
        some 0)

theorem ref10_Validate_ok {g_0 : T_api_Graph} {r : Int} (hm : ref10_Validate_m g_0 = some r) :
    FnOk prog 47 [ag [iv .i64 g_0.N, slv rT_api_Pair g_0.L]] [] (fun (x : Unit) => [iv .i64 r]) (fun (x : Unit) => []) := by
  refine fn_ok (X := Unit) (fn := Try.f47) (N := 85) (m := ref10_Validate_m g_0) (res := fun r x => [iv .i64 r]) (Ω1 := fun r x => []) Try.func47 rfl rfl hm rfl (fun E hM => ?_)
  unfold ref10_Validate_m
  refine ref_seq ?_
  refine ref_region ?_
  refine s_st (s_box (part_ag (ψs := [iv .i64 g_0.N, slv rT_api_Pair g_0.L]) rfl (by intro φ h; simp only [List.mem_cons, List.not_mem_nil, or_false] at h; rcases h with rfl | rfl <;> first | exact iv_at | exact bv_at | exact sv_at | exact slv_at | exact pv_at rfl))) rfl (fun b1 => ?_)
  refine s_rd (r_assign rfl) rfl ?_
  refine l_nil ?_
  refine n_then ?_
  refine ref_seq ?_
  refine ref_seq ?_
  refine ref_region ?_
  refine s_rd (r_faddr (fo := 0) Try.underlying27 rfl rfl Try.sizeOf3 rfl) rfl ?_
  refine s_rd (r_cload Try.isAgg3 rfl (j := 0) rfl rfl) rfl ?_
  refine s_rd (r_lss rfl rfl) rfl ?_
  refine s_rd (r_move rfl) rfl ?_
  refine b_split (t := 8) rfl (fun _ => ?_) (fun _ => ?_)
  · refine s_off rfl rfl rfl rfl rfl ?_
    refine s_off rfl rfl rfl rfl rfl ?_
    refine s_off rfl rfl rfl rfl rfl ?_
    refine s_rd (r_pickT rfl rfl) rfl ?_
    refine l_nil ?_
    refine n_then ?_
    refine ref_condT rfl rfl ?_
    refine ref_seq ?_
    refine ref_region ?_
    refine s_rd (r_assign rfl) rfl ?_
    refine l_nil ?_
    refine n_then ?_
    refine ref_ret ?_
    refine r_then ?_
    exact fin1 (.inl rfl) () [] rfl trivial rfl (rv_tmp rfl)
  · refine s_on rfl rfl rfl ?_
    refine s_rd (r_faddr (fo := 0) Try.underlying27 rfl rfl Try.sizeOf3 rfl) rfl ?_
    refine s_on rfl rfl rfl ?_
    refine s_rd (r_cload Try.isAgg3 rfl (j := 0) rfl rfl) rfl ?_
    refine s_on rfl rfl rfl ?_
    refine s_rd (r_gtr rfl rfl) rfl ?_
    refine s_rd (r_pickF rfl rfl) rfl ?_
    refine l_nil ?_
    refine n_then ?_
    refine ref_cond rfl (fun hb2 => ?_) (fun hb2 => ?_)
    · refine ref_seq ?_
      refine ref_region ?_
      refine s_rd (r_assign rfl) rfl ?_
      refine l_nil ?_
      refine n_then ?_
      refine ref_ret ?_
      refine r_then ?_
      exact fin1 (.inl rfl) () [] rfl trivial rfl (rv_tmp rfl)
    · refine ref_skip ?_
      refine n_then ?_
      refine ref_seq ?_
      refine ref_seq ?_
      refine ref_region ?_
      refine s_rd (r_assign rfl) rfl ?_
      refine l_nil ?_
      refine n_then ?_
      refine ref_loopX (f := (ref10_Validate_l1 g_0)) (Γl := (fun (s13 : Int) (x14 : Unit) => [(1, pv (ptr b1 0)), (3, iv .i64 s13)])) (Ωl := (fun (s13 : Int) (x14 : Unit) => [oc b1 [iv .i64 g_0.N, slv rT_api_Pair g_0.L]])) (Γb := (fun (q26 : Unit) (y27 : Unit) => [])) (Ωb := (fun (q26 : Unit) (y27 : Unit) => [])) (kr := (fun a : Int => some a)) 0 () (weak [0] ⟨rfl, rfl, trivial⟩ ⟨rfl, trivial⟩) (fun s13 x14 => ?_) (fun q26 y27 => ?_)
      · unfold ref10_Validate_l1
        refine ref_seq ?_
        refine ref_seq ?_
        refine ref_region ?_
        refine s_rd (r_move rfl) rfl ?_
        refine s_rd (r_faddr (fo := 1) Try.underlying27 rfl rfl Try.sizeOf25 rfl) rfl ?_
        refine s_rd (r_cload Try.isAgg25 rfl (j := 0) rfl rfl) rfl ?_
        refine s_rd (r_len Try.underlying25 rfl) rfl ?_
        refine s_rd (r_lss rfl rfl) rfl ?_
        refine l_nil ?_
        refine n_then ?_
        refine ref_cond rfl (fun hb15 => ?_) (fun hb15 => ?_)
        · refine ref_skip ?_
          refine n_then ?_
          refine ref_seq ?_
          refine ref_block ?_
          refine ref_seq ?_
          refine ref_region ?_
          refine s_rd (r_faddr (fo := 1) Try.underlying27 rfl rfl Try.sizeOf25 rfl) rfl ?_
          refine s_rd (r_cload Try.isAgg25 rfl (j := 0) rfl rfl) rfl ?_
          refine s_rd (r_move rfl) rfl ?_
          refine pull fun t16 h_t16 => ?_
          refine s_rd (r_index h_t16 Try.underlying25 el_71 rfl rfl) rfl ?_
          refine s_rd (r_load el_71 rfl) rfl ?_
          refine s_st (s_alloc zt_71) rfl (fun b17 => ?_)
          refine s_st0 (s_cstore (out := [iv .i64 t16.From, iv .i64 t16.To]) Try.sizeOf71 rfl (j := 1) rfl (part_ag (ψs := [iv .i64 t16.From, iv .i64 t16.To]) rfl (by intro φ h; simp only [List.mem_cons, List.not_mem_nil, or_false] at h; rcases h with rfl | rfl <;> first | exact iv_at | exact bv_at | exact sv_at | exact slv_at | exact pv_at rfl)) rfl rfl rfl) (fun _ => ?_)
          refine l_nil ?_
          refine n_then ?_
          refine ref_seq ?_
          refine ref_seq ?_
          refine ref_region ?_
          refine s_rd (r_faddr (fo := 0) Try.underlying71 rfl rfl Try.sizeOf3 rfl) rfl ?_
          refine s_rd (r_cload Try.isAgg3 rfl (j := 1) rfl rfl) rfl ?_
          refine s_rd (r_lss rfl rfl) rfl ?_
          refine s_rd (r_move rfl) rfl ?_
          refine b_split (t := 28) rfl (fun _ => ?_) (fun _ => ?_)
          · refine s_off rfl rfl rfl rfl rfl ?_
            refine s_off rfl rfl rfl rfl rfl ?_
            refine s_off rfl rfl rfl rfl rfl ?_
            refine s_off rfl rfl rfl rfl rfl ?_
            refine s_off rfl rfl rfl rfl rfl ?_
            refine s_rd (r_pickT rfl rfl) rfl ?_
            refine s_rd (r_move rfl) rfl ?_
            refine s_off rfl rfl rfl rfl rfl ?_
            refine s_off rfl rfl rfl rfl rfl ?_
            refine s_off rfl rfl rfl rfl rfl ?_
            refine s_rd (r_pickT rfl rfl) rfl ?_
            refine s_rd (r_move rfl) rfl ?_
            refine s_off rfl rfl rfl rfl rfl ?_
            refine s_off rfl rfl rfl rfl rfl ?_
            refine s_off rfl rfl rfl rfl rfl ?_
            refine s_off rfl rfl rfl rfl rfl ?_
            refine s_off rfl rfl rfl rfl rfl ?_
            refine s_rd (r_pickT rfl rfl) rfl ?_
            refine l_nil ?_
            refine n_then ?_
            refine ref_condT rfl rfl ?_
            refine ref_seq ?_
            refine ref_region ?_
            refine s_rd (r_assign rfl) rfl ?_
            refine l_nil ?_
            refine n_then ?_
            refine ref_ret ?_
            refine r_then ?_
            refine r_block ?_
            refine r_then ?_
            refine retX ?_
            refine r_block ?_
            refine r_then ?_
            exact fin1 (.inl rfl) () [] rfl trivial rfl (rv_tmp rfl)
          · refine s_on rfl rfl rfl ?_
            refine s_rd (r_faddr (fo := 0) Try.underlying71 rfl rfl Try.sizeOf3 rfl) rfl ?_
            refine s_on rfl rfl rfl ?_
            refine s_rd (r_cload Try.isAgg3 rfl (j := 1) rfl rfl) rfl ?_
            refine s_on rfl rfl rfl ?_
            refine s_rd (r_faddr (fo := 0) Try.underlying27 rfl rfl Try.sizeOf3 rfl) rfl ?_
            refine s_on rfl rfl rfl ?_
            refine s_rd (r_cload Try.isAgg3 rfl (j := 0) rfl rfl) rfl ?_
            refine s_on rfl rfl rfl ?_
            refine s_rd (r_geq rfl rfl) rfl ?_
            refine s_rd (r_pickF rfl rfl) rfl ?_
            refine s_rd (r_move rfl) rfl ?_
            refine b_split (t := 35) rfl (fun _ => ?_) (fun _ => ?_)
            · refine s_off rfl rfl rfl rfl rfl ?_
              refine s_off rfl rfl rfl rfl rfl ?_
              refine s_off rfl rfl rfl rfl rfl ?_
              refine s_rd (r_pickT rfl rfl) rfl ?_
              refine s_rd (r_move rfl) rfl ?_
              refine s_off rfl rfl rfl rfl rfl ?_
              refine s_off rfl rfl rfl rfl rfl ?_
              refine s_off rfl rfl rfl rfl rfl ?_
              refine s_off rfl rfl rfl rfl rfl ?_
              refine s_off rfl rfl rfl rfl rfl ?_
              refine s_rd (r_pickT rfl rfl) rfl ?_
              refine l_nil ?_
              refine n_then ?_
              refine ref_condT rfl rfl ?_
              refine ref_seq ?_
              refine ref_region ?_
              refine s_rd (r_assign rfl) rfl ?_
              refine l_nil ?_
              refine n_then ?_
              refine ref_ret ?_
              refine r_then ?_
              refine r_block ?_
              refine r_then ?_
              refine retX ?_
              refine r_block ?_
              refine r_then ?_
              exact fin1 (.inl rfl) () [] rfl trivial rfl (rv_tmp rfl)
            · refine s_on rfl rfl rfl ?_
              refine s_rd (r_faddr (fo := 1) Try.underlying71 rfl rfl Try.sizeOf3 rfl) rfl ?_
              refine s_on rfl rfl rfl ?_
              refine s_rd (r_cload Try.isAgg3 rfl (j := 1) rfl rfl) rfl ?_
              refine s_on rfl rfl rfl ?_
              refine s_rd (r_lss rfl rfl) rfl ?_
              refine s_rd (r_pickF rfl rfl) rfl ?_
              refine s_rd (r_move rfl) rfl ?_
              refine b_split (t := 40) rfl (fun _ => ?_) (fun _ => ?_)
              · refine s_off rfl rfl rfl rfl rfl ?_
                refine s_off rfl rfl rfl rfl rfl ?_
                refine s_off rfl rfl rfl rfl rfl ?_
                refine s_off rfl rfl rfl rfl rfl ?_
                refine s_off rfl rfl rfl rfl rfl ?_
                refine s_rd (r_pickT rfl rfl) rfl ?_
                refine l_nil ?_
                refine n_then ?_
                refine ref_condT rfl rfl ?_
                refine ref_seq ?_
                refine ref_region ?_
                refine s_rd (r_assign rfl) rfl ?_
                refine l_nil ?_
                refine n_then ?_
                refine ref_ret ?_
                refine r_then ?_
                refine r_block ?_
                refine r_then ?_
                refine retX ?_
                refine r_block ?_
                refine r_then ?_
                exact fin1 (.inl rfl) () [] rfl trivial rfl (rv_tmp rfl)
              · refine s_on rfl rfl rfl ?_
                refine s_rd (r_faddr (fo := 1) Try.underlying71 rfl rfl Try.sizeOf3 rfl) rfl ?_
                refine s_on rfl rfl rfl ?_
                refine s_rd (r_cload Try.isAgg3 rfl (j := 1) rfl rfl) rfl ?_
                refine s_on rfl rfl rfl ?_
                refine s_rd (r_faddr (fo := 0) Try.underlying27 rfl rfl Try.sizeOf3 rfl) rfl ?_
                refine s_on rfl rfl rfl ?_
                refine s_rd (r_cload Try.isAgg3 rfl (j := 0) rfl rfl) rfl ?_
                refine s_on rfl rfl rfl ?_
                refine s_rd (r_geq rfl rfl) rfl ?_
                refine s_rd (r_pickF rfl rfl) rfl ?_
                refine l_nil ?_
                refine n_then ?_
                refine ref_cond rfl (fun hb18 => ?_) (fun hb18 => ?_)
                · refine ref_seq ?_
                  refine ref_region ?_
                  refine s_rd (r_assign rfl) rfl ?_
                  refine l_nil ?_
                  refine n_then ?_
                  refine ref_ret ?_
                  refine r_then ?_
                  refine r_block ?_
                  refine r_then ?_
                  refine retX ?_
                  refine r_block ?_
                  refine r_then ?_
                  exact fin1 (.inl rfl) () [] rfl trivial rfl (rv_tmp rfl)
                · refine ref_skip ?_
                  refine n_then ?_
                  refine ref_seq ?_
                  refine ref_draw [0, 1, 2, 3, 4, 5, 6, 7, 8, 9, 10, 11, 12, 13, 14, 15, 16, 17, 18, 19, 20, 21, 22, 23, 24, 25, 26, 27, 28, 29, 30, 31, 32, 33, 34, 35, 36, 37] rfl (by kernel_rfl) (fun hok => ?_)
                  refine a_rd (i := 0) hok rfl (by kernel_rfl) rfl (r_move rfl) rfl ?_
                  refine a_rd (i := 1) hok rfl (by kernel_rfl) rfl (r_gtr rfl rfl) rfl ?_
                  refine a_rd (i := 2) hok rfl (by kernel_rfl) rfl (r_move rfl) rfl ?_
                  refine b_split (t := 49) rfl (fun _ => ?_) (fun _ => ?_)
                  · refine a_rdOn (i := 3) hok rfl rfl rfl rfl (by kernel_rfl) rfl (r_faddr (fo := 1) Try.underlying27 rfl rfl Try.sizeOf25 rfl) rfl ?_
                    refine a_rdOn (i := 4) hok rfl rfl rfl rfl (by kernel_rfl) rfl (r_cload Try.isAgg25 rfl (j := 0) rfl rfl) rfl ?_
                    refine a_rdOn (i := 5) hok rfl rfl rfl rfl (by kernel_rfl) rfl (r_move rfl) rfl ?_
                    refine a_rdOn (i := 6) hok rfl rfl rfl rfl (by kernel_rfl) rfl (r_sub rfl rfl) rfl ?_
                    refine pull fun t19 h_t19 => ?_
                    refine a_rdOn (i := 7) hok rfl rfl rfl rfl (by kernel_rfl) rfl (r_index h_t19 Try.underlying25 el_71 rfl rfl) rfl ?_
                    refine a_rdOn (i := 8) hok rfl rfl rfl rfl (by kernel_rfl) rfl (r_fea (fo := 0) (ρ := rT_api_Pair) (y := t19) (ρ' := (rI .i64)) (z := t19.From) Try.underlying71 rfl rfl Try.sizeOf3 rfl rfl rfl) rfl ?_
                    refine a_rdOn (i := 9) hok rfl rfl rfl rfl (by kernel_rfl) rfl (r_load el_3 rfl) rfl ?_
                    refine a_rdOn (i := 10) hok rfl rfl rfl rfl (by kernel_rfl) rfl (r_faddr (fo := 0) Try.underlying71 rfl rfl Try.sizeOf3 rfl) rfl ?_
                    refine a_rdOn (i := 11) hok rfl rfl rfl rfl (by kernel_rfl) rfl (r_cload Try.isAgg3 rfl (j := 1) rfl rfl) rfl ?_
                    refine a_rdOn (i := 12) hok rfl rfl rfl rfl (by kernel_rfl) rfl (r_gtr rfl rfl) rfl ?_
                    refine a_rdOn (i := 13) hok rfl rfl rfl rfl (by kernel_rfl) rfl (r_move rfl) rfl ?_
                    refine b_split (t := 60) rfl (fun _ => ?_) (fun _ => ?_)
                    · refine a_off (i := 14) hok rfl rfl rfl rfl rfl (by kernel_rfl) rfl rfl ?_
                      refine a_off (i := 15) hok rfl rfl rfl rfl rfl (by kernel_rfl) rfl rfl ?_
                      refine a_off (i := 16) hok rfl rfl rfl rfl rfl (by kernel_rfl) rfl rfl ?_
                      refine a_off (i := 17) hok rfl rfl rfl rfl rfl (by kernel_rfl) rfl rfl ?_
                      refine a_off (i := 18) hok rfl rfl rfl rfl rfl (by kernel_rfl) rfl rfl ?_
                      refine a_off (i := 19) hok rfl rfl rfl rfl rfl (by kernel_rfl) rfl rfl ?_
                      refine a_off (i := 20) hok rfl rfl rfl rfl rfl (by kernel_rfl) rfl rfl ?_
                      refine a_off (i := 21) hok rfl rfl rfl rfl rfl (by kernel_rfl) rfl rfl ?_
                      refine a_off (i := 22) hok rfl rfl rfl rfl rfl (by kernel_rfl) rfl rfl ?_
                      refine a_off (i := 23) hok rfl rfl rfl rfl rfl (by kernel_rfl) rfl rfl ?_
                      refine a_off (i := 24) hok rfl rfl rfl rfl rfl (by kernel_rfl) rfl rfl ?_
                      refine a_offU (i := 25) hok rfl rfl rfl (by kernel_rfl) rfl rfl ?_
                      refine a_offU (i := 26) hok rfl rfl rfl (by kernel_rfl) rfl rfl ?_
                      refine a_offU (i := 27) hok rfl rfl rfl (by kernel_rfl) rfl rfl ?_
                      refine a_offU (i := 28) hok rfl rfl rfl (by kernel_rfl) rfl rfl ?_
                      refine a_offU (i := 29) hok rfl rfl rfl (by kernel_rfl) rfl rfl ?_
                      refine a_offU (i := 30) hok rfl rfl rfl (by kernel_rfl) rfl rfl ?_
                      refine a_offU (i := 31) hok rfl rfl rfl (by kernel_rfl) rfl rfl ?_
                      refine a_offU (i := 32) hok rfl rfl rfl (by kernel_rfl) rfl rfl ?_
                      refine a_offU (i := 33) hok rfl rfl rfl (by kernel_rfl) rfl rfl ?_
                      refine a_offU (i := 34) hok rfl rfl rfl (by kernel_rfl) rfl rfl ?_
                      refine a_off (i := 35) hok rfl rfl rfl rfl rfl (by kernel_rfl) rfl rfl ?_
                      refine a_rdOn (i := 36) hok rfl rfl rfl rfl (by kernel_rfl) rfl (r_pickT rfl rfl) rfl ?_
                      refine a_rd (i := 37) hok rfl (by kernel_rfl) rfl (r_pickT rfl rfl) rfl ?_
                      refine a_fin hok (by kernel_rfl) ?_
                      refine n_then ?_
                      refine ref_condT rfl rfl ?_
                      refine ref_seq ?_
                      refine ref_region ?_
                      refine s_rd (r_assign rfl) rfl ?_
                      refine l_nil ?_
                      refine n_then ?_
                      refine ref_ret ?_
                      refine r_block ?_
                      refine r_then ?_
                      refine retX ?_
                      refine r_block ?_
                      refine r_then ?_
                      exact fin1 (.inl rfl) () [] rfl trivial rfl (rv_tmp rfl)
                    · refine a_rdOn (i := 14) hok rfl rfl rfl rfl (by kernel_rfl) rfl (r_faddr (fo := 1) Try.underlying27 rfl rfl Try.sizeOf25 rfl) rfl ?_
                      refine a_rdOn (i := 15) hok rfl rfl rfl rfl (by kernel_rfl) rfl (r_cload Try.isAgg25 rfl (j := 0) rfl rfl) rfl ?_
                      refine a_rdOn (i := 16) hok rfl rfl rfl rfl (by kernel_rfl) rfl (r_move rfl) rfl ?_
                      refine a_rdOn (i := 17) hok rfl rfl rfl rfl (by kernel_rfl) rfl (r_sub rfl rfl) rfl ?_
                      refine pull fun t20 h_t20 => ?_
                      refine a_rdOn (i := 18) hok rfl rfl rfl rfl (by kernel_rfl) rfl (r_index h_t20 Try.underlying25 el_71 rfl rfl) rfl ?_
                      refine a_rdOn (i := 19) hok rfl rfl rfl rfl (by kernel_rfl) rfl (r_fea (fo := 0) (ρ := rT_api_Pair) (y := t20) (ρ' := (rI .i64)) (z := t20.From) Try.underlying71 rfl rfl Try.sizeOf3 rfl rfl rfl) rfl ?_
                      refine a_rdOn (i := 20) hok rfl rfl rfl rfl (by kernel_rfl) rfl (r_load el_3 rfl) rfl ?_
                      refine a_rdOn (i := 21) hok rfl rfl rfl rfl (by kernel_rfl) rfl (r_faddr (fo := 0) Try.underlying71 rfl rfl Try.sizeOf3 rfl) rfl ?_
                      refine a_rdOn (i := 22) hok rfl rfl rfl rfl (by kernel_rfl) rfl (r_cload Try.isAgg3 rfl (j := 1) rfl rfl) rfl ?_
                      refine a_rdOn (i := 23) hok rfl rfl rfl rfl (by kernel_rfl) rfl (r_eql rfl rfl) rfl ?_
                      refine a_rdOn (i := 24) hok rfl rfl rfl rfl (by kernel_rfl) rfl (r_move rfl) rfl ?_
                      refine b_split (t := 71) rfl (fun _ => ?_) (fun _ => ?_)
                      · refine a_rdOn (i := 25) hok rfl rfl rfl rfl (by kernel_rfl) rfl (r_faddr (fo := 1) Try.underlying27 rfl rfl Try.sizeOf25 rfl) rfl ?_
                        refine a_rdOn (i := 26) hok rfl rfl rfl rfl (by kernel_rfl) rfl (r_cload Try.isAgg25 rfl (j := 0) rfl rfl) rfl ?_
                        refine a_rdOn (i := 27) hok rfl rfl rfl rfl (by kernel_rfl) rfl (r_move rfl) rfl ?_
                        refine a_rdOn (i := 28) hok rfl rfl rfl rfl (by kernel_rfl) rfl (r_sub rfl rfl) rfl ?_
                        refine pull fun t21 h_t21 => ?_
                        refine a_rdOn (i := 29) hok rfl rfl rfl rfl (by kernel_rfl) rfl (r_index h_t21 Try.underlying25 el_71 rfl rfl) rfl ?_
                        refine a_rdOn (i := 30) hok rfl rfl rfl rfl (by kernel_rfl) rfl (r_fea (fo := 1) (ρ := rT_api_Pair) (y := t21) (ρ' := (rI .i64)) (z := t21.To) Try.underlying71 rfl rfl Try.sizeOf3 rfl rfl rfl) rfl ?_
                        refine a_rdOn (i := 31) hok rfl rfl rfl rfl (by kernel_rfl) rfl (r_load el_3 rfl) rfl ?_
                        refine a_rdOn (i := 32) hok rfl rfl rfl rfl (by kernel_rfl) rfl (r_faddr (fo := 1) Try.underlying71 rfl rfl Try.sizeOf3 rfl) rfl ?_
                        refine a_rdOn (i := 33) hok rfl rfl rfl rfl (by kernel_rfl) rfl (r_cload Try.isAgg3 rfl (j := 1) rfl rfl) rfl ?_
                        refine a_rdOn (i := 34) hok rfl rfl rfl rfl (by kernel_rfl) rfl (r_geq rfl rfl) rfl ?_
                        refine a_rdOn (i := 35) hok rfl rfl rfl rfl (by kernel_rfl) rfl (r_pickT rfl rfl) rfl ?_
                        refine a_rdOn (i := 36) hok rfl rfl rfl rfl (by kernel_rfl) rfl (r_pickF rfl rfl) rfl ?_
                        refine a_rd (i := 37) hok rfl (by kernel_rfl) rfl (r_pickT rfl rfl) rfl ?_
                        refine a_fin hok (by kernel_rfl) ?_
                        refine n_then ?_
                        refine ref_cond rfl (fun hb22 => ?_) (fun hb22 => ?_)
                        · refine ref_seq ?_
                          refine ref_region ?_
                          refine s_rd (r_assign rfl) rfl ?_
                          refine l_nil ?_
                          refine n_then ?_
                          refine ref_ret ?_
                          refine r_block ?_
                          refine r_then ?_
                          refine retX ?_
                          refine r_block ?_
                          refine r_then ?_
                          exact fin1 (.inl rfl) () [] rfl trivial rfl (rv_tmp rfl)
                        · refine ref_skip ?_
                          refine n_block ?_
                          refine n_then ?_
                          refine ref_region ?_
                          refine s_rd (r_move rfl) rfl ?_
                          refine s_rd (r_add rfl rfl) rfl ?_
                          refine s_rd (r_assign rfl) rfl ?_
                          refine b_let (f := iv .i64) (t := 3) rfl fun i23 => ?_
                          refine l_nil ?_
                          exact goX () (weak [0] ⟨rfl, rfl, trivial⟩ ⟨rfl, trivial⟩)
                      · refine a_off (i := 25) hok rfl rfl rfl rfl rfl (by kernel_rfl) rfl rfl ?_
                        refine a_off (i := 26) hok rfl rfl rfl rfl rfl (by kernel_rfl) rfl rfl ?_
                        refine a_off (i := 27) hok rfl rfl rfl rfl rfl (by kernel_rfl) rfl rfl ?_
                        refine a_off (i := 28) hok rfl rfl rfl rfl rfl (by kernel_rfl) rfl rfl ?_
                        refine a_off (i := 29) hok rfl rfl rfl rfl rfl (by kernel_rfl) rfl rfl ?_
                        refine a_off (i := 30) hok rfl rfl rfl rfl rfl (by kernel_rfl) rfl rfl ?_
                        refine a_off (i := 31) hok rfl rfl rfl rfl rfl (by kernel_rfl) rfl rfl ?_
                        refine a_off (i := 32) hok rfl rfl rfl rfl rfl (by kernel_rfl) rfl rfl ?_
                        refine a_off (i := 33) hok rfl rfl rfl rfl rfl (by kernel_rfl) rfl rfl ?_
                        refine a_off (i := 34) hok rfl rfl rfl rfl rfl (by kernel_rfl) rfl rfl ?_
                        refine a_rdOn (i := 35) hok rfl rfl rfl rfl (by kernel_rfl) rfl (r_pickF rfl rfl) rfl ?_
                        refine a_rdOn (i := 36) hok rfl rfl rfl rfl (by kernel_rfl) rfl (r_pickF rfl rfl) rfl ?_
                        refine a_rd (i := 37) hok rfl (by kernel_rfl) rfl (r_pickT rfl rfl) rfl ?_
                        refine a_fin hok (by kernel_rfl) ?_
                        refine n_then ?_
                        refine ref_condF rfl rfl ?_
                        refine ref_skip ?_
                        refine n_block ?_
                        refine n_then ?_
                        refine ref_region ?_
                        refine s_rd (r_move rfl) rfl ?_
                        refine s_rd (r_add rfl rfl) rfl ?_
                        refine s_rd (r_assign rfl) rfl ?_
                        refine b_let (f := iv .i64) (t := 3) rfl fun i24 => ?_
                        refine l_nil ?_
                        exact goX () (weak [0] ⟨rfl, rfl, trivial⟩ ⟨rfl, trivial⟩)
                  · refine a_off (i := 3) hok rfl rfl rfl rfl rfl (by kernel_rfl) rfl rfl ?_
                    refine a_off (i := 4) hok rfl rfl rfl rfl rfl (by kernel_rfl) rfl rfl ?_
                    refine a_off (i := 5) hok rfl rfl rfl rfl rfl (by kernel_rfl) rfl rfl ?_
                    refine a_off (i := 6) hok rfl rfl rfl rfl rfl (by kernel_rfl) rfl rfl ?_
                    refine a_off (i := 7) hok rfl rfl rfl rfl rfl (by kernel_rfl) rfl rfl ?_
                    refine a_off (i := 8) hok rfl rfl rfl rfl rfl (by kernel_rfl) rfl rfl ?_
                    refine a_off (i := 9) hok rfl rfl rfl rfl rfl (by kernel_rfl) rfl rfl ?_
                    refine a_off (i := 10) hok rfl rfl rfl rfl rfl (by kernel_rfl) rfl rfl ?_
                    refine a_off (i := 11) hok rfl rfl rfl rfl rfl (by kernel_rfl) rfl rfl ?_
                    refine a_off (i := 12) hok rfl rfl rfl rfl rfl (by kernel_rfl) rfl rfl ?_
                    refine a_off (i := 13) hok rfl rfl rfl rfl rfl (by kernel_rfl) rfl rfl ?_
                    refine a_offU (i := 14) hok rfl rfl rfl (by kernel_rfl) rfl rfl ?_
                    refine a_offU (i := 15) hok rfl rfl rfl (by kernel_rfl) rfl rfl ?_
                    refine a_offU (i := 16) hok rfl rfl rfl (by kernel_rfl) rfl rfl ?_
                    refine a_offU (i := 17) hok rfl rfl rfl (by kernel_rfl) rfl rfl ?_
                    refine a_offU (i := 18) hok rfl rfl rfl (by kernel_rfl) rfl rfl ?_
                    refine a_offU (i := 19) hok rfl rfl rfl (by kernel_rfl) rfl rfl ?_
                    refine a_offU (i := 20) hok rfl rfl rfl (by kernel_rfl) rfl rfl ?_
                    refine a_offU (i := 21) hok rfl rfl rfl (by kernel_rfl) rfl rfl ?_
                    refine a_offU (i := 22) hok rfl rfl rfl (by kernel_rfl) rfl rfl ?_
                    refine a_offU (i := 23) hok rfl rfl rfl (by kernel_rfl) rfl rfl ?_
                    refine a_offU (i := 24) hok rfl rfl rfl (by kernel_rfl) rfl rfl ?_
                    refine a_offU (i := 25) hok rfl rfl rfl (by kernel_rfl) rfl rfl ?_
                    refine a_offU (i := 26) hok rfl rfl rfl (by kernel_rfl) rfl rfl ?_
                    refine a_offU (i := 27) hok rfl rfl rfl (by kernel_rfl) rfl rfl ?_
                    refine a_offU (i := 28) hok rfl rfl rfl (by kernel_rfl) rfl rfl ?_
                    refine a_offU (i := 29) hok rfl rfl rfl (by kernel_rfl) rfl rfl ?_
                    refine a_offU (i := 30) hok rfl rfl rfl (by kernel_rfl) rfl rfl ?_
                    refine a_offU (i := 31) hok rfl rfl rfl (by kernel_rfl) rfl rfl ?_
                    refine a_offU (i := 32) hok rfl rfl rfl (by kernel_rfl) rfl rfl ?_
                    refine a_offU (i := 33) hok rfl rfl rfl (by kernel_rfl) rfl rfl ?_
                    refine a_offU (i := 34) hok rfl rfl rfl (by kernel_rfl) rfl rfl ?_
                    refine a_offU (i := 35) hok rfl rfl rfl (by kernel_rfl) rfl rfl ?_
                    refine a_off (i := 36) hok rfl rfl rfl rfl rfl (by kernel_rfl) rfl rfl ?_
                    refine a_rd (i := 37) hok rfl (by kernel_rfl) rfl (r_pickF rfl rfl) rfl ?_
                    refine a_fin hok (by kernel_rfl) ?_
                    refine n_then ?_
                    refine ref_condF rfl rfl ?_
                    refine ref_skip ?_
                    refine n_block ?_
                    refine n_then ?_
                    refine ref_region ?_
                    refine s_rd (r_move rfl) rfl ?_
                    refine s_rd (r_add rfl rfl) rfl ?_
                    refine s_rd (r_assign rfl) rfl ?_
                    refine b_let (f := iv .i64) (t := 3) rfl fun i25 => ?_
                    refine l_nil ?_
                    exact goX () (weak [0] ⟨rfl, rfl, trivial⟩ ⟨rfl, trivial⟩)
        · refine ref_exit ?_
          refine x_then ?_
          exact brkX () (weak [] trivial trivial)
      · refine n_then ?_
        refine ref_seq ?_
        refine ref_region ?_
        refine s_rd (r_assign rfl) rfl ?_
        refine l_nil ?_
        refine n_then ?_
        refine ref_ret ?_
        exact fin1 (.inl rfl) () [] rfl trivial rfl (rv_tmp rfl)

/-! deliberation/deliberationref27.New -/
noncomputable def ref27_New_m (g_0 : T_api_Graph) (root_1 : Int) (limits_2 : T_arr2_3) : Option (T_api_Dialogue × Int) :=
  Option.bind (ref10_Validate_m g_0) fun e4 =>
  bif e4 != 0 then
    some ((T_api_Dialogue.mk (T_api_Graph.mk 0 []) 0 (T_arr2_3.mk 0 0) []), e4)
  else
    bif decide (root_1 < 0) then
      some ((T_api_Dialogue.mk (T_api_Graph.mk 0 []) 0 (T_arr2_3.mk 0 0) []), 1)
    else
      bif decide (root_1 ≥ g_0.N) then
        some ((T_api_Dialogue.mk (T_api_Graph.mk 0 []) 0 (T_arr2_3.mk 0 0) []), 1)
      else
        bif decide (limits_2.i0 < 1) then
          some ((T_api_Dialogue.mk (T_api_Graph.mk 0 []) 0 (T_arr2_3.mk 0 0) []), 1)
        else
          bif decide (limits_2.i0 > 200) then
            some ((T_api_Dialogue.mk (T_api_Graph.mk 0 []) 0 (T_arr2_3.mk 0 0) []), 1)
          else
            bif decide (limits_2.i1 < 0) then
              some ((T_api_Dialogue.mk (T_api_Graph.mk 0 []) 0 (T_arr2_3.mk 0 0) []), 1)
            else
              bif decide (limits_2.i1 > 200) then
                some ((T_api_Dialogue.mk (T_api_Graph.mk 0 []) 0 (T_arr2_3.mk 0 0) []), 1)
              else
                some ((T_api_Dialogue.mk g_0 root_1 limits_2 [(T_api_Move.mk 1 1 root_1 0)]), 0)

theorem ref27_New_ok {g_0 : T_api_Graph} {root_1 : Int} {limits_2 : T_arr2_3} {r : T_api_Dialogue × Int} (hm : ref27_New_m g_0 root_1 limits_2 = some r) :
    FnOk prog 28 [ag [iv .i64 g_0.N, slv rT_api_Pair g_0.L], iv .i64 root_1, ag [iv .i64 limits_2.i0, iv .i64 limits_2.i1]] [] (fun (x : Unit) => [ag [iv .i64 r.1.Graph.N, slv rT_api_Pair r.1.Graph.L, iv .i64 r.1.Root, iv .i64 r.1.Limits.i0, iv .i64 r.1.Limits.i1, slv rT_api_Move r.1.Moves], iv .i64 r.2]) (fun (x : Unit) => []) := by
  refine fn_ok (X := Unit) (fn := Try.f28) (N := 51) (m := ref27_New_m g_0 root_1 limits_2) (res := fun r x => [ag [iv .i64 r.1.Graph.N, slv rT_api_Pair r.1.Graph.L, iv .i64 r.1.Root, iv .i64 r.1.Limits.i0, iv .i64 r.1.Limits.i1, slv rT_api_Move r.1.Moves], iv .i64 r.2]) (Ω1 := fun r x => []) Try.func28 rfl rfl hm rfl (fun E hM => ?_)
  unfold ref27_New_m
  refine ref_seq ?_
  refine ref_region ?_
  refine s_st (s_box (part_ag (ψs := [iv .i64 g_0.N, slv rT_api_Pair g_0.L]) rfl (by intro φ h; simp only [List.mem_cons, List.not_mem_nil, or_false] at h; rcases h with rfl | rfl <;> first | exact iv_at | exact bv_at | exact sv_at | exact slv_at | exact pv_at rfl))) rfl (fun b1 => ?_)
  refine s_st (s_box (part_ag (ψs := [iv .i64 limits_2.i0, iv .i64 limits_2.i1]) rfl (by intro φ h; simp only [List.mem_cons, List.not_mem_nil, or_false] at h; rcases h with rfl | rfl <;> first | exact iv_at | exact bv_at | exact sv_at | exact slv_at | exact pv_at rfl))) rfl (fun b2 => ?_)
  refine s_st (s_alloc zt_31) rfl (fun b3 => ?_)
  refine s_rd (r_assign rfl) rfl ?_
  refine l_nil ?_
  refine n_then ?_
  refine ref_seq ?_
  refine ref_seq ?_
  refine ref_region ?_
  refine s_rd (r_cloadS Try.isAgg27 Try.sizeOf27 rfl (j := 0) rfl rfl rfl) rfl ?_
  refine pull fun e4 h_e4 => ?_
  refine s_st (s_call (ψ := fun (_ : Unit) => iv .i64 e4) (args := [.tmp 9]) Try.call47 rfl (ref10_Validate_ok h_e4) ⟨arg rfl, trivial⟩ (fun _ _ _ _ h => h)) rfl (fun _ => ?_)
  refine s_rd (r_assign rfl) rfl ?_
  refine l_nil ?_
  refine b_of (nrm [oc b1 [iv .i64 g_0.N, slv rT_api_Pair g_0.L], oc b2 [iv .i64 limits_2.i0, iv .i64 limits_2.i1], oc b3 [iv .i64 0, pv (.slice none 0 0), iv .i64 0, iv .i64 0, iv .i64 0, pv (.slice none 0 0)]] rfl) ?_
  refine n_then ?_
  refine ref_seq ?_
  refine ref_region ?_
  refine s_rd (r_move rfl) rfl ?_
  refine s_rd (r_neq rfl rfl) rfl ?_
  refine l_nil ?_
  refine n_then ?_
  refine ref_cond rfl (fun hb5 => ?_) (fun hb5 => ?_)
  · refine ref_seq ?_
    refine ref_region ?_
    refine s_rd (r_build (ps := []) (rs := []) st_31 zs_31 trivial rfl rfl) rfl ?_
    refine s_rd (r_move rfl) rfl ?_
    refine s_st0 (s_cstore (out := [iv .i64 0, pv (.slice none 0 0), iv .i64 0, iv .i64 0, iv .i64 0, pv (.slice none 0 0)]) Try.sizeOf31 rfl (j := 2) rfl (part_agO (ψs := [iv .i64 0, pv (.slice none 0 0), iv .i64 0, iv .i64 0, iv .i64 0, pv (.slice none 0 0)]) rfl ⟨.inl iv_at, .inl (pv_at rfl), .inl iv_at, .inl iv_at, .inl iv_at, .inl (pv_at rfl), trivial⟩) rfl rfl rfl) (fun _ => ?_)
    refine s_rd (r_assign rfl) rfl ?_
    refine l_nil ?_
    refine n_then ?_
    refine ref_ret ?_
    refine r_then ?_
    refine b_of (ocW 2 [iv .i64 0, slv rT_api_Pair [], iv .i64 0, iv .i64 0, iv .i64 0, slv rT_api_Move []] rfl ⟨imp_rfl, nil_sl, imp_rfl, imp_rfl, imp_rfl, nil_sl, trivial⟩) ?_
    exact fin2 (.inl rfl) () [] rfl trivial rfl (rv_cell rfl (j := 2) rfl Try.isAgg31 Try.sizeOf31 rfl rfl) (rv_tmp rfl)
  · refine ref_skip ?_
    refine n_then ?_
    refine ref_seq ?_
    refine ref_seq ?_
    refine ref_region ?_
    refine s_rd (r_move rfl) rfl ?_
    refine s_rd (r_lss rfl rfl) rfl ?_
    refine s_rd (r_move rfl) rfl ?_
    refine b_split (t := 17) rfl (fun _ => ?_) (fun _ => ?_)
    · refine s_off rfl rfl rfl rfl rfl ?_
      refine s_off rfl rfl rfl rfl rfl ?_
      refine s_off rfl rfl rfl rfl rfl ?_
      refine s_off rfl rfl rfl rfl rfl ?_
      refine s_rd (r_pickT rfl rfl) rfl ?_
      refine s_rd (r_move rfl) rfl ?_
      refine s_off rfl rfl rfl rfl rfl ?_
      refine s_off rfl rfl rfl rfl rfl ?_
      refine s_off rfl rfl rfl rfl rfl ?_
      refine s_rd (r_pickT rfl rfl) rfl ?_
      refine s_rd (r_move rfl) rfl ?_
      refine s_off rfl rfl rfl rfl rfl ?_
      refine s_off rfl rfl rfl rfl rfl ?_
      refine s_off rfl rfl rfl rfl rfl ?_
      refine s_rd (r_pickT rfl rfl) rfl ?_
      refine s_rd (r_move rfl) rfl ?_
      refine s_off rfl rfl rfl rfl rfl ?_
      refine s_off rfl rfl rfl rfl rfl ?_
      refine s_off rfl rfl rfl rfl rfl ?_
      refine s_rd (r_pickT rfl rfl) rfl ?_
      refine s_rd (r_move rfl) rfl ?_
      refine s_off rfl rfl rfl rfl rfl ?_
      refine s_off rfl rfl rfl rfl rfl ?_
      refine s_off rfl rfl rfl rfl rfl ?_
      refine s_rd (r_pickT rfl rfl) rfl ?_
      refine l_nil ?_
      refine n_then ?_
      refine ref_condT rfl rfl ?_
      refine ref_seq ?_
      refine ref_region ?_
      refine s_rd (r_build (ps := []) (rs := []) st_31 zs_31 trivial rfl rfl) rfl ?_
      refine s_st0 (s_cstore (out := [iv .i64 0, pv (.slice none 0 0), iv .i64 0, iv .i64 0, iv .i64 0, pv (.slice none 0 0)]) Try.sizeOf31 rfl (j := 2) rfl (part_agO (ψs := [iv .i64 0, pv (.slice none 0 0), iv .i64 0, iv .i64 0, iv .i64 0, pv (.slice none 0 0)]) rfl ⟨.inl iv_at, .inl (pv_at rfl), .inl iv_at, .inl iv_at, .inl iv_at, .inl (pv_at rfl), trivial⟩) rfl rfl rfl) (fun _ => ?_)
      refine s_rd (r_assign rfl) rfl ?_
      refine l_nil ?_
      refine n_then ?_
      refine ref_ret ?_
      refine r_then ?_
      refine b_of (ocW 2 [iv .i64 0, slv rT_api_Pair [], iv .i64 0, iv .i64 0, iv .i64 0, slv rT_api_Move []] rfl ⟨imp_rfl, nil_sl, imp_rfl, imp_rfl, imp_rfl, nil_sl, trivial⟩) ?_
      exact fin2 (.inl rfl) () [] rfl trivial rfl (rv_cell rfl (j := 2) rfl Try.isAgg31 Try.sizeOf31 rfl rfl) (rv_tmp rfl)
    · refine s_on rfl rfl rfl ?_
      refine s_rd (r_move rfl) rfl ?_
      refine s_on rfl rfl rfl ?_
      refine s_rd (r_faddr (fo := 0) Try.underlying27 rfl rfl Try.sizeOf3 rfl) rfl ?_
      refine s_on rfl rfl rfl ?_
      refine s_rd (r_cload Try.isAgg3 rfl (j := 0) rfl rfl) rfl ?_
      refine s_on rfl rfl rfl ?_
      refine s_rd (r_geq rfl rfl) rfl ?_
      refine s_rd (r_pickF rfl rfl) rfl ?_
      refine s_rd (r_move rfl) rfl ?_
      refine b_split (t := 23) rfl (fun _ => ?_) (fun _ => ?_)
      · refine s_off rfl rfl rfl rfl rfl ?_
        refine s_off rfl rfl rfl rfl rfl ?_
        refine s_off rfl rfl rfl rfl rfl ?_
        refine s_rd (r_pickT rfl rfl) rfl ?_
        refine s_rd (r_move rfl) rfl ?_
        refine s_off rfl rfl rfl rfl rfl ?_
        refine s_off rfl rfl rfl rfl rfl ?_
        refine s_off rfl rfl rfl rfl rfl ?_
        refine s_rd (r_pickT rfl rfl) rfl ?_
        refine s_rd (r_move rfl) rfl ?_
        refine s_off rfl rfl rfl rfl rfl ?_
        refine s_off rfl rfl rfl rfl rfl ?_
        refine s_off rfl rfl rfl rfl rfl ?_
        refine s_rd (r_pickT rfl rfl) rfl ?_
        refine s_rd (r_move rfl) rfl ?_
        refine s_off rfl rfl rfl rfl rfl ?_
        refine s_off rfl rfl rfl rfl rfl ?_
        refine s_off rfl rfl rfl rfl rfl ?_
        refine s_rd (r_pickT rfl rfl) rfl ?_
        refine l_nil ?_
        refine n_then ?_
        refine ref_condT rfl rfl ?_
        refine ref_seq ?_
        refine ref_region ?_
        refine s_rd (r_build (ps := []) (rs := []) st_31 zs_31 trivial rfl rfl) rfl ?_
        refine s_st0 (s_cstore (out := [iv .i64 0, pv (.slice none 0 0), iv .i64 0, iv .i64 0, iv .i64 0, pv (.slice none 0 0)]) Try.sizeOf31 rfl (j := 2) rfl (part_agO (ψs := [iv .i64 0, pv (.slice none 0 0), iv .i64 0, iv .i64 0, iv .i64 0, pv (.slice none 0 0)]) rfl ⟨.inl iv_at, .inl (pv_at rfl), .inl iv_at, .inl iv_at, .inl iv_at, .inl (pv_at rfl), trivial⟩) rfl rfl rfl) (fun _ => ?_)
        refine s_rd (r_assign rfl) rfl ?_
        refine l_nil ?_
        refine n_then ?_
        refine ref_ret ?_
        refine r_then ?_
        refine b_of (ocW 2 [iv .i64 0, slv rT_api_Pair [], iv .i64 0, iv .i64 0, iv .i64 0, slv rT_api_Move []] rfl ⟨imp_rfl, nil_sl, imp_rfl, imp_rfl, imp_rfl, nil_sl, trivial⟩) ?_
        exact fin2 (.inl rfl) () [] rfl trivial rfl (rv_cell rfl (j := 2) rfl Try.isAgg31 Try.sizeOf31 rfl rfl) (rv_tmp rfl)
      · refine s_on rfl rfl rfl ?_
        refine s_rd (r_aaddr (sz := 1) ⟨by decide, by decide⟩ Try.underlying28 Try.sizeOf3 rfl rfl) rfl ?_
        refine s_on rfl rfl rfl ?_
        refine s_rd (r_cload Try.isAgg3 rfl (j := 1) rfl rfl) rfl ?_
        refine s_on rfl rfl rfl ?_
        refine s_rd (r_lss rfl rfl) rfl ?_
        refine s_rd (r_pickF rfl rfl) rfl ?_
        refine s_rd (r_move rfl) rfl ?_
        refine b_split (t := 28) rfl (fun _ => ?_) (fun _ => ?_)
        · refine s_off rfl rfl rfl rfl rfl ?_
          refine s_off rfl rfl rfl rfl rfl ?_
          refine s_off rfl rfl rfl rfl rfl ?_
          refine s_rd (r_pickT rfl rfl) rfl ?_
          refine s_rd (r_move rfl) rfl ?_
          refine s_off rfl rfl rfl rfl rfl ?_
          refine s_off rfl rfl rfl rfl rfl ?_
          refine s_off rfl rfl rfl rfl rfl ?_
          refine s_rd (r_pickT rfl rfl) rfl ?_
          refine s_rd (r_move rfl) rfl ?_
          refine s_off rfl rfl rfl rfl rfl ?_
          refine s_off rfl rfl rfl rfl rfl ?_
          refine s_off rfl rfl rfl rfl rfl ?_
          refine s_rd (r_pickT rfl rfl) rfl ?_
          refine l_nil ?_
          refine n_then ?_
          refine ref_condT rfl rfl ?_
          refine ref_seq ?_
          refine ref_region ?_
          refine s_rd (r_build (ps := []) (rs := []) st_31 zs_31 trivial rfl rfl) rfl ?_
          refine s_st0 (s_cstore (out := [iv .i64 0, pv (.slice none 0 0), iv .i64 0, iv .i64 0, iv .i64 0, pv (.slice none 0 0)]) Try.sizeOf31 rfl (j := 2) rfl (part_agO (ψs := [iv .i64 0, pv (.slice none 0 0), iv .i64 0, iv .i64 0, iv .i64 0, pv (.slice none 0 0)]) rfl ⟨.inl iv_at, .inl (pv_at rfl), .inl iv_at, .inl iv_at, .inl iv_at, .inl (pv_at rfl), trivial⟩) rfl rfl rfl) (fun _ => ?_)
          refine s_rd (r_assign rfl) rfl ?_
          refine l_nil ?_
          refine n_then ?_
          refine ref_ret ?_
          refine r_then ?_
          refine b_of (ocW 2 [iv .i64 0, slv rT_api_Pair [], iv .i64 0, iv .i64 0, iv .i64 0, slv rT_api_Move []] rfl ⟨imp_rfl, nil_sl, imp_rfl, imp_rfl, imp_rfl, nil_sl, trivial⟩) ?_
          exact fin2 (.inl rfl) () [] rfl trivial rfl (rv_cell rfl (j := 2) rfl Try.isAgg31 Try.sizeOf31 rfl rfl) (rv_tmp rfl)
        · refine s_on rfl rfl rfl ?_
          refine s_rd (r_aaddr (sz := 1) ⟨by decide, by decide⟩ Try.underlying28 Try.sizeOf3 rfl rfl) rfl ?_
          refine s_on rfl rfl rfl ?_
          refine s_rd (r_cload Try.isAgg3 rfl (j := 1) rfl rfl) rfl ?_
          refine s_on rfl rfl rfl ?_
          refine s_rd (r_gtr rfl rfl) rfl ?_
          refine s_rd (r_pickF rfl rfl) rfl ?_
          refine s_rd (r_move rfl) rfl ?_
          refine b_split (t := 33) rfl (fun _ => ?_) (fun _ => ?_)
          · refine s_off rfl rfl rfl rfl rfl ?_
            refine s_off rfl rfl rfl rfl rfl ?_
            refine s_off rfl rfl rfl rfl rfl ?_
            refine s_rd (r_pickT rfl rfl) rfl ?_
            refine s_rd (r_move rfl) rfl ?_
            refine s_off rfl rfl rfl rfl rfl ?_
            refine s_off rfl rfl rfl rfl rfl ?_
            refine s_off rfl rfl rfl rfl rfl ?_
            refine s_rd (r_pickT rfl rfl) rfl ?_
            refine l_nil ?_
            refine n_then ?_
            refine ref_condT rfl rfl ?_
            refine ref_seq ?_
            refine ref_region ?_
            refine s_rd (r_build (ps := []) (rs := []) st_31 zs_31 trivial rfl rfl) rfl ?_
            refine s_st0 (s_cstore (out := [iv .i64 0, pv (.slice none 0 0), iv .i64 0, iv .i64 0, iv .i64 0, pv (.slice none 0 0)]) Try.sizeOf31 rfl (j := 2) rfl (part_agO (ψs := [iv .i64 0, pv (.slice none 0 0), iv .i64 0, iv .i64 0, iv .i64 0, pv (.slice none 0 0)]) rfl ⟨.inl iv_at, .inl (pv_at rfl), .inl iv_at, .inl iv_at, .inl iv_at, .inl (pv_at rfl), trivial⟩) rfl rfl rfl) (fun _ => ?_)
            refine s_rd (r_assign rfl) rfl ?_
            refine l_nil ?_
            refine n_then ?_
            refine ref_ret ?_
            refine r_then ?_
            refine b_of (ocW 2 [iv .i64 0, slv rT_api_Pair [], iv .i64 0, iv .i64 0, iv .i64 0, slv rT_api_Move []] rfl ⟨imp_rfl, nil_sl, imp_rfl, imp_rfl, imp_rfl, nil_sl, trivial⟩) ?_
            exact fin2 (.inl rfl) () [] rfl trivial rfl (rv_cell rfl (j := 2) rfl Try.isAgg31 Try.sizeOf31 rfl rfl) (rv_tmp rfl)
          · refine s_on rfl rfl rfl ?_
            refine s_rd (r_aaddr (sz := 1) ⟨by decide, by decide⟩ Try.underlying28 Try.sizeOf3 rfl rfl) rfl ?_
            refine s_on rfl rfl rfl ?_
            refine s_rd (r_cload Try.isAgg3 rfl (j := 1) rfl rfl) rfl ?_
            refine s_on rfl rfl rfl ?_
            refine s_rd (r_lss rfl rfl) rfl ?_
            refine s_rd (r_pickF rfl rfl) rfl ?_
            refine s_rd (r_move rfl) rfl ?_
            refine b_split (t := 38) rfl (fun _ => ?_) (fun _ => ?_)
            · refine s_off rfl rfl rfl rfl rfl ?_
              refine s_off rfl rfl rfl rfl rfl ?_
              refine s_off rfl rfl rfl rfl rfl ?_
              refine s_rd (r_pickT rfl rfl) rfl ?_
              refine l_nil ?_
              refine n_then ?_
              refine ref_condT rfl rfl ?_
              refine ref_seq ?_
              refine ref_region ?_
              refine s_rd (r_build (ps := []) (rs := []) st_31 zs_31 trivial rfl rfl) rfl ?_
              refine s_st0 (s_cstore (out := [iv .i64 0, pv (.slice none 0 0), iv .i64 0, iv .i64 0, iv .i64 0, pv (.slice none 0 0)]) Try.sizeOf31 rfl (j := 2) rfl (part_agO (ψs := [iv .i64 0, pv (.slice none 0 0), iv .i64 0, iv .i64 0, iv .i64 0, pv (.slice none 0 0)]) rfl ⟨.inl iv_at, .inl (pv_at rfl), .inl iv_at, .inl iv_at, .inl iv_at, .inl (pv_at rfl), trivial⟩) rfl rfl rfl) (fun _ => ?_)
              refine s_rd (r_assign rfl) rfl ?_
              refine l_nil ?_
              refine n_then ?_
              refine ref_ret ?_
              refine r_then ?_
              refine b_of (ocW 2 [iv .i64 0, slv rT_api_Pair [], iv .i64 0, iv .i64 0, iv .i64 0, slv rT_api_Move []] rfl ⟨imp_rfl, nil_sl, imp_rfl, imp_rfl, imp_rfl, nil_sl, trivial⟩) ?_
              exact fin2 (.inl rfl) () [] rfl trivial rfl (rv_cell rfl (j := 2) rfl Try.isAgg31 Try.sizeOf31 rfl rfl) (rv_tmp rfl)
            · refine s_on rfl rfl rfl ?_
              refine s_rd (r_aaddr (sz := 1) ⟨by decide, by decide⟩ Try.underlying28 Try.sizeOf3 rfl rfl) rfl ?_
              refine s_on rfl rfl rfl ?_
              refine s_rd (r_cload Try.isAgg3 rfl (j := 1) rfl rfl) rfl ?_
              refine s_on rfl rfl rfl ?_
              refine s_rd (r_gtr rfl rfl) rfl ?_
              refine s_rd (r_pickF rfl rfl) rfl ?_
              refine l_nil ?_
              refine n_then ?_
              refine ref_cond rfl (fun hb6 => ?_) (fun hb6 => ?_)
              · refine ref_seq ?_
                refine ref_region ?_
                refine s_rd (r_build (ps := []) (rs := []) st_31 zs_31 trivial rfl rfl) rfl ?_
                refine s_st0 (s_cstore (out := [iv .i64 0, pv (.slice none 0 0), iv .i64 0, iv .i64 0, iv .i64 0, pv (.slice none 0 0)]) Try.sizeOf31 rfl (j := 2) rfl (part_agO (ψs := [iv .i64 0, pv (.slice none 0 0), iv .i64 0, iv .i64 0, iv .i64 0, pv (.slice none 0 0)]) rfl ⟨.inl iv_at, .inl (pv_at rfl), .inl iv_at, .inl iv_at, .inl iv_at, .inl (pv_at rfl), trivial⟩) rfl rfl rfl) (fun _ => ?_)
                refine s_rd (r_assign rfl) rfl ?_
                refine l_nil ?_
                refine n_then ?_
                refine ref_ret ?_
                refine r_then ?_
                refine b_of (ocW 2 [iv .i64 0, slv rT_api_Pair [], iv .i64 0, iv .i64 0, iv .i64 0, slv rT_api_Move []] rfl ⟨imp_rfl, nil_sl, imp_rfl, imp_rfl, imp_rfl, nil_sl, trivial⟩) ?_
                exact fin2 (.inl rfl) () [] rfl trivial rfl (rv_cell rfl (j := 2) rfl Try.isAgg31 Try.sizeOf31 rfl rfl) (rv_tmp rfl)
              · refine ref_skip ?_
                refine n_then ?_
                refine ref_seq ?_
                refine ref_region ?_
                refine s_rd (r_cloadS Try.isAgg27 Try.sizeOf27 rfl (j := 0) rfl rfl rfl) rfl ?_
                refine s_rd (r_move rfl) rfl ?_
                refine s_rd (r_cloadS Try.isAgg28 Try.sizeOf28 rfl (j := 1) rfl rfl rfl) rfl ?_
                refine s_rd (r_move rfl) rfl ?_
                refine s_rd (r_build (ps := [(0, .const (.int .i64 (1))), (1, .const (.int .i64 (1))), (2, .tmp 47)]) (rs := [(0, [iv .i64 1]), (1, [iv .i64 1]), (2, [iv .i64 root_1])]) st_38 zs_38 ⟨rfl, (part_at rfl iv_at), ⟨rfl, (part_at rfl iv_at), ⟨rfl, (part_at rfl iv_at), trivial⟩⟩⟩ rfl rfl) rfl ?_
                refine s_st (s_bslice (xs := [.tmp 48]) (ds := [(T_api_Move.mk 1 1 root_1 0)]) Try.underlying29 el_38 rfl (Nat.le_of_ble_eq_true rfl) ⟨(part_ag (ψs := [iv .i64 1, iv .i64 1, iv .i64 root_1, iv .i64 0]) rfl (by intro φ h; simp only [List.mem_cons, List.not_mem_nil, or_false] at h; rcases h with rfl | rfl | rfl | rfl <;> first | exact iv_at | exact bv_at | exact sv_at | exact slv_at | exact pv_at rfl)), trivial⟩) rfl (fun _ => ?_)
                refine s_rd (r_build (ps := [(0, .tmp 44), (1, .tmp 45), (2, .tmp 46), (3, .tmp 49)]) (rs := [(0, [iv .i64 g_0.N, slv rT_api_Pair g_0.L]), (1, [iv .i64 root_1]), (2, [iv .i64 limits_2.i0, iv .i64 limits_2.i1]), (3, [slv rT_api_Move [(T_api_Move.mk 1 1 root_1 0)]])]) st_31 zs_31 ⟨rfl, (part_ag (ψs := [iv .i64 g_0.N, slv rT_api_Pair g_0.L]) rfl (by intro φ h; simp only [List.mem_cons, List.not_mem_nil, or_false] at h; rcases h with rfl | rfl <;> first | exact iv_at | exact bv_at | exact sv_at | exact slv_at | exact pv_at rfl)), ⟨rfl, (part_at rfl iv_at), ⟨rfl, (part_ag (ψs := [iv .i64 limits_2.i0, iv .i64 limits_2.i1]) rfl (by intro φ h; simp only [List.mem_cons, List.not_mem_nil, or_false] at h; rcases h with rfl | rfl <;> first | exact iv_at | exact bv_at | exact sv_at | exact slv_at | exact pv_at rfl)), ⟨rfl, (part_at rfl slv_at), trivial⟩⟩⟩⟩ rfl rfl) rfl ?_
                refine s_st0 (s_cstore (out := [iv .i64 g_0.N, slv rT_api_Pair g_0.L, iv .i64 root_1, iv .i64 limits_2.i0, iv .i64 limits_2.i1, slv rT_api_Move [(T_api_Move.mk 1 1 root_1 0)]]) Try.sizeOf31 rfl (j := 2) rfl (part_ag (ψs := [iv .i64 g_0.N, slv rT_api_Pair g_0.L, iv .i64 root_1, iv .i64 limits_2.i0, iv .i64 limits_2.i1, slv rT_api_Move [(T_api_Move.mk 1 1 root_1 0)]]) rfl (by intro φ h; simp only [List.mem_cons, List.not_mem_nil, or_false] at h; rcases h with rfl | rfl | rfl | rfl | rfl | rfl <;> first | exact iv_at | exact bv_at | exact sv_at | exact slv_at | exact pv_at rfl)) rfl rfl rfl) (fun _ => ?_)
                refine s_rd (r_assign rfl) rfl ?_
                refine l_nil ?_
                refine n_then ?_
                refine ref_ret ?_
                exact fin2 (.inl rfl) () [] rfl trivial rfl (rv_cell rfl (j := 2) rfl Try.isAgg31 Try.sizeOf31 rfl rfl) (rv_tmp rfl)

/-! deliberation/deliberationlaw27.begun -/
noncomputable def law27_begun_m (s_0 : T_deliberationkeep_Src) (n_1 : Int) : Option (T_api_Dialogue × T_deliberationkeep_Src) :=
  Option.bind (net_Graph_m s_0 n_1) fun t2 =>
  Option.bind (keep_Src_N_m t2.2 t2.1.N) fun t5 =>
  Option.bind (keep_Src_Pick_m t5.2 [60, 3, 60, 10]) fun t6 =>
  Option.bind (keep_Src_Pick_m t6.2 [60, 60, 2, 0]) fun t7 =>
  Option.bind (ref27_New_m t2.1 t5.1 (T_arr2_3.mk t6.1 t7.1)) fun t8 =>
  some (t8.1, t7.2)

theorem law27_begun_ok {s_0 : T_deliberationkeep_Src} {n_1 : Int} {b_0 : Nat} {r : T_api_Dialogue × T_deliberationkeep_Src} (hm : law27_begun_m s_0 n_1 = some r) :
    FnOk prog 8 [pv (ptr b_0 0), iv .i64 n_1] [oc b_0 [slv (rI .i64) s_0.L, iv .i64 s_0.At]] (fun (x : Unit) => [ag [iv .i64 r.1.Graph.N, slv rT_api_Pair r.1.Graph.L, iv .i64 r.1.Root, iv .i64 r.1.Limits.i0, iv .i64 r.1.Limits.i1, slv rT_api_Move r.1.Moves]]) (fun (x : Unit) => [oc b_0 [slv (rI .i64) r.2.L, iv .i64 r.2.At]]) := by
  refine fn_ok (X := Unit) (fn := Try.f8) (N := 28) (m := law27_begun_m s_0 n_1) (res := fun r x => [ag [iv .i64 r.1.Graph.N, slv rT_api_Pair r.1.Graph.L, iv .i64 r.1.Root, iv .i64 r.1.Limits.i0, iv .i64 r.1.Limits.i1, slv rT_api_Move r.1.Moves]]) (Ω1 := fun r x => [oc b_0 [slv (rI .i64) r.2.L, iv .i64 r.2.At]]) Try.func8 rfl rfl hm rfl (fun E hM => ?_)
  unfold law27_begun_m
  refine ref_seq ?_
  refine ref_region ?_
  refine s_st (s_alloc zt_31) rfl (fun b1 => ?_)
  refine l_nil ?_
  refine n_then ?_
  refine ref_seq ?_
  refine ref_region ?_
  refine s_rd (r_move rfl) rfl ?_
  refine s_rd (r_move rfl) rfl ?_
  refine pull fun t2 h_t2 => ?_
  refine s_st (s_callO (js := [0]) (os := fun (_ : Unit) => [oc b_0 [slv (rI .i64) t2.2.L, iv .i64 t2.2.At]]) (ex := fun (_ : Unit) => []) (ψ := fun (_ : Unit) => ag [iv .i64 t2.1.N, slv rT_api_Pair t2.1.L]) (args := [.tmp 8, .tmp 9]) Try.call17 rfl (net_Graph_ok h_t2) ⟨rfl, trivial⟩ (fun _ => rfl) (fun _ => ⟨rfl, trivial⟩) ⟨arg rfl, arg rfl, trivial⟩ (fun _ _ _ _ h => h)) rfl (fun _ => ?_)
  refine s_st (s_alloc zt_27) rfl (fun b3 => ?_)
  refine s_st0 (s_cstore (out := [iv .i64 t2.1.N, slv rT_api_Pair t2.1.L]) Try.sizeOf27 rfl (j := 2) rfl (part_ag (ψs := [iv .i64 t2.1.N, slv rT_api_Pair t2.1.L]) rfl (by intro φ h; simp only [List.mem_cons, List.not_mem_nil, or_false] at h; rcases h with rfl | rfl <;> first | exact iv_at | exact bv_at | exact sv_at | exact slv_at | exact pv_at rfl)) rfl rfl rfl) (fun _ => ?_)
  refine l_nil ?_
  refine b_of (nrm [oc b_0 [slv (rI .i64) t2.2.L, iv .i64 t2.2.At], oc b1 [iv .i64 0, pv (.slice none 0 0), iv .i64 0, iv .i64 0, iv .i64 0, pv (.slice none 0 0)], oc b3 [iv .i64 t2.1.N, slv rT_api_Pair t2.1.L]] rfl) ?_
  refine n_then ?_
  refine ref_seq ?_
  refine pull fun t5 h_t5 => ?_
  refine pull fun t6 h_t6 => ?_
  refine pull fun t7 h_t7 => ?_
  refine pull fun t8 h_t8 => ?_
  refine ref_drawI 1 [⟨[], [], [], [2], [], fun us u => ag [iv .i64 t2.1.N, slv rT_api_Pair t2.1.L], fun us u => []⟩, ⟨[], [], [], [], [], fun us u => pv (ptr b_0 0), fun us u => []⟩, ⟨[], [], [], [], [], fun us u => pv (ptr b3 0), fun us u => []⟩, ⟨[2], [], [], [2], [], fun us u => iv .i64 t2.1.N, fun us u => []⟩, ⟨[1, 2, 3], [], [0], [0], [0], fun us u => iv .i64 t5.1, fun us u => [oc b_0 [slv (rI .i64) t5.2.L, iv .i64 t5.2.At]]⟩, ⟨[], [], [], [], [], fun us u => pv (ptr b_0 0), fun us u => []⟩, ⟨[], [], [], [], [], fun us u => slv (rI .i64) [60, 3, 60, 10], fun us u => []⟩, ⟨[1, 2, 3, 4, 5, 6], [], [0], [0], [0], fun us u => iv .i64 t6.1, fun us u => [oc b_0 [slv (rI .i64) t6.2.L, iv .i64 t6.2.At]]⟩, ⟨[], [], [], [], [], fun us u => pv (ptr b_0 0), fun us u => []⟩, ⟨[], [], [], [], [], fun us u => slv (rI .i64) [60, 60, 2, 0], fun us u => []⟩, ⟨[1, 2, 3, 4, 5, 6, 7, 8, 9], [], [0], [0], [0], fun us u => iv .i64 t7.1, fun us u => [oc b_0 [slv (rI .i64) t7.2.L, iv .i64 t7.2.At]]⟩, ⟨[1, 2, 3, 4, 5, 6, 7, 8, 9, 10], [], [], [], [], fun us u => ag [iv .i64 t6.1, iv .i64 t7.1], fun us u => []⟩, ⟨[0, 1, 2, 3, 4, 5, 6, 7, 8, 9, 10, 11], [], [], [], [], fun us u => tup [ag [iv .i64 t8.1.Graph.N, slv rT_api_Pair t8.1.Graph.L, iv .i64 t8.1.Root, iv .i64 t8.1.Limits.i0, iv .i64 t8.1.Limits.i1, slv rT_api_Move t8.1.Moves], iv .i64 t8.2], fun us u => []⟩, ⟨[0, 1, 2, 3, 4, 5, 6, 7, 8, 9, 10, 11, 12], [], [], [], [], fun us u => tup [ag [iv .i64 t8.1.Graph.N, slv rT_api_Pair t8.1.Graph.L, iv .i64 t8.1.Root, iv .i64 t8.1.Limits.i0, iv .i64 t8.1.Limits.i1, slv rT_api_Move t8.1.Moves], iv .i64 t8.2], fun us u => []⟩, ⟨[0, 1, 2, 3, 4, 5, 6, 7, 8, 9, 10, 11, 12, 13], [], [], [], [], fun us u => ag [iv .i64 t8.1.Graph.N, slv rT_api_Pair t8.1.Graph.L, iv .i64 t8.1.Root, iv .i64 t8.1.Limits.i0, iv .i64 t8.1.Limits.i1, slv rT_api_Move t8.1.Moves], fun us u => []⟩, ⟨[0, 1, 2, 3, 4, 5, 6, 7, 8, 9, 10, 11, 12, 13], [], [], [], [], fun us u => iv .i64 t8.2, fun us u => []⟩, ⟨[], [], [3], [3], [], fun us u => pv (ptr u.Nn 0), fun us u => [oc u.Nn [iv .i64 0, pv (.slice none 0 0), iv .i64 0, iv .i64 0, iv .i64 0, pv (.slice none 0 0)]]⟩, ⟨[0, 1, 2, 3, 4, 5, 6, 7, 8, 9, 10, 11, 12, 13, 14, 16], [16], [3], [3], [3], fun us u => pv undef, fun us u => [oc (us.getD 0 .none).Nn [iv .i64 t8.1.Graph.N, slv rT_api_Pair t8.1.Graph.L, iv .i64 t8.1.Root, iv .i64 t8.1.Limits.i0, iv .i64 t8.1.Limits.i1, slv rT_api_Move t8.1.Moves]]⟩, ⟨[0, 1, 2, 3, 4, 5, 6, 7, 8, 9, 10, 11, 12, 13, 14, 15, 16, 17], [], [], [], [], fun us u => iv .i64 t8.2, fun us u => []⟩] (fun χ4 => [(0, pv (ptr b_0 0)), (4, pv (ptr b1 0)), (6, pv (ptr (χ4 16).Nn 0))]) (fun χ4 => [oc b_0 [slv (rI .i64) t7.2.L, iv .i64 t7.2.At], oc b1 [iv .i64 0, pv (.slice none 0 0), iv .i64 0, iv .i64 0, iv .i64 0, pv (.slice none 0 0)], oc b3 [iv .i64 t2.1.N, slv rT_api_Pair t2.1.L], oc (χ4 16).Nn [iv .i64 t8.1.Graph.N, slv rT_api_Pair t8.1.Graph.L, iv .i64 t8.1.Root, iv .i64 t8.1.Limits.i0, iv .i64 t8.1.Limits.i1, slv rT_api_Move t8.1.Moves]]) rfl (by kernel_rfl) ⟨fun χ4 Ω ⟨h2, _⟩ => St.toR (r_cloadS Try.isAgg27 Try.sizeOf27 rfl (j := 2) h2 rfl rfl) (fun _ => rfl) (fun _ => rfl), (by intro _ h; cases h; rfl), ⟨fun χ4 Ω _ => St.toR (r_move rfl) (fun _ => rfl) (fun _ => rfl), (by intro _ h; cases h; rfl), ⟨fun χ4 Ω _ => St.toR (r_faddr (fo := 0) Try.underlying27 rfl rfl Try.sizeOf3 rfl) (fun _ => rfl) (fun _ => rfl), (by intro _ h; cases h; rfl), ⟨fun χ4 Ω ⟨h2, _⟩ => St.toR (r_cload Try.isAgg3 rfl (j := 2) h2 rfl) (fun _ => rfl) (fun _ => rfl), (by intro _ h; cases h; rfl), ⟨fun χ4 Ω ⟨h0, _⟩ => St.to XU.U XU.hU (St.placeL [] (s_callI (js := [0]) (os := fun (_ : Unit) => [oc b_0 [slv (rI .i64) t5.2.L, iv .i64 t5.2.At]]) (ex := fun (_ : Unit) => []) (ψ := fun (_ : Unit) => iv .i64 t5.1) (args := [.tmp 13, .tmp 15]) Try.call11 rfl (keep_Src_N_ok h_t5) ⟨h0, rfl, trivial⟩ (fun _ => rfl) (fun _ => rfl) ⟨arg rfl, arg rfl, trivial⟩ (fun _ _ _ _ h => h)) (fun _ => rfl) (fun _ => trivial)) (fun _ => rfl) (fun _ => rfl), (by intro _ h; cases h; rfl), ⟨fun χ4 Ω _ => St.toR (r_move rfl) (fun _ => rfl) (fun _ => rfl), (by intro _ h; cases h; rfl), ⟨fun χ4 Ω _ => St.to XU.U XU.hU (s_bslice (xs := [.const (.int .i64 (60)), .const (.int .i64 (3)), .const (.int .i64 (60)), .const (.int .i64 (10))]) (ds := [60, 3, 60, 10]) Try.underlying22 el_3 rfl (Nat.le_of_ble_eq_true rfl) ⟨(part_at rfl iv_at), ⟨(part_at rfl iv_at), ⟨(part_at rfl iv_at), ⟨(part_at rfl iv_at), trivial⟩⟩⟩⟩) (fun _ => rfl) (fun _ => rfl), (by intro _ h; cases h; rfl), ⟨fun χ4 Ω ⟨h0, _⟩ => St.to XU.U XU.hU (St.placeL [] (s_callI (js := [0]) (os := fun (_ : Unit) => [oc b_0 [slv (rI .i64) t6.2.L, iv .i64 t6.2.At]]) (ex := fun (_ : Unit) => []) (ψ := fun (_ : Unit) => iv .i64 t6.1) (args := [.tmp 17, .tmp 18]) Try.call29 rfl (keep_Src_Pick_ok h_t6) ⟨h0, rfl, trivial⟩ (fun _ => rfl) (fun _ => rfl) ⟨arg rfl, arg rfl, trivial⟩ (fun _ _ _ _ h => h)) (fun _ => rfl) (fun _ => trivial)) (fun _ => rfl) (fun _ => rfl), (by intro _ h; cases h; rfl), ⟨fun χ4 Ω _ => St.toR (r_move rfl) (fun _ => rfl) (fun _ => rfl), (by intro _ h; cases h; rfl), ⟨fun χ4 Ω _ => St.to XU.U XU.hU (s_bslice (xs := [.const (.int .i64 (60)), .const (.int .i64 (60)), .const (.int .i64 (2)), .const (.int .i64 (0))]) (ds := [60, 60, 2, 0]) Try.underlying22 el_3 rfl (Nat.le_of_ble_eq_true rfl) ⟨(part_at rfl iv_at), ⟨(part_at rfl iv_at), ⟨(part_at rfl iv_at), ⟨(part_at rfl iv_at), trivial⟩⟩⟩⟩) (fun _ => rfl) (fun _ => rfl), (by intro _ h; cases h; rfl), ⟨fun χ4 Ω ⟨h0, _⟩ => St.to XU.U XU.hU (St.placeL [] (s_callI (js := [0]) (os := fun (_ : Unit) => [oc b_0 [slv (rI .i64) t7.2.L, iv .i64 t7.2.At]]) (ex := fun (_ : Unit) => []) (ψ := fun (_ : Unit) => iv .i64 t7.1) (args := [.tmp 20, .tmp 21]) Try.call29 rfl (keep_Src_Pick_ok h_t7) ⟨h0, rfl, trivial⟩ (fun _ => rfl) (fun _ => rfl) ⟨arg rfl, arg rfl, trivial⟩ (fun _ _ _ _ h => h)) (fun _ => rfl) (fun _ => trivial)) (fun _ => rfl) (fun _ => rfl), (by intro _ h; cases h; rfl), ⟨fun χ4 Ω _ => St.toR (r_buildA (ps := [(0, .tmp 19), (1, .tmp 22)]) (rs := [(0, [iv .i64 t6.1]), (1, [iv .i64 t7.1])]) (sz := 1) Try.underlying28 Try.sizeOf3 ⟨_, _, Try.type28, rfl⟩ zs_28 ⟨rfl, (part_at rfl iv_at), ⟨rfl, (part_at rfl iv_at), trivial⟩⟩ rfl rfl) (fun _ => rfl) (fun _ => rfl), (by intro _ h; cases h; rfl), ⟨fun χ4 Ω _ => St.to XU.U XU.hU (St.placeL [] (s_call (ψ := fun (_ : Unit) => tup [ag [iv .i64 t8.1.Graph.N, slv rT_api_Pair t8.1.Graph.L, iv .i64 t8.1.Root, iv .i64 t8.1.Limits.i0, iv .i64 t8.1.Limits.i1, slv rT_api_Move t8.1.Moves], iv .i64 t8.2]) (args := [.tmp 12, .tmp 16, .tmp 23]) Try.call28 rfl (ref27_New_ok h_t8) ⟨arg rfl, arg rfl, arg rfl, trivial⟩ (fun _ _ _ _ h => h)) (fun _ => rfl) (fun _ => trivial)) (fun _ => rfl) (fun _ => rfl), (by intro _ h; cases h; rfl), ⟨fun χ4 Ω _ => St.toR (r_move rfl) (fun _ => rfl) (fun _ => rfl), (by intro _ h; cases h; rfl), ⟨fun χ4 Ω _ => St.toR (r_extract rfl rfl) (fun _ => rfl) (fun _ => rfl), (by intro _ h; cases h; rfl), ⟨fun χ4 Ω _ => St.toR (r_extract rfl rfl) (fun _ => rfl) (fun _ => rfl), (by intro _ h; cases h; rfl), ⟨fun χ4 Ω ⟨h3, _⟩ => St.to XU.Nn XU.hN (St.placeL (os := fun _ => [_]) [3] (s_alloc zt_31) (fun _ => rfl) (fun _ => ⟨h3, rfl, trivial⟩)) (fun _ => rfl) (fun _ => rfl), (by intro _ h; cases h; rfl), ⟨fun χ4 Ω ⟨h3, _⟩ => St.to XU.U XU.hU (s_cstore (out := [iv .i64 t8.1.Graph.N, slv rT_api_Pair t8.1.Graph.L, iv .i64 t8.1.Root, iv .i64 t8.1.Limits.i0, iv .i64 t8.1.Limits.i1, slv rT_api_Move t8.1.Moves]) Try.sizeOf31 rfl (j := 3) h3 (part_ag (ψs := [iv .i64 t8.1.Graph.N, slv rT_api_Pair t8.1.Graph.L, iv .i64 t8.1.Root, iv .i64 t8.1.Limits.i0, iv .i64 t8.1.Limits.i1, slv rT_api_Move t8.1.Moves]) rfl (by intro φ h; simp only [List.mem_cons, List.not_mem_nil, or_false] at h; rcases h with rfl | rfl | rfl | rfl | rfl | rfl <;> first | exact iv_at | exact bv_at | exact sv_at | exact slv_at | exact pv_at rfl)) rfl rfl rfl) (fun _ => rfl) (fun _ => rfl), (by intro _ h; cases h), ⟨fun χ4 Ω _ => St.toR (r_assign rfl) (fun _ => rfl) (fun _ => rfl), (by intro _ h; cases h; rfl), trivial⟩⟩⟩⟩⟩⟩⟩⟩⟩⟩⟩⟩⟩⟩⟩⟩⟩⟩⟩ (fun _ => ⟨rfl, rfl, rfl, trivial⟩) (fun _ => rfl) (fun χ4 => ?_)
  refine n_then ?_
  refine ref_seq ?_
  refine ref_region ?_
  refine s_rd (r_cloadS Try.isAgg31 Try.sizeOf31 rfl (j := 3) rfl rfl rfl) rfl ?_
  refine s_st0 (s_cstore (out := [iv .i64 t8.1.Graph.N, slv rT_api_Pair t8.1.Graph.L, iv .i64 t8.1.Root, iv .i64 t8.1.Limits.i0, iv .i64 t8.1.Limits.i1, slv rT_api_Move t8.1.Moves]) Try.sizeOf31 rfl (j := 1) rfl (part_ag (ψs := [iv .i64 t8.1.Graph.N, slv rT_api_Pair t8.1.Graph.L, iv .i64 t8.1.Root, iv .i64 t8.1.Limits.i0, iv .i64 t8.1.Limits.i1, slv rT_api_Move t8.1.Moves]) rfl (by intro φ h; simp only [List.mem_cons, List.not_mem_nil, or_false] at h; rcases h with rfl | rfl | rfl | rfl | rfl | rfl <;> first | exact iv_at | exact bv_at | exact sv_at | exact slv_at | exact pv_at rfl)) rfl rfl rfl) (fun _ => ?_)
  refine l_nil ?_
  refine n_then ?_
  refine ref_ret ?_
  exact fin1 (.inl rfl) () [0] rfl ⟨rfl, trivial⟩ rfl (rv_cell rfl (j := 1) rfl Try.isAgg31 Try.sizeOf31 rfl rfl)

/-! deliberation/deliberationref27.gone -/
noncomputable def ref27_gone_l2 (d_0 : T_api_Dialogue) (s45 : Int × (List Bool)) (s68 : Int × (List Bool)) : Option (Sum ((List Bool)) (Int × (List Bool))) :=
  bif decide (s68.1 < (d_0.Moves.length : Int)) then
    Option.bind (idxM s68.2 s45.1) fun t71 =>
    bif t71 then
      Option.bind (idxM s68.2 s45.1) fun t72 =>
      letM (iadd .i64 s68.1 1) fun k77 =>
      some (Sum.inr (k77, s68.2.set (Int.toNat s45.1) true))
    else
      Option.bind (idxM d_0.Moves s68.1) fun t73 =>
      bif t73.Kind == 3 then
        Option.bind (idxM d_0.Moves s68.1) fun t74 =>
        Option.bind (idxM s68.2 s45.1) fun t75 =>
        letM (iadd .i64 s68.1 1) fun k78 =>
        some (Sum.inr (k78, s68.2.set (Int.toNat s45.1) (t74.Target == s45.1)))
      else
        Option.bind (idxM s68.2 s45.1) fun t76 =>
        letM (iadd .i64 s68.1 1) fun k79 =>
        some (Sum.inr (k79, s68.2.set (Int.toNat s45.1) false))
  else
    some (Sum.inl s68.2)

noncomputable def ref27_gone_l1 (d_0 : T_api_Dialogue) (s45 : Int × (List Bool)) : Option (Sum ((List Bool)) (Int × (List Bool))) :=
  bif decide (s45.1 < (d_0.Moves.length : Int)) then
    Option.bind (idxM d_0.Moves s45.1) fun t48 =>
    joinM (fun j52 : (List Bool) =>
        letM (iadd .i64 s45.1 1) fun k55 =>
        Option.bind (loopC (ref27_gone_l2 d_0 s45) (k55, j52)) fun q80 : (List Bool) =>
        bif t48.Kind == 2 then
          Option.bind (idxM q80 s45.1) fun t83 =>
          bif t83 then
            Option.bind (idxM q80 s45.1) fun t84 =>
            letM (iadd .i64 s45.1 1) fun i87 =>
            some (Sum.inr (i87, q80.set (Int.toNat s45.1) true))
          else
            Option.bind (idxM q80 t48.Target) fun t85 =>
            Option.bind (idxM q80 s45.1) fun t86 =>
            letM (iadd .i64 s45.1 1) fun i88 =>
            some (Sum.inr (i88, q80.set (Int.toNat s45.1) t85))
        else
          letM (iadd .i64 s45.1 1) fun i89 =>
          some (Sum.inr (i89, q80))) fun k54 =>
    bif t48.Kind == 3 then
      Option.bind (idxM s45.2 s45.1) fun t50 =>
      k54 (s45.2.set (Int.toNat s45.1) true)
    else
      Option.bind (idxM s45.2 s45.1) fun t51 =>
      k54 (s45.2.set (Int.toNat s45.1) (t48.Kind == 4))
  else
    some (Sum.inl s45.2)

noncomputable def ref27_gone_m (d_0 : T_api_Dialogue) : Option (List Bool) :=
  Option.bind (mkM 1 false (d_0.Moves.length : Int)) fun out2 =>
  Option.bind (loopC (ref27_gone_l1 d_0) (0, out2)) fun q90 : (List Bool) =>
  some q90

theorem ref27_gone_ok {d_0 : T_api_Dialogue} {r : List Bool} (hm : ref27_gone_m d_0 = some r) :
    FnOk prog 50 [ag [iv .i64 d_0.Graph.N, slv rT_api_Pair d_0.Graph.L, iv .i64 d_0.Root, iv .i64 d_0.Limits.i0, iv .i64 d_0.Limits.i1, slv rT_api_Move d_0.Moves]] [] (fun (x : (Value × List Nat)) => [pv x.1]) (fun (x : (Value × List Nat)) => [oa rB x.1 x.2 r]) := by
  refine fn_ok (X := (Value × List Nat)) (fn := Try.f50) (N := 87) (m := ref27_gone_m d_0) (res := fun r x => [pv x.1]) (Ω1 := fun r x => [oa rB x.1 x.2 r]) Try.func50 rfl rfl hm rfl (fun E hM => ?_)
  unfold ref27_gone_m
  refine ref_seq ?_
  refine ref_region ?_
  refine s_st (s_box (part_ag (ψs := [iv .i64 d_0.Graph.N, slv rT_api_Pair d_0.Graph.L, iv .i64 d_0.Root, iv .i64 d_0.Limits.i0, iv .i64 d_0.Limits.i1, slv rT_api_Move d_0.Moves]) rfl (by intro φ h; simp only [List.mem_cons, List.not_mem_nil, or_false] at h; rcases h with rfl | rfl | rfl | rfl | rfl | rfl <;> first | exact iv_at | exact bv_at | exact sv_at | exact slv_at | exact pv_at rfl))) rfl (fun b1 => ?_)
  refine s_rd (r_assign rfl) rfl ?_
  refine l_nil ?_
  refine n_then ?_
  refine ref_seq ?_
  refine ref_region ?_
  refine s_rd (r_faddr (fo := 5) Try.underlying31 rfl rfl Try.sizeOf29 rfl) rfl ?_
  refine s_rd (r_cload Try.isAgg29 rfl (j := 0) rfl rfl) rfl ?_
  refine s_rd (r_len Try.underlying29 rfl) rfl ?_
  refine pull fun out2 h_out2 => ?_
  refine s_st (s_make h_out2 Try.underlying64 el_4 ze_4 rfl rfl) rfl (fun o3 => ?_)
  refine s_rd (r_assign rfl) rfl ?_
  refine l_nil ?_
  refine n_then ?_
  refine ref_seq ?_
  refine ref_seq ?_
  refine ref_region ?_
  refine s_rd (r_assign rfl) rfl ?_
  refine l_nil ?_
  refine n_then ?_
  refine ref_loopB (f := (ref27_gone_l1 d_0)) (Γl := (fun (s45 : Int × (List Bool)) (x46 : Unit) => [(1, pv (ptr b1 0)), (3, pv o3.1), (4, iv .i64 s45.1)])) (Ωl := (fun (s45 : Int × (List Bool)) (x46 : Unit) => [oc b1 [iv .i64 d_0.Graph.N, slv rT_api_Pair d_0.Graph.L, iv .i64 d_0.Root, iv .i64 d_0.Limits.i0, iv .i64 d_0.Limits.i1, slv rT_api_Move d_0.Moves], oa rB o3.1 o3.2 s45.2])) (Γb := (fun (q90 : (List Bool)) (y91 : Unit) => [(3, pv o3.1)])) (Ωb := (fun (q90 : (List Bool)) (y91 : Unit) => [oa rB o3.1 o3.2 q90])) (0, out2) () (weak [0, 1] ⟨rfl, rfl, rfl, trivial⟩ ⟨rfl, rfl, trivial⟩) (fun s45 x46 => ?_) (fun q90 y91 => ?_)
  · unfold ref27_gone_l1
    refine ref_seq ?_
    refine ref_seq ?_
    refine ref_region ?_
    refine s_rd (r_move rfl) rfl ?_
    refine s_rd (r_faddr (fo := 5) Try.underlying31 rfl rfl Try.sizeOf29 rfl) rfl ?_
    refine s_rd (r_cload Try.isAgg29 rfl (j := 0) rfl rfl) rfl ?_
    refine s_rd (r_len Try.underlying29 rfl) rfl ?_
    refine s_rd (r_lss rfl rfl) rfl ?_
    refine l_nil ?_
    refine n_then ?_
    refine ref_cond rfl (fun hb47 => ?_) (fun hb47 => ?_)
    · refine ref_skip ?_
      refine n_then ?_
      refine ref_seq ?_
      refine ref_block ?_
      refine ref_seq ?_
      refine ref_region ?_
      refine s_rd (r_faddr (fo := 5) Try.underlying31 rfl rfl Try.sizeOf29 rfl) rfl ?_
      refine s_rd (r_cload Try.isAgg29 rfl (j := 0) rfl rfl) rfl ?_
      refine s_rd (r_move rfl) rfl ?_
      refine pull fun t48 h_t48 => ?_
      refine s_rd (r_index h_t48 Try.underlying29 el_38 rfl rfl) rfl ?_
      refine s_rd (r_load el_38 rfl) rfl ?_
      refine s_st (s_alloc zt_38) rfl (fun b49 => ?_)
      refine s_st0 (s_cstore (out := [iv .i64 t48.By, iv .i64 t48.Kind, iv .i64 t48.Node, iv .i64 t48.Target]) Try.sizeOf38 rfl (j := 2) rfl (part_ag (ψs := [iv .i64 t48.By, iv .i64 t48.Kind, iv .i64 t48.Node, iv .i64 t48.Target]) rfl (by intro φ h; simp only [List.mem_cons, List.not_mem_nil, or_false] at h; rcases h with rfl | rfl | rfl | rfl <;> first | exact iv_at | exact bv_at | exact sv_at | exact slv_at | exact pv_at rfl)) rfl rfl rfl) (fun _ => ?_)
      refine l_nil ?_
      refine b_of (nrm [oc b1 [iv .i64 d_0.Graph.N, slv rT_api_Pair d_0.Graph.L, iv .i64 d_0.Root, iv .i64 d_0.Limits.i0, iv .i64 d_0.Limits.i1, slv rT_api_Move d_0.Moves], oa rB o3.1 o3.2 s45.2, oc b49 [iv .i64 t48.By, iv .i64 t48.Kind, iv .i64 t48.Node, iv .i64 t48.Target]] rfl) ?_
      refine n_then ?_
      refine ref_seq ?_
      refine ref_join (fun (j52 : (List Bool)) (x53 : Unit) => [(1, pv (ptr b1 0)), (3, pv o3.1), (4, iv .i64 s45.1), (5, pv (ptr b49 0))]) (fun (j52 : (List Bool)) (x53 : Unit) => [oc b1 [iv .i64 d_0.Graph.N, slv rT_api_Pair d_0.Graph.L, iv .i64 d_0.Root, iv .i64 d_0.Limits.i0, iv .i64 d_0.Limits.i1, slv rT_api_Move d_0.Moves], oa rB o3.1 o3.2 j52, oc b49 [iv .i64 t48.By, iv .i64 t48.Kind, iv .i64 t48.Node, iv .i64 t48.Target]]) (fun k54 hk54 => ?_) (fun j52 x53 => ?_)
      · refine ref_region ?_
        refine s_rd (r_move rfl) rfl ?_
        refine s_rd (r_move rfl) rfl ?_
        refine s_rd (r_faddr (fo := 1) Try.underlying38 rfl rfl Try.sizeOf3 rfl) rfl ?_
        refine s_rd (r_cload Try.isAgg3 rfl (j := 2) rfl rfl) rfl ?_
        refine s_rd (r_eql rfl rfl) rfl ?_
        refine s_rd (r_move rfl) rfl ?_
        refine b_split (t := 28) rfl (fun _ => ?_) (fun _ => ?_)
        · refine s_off rfl rfl rfl rfl rfl ?_
          refine s_off rfl rfl rfl rfl rfl ?_
          refine s_off rfl rfl rfl rfl rfl ?_
          refine s_rd (r_pickT rfl rfl) rfl ?_
          refine pull fun t50 h_t50 => ?_
          refine s_rd (r_oindex h_t50 Try.underlying64 el_4 rfl (j := 1) rfl rfl) rfl ?_
          refine s_st0 (s_ostore (u := true) h_t50 el_4 rfl (j := 1) rfl (part_at rfl bv_at)) (fun _ => ?_)
          refine l_nil ?_
          exact b_to (hk54 (s45.2.set (Int.toNat s45.1) true) ()) (weak [0, 1, 2] ⟨rfl, rfl, rfl, rfl, trivial⟩ ⟨rfl, rfl, rfl, trivial⟩)
        · refine s_on rfl rfl rfl ?_
          refine s_rd (r_faddr (fo := 1) Try.underlying38 rfl rfl Try.sizeOf3 rfl) rfl ?_
          refine s_on rfl rfl rfl ?_
          refine s_rd (r_cload Try.isAgg3 rfl (j := 2) rfl rfl) rfl ?_
          refine s_on rfl rfl rfl ?_
          refine s_rd (r_eql rfl rfl) rfl ?_
          refine s_rd (r_pickF rfl rfl) rfl ?_
          refine pull fun t51 h_t51 => ?_
          refine s_rd (r_oindex h_t51 Try.underlying64 el_4 rfl (j := 1) rfl rfl) rfl ?_
          refine s_st0 (s_ostore (u := t48.Kind == 4) h_t51 el_4 rfl (j := 1) rfl (part_at rfl bv_at)) (fun _ => ?_)
          refine l_nil ?_
          exact b_to (hk54 (s45.2.set (Int.toNat s45.1) (t48.Kind == 4)) ()) (weak [0, 1, 2] ⟨rfl, rfl, rfl, rfl, trivial⟩ ⟨rfl, rfl, rfl, trivial⟩)
      · refine n_then ?_
        refine ref_seq ?_
        refine ref_seq ?_
        refine ref_region ?_
        refine s_rd (r_move rfl) rfl ?_
        refine s_rd (r_add rfl rfl) rfl ?_
        refine s_rd (r_assign rfl) rfl ?_
        refine b_let (f := iv .i64) (t := 6) rfl fun k55 => ?_
        refine l_nil ?_
        refine n_then ?_
        refine ref_loopB (f := (ref27_gone_l2 d_0 s45)) (Γl := (fun (s68 : Int × (List Bool)) (x69 : Unit) => [(1, pv (ptr b1 0)), (3, pv o3.1), (4, iv .i64 s45.1), (5, pv (ptr b49 0)), (6, iv .i64 s68.1)])) (Ωl := (fun (s68 : Int × (List Bool)) (x69 : Unit) => [oc b1 [iv .i64 d_0.Graph.N, slv rT_api_Pair d_0.Graph.L, iv .i64 d_0.Root, iv .i64 d_0.Limits.i0, iv .i64 d_0.Limits.i1, slv rT_api_Move d_0.Moves], oa rB o3.1 o3.2 s68.2, oc b49 [iv .i64 t48.By, iv .i64 t48.Kind, iv .i64 t48.Node, iv .i64 t48.Target]])) (Γb := (fun (q80 : (List Bool)) (y81 : Unit) => [(1, pv (ptr b1 0)), (3, pv o3.1), (4, iv .i64 s45.1), (5, pv (ptr b49 0))])) (Ωb := (fun (q80 : (List Bool)) (y81 : Unit) => [oc b1 [iv .i64 d_0.Graph.N, slv rT_api_Pair d_0.Graph.L, iv .i64 d_0.Root, iv .i64 d_0.Limits.i0, iv .i64 d_0.Limits.i1, slv rT_api_Move d_0.Moves], oa rB o3.1 o3.2 q80, oc b49 [iv .i64 t48.By, iv .i64 t48.Kind, iv .i64 t48.Node, iv .i64 t48.Target]])) (k55, j52) () (weak [0, 1, 2] ⟨rfl, rfl, rfl, rfl, rfl, trivial⟩ ⟨rfl, rfl, rfl, trivial⟩) (fun s68 x69 => ?_) (fun q80 y81 => ?_)
        · unfold ref27_gone_l2
          refine ref_seq ?_
          refine ref_seq ?_
          refine ref_region ?_
          refine s_rd (r_move rfl) rfl ?_
          refine s_rd (r_faddr (fo := 5) Try.underlying31 rfl rfl Try.sizeOf29 rfl) rfl ?_
          refine s_rd (r_cload Try.isAgg29 rfl (j := 0) rfl rfl) rfl ?_
          refine s_rd (r_len Try.underlying29 rfl) rfl ?_
          refine s_rd (r_lss rfl rfl) rfl ?_
          refine l_nil ?_
          refine n_then ?_
          refine ref_cond rfl (fun hb70 => ?_) (fun hb70 => ?_)
          · refine ref_skip ?_
            refine n_then ?_
            refine ref_seq ?_
            refine ref_block ?_
            refine ref_region ?_
            refine s_rd (r_move rfl) rfl ?_
            refine s_rd (r_move rfl) rfl ?_
            refine s_rd (r_move rfl) rfl ?_
            refine s_rd (r_move rfl) rfl ?_
            refine pull fun t71 h_t71 => ?_
            refine s_rd (r_oindex h_t71 Try.underlying64 el_4 rfl (j := 1) rfl rfl) rfl ?_
            refine s_rd (r_oload h_t71 el_4 rfl (j := 1) rfl) rfl ?_
            refine s_rd (r_move rfl) rfl ?_
            refine b_split (t := 49) rfl (fun _ => ?_) (fun _ => ?_)
            · refine s_off rfl rfl rfl rfl rfl ?_
              refine s_off rfl rfl rfl rfl rfl ?_
              refine s_off rfl rfl rfl rfl rfl ?_
              refine s_off rfl rfl rfl rfl rfl ?_
              refine s_off rfl rfl rfl rfl rfl ?_
              refine s_off rfl rfl rfl rfl rfl ?_
              refine s_off rfl rfl rfl rfl rfl ?_
              refine s_off rfl rfl rfl rfl rfl ?_
              refine s_offU rfl rfl rfl ?_
              refine s_offU rfl rfl rfl ?_
              refine s_offU rfl rfl rfl ?_
              refine s_offU rfl rfl rfl ?_
              refine s_offU rfl rfl rfl ?_
              refine s_offU rfl rfl rfl ?_
              refine s_offU rfl rfl rfl ?_
              refine s_offU rfl rfl rfl ?_
              refine s_off rfl rfl rfl rfl rfl ?_
              refine s_rd (r_pickT rfl rfl) rfl ?_
              refine pull fun t72 h_t72 => ?_
              refine s_rd (r_oindex h_t72 Try.underlying64 el_4 rfl (j := 1) rfl rfl) rfl ?_
              refine s_st0 (s_ostore (u := true) h_t72 el_4 rfl (j := 1) rfl (part_at rfl bv_at)) (fun _ => ?_)
              refine l_nil ?_
              refine n_block ?_
              refine n_then ?_
              refine ref_region ?_
              refine s_rd (r_move rfl) rfl ?_
              refine s_rd (r_add rfl rfl) rfl ?_
              refine s_rd (r_assign rfl) rfl ?_
              refine b_let (f := iv .i64) (t := 6) rfl fun k77 => ?_
              refine l_nil ?_
              exact goB () (weak [0, 1, 2] ⟨rfl, rfl, rfl, rfl, rfl, trivial⟩ ⟨rfl, rfl, rfl, trivial⟩)
            · refine s_on rfl rfl rfl ?_
              refine s_rd (r_faddr (fo := 5) Try.underlying31 rfl rfl Try.sizeOf29 rfl) rfl ?_
              refine s_on rfl rfl rfl ?_
              refine s_rd (r_cload Try.isAgg29 rfl (j := 0) rfl rfl) rfl ?_
              refine s_on rfl rfl rfl ?_
              refine s_rd (r_move rfl) rfl ?_
              refine s_on rfl rfl rfl ?_
              refine pull fun t73 h_t73 => ?_
              refine s_rd (r_index h_t73 Try.underlying29 el_38 rfl rfl) rfl ?_
              refine s_on rfl rfl rfl ?_
              refine s_rd (r_fea (fo := 1) (ρ := rT_api_Move) (y := t73) (ρ' := (rI .i64)) (z := t73.Kind) Try.underlying38 rfl rfl Try.sizeOf3 rfl rfl rfl) rfl ?_
              refine s_on rfl rfl rfl ?_
              refine s_rd (r_load el_3 rfl) rfl ?_
              refine s_on rfl rfl rfl ?_
              refine s_rd (r_eql rfl rfl) rfl ?_
              refine s_on rfl rfl rfl ?_
              refine s_rd (r_move rfl) rfl ?_
              refine b_split (t := 57) rfl (fun _ => ?_) (fun _ => ?_)
              · refine s_on rfl rfl rfl ?_
                refine s_rd (r_faddr (fo := 5) Try.underlying31 rfl rfl Try.sizeOf29 rfl) rfl ?_
                refine s_on rfl rfl rfl ?_
                refine s_rd (r_cload Try.isAgg29 rfl (j := 0) rfl rfl) rfl ?_
                refine s_on rfl rfl rfl ?_
                refine s_rd (r_move rfl) rfl ?_
                refine s_on rfl rfl rfl ?_
                refine pull fun t74 h_t74 => ?_
                refine s_rd (r_index h_t74 Try.underlying29 el_38 rfl rfl) rfl ?_
                refine s_on rfl rfl rfl ?_
                refine s_rd (r_fea (fo := 3) (ρ := rT_api_Move) (y := t74) (ρ' := (rI .i64)) (z := t74.Target) Try.underlying38 rfl rfl Try.sizeOf3 rfl rfl rfl) rfl ?_
                refine s_on rfl rfl rfl ?_
                refine s_rd (r_load el_3 rfl) rfl ?_
                refine s_on rfl rfl rfl ?_
                refine s_rd (r_move rfl) rfl ?_
                refine s_on rfl rfl rfl ?_
                refine s_rd (r_eql rfl rfl) rfl ?_
                refine s_on rfl rfl rfl ?_
                refine s_rd (r_pickT rfl rfl) rfl ?_
                refine s_rd (r_pickF rfl rfl) rfl ?_
                refine pull fun t75 h_t75 => ?_
                refine s_rd (r_oindex h_t75 Try.underlying64 el_4 rfl (j := 1) rfl rfl) rfl ?_
                refine s_st0 (s_ostore (u := t74.Target == s45.1) h_t75 el_4 rfl (j := 1) rfl (part_at rfl bv_at)) (fun _ => ?_)
                refine l_nil ?_
                refine n_block ?_
                refine n_then ?_
                refine ref_region ?_
                refine s_rd (r_move rfl) rfl ?_
                refine s_rd (r_add rfl rfl) rfl ?_
                refine s_rd (r_assign rfl) rfl ?_
                refine b_let (f := iv .i64) (t := 6) rfl fun k78 => ?_
                refine l_nil ?_
                exact goB () (weak [0, 1, 2] ⟨rfl, rfl, rfl, rfl, rfl, trivial⟩ ⟨rfl, rfl, rfl, trivial⟩)
              · refine s_off rfl rfl rfl rfl rfl ?_
                refine s_off rfl rfl rfl rfl rfl ?_
                refine s_off rfl rfl rfl rfl rfl ?_
                refine s_off rfl rfl rfl rfl rfl ?_
                refine s_off rfl rfl rfl rfl rfl ?_
                refine s_off rfl rfl rfl rfl rfl ?_
                refine s_off rfl rfl rfl rfl rfl ?_
                refine s_off rfl rfl rfl rfl rfl ?_
                refine s_on rfl rfl rfl ?_
                refine s_rd (r_pickF rfl rfl) rfl ?_
                refine s_rd (r_pickF rfl rfl) rfl ?_
                refine pull fun t76 h_t76 => ?_
                refine s_rd (r_oindex h_t76 Try.underlying64 el_4 rfl (j := 1) rfl rfl) rfl ?_
                refine s_st0 (s_ostore (u := false) h_t76 el_4 rfl (j := 1) rfl (part_at rfl bv_at)) (fun _ => ?_)
                refine l_nil ?_
                refine n_block ?_
                refine n_then ?_
                refine ref_region ?_
                refine s_rd (r_move rfl) rfl ?_
                refine s_rd (r_add rfl rfl) rfl ?_
                refine s_rd (r_assign rfl) rfl ?_
                refine b_let (f := iv .i64) (t := 6) rfl fun k79 => ?_
                refine l_nil ?_
                exact goB () (weak [0, 1, 2] ⟨rfl, rfl, rfl, rfl, rfl, trivial⟩ ⟨rfl, rfl, rfl, trivial⟩)
          · refine ref_exit ?_
            refine x_then ?_
            exact brkB () (weak [0, 1, 2] ⟨rfl, rfl, rfl, rfl, trivial⟩ ⟨rfl, rfl, rfl, trivial⟩)
        · refine n_then ?_
          refine ref_seq ?_
          refine ref_region ?_
          refine s_rd (r_faddr (fo := 1) Try.underlying38 rfl rfl Try.sizeOf3 rfl) rfl ?_
          refine s_rd (r_cload Try.isAgg3 rfl (j := 2) rfl rfl) rfl ?_
          refine s_rd (r_eql rfl rfl) rfl ?_
          refine l_nil ?_
          refine n_then ?_
          refine ref_cond rfl (fun hb82 => ?_) (fun hb82 => ?_)
          · refine ref_region ?_
            refine s_rd (r_move rfl) rfl ?_
            refine s_rd (r_move rfl) rfl ?_
            refine s_rd (r_move rfl) rfl ?_
            refine s_rd (r_move rfl) rfl ?_
            refine pull fun t83 h_t83 => ?_
            refine s_rd (r_oindex h_t83 Try.underlying64 el_4 rfl (j := 1) rfl rfl) rfl ?_
            refine s_rd (r_oload h_t83 el_4 rfl (j := 1) rfl) rfl ?_
            refine s_rd (r_move rfl) rfl ?_
            refine b_split (t := 78) rfl (fun _ => ?_) (fun _ => ?_)
            · refine s_off rfl rfl rfl rfl rfl ?_
              refine s_off rfl rfl rfl rfl rfl ?_
              refine s_off rfl rfl rfl rfl rfl ?_
              refine s_off rfl rfl rfl rfl rfl ?_
              refine s_off rfl rfl rfl rfl rfl ?_
              refine s_rd (r_pickT rfl rfl) rfl ?_
              refine pull fun t84 h_t84 => ?_
              refine s_rd (r_oindex h_t84 Try.underlying64 el_4 rfl (j := 1) rfl rfl) rfl ?_
              refine s_st0 (s_ostore (u := true) h_t84 el_4 rfl (j := 1) rfl (part_at rfl bv_at)) (fun _ => ?_)
              refine l_nil ?_
              refine n_block ?_
              refine n_then ?_
              refine ref_region ?_
              refine s_rd (r_move rfl) rfl ?_
              refine s_rd (r_add rfl rfl) rfl ?_
              refine s_rd (r_assign rfl) rfl ?_
              refine b_let (f := iv .i64) (t := 4) rfl fun i87 => ?_
              refine l_nil ?_
              exact goB () (weak [0, 1] ⟨rfl, rfl, rfl, trivial⟩ ⟨rfl, rfl, trivial⟩)
            · refine s_on rfl rfl rfl ?_
              refine s_rd (r_move rfl) rfl ?_
              refine s_on rfl rfl rfl ?_
              refine s_rd (r_faddr (fo := 3) Try.underlying38 rfl rfl Try.sizeOf3 rfl) rfl ?_
              refine s_on rfl rfl rfl ?_
              refine s_rd (r_cload Try.isAgg3 rfl (j := 2) rfl rfl) rfl ?_
              refine s_on rfl rfl rfl ?_
              refine pull fun t85 h_t85 => ?_
              refine s_rd (r_oindex h_t85 Try.underlying64 el_4 rfl (j := 1) rfl rfl) rfl ?_
              refine s_on rfl rfl rfl ?_
              refine s_rd (r_oload h_t85 el_4 rfl (j := 1) rfl) rfl ?_
              refine s_rd (r_pickF rfl rfl) rfl ?_
              refine pull fun t86 h_t86 => ?_
              refine s_rd (r_oindex h_t86 Try.underlying64 el_4 rfl (j := 1) rfl rfl) rfl ?_
              refine s_st0 (s_ostore (u := t85) h_t86 el_4 rfl (j := 1) rfl (part_at rfl bv_at)) (fun _ => ?_)
              refine l_nil ?_
              refine n_block ?_
              refine n_then ?_
              refine ref_region ?_
              refine s_rd (r_move rfl) rfl ?_
              refine s_rd (r_add rfl rfl) rfl ?_
              refine s_rd (r_assign rfl) rfl ?_
              refine b_let (f := iv .i64) (t := 4) rfl fun i88 => ?_
              refine l_nil ?_
              exact goB () (weak [0, 1] ⟨rfl, rfl, rfl, trivial⟩ ⟨rfl, rfl, trivial⟩)
          · refine ref_skip ?_
            refine n_block ?_
            refine n_then ?_
            refine ref_region ?_
            refine s_rd (r_move rfl) rfl ?_
            refine s_rd (r_add rfl rfl) rfl ?_
            refine s_rd (r_assign rfl) rfl ?_
            refine b_let (f := iv .i64) (t := 4) rfl fun i89 => ?_
            refine l_nil ?_
            exact goB () (weak [0, 1] ⟨rfl, rfl, rfl, trivial⟩ ⟨rfl, rfl, trivial⟩)
    · refine ref_exit ?_
      refine x_then ?_
      exact brkB () (weak [1] ⟨rfl, trivial⟩ ⟨rfl, trivial⟩)
  · refine n_then ?_
    refine ref_seq ?_
    refine ref_region ?_
    refine s_rd (r_move rfl) rfl ?_
    refine s_rd (r_assign rfl) rfl ?_
    refine l_nil ?_
    refine n_then ?_
    refine ref_ret ?_
    exact fin1 (.inl rfl) o3 [0] rfl ⟨rfl, trivial⟩ rfl (rv_tmp rfl)

/-! deliberation/deliberationref27.Status -/
noncomputable def ref27_Status_l2 (d_0 : T_api_Dialogue) (s51 : Int × (List Int)) (s82 : Int × (List Int)) : Option (Sum ((List Int)) (Int × (List Int))) :=
  bif decide (s82.1 < (d_0.Moves.length : Int)) then
    Option.bind (idxM d_0.Moves s82.1) fun t85 =>
    bif t85.Kind == 2 then
      Option.bind (idxM d_0.Moves s82.1) fun t86 =>
      bif t86.Target == s51.1 then
        Option.bind (idxM s82.2 s82.1) fun t87 =>
        bif t87 == 1 then
          Option.bind (idxM s82.2 s51.1) fun t89 =>
          letM (iadd .i64 s82.1 1) fun k90 =>
          some (Sum.inr (k90, s82.2.set (Int.toNat s51.1) 2))
        else
          letM (iadd .i64 s82.1 1) fun k91 =>
          some (Sum.inr (k91, s82.2))
      else
        letM (iadd .i64 s82.1 1) fun k92 =>
        some (Sum.inr (k92, s82.2))
    else
      letM (iadd .i64 s82.1 1) fun k93 =>
      some (Sum.inr (k93, s82.2))
  else
    some (Sum.inl s82.2)

noncomputable def ref27_Status_l1 (d_0 : T_api_Dialogue) (away2 : List Bool) (s51 : Int × (List Int)) : Option (Sum ((List Int)) (Int × (List Int))) :=
  bif decide (s51.1 ≥ 0) then
    Option.bind (idxM away2 s51.1) fun t54 =>
    bif t54 then
      letM (isub .i64 s51.1 1) fun i96 =>
      some (Sum.inr (i96, s51.2))
    else
      Option.bind (idxM s51.2 s51.1) fun t56 =>
      letM (iadd .i64 s51.1 1) fun k57 =>
      Option.bind (loopC (ref27_Status_l2 d_0 s51) (k57, s51.2.set (Int.toNat s51.1) 1)) fun q94 : (List Int) =>
      letM (isub .i64 s51.1 1) fun i97 =>
      some (Sum.inr (i97, q94))
  else
    some (Sum.inl s51.2)

noncomputable def ref27_Status_m (d_0 : T_api_Dialogue) : Option (List Int) :=
  Option.bind (ref27_gone_m d_0) fun away2 =>
  Option.bind (mkM 8 0 (d_0.Moves.length : Int)) fun out4 =>
  letM (isub .i64 (d_0.Moves.length : Int) 1) fun i6 =>
  Option.bind (loopC (ref27_Status_l1 d_0 away2) (i6, out4)) fun q98 : (List Int) =>
  some q98

theorem ref27_Status_ok {d_0 : T_api_Dialogue} {r : List Int} (hm : ref27_Status_m d_0 = some r) :
    FnOk prog 31 [ag [iv .i64 d_0.Graph.N, slv rT_api_Pair d_0.Graph.L, iv .i64 d_0.Root, iv .i64 d_0.Limits.i0, iv .i64 d_0.Limits.i1, slv rT_api_Move d_0.Moves]] [] (fun (x : (Value × List Nat)) => [pv x.1]) (fun (x : (Value × List Nat)) => [oa (rI .i64) x.1 x.2 r]) := by
  refine fn_ok (X := (Value × List Nat)) (fn := Try.f31) (N := 65) (m := ref27_Status_m d_0) (res := fun r x => [pv x.1]) (Ω1 := fun r x => [oa (rI .i64) x.1 x.2 r]) Try.func31 rfl rfl hm rfl (fun E hM => ?_)
  unfold ref27_Status_m
  refine ref_seq ?_
  refine ref_region ?_
  refine s_st (s_box (part_ag (ψs := [iv .i64 d_0.Graph.N, slv rT_api_Pair d_0.Graph.L, iv .i64 d_0.Root, iv .i64 d_0.Limits.i0, iv .i64 d_0.Limits.i1, slv rT_api_Move d_0.Moves]) rfl (by intro φ h; simp only [List.mem_cons, List.not_mem_nil, or_false] at h; rcases h with rfl | rfl | rfl | rfl | rfl | rfl <;> first | exact iv_at | exact bv_at | exact sv_at | exact slv_at | exact pv_at rfl))) rfl (fun b1 => ?_)
  refine s_rd (r_assign rfl) rfl ?_
  refine l_nil ?_
  refine n_then ?_
  refine ref_seq ?_
  refine ref_region ?_
  refine s_rd (r_cloadS Try.isAgg31 Try.sizeOf31 rfl (j := 0) rfl rfl rfl) rfl ?_
  refine pull fun away2 h_away2 => ?_
  refine s_st (s_call (ψ := fun (x3 : (Value × List Nat)) => pv x3.1) (args := [.tmp 7]) Try.call50 rfl (ref27_gone_ok h_away2) ⟨arg rfl, trivial⟩ (fun _ _ _ _ h => h)) rfl (fun x3 => ?_)
  refine s_rd (r_assign rfl) rfl ?_
  refine l_nil ?_
  refine n_then ?_
  refine ref_seq ?_
  refine ref_region ?_
  refine s_rd (r_faddr (fo := 5) Try.underlying31 rfl rfl Try.sizeOf29 rfl) rfl ?_
  refine s_rd (r_cload Try.isAgg29 rfl (j := 0) rfl rfl) rfl ?_
  refine s_rd (r_len Try.underlying29 rfl) rfl ?_
  refine pull fun out4 h_out4 => ?_
  refine s_st (s_make h_out4 Try.underlying22 el_3 ze_3 rfl rfl) rfl (fun o5 => ?_)
  refine s_rd (r_assign rfl) rfl ?_
  refine l_nil ?_
  refine n_then ?_
  refine ref_seq ?_
  refine ref_seq ?_
  refine ref_region ?_
  refine s_rd (r_faddr (fo := 5) Try.underlying31 rfl rfl Try.sizeOf29 rfl) rfl ?_
  refine s_rd (r_cload Try.isAgg29 rfl (j := 0) rfl rfl) rfl ?_
  refine s_rd (r_len Try.underlying29 rfl) rfl ?_
  refine s_rd (r_sub rfl rfl) rfl ?_
  refine s_rd (r_assign rfl) rfl ?_
  refine b_let (f := iv .i64) (t := 5) rfl fun i6 => ?_
  refine l_nil ?_
  refine n_then ?_
  refine ref_loopB (f := (ref27_Status_l1 d_0 away2)) (Γl := (fun (s51 : Int × (List Int)) (x52 : Unit) => [(1, pv (ptr b1 0)), (3, pv x3.1), (4, pv o5.1), (5, iv .i64 s51.1)])) (Ωl := (fun (s51 : Int × (List Int)) (x52 : Unit) => [oc b1 [iv .i64 d_0.Graph.N, slv rT_api_Pair d_0.Graph.L, iv .i64 d_0.Root, iv .i64 d_0.Limits.i0, iv .i64 d_0.Limits.i1, slv rT_api_Move d_0.Moves], oa rB x3.1 x3.2 away2, oa (rI .i64) o5.1 o5.2 s51.2])) (Γb := (fun (q98 : (List Int)) (y99 : Unit) => [(4, pv o5.1)])) (Ωb := (fun (q98 : (List Int)) (y99 : Unit) => [oa (rI .i64) o5.1 o5.2 q98])) (i6, out4) () (weak [0, 1, 2] ⟨rfl, rfl, rfl, rfl, trivial⟩ ⟨rfl, rfl, rfl, trivial⟩) (fun s51 x52 => ?_) (fun q98 y99 => ?_)
  · unfold ref27_Status_l1
    refine ref_seq ?_
    refine ref_seq ?_
    refine ref_region ?_
    refine s_rd (r_move rfl) rfl ?_
    refine s_rd (r_geq rfl rfl) rfl ?_
    refine l_nil ?_
    refine n_then ?_
    refine ref_cond rfl (fun hb53 => ?_) (fun hb53 => ?_)
    · refine ref_skip ?_
      refine n_then ?_
      refine ref_seq ?_
      refine ref_block ?_
      refine ref_seq ?_
      refine ref_seq ?_
      refine ref_region ?_
      refine s_rd (r_move rfl) rfl ?_
      refine s_rd (r_move rfl) rfl ?_
      refine pull fun t54 h_t54 => ?_
      refine s_rd (r_oindex h_t54 Try.underlying64 el_4 rfl (j := 1) rfl rfl) rfl ?_
      refine s_rd (r_oload h_t54 el_4 rfl (j := 1) rfl) rfl ?_
      refine l_nil ?_
      refine n_then ?_
      refine ref_cond rfl (fun hb55 => ?_) (fun hb55 => ?_)
      · refine ref_exit ?_
        refine x_then ?_
        refine x_eq ?_
        refine n_then ?_
        refine ref_region ?_
        refine s_rd (r_move rfl) rfl ?_
        refine s_rd (r_sub rfl rfl) rfl ?_
        refine s_rd (r_assign rfl) rfl ?_
        refine b_let (f := iv .i64) (t := 5) rfl fun i96 => ?_
        refine l_nil ?_
        exact goB () (weak [0, 1, 2] ⟨rfl, rfl, rfl, rfl, trivial⟩ ⟨rfl, rfl, rfl, trivial⟩)
      · refine ref_skip ?_
        refine n_then ?_
        refine ref_seq ?_
        refine ref_region ?_
        refine s_rd (r_move rfl) rfl ?_
        refine s_rd (r_move rfl) rfl ?_
        refine pull fun t56 h_t56 => ?_
        refine s_rd (r_oindex h_t56 Try.underlying22 el_3 rfl (j := 2) rfl rfl) rfl ?_
        refine s_st0 (s_ostore (u := 1) h_t56 el_3 rfl (j := 2) rfl (part_at rfl iv_at)) (fun _ => ?_)
        refine l_nil ?_
        refine b_of (nrm [oc b1 [iv .i64 d_0.Graph.N, slv rT_api_Pair d_0.Graph.L, iv .i64 d_0.Root, iv .i64 d_0.Limits.i0, iv .i64 d_0.Limits.i1, slv rT_api_Move d_0.Moves], oa rB x3.1 x3.2 away2, oa (rI .i64) o5.1 o5.2 (s51.2.set (Int.toNat s51.1) 1)] rfl) ?_
        refine n_then ?_
        refine ref_seq ?_
        refine ref_region ?_
        refine s_rd (r_move rfl) rfl ?_
        refine s_rd (r_add rfl rfl) rfl ?_
        refine s_rd (r_assign rfl) rfl ?_
        refine b_let (f := iv .i64) (t := 6) rfl fun k57 => ?_
        refine l_nil ?_
        refine n_then ?_
        refine ref_loopB (f := (ref27_Status_l2 d_0 s51)) (Γl := (fun (s82 : Int × (List Int)) (x83 : Unit) => [(1, pv (ptr b1 0)), (3, pv x3.1), (4, pv o5.1), (5, iv .i64 s51.1), (6, iv .i64 s82.1)])) (Ωl := (fun (s82 : Int × (List Int)) (x83 : Unit) => [oc b1 [iv .i64 d_0.Graph.N, slv rT_api_Pair d_0.Graph.L, iv .i64 d_0.Root, iv .i64 d_0.Limits.i0, iv .i64 d_0.Limits.i1, slv rT_api_Move d_0.Moves], oa rB x3.1 x3.2 away2, oa (rI .i64) o5.1 o5.2 s82.2])) (Γb := (fun (q94 : (List Int)) (y95 : Unit) => [(1, pv (ptr b1 0)), (3, pv x3.1), (4, pv o5.1), (5, iv .i64 s51.1)])) (Ωb := (fun (q94 : (List Int)) (y95 : Unit) => [oc b1 [iv .i64 d_0.Graph.N, slv rT_api_Pair d_0.Graph.L, iv .i64 d_0.Root, iv .i64 d_0.Limits.i0, iv .i64 d_0.Limits.i1, slv rT_api_Move d_0.Moves], oa rB x3.1 x3.2 away2, oa (rI .i64) o5.1 o5.2 q94])) (k57, s51.2.set (Int.toNat s51.1) 1) () (weak [0, 1, 2] ⟨rfl, rfl, rfl, rfl, rfl, trivial⟩ ⟨rfl, rfl, rfl, trivial⟩) (fun s82 x83 => ?_) (fun q94 y95 => ?_)
        · unfold ref27_Status_l2
          refine ref_seq ?_
          refine ref_seq ?_
          refine ref_region ?_
          refine s_rd (r_move rfl) rfl ?_
          refine s_rd (r_faddr (fo := 5) Try.underlying31 rfl rfl Try.sizeOf29 rfl) rfl ?_
          refine s_rd (r_cload Try.isAgg29 rfl (j := 0) rfl rfl) rfl ?_
          refine s_rd (r_len Try.underlying29 rfl) rfl ?_
          refine s_rd (r_lss rfl rfl) rfl ?_
          refine l_nil ?_
          refine n_then ?_
          refine ref_cond rfl (fun hb84 => ?_) (fun hb84 => ?_)
          · refine ref_skip ?_
            refine n_then ?_
            refine ref_seq ?_
            refine ref_block ?_
            refine ref_seq ?_
            refine ref_region ?_
            refine s_rd (r_faddr (fo := 5) Try.underlying31 rfl rfl Try.sizeOf29 rfl) rfl ?_
            refine s_rd (r_cload Try.isAgg29 rfl (j := 0) rfl rfl) rfl ?_
            refine s_rd (r_move rfl) rfl ?_
            refine pull fun t85 h_t85 => ?_
            refine s_rd (r_index h_t85 Try.underlying29 el_38 rfl rfl) rfl ?_
            refine s_rd (r_fea (fo := 1) (ρ := rT_api_Move) (y := t85) (ρ' := (rI .i64)) (z := t85.Kind) Try.underlying38 rfl rfl Try.sizeOf3 rfl rfl rfl) rfl ?_
            refine s_rd (r_load el_3 rfl) rfl ?_
            refine s_rd (r_eql rfl rfl) rfl ?_
            refine s_rd (r_move rfl) rfl ?_
            refine b_split (t := 44) rfl (fun _ => ?_) (fun _ => ?_)
            · refine s_on rfl rfl rfl ?_
              refine s_rd (r_faddr (fo := 5) Try.underlying31 rfl rfl Try.sizeOf29 rfl) rfl ?_
              refine s_on rfl rfl rfl ?_
              refine s_rd (r_cload Try.isAgg29 rfl (j := 0) rfl rfl) rfl ?_
              refine s_on rfl rfl rfl ?_
              refine s_rd (r_move rfl) rfl ?_
              refine s_on rfl rfl rfl ?_
              refine pull fun t86 h_t86 => ?_
              refine s_rd (r_index h_t86 Try.underlying29 el_38 rfl rfl) rfl ?_
              refine s_on rfl rfl rfl ?_
              refine s_rd (r_fea (fo := 3) (ρ := rT_api_Move) (y := t86) (ρ' := (rI .i64)) (z := t86.Target) Try.underlying38 rfl rfl Try.sizeOf3 rfl rfl rfl) rfl ?_
              refine s_on rfl rfl rfl ?_
              refine s_rd (r_load el_3 rfl) rfl ?_
              refine s_on rfl rfl rfl ?_
              refine s_rd (r_move rfl) rfl ?_
              refine s_on rfl rfl rfl ?_
              refine s_rd (r_eql rfl rfl) rfl ?_
              refine s_rd (r_pickT rfl rfl) rfl ?_
              refine s_rd (r_move rfl) rfl ?_
              refine b_split (t := 54) rfl (fun _ => ?_) (fun _ => ?_)
              · refine s_on rfl rfl rfl ?_
                refine s_rd (r_move rfl) rfl ?_
                refine s_on rfl rfl rfl ?_
                refine s_rd (r_move rfl) rfl ?_
                refine s_on rfl rfl rfl ?_
                refine pull fun t87 h_t87 => ?_
                refine s_rd (r_oindex h_t87 Try.underlying22 el_3 rfl (j := 2) rfl rfl) rfl ?_
                refine s_on rfl rfl rfl ?_
                refine s_rd (r_oload h_t87 el_3 rfl (j := 2) rfl) rfl ?_
                refine s_on rfl rfl rfl ?_
                refine s_rd (r_eql rfl rfl) rfl ?_
                refine s_rd (r_pickT rfl rfl) rfl ?_
                refine l_nil ?_
                refine n_then ?_
                refine ref_cond rfl (fun hb88 => ?_) (fun hb88 => ?_)
                · refine ref_region ?_
                  refine s_rd (r_move rfl) rfl ?_
                  refine s_rd (r_move rfl) rfl ?_
                  refine pull fun t89 h_t89 => ?_
                  refine s_rd (r_oindex h_t89 Try.underlying22 el_3 rfl (j := 2) rfl rfl) rfl ?_
                  refine s_st0 (s_ostore (u := 2) h_t89 el_3 rfl (j := 2) rfl (part_at rfl iv_at)) (fun _ => ?_)
                  refine l_nil ?_
                  refine n_block ?_
                  refine n_then ?_
                  refine ref_region ?_
                  refine s_rd (r_move rfl) rfl ?_
                  refine s_rd (r_add rfl rfl) rfl ?_
                  refine s_rd (r_assign rfl) rfl ?_
                  refine b_let (f := iv .i64) (t := 6) rfl fun k90 => ?_
                  refine l_nil ?_
                  exact goB () (weak [0, 1, 2] ⟨rfl, rfl, rfl, rfl, rfl, trivial⟩ ⟨rfl, rfl, rfl, trivial⟩)
                · refine ref_skip ?_
                  refine n_block ?_
                  refine n_then ?_
                  refine ref_region ?_
                  refine s_rd (r_move rfl) rfl ?_
                  refine s_rd (r_add rfl rfl) rfl ?_
                  refine s_rd (r_assign rfl) rfl ?_
                  refine b_let (f := iv .i64) (t := 6) rfl fun k91 => ?_
                  refine l_nil ?_
                  exact goB () (weak [0, 1, 2] ⟨rfl, rfl, rfl, rfl, rfl, trivial⟩ ⟨rfl, rfl, rfl, trivial⟩)
              · refine s_off rfl rfl rfl rfl rfl ?_
                refine s_off rfl rfl rfl rfl rfl ?_
                refine s_off rfl rfl rfl rfl rfl ?_
                refine s_off rfl rfl rfl rfl rfl ?_
                refine s_off rfl rfl rfl rfl rfl ?_
                refine s_rd (r_pickF rfl rfl) rfl ?_
                refine l_nil ?_
                refine n_then ?_
                refine ref_condF rfl rfl ?_
                refine ref_skip ?_
                refine n_block ?_
                refine n_then ?_
                refine ref_region ?_
                refine s_rd (r_move rfl) rfl ?_
                refine s_rd (r_add rfl rfl) rfl ?_
                refine s_rd (r_assign rfl) rfl ?_
                refine b_let (f := iv .i64) (t := 6) rfl fun k92 => ?_
                refine l_nil ?_
                exact goB () (weak [0, 1, 2] ⟨rfl, rfl, rfl, rfl, rfl, trivial⟩ ⟨rfl, rfl, rfl, trivial⟩)
            · refine s_off rfl rfl rfl rfl rfl ?_
              refine s_off rfl rfl rfl rfl rfl ?_
              refine s_off rfl rfl rfl rfl rfl ?_
              refine s_off rfl rfl rfl rfl rfl ?_
              refine s_off rfl rfl rfl rfl rfl ?_
              refine s_off rfl rfl rfl rfl rfl ?_
              refine s_off rfl rfl rfl rfl rfl ?_
              refine s_off rfl rfl rfl rfl rfl ?_
              refine s_rd (r_pickF rfl rfl) rfl ?_
              refine s_rd (r_move rfl) rfl ?_
              refine s_off rfl rfl rfl rfl rfl ?_
              refine s_off rfl rfl rfl rfl rfl ?_
              refine s_off rfl rfl rfl rfl rfl ?_
              refine s_off rfl rfl rfl rfl rfl ?_
              refine s_off rfl rfl rfl rfl rfl ?_
              refine s_rd (r_pickF rfl rfl) rfl ?_
              refine l_nil ?_
              refine n_then ?_
              refine ref_condF rfl rfl ?_
              refine ref_skip ?_
              refine n_block ?_
              refine n_then ?_
              refine ref_region ?_
              refine s_rd (r_move rfl) rfl ?_
              refine s_rd (r_add rfl rfl) rfl ?_
              refine s_rd (r_assign rfl) rfl ?_
              refine b_let (f := iv .i64) (t := 6) rfl fun k93 => ?_
              refine l_nil ?_
              exact goB () (weak [0, 1, 2] ⟨rfl, rfl, rfl, rfl, rfl, trivial⟩ ⟨rfl, rfl, rfl, trivial⟩)
          · refine ref_exit ?_
            refine x_then ?_
            exact brkB () (weak [0, 1, 2] ⟨rfl, rfl, rfl, rfl, trivial⟩ ⟨rfl, rfl, rfl, trivial⟩)
        · refine n_block ?_
          refine n_then ?_
          refine ref_region ?_
          refine s_rd (r_move rfl) rfl ?_
          refine s_rd (r_sub rfl rfl) rfl ?_
          refine s_rd (r_assign rfl) rfl ?_
          refine b_let (f := iv .i64) (t := 5) rfl fun i97 => ?_
          refine l_nil ?_
          exact goB () (weak [0, 1, 2] ⟨rfl, rfl, rfl, rfl, trivial⟩ ⟨rfl, rfl, rfl, trivial⟩)
    · refine ref_exit ?_
      refine x_then ?_
      exact brkB () (weak [2] ⟨rfl, trivial⟩ ⟨rfl, trivial⟩)
  · refine n_then ?_
    refine ref_seq ?_
    refine ref_region ?_
    refine s_rd (r_move rfl) rfl ?_
    refine s_rd (r_assign rfl) rfl ?_
    refine l_nil ?_
    refine n_then ?_
    refine ref_ret ?_
    exact fin1 (.inl rfl) o5 [0] rfl ⟨rfl, trivial⟩ rfl (rv_tmp rfl)

/-! deliberation/deliberationref27.leader -/
noncomputable def ref27_leader_m (status_0 : (List Int)) : Option (Int) :=
  Option.bind (idxM status_0 0) fun t1 =>
  bif t1 == 1 then
    some 1
  else
    some 2

theorem ref27_leader_ok {status_0 : (List Int)} {r : Int} (hm : ref27_leader_m status_0 = some r) :
    FnOk prog 34 [slv (rI .i64) status_0] [] (fun (x : Unit) => [iv .i64 r]) (fun (x : Unit) => []) := by
  refine fn_ok (X := Unit) (fn := Try.f34) (N := 7) (m := ref27_leader_m status_0) (res := fun r x => [iv .i64 r]) (Ω1 := fun r x => []) Try.func34 rfl rfl hm rfl (fun E hM => ?_)
  unfold ref27_leader_m
  refine ref_seq ?_
  refine ref_region ?_
  refine s_rd (r_assign rfl) rfl ?_
  refine l_nil ?_
  refine n_then ?_
  refine ref_seq ?_
  refine ref_seq ?_
  refine ref_region ?_
  refine s_rd (r_move rfl) rfl ?_
  refine pull fun t1 h_t1 => ?_
  refine s_rd (r_index h_t1 Try.underlying22 el_3 rfl rfl) rfl ?_
  refine s_rd (r_load el_3 rfl) rfl ?_
  refine s_rd (r_eql rfl rfl) rfl ?_
  refine l_nil ?_
  refine n_then ?_
  refine ref_cond rfl (fun hb2 => ?_) (fun hb2 => ?_)
  · refine ref_seq ?_
    refine ref_region ?_
    refine s_rd (r_assign rfl) rfl ?_
    refine l_nil ?_
    refine n_then ?_
    refine ref_ret ?_
    refine r_then ?_
    exact fin1 (.inl rfl) () [] rfl trivial rfl (rv_tmp rfl)
  · refine ref_skip ?_
    refine n_then ?_
    refine ref_seq ?_
    refine ref_region ?_
    refine s_rd (r_assign rfl) rfl ?_
    refine l_nil ?_
    refine n_then ?_
    refine ref_ret ?_
    exact fin1 (.inl rfl) () [] rfl trivial rfl (rv_tmp rfl)

/-! deliberation/deliberationnet.In -/
noncomputable def net_In_l1 (l_0 : (List Int)) (x_1 : Int) (s6 : Int) : Option (Sum ((Sum (Bool) (Unit))) (Int)) :=
  bif decide (s6 < (l_0.length : Int)) then
    Option.bind (idxM l_0 s6) fun t9 =>
    bif t9 == x_1 then
      some (Sum.inl (Sum.inl true))
    else
      some (Sum.inr (iadd .i64 s6 1))
  else
    some (Sum.inl (Sum.inr ()))

noncomputable def net_In_m (l_0 : (List Int)) (x_1 : Int) : Option (Bool) :=
  Option.bind (loopC (net_In_l1 l_0 x_1) 0) (sumK (fun a : Bool => some a) fun q11 : Unit =>
    some false)

theorem net_In_ok {l_0 : (List Int)} {x_1 : Int} {r : Bool} (hm : net_In_m l_0 x_1 = some r) :
    FnOk prog 54 [slv (rI .i64) l_0, iv .i64 x_1] [] (fun (x : Unit) => [bv r]) (fun (x : Unit) => []) := by
  refine fn_ok (X := Unit) (fn := Try.f54) (N := 18) (m := net_In_m l_0 x_1) (res := fun r x => [bv r]) (Ω1 := fun r x => []) Try.func54 rfl rfl hm rfl (fun E hM => ?_)
  unfold net_In_m
  refine ref_seq ?_
  refine ref_region ?_
  refine s_rd (r_assign rfl) rfl ?_
  refine l_nil ?_
  refine n_then ?_
  refine ref_seq ?_
  refine ref_seq ?_
  refine ref_region ?_
  refine s_rd (r_assign rfl) rfl ?_
  refine l_nil ?_
  refine n_then ?_
  refine ref_loopX (f := (net_In_l1 l_0 x_1)) (Γl := (fun (s6 : Int) (x7 : Unit) => [(0, slv (rI .i64) l_0), (1, iv .i64 x_1), (5, iv .i64 s6)])) (Ωl := (fun (s6 : Int) (x7 : Unit) => [])) (Γb := (fun (q11 : Unit) (y12 : Unit) => [])) (Ωb := (fun (q11 : Unit) (y12 : Unit) => [])) (kr := (fun a : Bool => some a)) 0 () (weak [] ⟨rfl, rfl, rfl, trivial⟩ trivial) (fun s6 x7 => ?_) (fun q11 y12 => ?_)
  · unfold net_In_l1
    refine ref_seq ?_
    refine ref_seq ?_
    refine ref_region ?_
    refine s_rd (r_move rfl) rfl ?_
    refine s_rd (r_move rfl) rfl ?_
    refine s_rd (r_len Try.underlying22 rfl) rfl ?_
    refine s_rd (r_lss rfl rfl) rfl ?_
    refine l_nil ?_
    refine n_then ?_
    refine ref_cond rfl (fun hb8 => ?_) (fun hb8 => ?_)
    · refine ref_skip ?_
      refine n_then ?_
      refine ref_seq ?_
      refine ref_block ?_
      refine ref_seq ?_
      refine ref_region ?_
      refine s_rd (r_move rfl) rfl ?_
      refine s_rd (r_move rfl) rfl ?_
      refine pull fun t9 h_t9 => ?_
      refine s_rd (r_index h_t9 Try.underlying22 el_3 rfl rfl) rfl ?_
      refine s_rd (r_load el_3 rfl) rfl ?_
      refine s_rd (r_move rfl) rfl ?_
      refine s_rd (r_eql rfl rfl) rfl ?_
      refine l_nil ?_
      refine n_then ?_
      refine ref_cond rfl (fun hb10 => ?_) (fun hb10 => ?_)
      · refine ref_seq ?_
        refine ref_region ?_
        refine s_rd (r_assign rfl) rfl ?_
        refine l_nil ?_
        refine n_then ?_
        refine ref_ret ?_
        refine r_block ?_
        refine r_then ?_
        refine retX ?_
        refine r_block ?_
        refine r_then ?_
        exact fin1 (.inl rfl) () [] rfl trivial rfl (rv_tmp rfl)
      · refine ref_skip ?_
        refine n_block ?_
        refine n_then ?_
        refine ref_region ?_
        refine s_rd (r_move rfl) rfl ?_
        refine s_rd (r_add rfl rfl) rfl ?_
        refine s_rd (r_assign rfl) rfl ?_
        refine l_nil ?_
        exact goX () (weak [] ⟨rfl, rfl, rfl, trivial⟩ trivial)
    · refine ref_exit ?_
      refine x_then ?_
      exact brkX () (weak [] trivial trivial)
  · refine n_then ?_
    refine ref_seq ?_
    refine ref_region ?_
    refine s_rd (r_assign rfl) rfl ?_
    refine l_nil ?_
    refine n_then ?_
    refine ref_ret ?_
    exact fin1 (.inl rfl) () [] rfl trivial rfl (rv_tmp rfl)

/-! deliberation/deliberationref27.Leading -/
noncomputable def ref27_Leading_l1 (d_0 : T_api_Dialogue) (status2 : List Int) (s22 : Int × (List Int)) : Option (Sum ((List Int)) (Int × (List Int))) :=
  bif decide (s22.1 < (d_0.Moves.length : Int)) then
    Option.bind (idxM d_0.Moves s22.1) fun t25 =>
    Option.bind (idxM status2 s22.1) fun t27 =>
    bif t27 == 0 then
      letM (iadd .i64 s22.1 1) fun i39 =>
      some (Sum.inr (i39, s22.2))
    else
      Option.bind (net_In_m s22.2 t25.Target) fun t28 =>
      bif !t28 then
        letM (iadd .i64 s22.1 1) fun i40 =>
        some (Sum.inr (i40, s22.2))
      else
        joinM (fun j33 : Bool =>
            bif j33 then
              Option.bind (appM 8 s22.2 [s22.1]) fun out37 =>
              letM (iadd .i64 s22.1 1) fun i41 =>
              some (Sum.inr (i41, out37))
            else
              letM (iadd .i64 s22.1 1) fun i42 =>
              some (Sum.inr (i42, s22.2))) fun k35 =>
        Option.bind (idxM d_0.Moves t25.Target) fun t30 =>
        Option.bind (ref27_leader_m status2) fun t31 =>
        bif t30.By == t31 then
          k35 true
        else
          Option.bind (idxM status2 s22.1) fun t32 =>
          k35 (t32 == 1)
  else
    some (Sum.inl s22.2)

noncomputable def ref27_Leading_m (d_0 : T_api_Dialogue) : Option (List Int) :=
  Option.bind (ref27_Status_m d_0) fun status2 =>
  Option.bind (loopC (ref27_Leading_l1 d_0 status2) (1, [0])) fun q43 : (List Int) =>
  some q43

theorem ref27_Leading_ok {d_0 : T_api_Dialogue} {r : List Int} (hm : ref27_Leading_m d_0 = some r) :
    FnOk prog 48 [ag [iv .i64 d_0.Graph.N, slv rT_api_Pair d_0.Graph.L, iv .i64 d_0.Root, iv .i64 d_0.Limits.i0, iv .i64 d_0.Limits.i1, slv rT_api_Move d_0.Moves]] [] (fun (x : (Value × List Nat)) => [pv x.1]) (fun (x : (Value × List Nat)) => [oa (rI .i64) x.1 x.2 r]) := by
  refine fn_ok (X := (Value × List Nat)) (fn := Try.f48) (N := 56) (m := ref27_Leading_m d_0) (res := fun r x => [pv x.1]) (Ω1 := fun r x => [oa (rI .i64) x.1 x.2 r]) Try.func48 rfl rfl hm rfl (fun E hM => ?_)
  unfold ref27_Leading_m
  refine ref_seq ?_
  refine ref_region ?_
  refine s_st (s_box (part_ag (ψs := [iv .i64 d_0.Graph.N, slv rT_api_Pair d_0.Graph.L, iv .i64 d_0.Root, iv .i64 d_0.Limits.i0, iv .i64 d_0.Limits.i1, slv rT_api_Move d_0.Moves]) rfl (by intro φ h; simp only [List.mem_cons, List.not_mem_nil, or_false] at h; rcases h with rfl | rfl | rfl | rfl | rfl | rfl <;> first | exact iv_at | exact bv_at | exact sv_at | exact slv_at | exact pv_at rfl))) rfl (fun b1 => ?_)
  refine s_rd (r_assign rfl) rfl ?_
  refine l_nil ?_
  refine n_then ?_
  refine ref_seq ?_
  refine ref_region ?_
  refine s_rd (r_cloadS Try.isAgg31 Try.sizeOf31 rfl (j := 0) rfl rfl rfl) rfl ?_
  refine pull fun status2 h_status2 => ?_
  refine s_st (s_call (ψ := fun (x3 : (Value × List Nat)) => pv x3.1) (args := [.tmp 7]) Try.call31 rfl (ref27_Status_ok h_status2) ⟨arg rfl, trivial⟩ (fun _ _ _ _ h => h)) rfl (fun x3 => ?_)
  refine s_rd (r_assign rfl) rfl ?_
  refine l_nil ?_
  refine n_then ?_
  refine ref_seq ?_
  refine ref_region ?_
  refine s_st (s_bsliceO (xs := [.const (.int .i64 (0))]) (ds := [0]) Try.underlying22 el_3 rfl (Nat.le_of_ble_eq_true rfl) ⟨(part_at rfl iv_at), trivial⟩) rfl (fun o4 => ?_)
  refine s_rd (r_assign rfl) rfl ?_
  refine l_nil ?_
  refine n_then ?_
  refine ref_seq ?_
  refine ref_seq ?_
  refine ref_region ?_
  refine s_rd (r_assign rfl) rfl ?_
  refine l_nil ?_
  refine n_then ?_
  refine ref_loopB (f := (ref27_Leading_l1 d_0 status2)) (Γl := (fun (s22 : Int × (List Int)) (x23 : (Value × List Nat)) => [(1, pv (ptr b1 0)), (3, pv x3.1), (4, pv x23.1), (5, iv .i64 s22.1)])) (Ωl := (fun (s22 : Int × (List Int)) (x23 : (Value × List Nat)) => [oc b1 [iv .i64 d_0.Graph.N, slv rT_api_Pair d_0.Graph.L, iv .i64 d_0.Root, iv .i64 d_0.Limits.i0, iv .i64 d_0.Limits.i1, slv rT_api_Move d_0.Moves], oa (rI .i64) x3.1 x3.2 status2, oa (rI .i64) x23.1 x23.2 s22.2])) (Γb := (fun (q43 : (List Int)) (y44 : (Value × List Nat)) => [(4, pv y44.1)])) (Ωb := (fun (q43 : (List Int)) (y44 : (Value × List Nat)) => [oa (rI .i64) y44.1 y44.2 q43])) (1, [0]) o4 (weak [0, 1, 2] ⟨rfl, rfl, rfl, rfl, trivial⟩ ⟨rfl, rfl, rfl, trivial⟩) (fun s22 x23 => ?_) (fun q43 y44 => ?_)
  · unfold ref27_Leading_l1
    refine ref_seq ?_
    refine ref_seq ?_
    refine ref_region ?_
    refine s_rd (r_move rfl) rfl ?_
    refine s_rd (r_faddr (fo := 5) Try.underlying31 rfl rfl Try.sizeOf29 rfl) rfl ?_
    refine s_rd (r_cload Try.isAgg29 rfl (j := 0) rfl rfl) rfl ?_
    refine s_rd (r_len Try.underlying29 rfl) rfl ?_
    refine s_rd (r_lss rfl rfl) rfl ?_
    refine l_nil ?_
    refine n_then ?_
    refine ref_cond rfl (fun hb24 => ?_) (fun hb24 => ?_)
    · refine ref_skip ?_
      refine n_then ?_
      refine ref_seq ?_
      refine ref_block ?_
      refine ref_seq ?_
      refine ref_region ?_
      refine s_rd (r_faddr (fo := 5) Try.underlying31 rfl rfl Try.sizeOf29 rfl) rfl ?_
      refine s_rd (r_cload Try.isAgg29 rfl (j := 0) rfl rfl) rfl ?_
      refine s_rd (r_move rfl) rfl ?_
      refine pull fun t25 h_t25 => ?_
      refine s_rd (r_index h_t25 Try.underlying29 el_38 rfl rfl) rfl ?_
      refine s_rd (r_load el_38 rfl) rfl ?_
      refine s_st (s_alloc zt_38) rfl (fun b26 => ?_)
      refine s_st0 (s_cstore (out := [iv .i64 t25.By, iv .i64 t25.Kind, iv .i64 t25.Node, iv .i64 t25.Target]) Try.sizeOf38 rfl (j := 3) rfl (part_ag (ψs := [iv .i64 t25.By, iv .i64 t25.Kind, iv .i64 t25.Node, iv .i64 t25.Target]) rfl (by intro φ h; simp only [List.mem_cons, List.not_mem_nil, or_false] at h; rcases h with rfl | rfl | rfl | rfl <;> first | exact iv_at | exact bv_at | exact sv_at | exact slv_at | exact pv_at rfl)) rfl rfl rfl) (fun _ => ?_)
      refine l_nil ?_
      refine b_of (nrm [oc b1 [iv .i64 d_0.Graph.N, slv rT_api_Pair d_0.Graph.L, iv .i64 d_0.Root, iv .i64 d_0.Limits.i0, iv .i64 d_0.Limits.i1, slv rT_api_Move d_0.Moves], oa (rI .i64) x3.1 x3.2 status2, oa (rI .i64) x23.1 x23.2 s22.2, oc b26 [iv .i64 t25.By, iv .i64 t25.Kind, iv .i64 t25.Node, iv .i64 t25.Target]] rfl) ?_
      refine n_then ?_
      refine ref_seq ?_
      refine ref_seq ?_
      refine ref_region ?_
      refine s_rd (r_move rfl) rfl ?_
      refine s_rd (r_move rfl) rfl ?_
      refine pull fun t27 h_t27 => ?_
      refine s_rd (r_oindex h_t27 Try.underlying22 el_3 rfl (j := 1) rfl rfl) rfl ?_
      refine s_rd (r_oload h_t27 el_3 rfl (j := 1) rfl) rfl ?_
      refine s_rd (r_eql rfl rfl) rfl ?_
      refine s_rd (r_move rfl) rfl ?_
      refine b_split (t := 27) rfl (fun _ => ?_) (fun _ => ?_)
      · refine s_off rfl rfl rfl rfl rfl ?_
        refine s_off rfl rfl rfl rfl rfl ?_
        refine s_off rfl rfl rfl rfl rfl ?_
        refine s_off rfl rfl rfl rfl rfl ?_
        refine s_off rfl rfl rfl rfl rfl ?_
        refine s_rd (r_pickT rfl rfl) rfl ?_
        refine l_nil ?_
        refine n_then ?_
        refine ref_condT rfl rfl ?_
        refine ref_exit ?_
        refine x_then ?_
        refine x_eq ?_
        refine n_then ?_
        refine ref_region ?_
        refine s_rd (r_move rfl) rfl ?_
        refine s_rd (r_add rfl rfl) rfl ?_
        refine s_rd (r_assign rfl) rfl ?_
        refine b_let (f := iv .i64) (t := 5) rfl fun i39 => ?_
        refine l_nil ?_
        exact goB x23 (weak [0, 1, 2] ⟨rfl, rfl, rfl, rfl, trivial⟩ ⟨rfl, rfl, rfl, trivial⟩)
      · refine s_on rfl rfl rfl ?_
        refine s_rd (r_move rfl) rfl ?_
        refine s_on rfl rfl rfl ?_
        refine s_rd (r_faddr (fo := 3) Try.underlying38 rfl rfl Try.sizeOf3 rfl) rfl ?_
        refine s_on rfl rfl rfl ?_
        refine s_rd (r_cload Try.isAgg3 rfl (j := 3) rfl rfl) rfl ?_
        refine s_on rfl rfl rfl ?_
        refine pull fun t28 h_t28 => ?_
        refine s_st (s_callB (ψ := fun (_ : Unit) => bv t28) (args := [.tmp 28, .tmp 30]) Try.call54 rfl (net_In_ok h_t28) ⟨argO rfl (j := 2) rfl, argB rfl, trivial⟩ (fun _ _ _ _ _ h => h)) rfl (fun _ => ?_)
        refine s_on rfl rfl rfl ?_
        refine s_rd (r_not rfl) rfl ?_
        refine s_rd (r_pickF rfl rfl) rfl ?_
        refine l_nil ?_
        refine n_then ?_
        refine ref_cond rfl (fun hb29 => ?_) (fun hb29 => ?_)
        · refine ref_exit ?_
          refine x_then ?_
          refine x_eq ?_
          refine n_then ?_
          refine ref_region ?_
          refine s_rd (r_move rfl) rfl ?_
          refine s_rd (r_add rfl rfl) rfl ?_
          refine s_rd (r_assign rfl) rfl ?_
          refine b_let (f := iv .i64) (t := 5) rfl fun i40 => ?_
          refine l_nil ?_
          exact goB x23 (weak [0, 1, 2] ⟨rfl, rfl, rfl, rfl, trivial⟩ ⟨rfl, rfl, rfl, trivial⟩)
        · refine ref_skip ?_
          refine n_then ?_
          refine ref_seq ?_
          refine ref_join (fun (j33 : Bool) (x34 : Unit) => [(1, pv (ptr b1 0)), (3, pv x3.1), (4, pv x23.1), (5, iv .i64 s22.1), (28, pv x23.1), (29, pv (ptr b26 3)), (30, iv .i64 t25.Target), (31, bv t28), (32, bv (!t28)), (50, bv j33)]) (fun (j33 : Bool) (x34 : Unit) => [oc b1 [iv .i64 d_0.Graph.N, slv rT_api_Pair d_0.Graph.L, iv .i64 d_0.Root, iv .i64 d_0.Limits.i0, iv .i64 d_0.Limits.i1, slv rT_api_Move d_0.Moves], oa (rI .i64) x3.1 x3.2 status2, oa (rI .i64) x23.1 x23.2 s22.2, oc b26 [iv .i64 t25.By, iv .i64 t25.Kind, iv .i64 t25.Node, iv .i64 t25.Target]]) (fun k35 hk35 => ?_) (fun j33 x34 => ?_)
          · refine ref_draw [0, 1, 2, 3, 4, 5, 6, 7, 9, 10, 11, 12, 13, 14, 15, 16] rfl (by kernel_rfl) (fun hok => ?_)
            refine a_rd (i := 0) hok rfl (by kernel_rfl) rfl (r_faddr (fo := 5) Try.underlying31 rfl rfl Try.sizeOf29 rfl) rfl ?_
            refine a_rd (i := 1) hok rfl (by kernel_rfl) rfl (r_cload Try.isAgg29 rfl (j := 0) rfl rfl) rfl ?_
            refine a_rd (i := 2) hok rfl (by kernel_rfl) rfl (r_faddr (fo := 3) Try.underlying38 rfl rfl Try.sizeOf3 rfl) rfl ?_
            refine a_rd (i := 3) hok rfl (by kernel_rfl) rfl (r_cload Try.isAgg3 rfl (j := 3) rfl rfl) rfl ?_
            refine pull fun t30 h_t30 => ?_
            refine a_rd (i := 4) hok rfl (by kernel_rfl) rfl (r_index h_t30 Try.underlying29 el_38 rfl rfl) rfl ?_
            refine a_rd (i := 5) hok rfl (by kernel_rfl) rfl (r_fea (fo := 0) (ρ := rT_api_Move) (y := t30) (ρ' := (rI .i64)) (z := t30.By) Try.underlying38 rfl rfl Try.sizeOf3 rfl rfl rfl) rfl ?_
            refine a_rd (i := 6) hok rfl (by kernel_rfl) rfl (r_load el_3 rfl) rfl ?_
            refine a_rd (i := 7) hok rfl (by kernel_rfl) rfl (r_move rfl) rfl ?_
            refine pull fun t31 h_t31 => ?_
            refine a_next hok 8 [] (by kernel_rfl) ?_ trivial
            refine a_st (i := 8) hok rfl rfl (s_callB (ψ := fun (_ : Unit) => iv .i64 t31) (args := [.tmp 41]) Try.call34 rfl (ref27_leader_ok h_t31) ⟨argO rfl (j := 1) rfl, trivial⟩ (fun _ _ _ _ _ h => h)) (by intro _ h; cases h; rfl) (fun _ => ⟨trivial, ⟨trivial, ⟨trivial, ⟨trivial, ⟨⟨⟨rfl, rfl⟩, trivial⟩, ⟨trivial, ⟨⟨⟨rfl, rfl⟩, trivial⟩, ⟨trivial, trivial⟩⟩⟩⟩⟩⟩⟩⟩) (fun _ => ?_)
            refine a_rd (i := 9) hok rfl (by kernel_rfl) rfl (r_eql rfl rfl) rfl ?_
            refine a_rd (i := 10) hok rfl (by kernel_rfl) rfl (r_move rfl) rfl ?_
            refine b_split (t := 44) rfl (fun _ => ?_) (fun _ => ?_)
            · refine a_off (i := 11) hok rfl rfl rfl rfl rfl (by kernel_rfl) rfl rfl ?_
              refine a_off (i := 12) hok rfl rfl rfl rfl rfl (by kernel_rfl) rfl rfl ?_
              refine a_off (i := 13) hok rfl rfl rfl rfl rfl (by kernel_rfl) rfl rfl ?_
              refine a_off (i := 14) hok rfl rfl rfl rfl rfl (by kernel_rfl) rfl rfl ?_
              refine a_off (i := 15) hok rfl rfl rfl rfl rfl (by kernel_rfl) rfl rfl ?_
              refine a_rd (i := 16) hok rfl (by kernel_rfl) rfl (r_pickT rfl rfl) rfl ?_
              refine a_fin hok (by kernel_rfl) ?_
              exact b_to (hk35 true ()) (weak [0, 1, 2, 3] ⟨rfl, rfl, rfl, rfl, rfl, rfl, rfl, rfl, rfl, rfl, trivial⟩ ⟨rfl, rfl, rfl, rfl, trivial⟩)
            · refine a_rdOn (i := 11) hok rfl rfl rfl rfl (by kernel_rfl) rfl (r_move rfl) rfl ?_
              refine a_rdOn (i := 12) hok rfl rfl rfl rfl (by kernel_rfl) rfl (r_move rfl) rfl ?_
              refine pull fun t32 h_t32 => ?_
              refine a_rdOn (i := 13) hok rfl rfl rfl rfl (by kernel_rfl) rfl (r_oindex h_t32 Try.underlying22 el_3 rfl (j := 1) rfl rfl) rfl ?_
              refine a_rdOn (i := 14) hok rfl rfl rfl rfl (by kernel_rfl) rfl (r_oload h_t32 el_3 rfl (j := 1) rfl) rfl ?_
              refine a_rdOn (i := 15) hok rfl rfl rfl rfl (by kernel_rfl) rfl (r_eql rfl rfl) rfl ?_
              refine a_rd (i := 16) hok rfl (by kernel_rfl) rfl (r_pickF rfl rfl) rfl ?_
              refine a_fin hok (by kernel_rfl) ?_
              exact b_to (hk35 (t32 == 1) ()) (weak [0, 1, 2, 3] ⟨rfl, rfl, rfl, rfl, rfl, rfl, rfl, rfl, rfl, rfl, trivial⟩ ⟨rfl, rfl, rfl, rfl, trivial⟩)
          · refine n_then ?_
            refine ref_cond rfl (fun hb36 => ?_) (fun hb36 => ?_)
            · refine ref_region ?_
              refine s_rd (r_move rfl) rfl ?_
              refine s_rd (r_move rfl) rfl ?_
              refine s_st (s_bslice (xs := [.tmp 52]) (ds := [s22.1]) Try.underlying22 el_3 rfl (Nat.le_of_ble_eq_true rfl) ⟨(part_at rfl iv_at), trivial⟩) rfl (fun _ => ?_)
              refine pull fun out37 h_out37 => ?_
              refine s_st (s_append h_out37 Try.underlying22 el_3 rfl (j := 2) rfl rfl) rfl (fun o38 => ?_)
              refine s_rd (r_assign rfl) rfl ?_
              refine l_nil ?_
              refine n_block ?_
              refine n_then ?_
              refine ref_region ?_
              refine s_rd (r_move rfl) rfl ?_
              refine s_rd (r_add rfl rfl) rfl ?_
              refine s_rd (r_assign rfl) rfl ?_
              refine b_let (f := iv .i64) (t := 5) rfl fun i41 => ?_
              refine l_nil ?_
              exact goB o38 (weak [0, 1, 2] ⟨rfl, rfl, rfl, rfl, trivial⟩ ⟨rfl, rfl, rfl, trivial⟩)
            · refine ref_skip ?_
              refine n_block ?_
              refine n_then ?_
              refine ref_region ?_
              refine s_rd (r_move rfl) rfl ?_
              refine s_rd (r_add rfl rfl) rfl ?_
              refine s_rd (r_assign rfl) rfl ?_
              refine b_let (f := iv .i64) (t := 5) rfl fun i42 => ?_
              refine l_nil ?_
              exact goB x23 (weak [0, 1, 2] ⟨rfl, rfl, rfl, rfl, trivial⟩ ⟨rfl, rfl, rfl, trivial⟩)
    · refine ref_exit ?_
      refine x_then ?_
      exact brkB x23 (weak [2] ⟨rfl, trivial⟩ ⟨rfl, trivial⟩)
  · refine n_then ?_
    refine ref_seq ?_
    refine ref_region ?_
    refine s_rd (r_move rfl) rfl ?_
    refine s_rd (r_assign rfl) rfl ?_
    refine l_nil ?_
    refine n_then ?_
    refine ref_ret ?_
    exact fin1 (.inl rfl) y44 [0] rfl ⟨rfl, trivial⟩ rfl (rv_tmp rfl)

/-! deliberation/deliberationnet.Has -/
noncomputable def net_Has_l1 (g_0 : T_api_Graph) (from__1 : Int) (to__2 : Int) (s8 : Int) : Option (Sum ((Sum (Bool) (Unit))) (Int)) :=
  bif decide (s8 < (g_0.L.length : Int)) then
    Option.bind (idxM g_0.L s8) fun t11 =>
    bif t11.From == from__1 then
      Option.bind (idxM g_0.L s8) fun t12 =>
      bif t12.To == to__2 then
        some (Sum.inl (Sum.inl true))
      else
        some (Sum.inr (iadd .i64 s8 1))
    else
      some (Sum.inr (iadd .i64 s8 1))
  else
    some (Sum.inl (Sum.inr ()))

noncomputable def net_Has_m (g_0 : T_api_Graph) (from__1 : Int) (to__2 : Int) : Option (Bool) :=
  Option.bind (loopC (net_Has_l1 g_0 from__1 to__2) 0) (sumK (fun a : Bool => some a) fun q14 : Unit =>
    some false)

theorem net_Has_ok {g_0 : T_api_Graph} {from__1 : Int} {to__2 : Int} {r : Bool} (hm : net_Has_m g_0 from__1 to__2 = some r) :
    FnOk prog 43 [ag [iv .i64 g_0.N, slv rT_api_Pair g_0.L], iv .i64 from__1, iv .i64 to__2] [] (fun (x : Unit) => [bv r]) (fun (x : Unit) => []) := by
  refine fn_ok (X := Unit) (fn := Try.f43) (N := 33) (m := net_Has_m g_0 from__1 to__2) (res := fun r x => [bv r]) (Ω1 := fun r x => []) Try.func43 rfl rfl hm rfl (fun E hM => ?_)
  unfold net_Has_m
  refine ref_seq ?_
  refine ref_region ?_
  refine s_st (s_box (part_ag (ψs := [iv .i64 g_0.N, slv rT_api_Pair g_0.L]) rfl (by intro φ h; simp only [List.mem_cons, List.not_mem_nil, or_false] at h; rcases h with rfl | rfl <;> first | exact iv_at | exact bv_at | exact sv_at | exact slv_at | exact pv_at rfl))) rfl (fun b1 => ?_)
  refine s_rd (r_assign rfl) rfl ?_
  refine l_nil ?_
  refine n_then ?_
  refine ref_seq ?_
  refine ref_seq ?_
  refine ref_region ?_
  refine s_rd (r_assign rfl) rfl ?_
  refine l_nil ?_
  refine n_then ?_
  refine ref_loopX (f := (net_Has_l1 g_0 from__1 to__2)) (Γl := (fun (s8 : Int) (x9 : Unit) => [(1, iv .i64 from__1), (2, iv .i64 to__2), (3, pv (ptr b1 0)), (7, iv .i64 s8)])) (Ωl := (fun (s8 : Int) (x9 : Unit) => [oc b1 [iv .i64 g_0.N, slv rT_api_Pair g_0.L]])) (Γb := (fun (q14 : Unit) (y15 : Unit) => [])) (Ωb := (fun (q14 : Unit) (y15 : Unit) => [])) (kr := (fun a : Bool => some a)) 0 () (weak [0] ⟨rfl, rfl, rfl, rfl, trivial⟩ ⟨rfl, trivial⟩) (fun s8 x9 => ?_) (fun q14 y15 => ?_)
  · unfold net_Has_l1
    refine ref_seq ?_
    refine ref_seq ?_
    refine ref_region ?_
    refine s_rd (r_move rfl) rfl ?_
    refine s_rd (r_faddr (fo := 1) Try.underlying27 rfl rfl Try.sizeOf25 rfl) rfl ?_
    refine s_rd (r_cload Try.isAgg25 rfl (j := 0) rfl rfl) rfl ?_
    refine s_rd (r_len Try.underlying25 rfl) rfl ?_
    refine s_rd (r_lss rfl rfl) rfl ?_
    refine l_nil ?_
    refine n_then ?_
    refine ref_cond rfl (fun hb10 => ?_) (fun hb10 => ?_)
    · refine ref_skip ?_
      refine n_then ?_
      refine ref_seq ?_
      refine ref_block ?_
      refine ref_seq ?_
      refine ref_region ?_
      refine s_rd (r_faddr (fo := 1) Try.underlying27 rfl rfl Try.sizeOf25 rfl) rfl ?_
      refine s_rd (r_cload Try.isAgg25 rfl (j := 0) rfl rfl) rfl ?_
      refine s_rd (r_move rfl) rfl ?_
      refine pull fun t11 h_t11 => ?_
      refine s_rd (r_index h_t11 Try.underlying25 el_71 rfl rfl) rfl ?_
      refine s_rd (r_fea (fo := 0) (ρ := rT_api_Pair) (y := t11) (ρ' := (rI .i64)) (z := t11.From) Try.underlying71 rfl rfl Try.sizeOf3 rfl rfl rfl) rfl ?_
      refine s_rd (r_load el_3 rfl) rfl ?_
      refine s_rd (r_move rfl) rfl ?_
      refine s_rd (r_eql rfl rfl) rfl ?_
      refine s_rd (r_move rfl) rfl ?_
      refine b_split (t := 23) rfl (fun _ => ?_) (fun _ => ?_)
      · refine s_on rfl rfl rfl ?_
        refine s_rd (r_faddr (fo := 1) Try.underlying27 rfl rfl Try.sizeOf25 rfl) rfl ?_
        refine s_on rfl rfl rfl ?_
        refine s_rd (r_cload Try.isAgg25 rfl (j := 0) rfl rfl) rfl ?_
        refine s_on rfl rfl rfl ?_
        refine s_rd (r_move rfl) rfl ?_
        refine s_on rfl rfl rfl ?_
        refine pull fun t12 h_t12 => ?_
        refine s_rd (r_index h_t12 Try.underlying25 el_71 rfl rfl) rfl ?_
        refine s_on rfl rfl rfl ?_
        refine s_rd (r_fea (fo := 1) (ρ := rT_api_Pair) (y := t12) (ρ' := (rI .i64)) (z := t12.To) Try.underlying71 rfl rfl Try.sizeOf3 rfl rfl rfl) rfl ?_
        refine s_on rfl rfl rfl ?_
        refine s_rd (r_load el_3 rfl) rfl ?_
        refine s_on rfl rfl rfl ?_
        refine s_rd (r_move rfl) rfl ?_
        refine s_on rfl rfl rfl ?_
        refine s_rd (r_eql rfl rfl) rfl ?_
        refine s_rd (r_pickT rfl rfl) rfl ?_
        refine l_nil ?_
        refine n_then ?_
        refine ref_cond rfl (fun hb13 => ?_) (fun hb13 => ?_)
        · refine ref_seq ?_
          refine ref_region ?_
          refine s_rd (r_assign rfl) rfl ?_
          refine l_nil ?_
          refine n_then ?_
          refine ref_ret ?_
          refine r_block ?_
          refine r_then ?_
          refine retX ?_
          refine r_block ?_
          refine r_then ?_
          exact fin1 (.inl rfl) () [] rfl trivial rfl (rv_tmp rfl)
        · refine ref_skip ?_
          refine n_block ?_
          refine n_then ?_
          refine ref_region ?_
          refine s_rd (r_move rfl) rfl ?_
          refine s_rd (r_add rfl rfl) rfl ?_
          refine s_rd (r_assign rfl) rfl ?_
          refine l_nil ?_
          exact goX () (weak [0] ⟨rfl, rfl, rfl, rfl, trivial⟩ ⟨rfl, trivial⟩)
      · refine s_off rfl rfl rfl rfl rfl ?_
        refine s_off rfl rfl rfl rfl rfl ?_
        refine s_off rfl rfl rfl rfl rfl ?_
        refine s_off rfl rfl rfl rfl rfl ?_
        refine s_off rfl rfl rfl rfl rfl ?_
        refine s_off rfl rfl rfl rfl rfl ?_
        refine s_off rfl rfl rfl rfl rfl ?_
        refine s_off rfl rfl rfl rfl rfl ?_
        refine s_rd (r_pickF rfl rfl) rfl ?_
        refine l_nil ?_
        refine n_then ?_
        refine ref_condF rfl rfl ?_
        refine ref_skip ?_
        refine n_block ?_
        refine n_then ?_
        refine ref_region ?_
        refine s_rd (r_move rfl) rfl ?_
        refine s_rd (r_add rfl rfl) rfl ?_
        refine s_rd (r_assign rfl) rfl ?_
        refine l_nil ?_
        exact goX () (weak [0] ⟨rfl, rfl, rfl, rfl, trivial⟩ ⟨rfl, trivial⟩)
    · refine ref_exit ?_
      refine x_then ?_
      exact brkX () (weak [] trivial trivial)
  · refine n_then ?_
    refine ref_seq ?_
    refine ref_region ?_
    refine s_rd (r_assign rfl) rfl ?_
    refine l_nil ?_
    refine n_then ?_
    refine ref_ret ?_
    exact fin1 (.inl rfl) () [] rfl trivial rfl (rv_tmp rfl)

/-! deliberation/deliberationref27.repeated -/
noncomputable def ref27_repeated_l1 (d_0 : T_api_Dialogue) (node_2 : Int) (s12 : Int) : Option (Sum ((Sum (Bool) (Unit))) (Int)) :=
  bif decide (s12 > 0) then
    joinM (fun j18 : Unit =>
        Option.bind (idxM d_0.Moves s12) fun t21 =>
        some (Sum.inr t21.Target)) fun k20 =>
    Option.bind (idxM d_0.Moves s12) fun t15 =>
    bif t15.By == 1 then
      Option.bind (idxM d_0.Moves s12) fun t16 =>
      bif t16.Node == node_2 then
        some (Sum.inl (Sum.inl true))
      else
        k20 ()
    else
      k20 ()
  else
    some (Sum.inl (Sum.inr ()))

noncomputable def ref27_repeated_m (d_0 : T_api_Dialogue) (at__1 : Int) (node_2 : Int) : Option (Bool) :=
  Option.bind (loopC (ref27_repeated_l1 d_0 node_2) at__1) (sumK (fun a : Bool => some a) fun q22 : Unit =>
    Option.bind (idxM d_0.Moves 0) fun t24 =>
    letM (t24.Node == node_2) fun t25 =>
    some t25)

theorem ref27_repeated_ok {d_0 : T_api_Dialogue} {at__1 : Int} {node_2 : Int} {r : Bool} (hm : ref27_repeated_m d_0 at__1 node_2 = some r) :
    FnOk prog 49 [ag [iv .i64 d_0.Graph.N, slv rT_api_Pair d_0.Graph.L, iv .i64 d_0.Root, iv .i64 d_0.Limits.i0, iv .i64 d_0.Limits.i1, slv rT_api_Move d_0.Moves], iv .i64 at__1, iv .i64 node_2] [] (fun (x : Unit) => [bv r]) (fun (x : Unit) => []) := by
  refine fn_ok (X := Unit) (fn := Try.f49) (N := 39) (m := ref27_repeated_m d_0 at__1 node_2) (res := fun r x => [bv r]) (Ω1 := fun r x => []) Try.func49 rfl rfl hm rfl (fun E hM => ?_)
  unfold ref27_repeated_m
  refine ref_seq ?_
  refine ref_region ?_
  refine s_st (s_box (part_ag (ψs := [iv .i64 d_0.Graph.N, slv rT_api_Pair d_0.Graph.L, iv .i64 d_0.Root, iv .i64 d_0.Limits.i0, iv .i64 d_0.Limits.i1, slv rT_api_Move d_0.Moves]) rfl (by intro φ h; simp only [List.mem_cons, List.not_mem_nil, or_false] at h; rcases h with rfl | rfl | rfl | rfl | rfl | rfl <;> first | exact iv_at | exact bv_at | exact sv_at | exact slv_at | exact pv_at rfl))) rfl (fun b1 => ?_)
  refine s_rd (r_assign rfl) rfl ?_
  refine l_nil ?_
  refine n_then ?_
  refine ref_seq ?_
  refine ref_loopX (f := (ref27_repeated_l1 d_0 node_2)) (Γl := (fun (s12 : Int) (x13 : Unit) => [(1, iv .i64 s12), (2, iv .i64 node_2), (3, pv (ptr b1 0))])) (Ωl := (fun (s12 : Int) (x13 : Unit) => [oc b1 [iv .i64 d_0.Graph.N, slv rT_api_Pair d_0.Graph.L, iv .i64 d_0.Root, iv .i64 d_0.Limits.i0, iv .i64 d_0.Limits.i1, slv rT_api_Move d_0.Moves]])) (Γb := (fun (q22 : Unit) (y23 : Unit) => [(2, iv .i64 node_2), (3, pv (ptr b1 0))])) (Ωb := (fun (q22 : Unit) (y23 : Unit) => [oc b1 [iv .i64 d_0.Graph.N, slv rT_api_Pair d_0.Graph.L, iv .i64 d_0.Root, iv .i64 d_0.Limits.i0, iv .i64 d_0.Limits.i1, slv rT_api_Move d_0.Moves]])) (kr := (fun a : Bool => some a)) at__1 () (weak [0] ⟨rfl, rfl, rfl, trivial⟩ ⟨rfl, trivial⟩) (fun s12 x13 => ?_) (fun q22 y23 => ?_)
  · unfold ref27_repeated_l1
    refine ref_seq ?_
    refine ref_seq ?_
    refine ref_region ?_
    refine s_rd (r_move rfl) rfl ?_
    refine s_rd (r_gtr rfl rfl) rfl ?_
    refine l_nil ?_
    refine n_then ?_
    refine ref_cond rfl (fun hb14 => ?_) (fun hb14 => ?_)
    · refine ref_skip ?_
      refine n_then ?_
      refine ref_block ?_
      refine ref_seq ?_
      refine ref_join (fun (j18 : Unit) (x19 : Unit) => [(1, iv .i64 s12), (2, iv .i64 node_2), (3, pv (ptr b1 0))]) (fun (j18 : Unit) (x19 : Unit) => [oc b1 [iv .i64 d_0.Graph.N, slv rT_api_Pair d_0.Graph.L, iv .i64 d_0.Root, iv .i64 d_0.Limits.i0, iv .i64 d_0.Limits.i1, slv rT_api_Move d_0.Moves]]) (fun k20 hk20 => ?_) (fun j18 x19 => ?_)
      · refine ref_seq ?_
        refine ref_region ?_
        refine s_rd (r_faddr (fo := 5) Try.underlying31 rfl rfl Try.sizeOf29 rfl) rfl ?_
        refine s_rd (r_cload Try.isAgg29 rfl (j := 0) rfl rfl) rfl ?_
        refine s_rd (r_move rfl) rfl ?_
        refine pull fun t15 h_t15 => ?_
        refine s_rd (r_index h_t15 Try.underlying29 el_38 rfl rfl) rfl ?_
        refine s_rd (r_fea (fo := 0) (ρ := rT_api_Move) (y := t15) (ρ' := (rI .i64)) (z := t15.By) Try.underlying38 rfl rfl Try.sizeOf3 rfl rfl rfl) rfl ?_
        refine s_rd (r_load el_3 rfl) rfl ?_
        refine s_rd (r_eql rfl rfl) rfl ?_
        refine s_rd (r_move rfl) rfl ?_
        refine b_split (t := 16) rfl (fun _ => ?_) (fun _ => ?_)
        · refine s_on rfl rfl rfl ?_
          refine s_rd (r_faddr (fo := 5) Try.underlying31 rfl rfl Try.sizeOf29 rfl) rfl ?_
          refine s_on rfl rfl rfl ?_
          refine s_rd (r_cload Try.isAgg29 rfl (j := 0) rfl rfl) rfl ?_
          refine s_on rfl rfl rfl ?_
          refine s_rd (r_move rfl) rfl ?_
          refine s_on rfl rfl rfl ?_
          refine pull fun t16 h_t16 => ?_
          refine s_rd (r_index h_t16 Try.underlying29 el_38 rfl rfl) rfl ?_
          refine s_on rfl rfl rfl ?_
          refine s_rd (r_fea (fo := 2) (ρ := rT_api_Move) (y := t16) (ρ' := (rI .i64)) (z := t16.Node) Try.underlying38 rfl rfl Try.sizeOf3 rfl rfl rfl) rfl ?_
          refine s_on rfl rfl rfl ?_
          refine s_rd (r_load el_3 rfl) rfl ?_
          refine s_on rfl rfl rfl ?_
          refine s_rd (r_move rfl) rfl ?_
          refine s_on rfl rfl rfl ?_
          refine s_rd (r_eql rfl rfl) rfl ?_
          refine s_rd (r_pickT rfl rfl) rfl ?_
          refine l_nil ?_
          refine n_then ?_
          refine ref_cond rfl (fun hb17 => ?_) (fun hb17 => ?_)
          · refine ref_seq ?_
            refine ref_region ?_
            refine s_rd (r_assign rfl) rfl ?_
            refine l_nil ?_
            refine n_then ?_
            refine ref_ret ?_
            refine r_then ?_
            refine r_block ?_
            refine retX ?_
            refine r_block ?_
            refine r_then ?_
            exact fin1 (.inl rfl) () [] rfl trivial rfl (rv_tmp rfl)
          · refine ref_skip ?_
            exact b_to (hk20 () ()) (weak [0] ⟨rfl, rfl, rfl, trivial⟩ ⟨rfl, trivial⟩)
        · refine s_off rfl rfl rfl rfl rfl ?_
          refine s_off rfl rfl rfl rfl rfl ?_
          refine s_off rfl rfl rfl rfl rfl ?_
          refine s_off rfl rfl rfl rfl rfl ?_
          refine s_off rfl rfl rfl rfl rfl ?_
          refine s_off rfl rfl rfl rfl rfl ?_
          refine s_off rfl rfl rfl rfl rfl ?_
          refine s_off rfl rfl rfl rfl rfl ?_
          refine s_rd (r_pickF rfl rfl) rfl ?_
          refine l_nil ?_
          refine n_then ?_
          refine ref_condF rfl rfl ?_
          refine ref_skip ?_
          exact b_to (hk20 () ()) (weak [0] ⟨rfl, rfl, rfl, trivial⟩ ⟨rfl, trivial⟩)
      · refine n_then ?_
        refine ref_region ?_
        refine s_rd (r_faddr (fo := 5) Try.underlying31 rfl rfl Try.sizeOf29 rfl) rfl ?_
        refine s_rd (r_cload Try.isAgg29 rfl (j := 0) rfl rfl) rfl ?_
        refine s_rd (r_move rfl) rfl ?_
        refine pull fun t21 h_t21 => ?_
        refine s_rd (r_index h_t21 Try.underlying29 el_38 rfl rfl) rfl ?_
        refine s_rd (r_fea (fo := 3) (ρ := rT_api_Move) (y := t21) (ρ' := (rI .i64)) (z := t21.Target) Try.underlying38 rfl rfl Try.sizeOf3 rfl rfl rfl) rfl ?_
        refine s_rd (r_load el_3 rfl) rfl ?_
        refine s_rd (r_assign rfl) rfl ?_
        refine l_nil ?_
        refine n_block ?_
        exact goX () (weak [0] ⟨rfl, rfl, rfl, trivial⟩ ⟨rfl, trivial⟩)
    · refine ref_exit ?_
      refine x_then ?_
      exact brkX () (weak [0] ⟨rfl, rfl, trivial⟩ ⟨rfl, trivial⟩)
  · refine n_then ?_
    refine ref_seq ?_
    refine ref_region ?_
    refine s_rd (r_faddr (fo := 5) Try.underlying31 rfl rfl Try.sizeOf29 rfl) rfl ?_
    refine s_rd (r_cload Try.isAgg29 rfl (j := 0) rfl rfl) rfl ?_
    refine pull fun t24 h_t24 => ?_
    refine s_rd (r_index h_t24 Try.underlying29 el_38 rfl rfl) rfl ?_
    refine s_rd (r_fea (fo := 2) (ρ := rT_api_Move) (y := t24) (ρ' := (rI .i64)) (z := t24.Node) Try.underlying38 rfl rfl Try.sizeOf3 rfl rfl rfl) rfl ?_
    refine s_rd (r_load el_3 rfl) rfl ?_
    refine s_rd (r_move rfl) rfl ?_
    refine s_rd (r_eql rfl rfl) rfl ?_
    refine s_rd (r_assign rfl) rfl ?_
    refine b_let (f := bv) (t := 6) rfl fun t25 => ?_
    refine l_nil ?_
    refine n_then ?_
    refine ref_ret ?_
    exact fin1 (.inl rfl) () [] rfl trivial rfl (rv_tmp rfl)

/-! deliberation/deliberationref27.attacks -/
noncomputable def ref27_attacks_l3 (d_0 : T_api_Dialogue) (t226 : Int) (s295 : Int × (List T_api_Move)) (s307 : Bool × Int) : Option (Sum (Bool) (Bool × Int)) :=
  bif decide (s307.2 < (d_0.Moves.length : Int)) then
    bif s307.1 then
      Option.bind (idxM d_0.Moves s307.2) fun t310 =>
      bif t310.Kind == 2 then
        Option.bind (idxM d_0.Moves s307.2) fun t311 =>
        bif t311.Target == t226 then
          Option.bind (idxM d_0.Moves s307.2) fun t312 =>
          letM (!(t312.Node == s295.1)) fun ok313 =>
          letM (iadd .i64 s307.2 1) fun k314 =>
          some (Sum.inr (ok313, k314))
        else
          letM (iadd .i64 s307.2 1) fun k315 =>
          some (Sum.inr (!false, k315))
      else
        letM (iadd .i64 s307.2 1) fun k316 =>
        some (Sum.inr (!false, k316))
    else
      letM (iadd .i64 s307.2 1) fun k317 =>
      some (Sum.inr (false, k317))
  else
    some (Sum.inl s307.1)

noncomputable def ref27_attacks_l2 (d_0 : T_api_Dialogue) (t4 : Int) (t226 : Int) (s295 : Int × (List T_api_Move)) : Option (Sum ((List T_api_Move)) (Int × (List T_api_Move))) :=
  bif decide (s295.1 < d_0.Graph.N) then
    Option.bind (idxM d_0.Moves t226) fun t298 =>
    Option.bind (net_Has_m d_0.Graph s295.1 t298.Node) fun ok299 =>
    Option.bind (loopC (ref27_attacks_l3 d_0 t226 s295) (ok299, 0)) fun q318 : Bool =>
    joinM (fun j321 : Bool =>
        bif j321 then
          Option.bind (appM 32 s295.2 [(T_api_Move.mk (isub .i64 3 t4) 2 s295.1 t226)]) fun out325 =>
          letM (iadd .i64 s295.1 1) fun a_327 =>
          some (Sum.inr (a_327, out325))
        else
          letM (iadd .i64 s295.1 1) fun a_328 =>
          some (Sum.inr (a_328, s295.2))) fun k323 =>
    bif q318 then
      bif (isub .i64 3 t4) == 2 then
        k323 true
      else
        Option.bind (ref27_repeated_m d_0 t226 s295.1) fun t320 =>
        k323 (!t320)
    else
      k323 false
  else
    some (Sum.inl s295.2)

noncomputable def ref27_attacks_l1 (d_0 : T_api_Dialogue) (t4 : Int) (t5 : List Int) (s223 : Int × (List T_api_Move)) : Option (Sum ((List T_api_Move)) (Int × (List T_api_Move))) :=
  bif decide (s223.1 < (t5.length : Int)) then
    Option.bind (idxM t5 s223.1) fun t226 =>
    Option.bind (idxM d_0.Moves t226) fun t227 =>
    bif t227.By == (isub .i64 3 t4) then
      some (Sum.inr (iadd .i64 s223.1 1, s223.2))
    else
      Option.bind (loopC (ref27_attacks_l2 d_0 t4 t226) (0, s223.2)) fun q329 : (List T_api_Move) =>
      some (Sum.inr (iadd .i64 s223.1 1, q329))
  else
    some (Sum.inl s223.2)

noncomputable def ref27_attacks_m (d_0 : T_api_Dialogue) : Option (List T_api_Move) :=
  Option.bind (ref27_Status_m d_0) fun status2 =>
  Option.bind (ref27_leader_m status2) fun t4 =>
  Option.bind (ref27_Leading_m d_0) fun t5 =>
  Option.bind (loopC (ref27_attacks_l1 d_0 t4 t5) (0, [])) fun q331 : (List T_api_Move) =>
  some q331

theorem ref27_attacks_ok {d_0 : T_api_Dialogue} {r : List T_api_Move} (hm : ref27_attacks_m d_0 = some r) :
    FnOk prog 30 [ag [iv .i64 d_0.Graph.N, slv rT_api_Pair d_0.Graph.L, iv .i64 d_0.Root, iv .i64 d_0.Limits.i0, iv .i64 d_0.Limits.i1, slv rT_api_Move d_0.Moves]] [] (fun (x : (Value × List Nat)) => [pv x.1]) (fun (x : (Value × List Nat)) => [oa rT_api_Move x.1 x.2 r]) := by
  refine fn_ok (X := (Value × List Nat)) (fn := Try.f30) (N := 107) (m := ref27_attacks_m d_0) (res := fun r x => [pv x.1]) (Ω1 := fun r x => [oa rT_api_Move x.1 x.2 r]) Try.func30 rfl rfl hm rfl (fun E hM => ?_)
  unfold ref27_attacks_m
  refine ref_seq ?_
  refine ref_region ?_
  refine s_st (s_box (part_ag (ψs := [iv .i64 d_0.Graph.N, slv rT_api_Pair d_0.Graph.L, iv .i64 d_0.Root, iv .i64 d_0.Limits.i0, iv .i64 d_0.Limits.i1, slv rT_api_Move d_0.Moves]) rfl (by intro φ h; simp only [List.mem_cons, List.not_mem_nil, or_false] at h; rcases h with rfl | rfl | rfl | rfl | rfl | rfl <;> first | exact iv_at | exact bv_at | exact sv_at | exact slv_at | exact pv_at rfl))) rfl (fun b1 => ?_)
  refine s_rd (r_assign rfl) rfl ?_
  refine l_nil ?_
  refine n_then ?_
  refine ref_seq ?_
  refine ref_region ?_
  refine s_rd (r_cloadS Try.isAgg31 Try.sizeOf31 rfl (j := 0) rfl rfl rfl) rfl ?_
  refine pull fun status2 h_status2 => ?_
  refine s_st (s_call (ψ := fun (x3 : (Value × List Nat)) => pv x3.1) (args := [.tmp 11]) Try.call31 rfl (ref27_Status_ok h_status2) ⟨arg rfl, trivial⟩ (fun _ _ _ _ h => h)) rfl (fun x3 => ?_)
  refine s_rd (r_assign rfl) rfl ?_
  refine l_nil ?_
  refine n_then ?_
  refine ref_seq ?_
  refine ref_region ?_
  refine s_rd (r_move rfl) rfl ?_
  refine pull fun t4 h_t4 => ?_
  refine s_st (s_callB (ψ := fun (_ : Unit) => iv .i64 t4) (args := [.tmp 13]) Try.call34 rfl (ref27_leader_ok h_t4) ⟨argO rfl (j := 1) rfl, trivial⟩ (fun _ _ _ _ _ h => h)) rfl (fun _ => ?_)
  refine s_rd (r_sub rfl rfl) rfl ?_
  refine s_rd (r_assign rfl) rfl ?_
  refine l_nil ?_
  refine n_then ?_
  refine ref_seq ?_
  refine ref_region ?_
  refine s_rd (r_assign rfl) rfl ?_
  refine l_nil ?_
  refine n_then ?_
  refine ref_seq ?_
  refine ref_seq ?_
  refine ref_region ?_
  refine s_rd (r_cloadS Try.isAgg31 Try.sizeOf31 rfl (j := 0) rfl rfl rfl) rfl ?_
  refine pull fun t5 h_t5 => ?_
  refine s_st (s_call (ψ := fun (x6 : (Value × List Nat)) => pv x6.1) (args := [.tmp 16]) Try.call48 rfl (ref27_Leading_ok h_t5) ⟨arg rfl, trivial⟩ (fun _ _ _ _ h => h)) rfl (fun x6 => ?_)
  refine s_rd (r_olen Try.underlying22 rfl (j := 2) rfl) rfl ?_
  refine s_rd (r_move rfl) rfl ?_
  refine l_nil ?_
  refine b_of (nrm [oc b1 [iv .i64 d_0.Graph.N, slv rT_api_Pair d_0.Graph.L, iv .i64 d_0.Root, iv .i64 d_0.Limits.i0, iv .i64 d_0.Limits.i1, slv rT_api_Move d_0.Moves], oa (rI .i64) x3.1 x3.2 status2, oa (rI .i64) x6.1 x6.2 t5] rfl) ?_
  refine n_then ?_
  refine b_of (own_nil rT_api_Move) ?_
  refine ref_loopB (f := (ref27_attacks_l1 d_0 t4 t5)) (Γl := (fun (s223 : Int × (List T_api_Move)) (x224 : (Value × List Nat)) => [(1, pv (ptr b1 0)), (4, iv .i64 (isub .i64 3 t4)), (5, pv x224.1), (17, pv x6.1), (18, iv .i64 (t5.length : Int)), (19, iv .i64 s223.1)])) (Ωl := (fun (s223 : Int × (List T_api_Move)) (x224 : (Value × List Nat)) => [oc b1 [iv .i64 d_0.Graph.N, slv rT_api_Pair d_0.Graph.L, iv .i64 d_0.Root, iv .i64 d_0.Limits.i0, iv .i64 d_0.Limits.i1, slv rT_api_Move d_0.Moves], oa rT_api_Move x224.1 x224.2 s223.2, oa (rI .i64) x6.1 x6.2 t5])) (Γb := (fun (q331 : (List T_api_Move)) (y332 : (Value × List Nat)) => [(5, pv y332.1)])) (Ωb := (fun (q331 : (List T_api_Move)) (y332 : (Value × List Nat)) => [oa rT_api_Move y332.1 y332.2 q331])) (0, []) ((.slice none 0 0), []) (weak [0, 3, 2] ⟨rfl, rfl, rfl, rfl, rfl, rfl, trivial⟩ ⟨rfl, rfl, rfl, trivial⟩) (fun s223 x224 => ?_) (fun q331 y332 => ?_)
  · unfold ref27_attacks_l1
    refine ref_seq ?_
    refine ref_region ?_
    refine s_rd (r_lss rfl rfl) rfl ?_
    refine l_nil ?_
    refine n_then ?_
    refine ref_seq ?_
    refine ref_cond rfl (fun hb225 => ?_) (fun hb225 => ?_)
    · refine ref_skip ?_
      refine n_then ?_
      refine ref_seq ?_
      refine ref_block ?_
      refine ref_seq ?_
      refine ref_region ?_
      refine pull fun t226 h_t226 => ?_
      refine s_rd (r_oindex h_t226 Try.underlying22 el_3 rfl (j := 2) rfl rfl) rfl ?_
      refine s_rd (r_oload h_t226 el_3 rfl (j := 2) rfl) rfl ?_
      refine s_rd (r_assign rfl) rfl ?_
      refine l_nil ?_
      refine n_then ?_
      refine ref_seq ?_
      refine ref_seq ?_
      refine ref_region ?_
      refine s_rd (r_faddr (fo := 5) Try.underlying31 rfl rfl Try.sizeOf29 rfl) rfl ?_
      refine s_rd (r_cload Try.isAgg29 rfl (j := 0) rfl rfl) rfl ?_
      refine s_rd (r_move rfl) rfl ?_
      refine pull fun t227 h_t227 => ?_
      refine s_rd (r_index h_t227 Try.underlying29 el_38 rfl rfl) rfl ?_
      refine s_rd (r_fea (fo := 0) (ρ := rT_api_Move) (y := t227) (ρ' := (rI .i64)) (z := t227.By) Try.underlying38 rfl rfl Try.sizeOf3 rfl rfl rfl) rfl ?_
      refine s_rd (r_load el_3 rfl) rfl ?_
      refine s_rd (r_move rfl) rfl ?_
      refine s_rd (r_eql rfl rfl) rfl ?_
      refine l_nil ?_
      refine n_then ?_
      refine ref_cond rfl (fun hb228 => ?_) (fun hb228 => ?_)
      · refine ref_exit ?_
        refine x_then ?_
        refine x_eq ?_
        refine n_then ?_
        refine ref_region ?_
        refine s_rd (r_add rfl rfl) rfl ?_
        refine s_rd (r_move rfl) rfl ?_
        refine l_nil ?_
        exact goB x224 (weak [0, 1, 2] ⟨rfl, rfl, rfl, rfl, rfl, rfl, trivial⟩ ⟨rfl, rfl, rfl, trivial⟩)
      · refine ref_skip ?_
        refine n_then ?_
        refine ref_seq ?_
        refine ref_region ?_
        refine s_rd (r_assign rfl) rfl ?_
        refine l_nil ?_
        refine n_then ?_
        refine ref_loopB (f := (ref27_attacks_l2 d_0 t4 t226)) (Γl := (fun (s295 : Int × (List T_api_Move)) (x296 : (Value × List Nat)) => [(1, pv (ptr b1 0)), (4, iv .i64 (isub .i64 3 t4)), (5, pv x296.1), (7, iv .i64 t226), (8, iv .i64 s295.1), (17, pv x6.1), (18, iv .i64 (t5.length : Int)), (19, iv .i64 s223.1)])) (Ωl := (fun (s295 : Int × (List T_api_Move)) (x296 : (Value × List Nat)) => [oc b1 [iv .i64 d_0.Graph.N, slv rT_api_Pair d_0.Graph.L, iv .i64 d_0.Root, iv .i64 d_0.Limits.i0, iv .i64 d_0.Limits.i1, slv rT_api_Move d_0.Moves], oa rT_api_Move x296.1 x296.2 s295.2, oa (rI .i64) x6.1 x6.2 t5])) (Γb := (fun (q329 : (List T_api_Move)) (y330 : (Value × List Nat)) => [(1, pv (ptr b1 0)), (4, iv .i64 (isub .i64 3 t4)), (5, pv y330.1), (17, pv x6.1), (18, iv .i64 (t5.length : Int)), (19, iv .i64 s223.1)])) (Ωb := (fun (q329 : (List T_api_Move)) (y330 : (Value × List Nat)) => [oc b1 [iv .i64 d_0.Graph.N, slv rT_api_Pair d_0.Graph.L, iv .i64 d_0.Root, iv .i64 d_0.Limits.i0, iv .i64 d_0.Limits.i1, slv rT_api_Move d_0.Moves], oa rT_api_Move y330.1 y330.2 q329, oa (rI .i64) x6.1 x6.2 t5])) (0, s223.2) x224 (weak [0, 1, 2] ⟨rfl, rfl, rfl, rfl, rfl, rfl, rfl, rfl, trivial⟩ ⟨rfl, rfl, rfl, trivial⟩) (fun s295 x296 => ?_) (fun q329 y330 => ?_)
        · unfold ref27_attacks_l2
          refine ref_seq ?_
          refine ref_seq ?_
          refine ref_region ?_
          refine s_rd (r_move rfl) rfl ?_
          refine s_rd (r_faddr (fo := 0) Try.underlying31 rfl rfl Try.sizeOf27 rfl) rfl ?_
          refine s_rd (r_faddr (fo := 0) Try.underlying27 rfl rfl Try.sizeOf3 rfl) rfl ?_
          refine s_rd (r_cload Try.isAgg3 rfl (j := 0) rfl rfl) rfl ?_
          refine s_rd (r_lss rfl rfl) rfl ?_
          refine l_nil ?_
          refine n_then ?_
          refine ref_cond rfl (fun hb297 => ?_) (fun hb297 => ?_)
          · refine ref_skip ?_
            refine n_then ?_
            refine ref_seq ?_
            refine ref_block ?_
            refine ref_seq ?_
            refine ref_draw [0, 1, 2, 3, 4, 5, 6, 7, 8] rfl (by kernel_rfl) (fun hok => ?_)
            refine a_rd (i := 0) hok rfl (by kernel_rfl) rfl (r_faddr (fo := 0) Try.underlying31 rfl rfl Try.sizeOf27 rfl) rfl ?_
            refine a_rd (i := 1) hok rfl (by kernel_rfl) rfl (r_cloadS Try.isAgg27 Try.sizeOf27 rfl (j := 0) rfl rfl rfl) rfl ?_
            refine a_rd (i := 2) hok rfl (by kernel_rfl) rfl (r_move rfl) rfl ?_
            refine a_rd (i := 3) hok rfl (by kernel_rfl) rfl (r_faddr (fo := 5) Try.underlying31 rfl rfl Try.sizeOf29 rfl) rfl ?_
            refine a_rd (i := 4) hok rfl (by kernel_rfl) rfl (r_cload Try.isAgg29 rfl (j := 0) rfl rfl) rfl ?_
            refine a_rd (i := 5) hok rfl (by kernel_rfl) rfl (r_move rfl) rfl ?_
            refine pull fun t298 h_t298 => ?_
            refine a_rd (i := 6) hok rfl (by kernel_rfl) rfl (r_index h_t298 Try.underlying29 el_38 rfl rfl) rfl ?_
            refine a_rd (i := 7) hok rfl (by kernel_rfl) rfl (r_fea (fo := 2) (ρ := rT_api_Move) (y := t298) (ρ' := (rI .i64)) (z := t298.Node) Try.underlying38 rfl rfl Try.sizeOf3 rfl rfl rfl) rfl ?_
            refine a_rd (i := 8) hok rfl (by kernel_rfl) rfl (r_load el_3 rfl) rfl ?_
            refine pull fun ok299 h_ok299 => ?_
            refine a_next hok 9 [] (by kernel_rfl) ?_ trivial
            refine a_st (i := 9) hok rfl rfl (s_call (ψ := fun (_ : Unit) => bv ok299) (args := [.tmp 39, .tmp 40, .tmp 46]) Try.call43 rfl (net_Has_ok h_ok299) ⟨arg rfl, arg rfl, arg rfl, trivial⟩ (fun _ _ _ _ h => h)) (by intro _ h; cases h; rfl) (fun _ => ⟨trivial, ⟨trivial, ⟨trivial, ⟨trivial, ⟨⟨⟨rfl, rfl⟩, trivial⟩, ⟨trivial, ⟨trivial, ⟨trivial, ⟨trivial, trivial⟩⟩⟩⟩⟩⟩⟩⟩⟩) (fun _ => ?_)
            refine a_next hok 10 [] (by kernel_rfl) ?_ trivial
            refine a_st (i := 10) hok rfl rfl (St.ofRd (r_assign rfl)) (by intro _ h; cases h; rfl) (fun _ => ⟨trivial, ⟨trivial, ⟨trivial, ⟨trivial, ⟨trivial, ⟨trivial, ⟨trivial, ⟨trivial, ⟨trivial, trivial⟩⟩⟩⟩⟩⟩⟩⟩⟩) (fun _ => ?_)
            refine a_fin hok (by kernel_rfl) ?_
            refine n_then ?_
            refine ref_seq ?_
            refine ref_seq ?_
            refine ref_region ?_
            refine s_rd (r_assign rfl) rfl ?_
            refine l_nil ?_
            refine n_then ?_
            refine ref_loopB (f := (ref27_attacks_l3 d_0 t226 s295)) (Γl := (fun (s307 : Bool × Int) (x308 : Unit) => [(1, pv (ptr b1 0)), (4, iv .i64 (isub .i64 3 t4)), (5, pv x296.1), (7, iv .i64 t226), (8, iv .i64 s295.1), (9, bv s307.1), (10, iv .i64 s307.2), (17, pv x6.1), (18, iv .i64 (t5.length : Int)), (19, iv .i64 s223.1)])) (Ωl := (fun (s307 : Bool × Int) (x308 : Unit) => [oc b1 [iv .i64 d_0.Graph.N, slv rT_api_Pair d_0.Graph.L, iv .i64 d_0.Root, iv .i64 d_0.Limits.i0, iv .i64 d_0.Limits.i1, slv rT_api_Move d_0.Moves], oa rT_api_Move x296.1 x296.2 s295.2, oa (rI .i64) x6.1 x6.2 t5])) (Γb := (fun (q318 : Bool) (y319 : Unit) => [(1, pv (ptr b1 0)), (4, iv .i64 (isub .i64 3 t4)), (5, pv x296.1), (7, iv .i64 t226), (8, iv .i64 s295.1), (9, bv q318), (17, pv x6.1), (18, iv .i64 (t5.length : Int)), (19, iv .i64 s223.1)])) (Ωb := (fun (q318 : Bool) (y319 : Unit) => [oc b1 [iv .i64 d_0.Graph.N, slv rT_api_Pair d_0.Graph.L, iv .i64 d_0.Root, iv .i64 d_0.Limits.i0, iv .i64 d_0.Limits.i1, slv rT_api_Move d_0.Moves], oa rT_api_Move x296.1 x296.2 s295.2, oa (rI .i64) x6.1 x6.2 t5])) (ok299, 0) () (weak [0, 1, 2] ⟨rfl, rfl, rfl, rfl, rfl, rfl, rfl, rfl, rfl, rfl, trivial⟩ ⟨rfl, rfl, rfl, trivial⟩) (fun s307 x308 => ?_) (fun q318 y319 => ?_)
            · unfold ref27_attacks_l3
              refine ref_seq ?_
              refine ref_seq ?_
              refine ref_region ?_
              refine s_rd (r_move rfl) rfl ?_
              refine s_rd (r_faddr (fo := 5) Try.underlying31 rfl rfl Try.sizeOf29 rfl) rfl ?_
              refine s_rd (r_cload Try.isAgg29 rfl (j := 0) rfl rfl) rfl ?_
              refine s_rd (r_len Try.underlying29 rfl) rfl ?_
              refine s_rd (r_lss rfl rfl) rfl ?_
              refine l_nil ?_
              refine n_then ?_
              refine ref_cond rfl (fun hb309 => ?_) (fun hb309 => ?_)
              · refine ref_skip ?_
                refine n_then ?_
                refine ref_seq ?_
                refine ref_block ?_
                refine ref_region ?_
                refine s_rd (r_move rfl) rfl ?_
                refine s_rd (r_move rfl) rfl ?_
                refine b_split (t := 56) rfl (fun _ => ?_) (fun _ => ?_)
                · refine s_on rfl rfl rfl ?_
                  refine s_rd (r_faddr (fo := 5) Try.underlying31 rfl rfl Try.sizeOf29 rfl) rfl ?_
                  refine s_on rfl rfl rfl ?_
                  refine s_rd (r_cload Try.isAgg29 rfl (j := 0) rfl rfl) rfl ?_
                  refine s_on rfl rfl rfl ?_
                  refine s_rd (r_move rfl) rfl ?_
                  refine s_on rfl rfl rfl ?_
                  refine pull fun t310 h_t310 => ?_
                  refine s_rd (r_index h_t310 Try.underlying29 el_38 rfl rfl) rfl ?_
                  refine s_on rfl rfl rfl ?_
                  refine s_rd (r_fea (fo := 1) (ρ := rT_api_Move) (y := t310) (ρ' := (rI .i64)) (z := t310.Kind) Try.underlying38 rfl rfl Try.sizeOf3 rfl rfl rfl) rfl ?_
                  refine s_on rfl rfl rfl ?_
                  refine s_rd (r_load el_3 rfl) rfl ?_
                  refine s_on rfl rfl rfl ?_
                  refine s_rd (r_eql rfl rfl) rfl ?_
                  refine s_on rfl rfl rfl ?_
                  refine s_rd (r_move rfl) rfl ?_
                  refine b_split (t := 64) rfl (fun _ => ?_) (fun _ => ?_)
                  · refine s_on rfl rfl rfl ?_
                    refine s_rd (r_faddr (fo := 5) Try.underlying31 rfl rfl Try.sizeOf29 rfl) rfl ?_
                    refine s_on rfl rfl rfl ?_
                    refine s_rd (r_cload Try.isAgg29 rfl (j := 0) rfl rfl) rfl ?_
                    refine s_on rfl rfl rfl ?_
                    refine s_rd (r_move rfl) rfl ?_
                    refine s_on rfl rfl rfl ?_
                    refine pull fun t311 h_t311 => ?_
                    refine s_rd (r_index h_t311 Try.underlying29 el_38 rfl rfl) rfl ?_
                    refine s_on rfl rfl rfl ?_
                    refine s_rd (r_fea (fo := 3) (ρ := rT_api_Move) (y := t311) (ρ' := (rI .i64)) (z := t311.Target) Try.underlying38 rfl rfl Try.sizeOf3 rfl rfl rfl) rfl ?_
                    refine s_on rfl rfl rfl ?_
                    refine s_rd (r_load el_3 rfl) rfl ?_
                    refine s_on rfl rfl rfl ?_
                    refine s_rd (r_move rfl) rfl ?_
                    refine s_on rfl rfl rfl ?_
                    refine s_rd (r_eql rfl rfl) rfl ?_
                    refine s_on rfl rfl rfl ?_
                    refine s_rd (r_pickT rfl rfl) rfl ?_
                    refine s_on rfl rfl rfl ?_
                    refine s_rd (r_move rfl) rfl ?_
                    refine b_split (t := 74) rfl (fun _ => ?_) (fun _ => ?_)
                    · refine s_on rfl rfl rfl ?_
                      refine s_rd (r_faddr (fo := 5) Try.underlying31 rfl rfl Try.sizeOf29 rfl) rfl ?_
                      refine s_on rfl rfl rfl ?_
                      refine s_rd (r_cload Try.isAgg29 rfl (j := 0) rfl rfl) rfl ?_
                      refine s_on rfl rfl rfl ?_
                      refine s_rd (r_move rfl) rfl ?_
                      refine s_on rfl rfl rfl ?_
                      refine pull fun t312 h_t312 => ?_
                      refine s_rd (r_index h_t312 Try.underlying29 el_38 rfl rfl) rfl ?_
                      refine s_on rfl rfl rfl ?_
                      refine s_rd (r_fea (fo := 2) (ρ := rT_api_Move) (y := t312) (ρ' := (rI .i64)) (z := t312.Node) Try.underlying38 rfl rfl Try.sizeOf3 rfl rfl rfl) rfl ?_
                      refine s_on rfl rfl rfl ?_
                      refine s_rd (r_load el_3 rfl) rfl ?_
                      refine s_on rfl rfl rfl ?_
                      refine s_rd (r_move rfl) rfl ?_
                      refine s_on rfl rfl rfl ?_
                      refine s_rd (r_eql rfl rfl) rfl ?_
                      refine s_on rfl rfl rfl ?_
                      refine s_rd (r_pickT rfl rfl) rfl ?_
                      refine s_on rfl rfl rfl ?_
                      refine s_rd (r_not rfl) rfl ?_
                      refine s_rd (r_pickT rfl rfl) rfl ?_
                      refine s_rd (r_assign rfl) rfl ?_
                      refine b_let (f := bv) (t := 9) rfl fun ok313 => ?_
                      refine l_nil ?_
                      refine n_block ?_
                      refine n_then ?_
                      refine ref_region ?_
                      refine s_rd (r_move rfl) rfl ?_
                      refine s_rd (r_add rfl rfl) rfl ?_
                      refine s_rd (r_assign rfl) rfl ?_
                      refine b_let (f := iv .i64) (t := 10) rfl fun k314 => ?_
                      refine l_nil ?_
                      exact goB () (weak [0, 1, 2] ⟨rfl, rfl, rfl, rfl, rfl, rfl, rfl, rfl, rfl, rfl, trivial⟩ ⟨rfl, rfl, rfl, trivial⟩)
                    · refine s_off rfl rfl rfl rfl rfl ?_
                      refine s_off rfl rfl rfl rfl rfl ?_
                      refine s_off rfl rfl rfl rfl rfl ?_
                      refine s_off rfl rfl rfl rfl rfl ?_
                      refine s_off rfl rfl rfl rfl rfl ?_
                      refine s_off rfl rfl rfl rfl rfl ?_
                      refine s_off rfl rfl rfl rfl rfl ?_
                      refine s_off rfl rfl rfl rfl rfl ?_
                      refine s_on rfl rfl rfl ?_
                      refine s_rd (r_pickF rfl rfl) rfl ?_
                      refine s_on rfl rfl rfl ?_
                      refine s_rd (r_not rfl) rfl ?_
                      refine s_rd (r_pickT rfl rfl) rfl ?_
                      refine s_rd (r_assign rfl) rfl ?_
                      refine l_nil ?_
                      refine n_block ?_
                      refine n_then ?_
                      refine ref_region ?_
                      refine s_rd (r_move rfl) rfl ?_
                      refine s_rd (r_add rfl rfl) rfl ?_
                      refine s_rd (r_assign rfl) rfl ?_
                      refine b_let (f := iv .i64) (t := 10) rfl fun k315 => ?_
                      refine l_nil ?_
                      exact goB () (weak [0, 1, 2] ⟨rfl, rfl, rfl, rfl, rfl, rfl, rfl, rfl, rfl, rfl, trivial⟩ ⟨rfl, rfl, rfl, trivial⟩)
                  · refine s_off rfl rfl rfl rfl rfl ?_
                    refine s_off rfl rfl rfl rfl rfl ?_
                    refine s_off rfl rfl rfl rfl rfl ?_
                    refine s_off rfl rfl rfl rfl rfl ?_
                    refine s_off rfl rfl rfl rfl rfl ?_
                    refine s_off rfl rfl rfl rfl rfl ?_
                    refine s_off rfl rfl rfl rfl rfl ?_
                    refine s_off rfl rfl rfl rfl rfl ?_
                    refine s_on rfl rfl rfl ?_
                    refine s_rd (r_pickF rfl rfl) rfl ?_
                    refine s_on rfl rfl rfl ?_
                    refine s_rd (r_move rfl) rfl ?_
                    refine s_off rfl rfl rfl rfl rfl ?_
                    refine s_off rfl rfl rfl rfl rfl ?_
                    refine s_off rfl rfl rfl rfl rfl ?_
                    refine s_off rfl rfl rfl rfl rfl ?_
                    refine s_off rfl rfl rfl rfl rfl ?_
                    refine s_off rfl rfl rfl rfl rfl ?_
                    refine s_off rfl rfl rfl rfl rfl ?_
                    refine s_off rfl rfl rfl rfl rfl ?_
                    refine s_on rfl rfl rfl ?_
                    refine s_rd (r_pickF rfl rfl) rfl ?_
                    refine s_on rfl rfl rfl ?_
                    refine s_rd (r_not rfl) rfl ?_
                    refine s_rd (r_pickT rfl rfl) rfl ?_
                    refine s_rd (r_assign rfl) rfl ?_
                    refine l_nil ?_
                    refine n_block ?_
                    refine n_then ?_
                    refine ref_region ?_
                    refine s_rd (r_move rfl) rfl ?_
                    refine s_rd (r_add rfl rfl) rfl ?_
                    refine s_rd (r_assign rfl) rfl ?_
                    refine b_let (f := iv .i64) (t := 10) rfl fun k316 => ?_
                    refine l_nil ?_
                    exact goB () (weak [0, 1, 2] ⟨rfl, rfl, rfl, rfl, rfl, rfl, rfl, rfl, rfl, rfl, trivial⟩ ⟨rfl, rfl, rfl, trivial⟩)
                · refine s_off rfl rfl rfl rfl rfl ?_
                  refine s_off rfl rfl rfl rfl rfl ?_
                  refine s_off rfl rfl rfl rfl rfl ?_
                  refine s_off rfl rfl rfl rfl rfl ?_
                  refine s_off rfl rfl rfl rfl rfl ?_
                  refine s_off rfl rfl rfl rfl rfl ?_
                  refine s_off rfl rfl rfl rfl rfl ?_
                  refine s_off rfl rfl rfl rfl rfl ?_
                  refine s_offU rfl rfl rfl ?_
                  refine s_offU rfl rfl rfl ?_
                  refine s_offU rfl rfl rfl ?_
                  refine s_offU rfl rfl rfl ?_
                  refine s_offU rfl rfl rfl ?_
                  refine s_offU rfl rfl rfl ?_
                  refine s_offU rfl rfl rfl ?_
                  refine s_offU rfl rfl rfl ?_
                  refine s_off rfl rfl rfl rfl rfl ?_
                  refine s_off rfl rfl rfl rfl rfl ?_
                  refine s_offU rfl rfl rfl ?_
                  refine s_offU rfl rfl rfl ?_
                  refine s_offU rfl rfl rfl ?_
                  refine s_offU rfl rfl rfl ?_
                  refine s_offU rfl rfl rfl ?_
                  refine s_offU rfl rfl rfl ?_
                  refine s_offU rfl rfl rfl ?_
                  refine s_offU rfl rfl rfl ?_
                  refine s_off rfl rfl rfl rfl rfl ?_
                  refine s_off rfl rfl rfl rfl rfl ?_
                  refine s_rd (r_pickF rfl rfl) rfl ?_
                  refine s_rd (r_assign rfl) rfl ?_
                  refine l_nil ?_
                  refine n_block ?_
                  refine n_then ?_
                  refine ref_region ?_
                  refine s_rd (r_move rfl) rfl ?_
                  refine s_rd (r_add rfl rfl) rfl ?_
                  refine s_rd (r_assign rfl) rfl ?_
                  refine b_let (f := iv .i64) (t := 10) rfl fun k317 => ?_
                  refine l_nil ?_
                  exact goB () (weak [0, 1, 2] ⟨rfl, rfl, rfl, rfl, rfl, rfl, rfl, rfl, rfl, rfl, trivial⟩ ⟨rfl, rfl, rfl, trivial⟩)
              · refine ref_exit ?_
                refine x_then ?_
                exact brkB () (weak [0, 1, 2] ⟨rfl, rfl, rfl, rfl, rfl, rfl, rfl, rfl, rfl, trivial⟩ ⟨rfl, rfl, rfl, trivial⟩)
            · refine n_then ?_
              refine ref_seq ?_
              refine ref_join (fun (j321 : Bool) (x322 : Unit) => [(1, pv (ptr b1 0)), (4, iv .i64 (isub .i64 3 t4)), (5, pv x296.1), (7, iv .i64 t226), (8, iv .i64 s295.1), (17, pv x6.1), (18, iv .i64 (t5.length : Int)), (19, iv .i64 s223.1), (97, bv j321)]) (fun (j321 : Bool) (x322 : Unit) => [oc b1 [iv .i64 d_0.Graph.N, slv rT_api_Pair d_0.Graph.L, iv .i64 d_0.Root, iv .i64 d_0.Limits.i0, iv .i64 d_0.Limits.i1, slv rT_api_Move d_0.Moves], oa rT_api_Move x296.1 x296.2 s295.2, oa (rI .i64) x6.1 x6.2 t5]) (fun k323 hk323 => ?_) (fun j321 x322 => ?_)
              · refine ref_region ?_
                refine s_rd (r_move rfl) rfl ?_
                refine s_rd (r_move rfl) rfl ?_
                refine b_split (t := 87) rfl (fun _ => ?_) (fun _ => ?_)
                · refine s_on rfl rfl rfl ?_
                  refine s_rd (r_move rfl) rfl ?_
                  refine s_on rfl rfl rfl ?_
                  refine s_rd (r_eql rfl rfl) rfl ?_
                  refine s_on rfl rfl rfl ?_
                  refine s_rd (r_move rfl) rfl ?_
                  refine b_split (t := 90) rfl (fun _ => ?_) (fun _ => ?_)
                  · refine s_off rfl rfl rfl rfl rfl ?_
                    refine s_off rfl rfl rfl rfl rfl ?_
                    refine s_off rfl rfl rfl rfl rfl ?_
                    refine s_off rfl rfl rfl rfl rfl ?_
                    refine s_off rfl rfl rfl rfl rfl ?_
                    refine s_on rfl rfl rfl ?_
                    refine s_rd (r_pickT rfl rfl) rfl ?_
                    refine s_rd (r_pickT rfl rfl) rfl ?_
                    refine l_nil ?_
                    exact b_to (hk323 true ()) (weak [0, 1, 2] ⟨rfl, rfl, rfl, rfl, rfl, rfl, rfl, rfl, rfl, trivial⟩ ⟨rfl, rfl, rfl, trivial⟩)
                  · refine s_on rfl rfl rfl ?_
                    refine s_rd (r_cloadS Try.isAgg31 Try.sizeOf31 rfl (j := 0) rfl rfl rfl) rfl ?_
                    refine s_on rfl rfl rfl ?_
                    refine s_rd (r_move rfl) rfl ?_
                    refine s_on rfl rfl rfl ?_
                    refine s_rd (r_move rfl) rfl ?_
                    refine s_on rfl rfl rfl ?_
                    refine pull fun t320 h_t320 => ?_
                    refine s_st (s_call (ψ := fun (_ : Unit) => bv t320) (args := [.tmp 91, .tmp 92, .tmp 93]) Try.call49 rfl (ref27_repeated_ok h_t320) ⟨arg rfl, arg rfl, arg rfl, trivial⟩ (fun _ _ _ _ h => h)) rfl (fun _ => ?_)
                    refine s_on rfl rfl rfl ?_
                    refine s_rd (r_not rfl) rfl ?_
                    refine s_on rfl rfl rfl ?_
                    refine s_rd (r_pickF rfl rfl) rfl ?_
                    refine s_rd (r_pickT rfl rfl) rfl ?_
                    refine l_nil ?_
                    exact b_to (hk323 (!t320) ()) (weak [0, 1, 2] ⟨rfl, rfl, rfl, rfl, rfl, rfl, rfl, rfl, rfl, trivial⟩ ⟨rfl, rfl, rfl, trivial⟩)
                · refine s_off rfl rfl rfl rfl rfl ?_
                  refine s_off rfl rfl rfl rfl rfl ?_
                  refine s_off rfl rfl rfl rfl rfl ?_
                  refine s_offU rfl rfl rfl ?_
                  refine s_offU rfl rfl rfl ?_
                  refine s_offU rfl rfl rfl ?_
                  refine s_offU rfl rfl rfl ?_
                  refine s_offU rfl rfl rfl ?_
                  refine s_off rfl rfl rfl rfl rfl ?_
                  refine s_rd (r_pickF rfl rfl) rfl ?_
                  refine l_nil ?_
                  exact b_to (hk323 false ()) (weak [0, 1, 2] ⟨rfl, rfl, rfl, rfl, rfl, rfl, rfl, rfl, rfl, trivial⟩ ⟨rfl, rfl, rfl, trivial⟩)
              · refine n_then ?_
                refine ref_cond rfl (fun hb324 => ?_) (fun hb324 => ?_)
                · refine ref_region ?_
                  refine s_rd (r_move rfl) rfl ?_
                  refine s_rd (r_move rfl) rfl ?_
                  refine s_rd (r_move rfl) rfl ?_
                  refine s_rd (r_move rfl) rfl ?_
                  refine s_rd (r_build (ps := [(0, .tmp 99), (1, .const (.int .i64 (2))), (2, .tmp 100), (3, .tmp 101)]) (rs := [(0, [iv .i64 (isub .i64 3 t4)]), (1, [iv .i64 2]), (2, [iv .i64 s295.1]), (3, [iv .i64 t226])]) st_38 zs_38 ⟨rfl, (part_at rfl iv_at), ⟨rfl, (part_at rfl iv_at), ⟨rfl, (part_at rfl iv_at), ⟨rfl, (part_at rfl iv_at), trivial⟩⟩⟩⟩ rfl rfl) rfl ?_
                  refine s_st (s_bslice (xs := [.tmp 102]) (ds := [(T_api_Move.mk (isub .i64 3 t4) 2 s295.1 t226)]) Try.underlying29 el_38 rfl (Nat.le_of_ble_eq_true rfl) ⟨(part_ag (ψs := [iv .i64 (isub .i64 3 t4), iv .i64 2, iv .i64 s295.1, iv .i64 t226]) rfl (by intro φ h; simp only [List.mem_cons, List.not_mem_nil, or_false] at h; rcases h with rfl | rfl | rfl | rfl <;> first | exact iv_at | exact bv_at | exact sv_at | exact slv_at | exact pv_at rfl)), trivial⟩) rfl (fun _ => ?_)
                  refine pull fun out325 h_out325 => ?_
                  refine s_st (s_append h_out325 Try.underlying29 el_38 rfl (j := 1) rfl rfl) rfl (fun o326 => ?_)
                  refine s_rd (r_assign rfl) rfl ?_
                  refine l_nil ?_
                  refine n_block ?_
                  refine n_then ?_
                  refine ref_region ?_
                  refine s_rd (r_move rfl) rfl ?_
                  refine s_rd (r_add rfl rfl) rfl ?_
                  refine s_rd (r_assign rfl) rfl ?_
                  refine b_let (f := iv .i64) (t := 8) rfl fun a_327 => ?_
                  refine l_nil ?_
                  exact goB o326 (weak [0, 1, 2] ⟨rfl, rfl, rfl, rfl, rfl, rfl, rfl, rfl, trivial⟩ ⟨rfl, rfl, rfl, trivial⟩)
                · refine ref_skip ?_
                  refine n_block ?_
                  refine n_then ?_
                  refine ref_region ?_
                  refine s_rd (r_move rfl) rfl ?_
                  refine s_rd (r_add rfl rfl) rfl ?_
                  refine s_rd (r_assign rfl) rfl ?_
                  refine b_let (f := iv .i64) (t := 8) rfl fun a_328 => ?_
                  refine l_nil ?_
                  exact goB x296 (weak [0, 1, 2] ⟨rfl, rfl, rfl, rfl, rfl, rfl, rfl, rfl, trivial⟩ ⟨rfl, rfl, rfl, trivial⟩)
          · refine ref_exit ?_
            refine x_then ?_
            exact brkB x296 (weak [0, 1, 2] ⟨rfl, rfl, rfl, rfl, rfl, rfl, trivial⟩ ⟨rfl, rfl, rfl, trivial⟩)
        · refine n_block ?_
          refine n_then ?_
          refine ref_region ?_
          refine s_rd (r_add rfl rfl) rfl ?_
          refine s_rd (r_move rfl) rfl ?_
          refine l_nil ?_
          exact goB y330 (weak [0, 1, 2] ⟨rfl, rfl, rfl, rfl, rfl, rfl, trivial⟩ ⟨rfl, rfl, rfl, trivial⟩)
    · refine ref_exit ?_
      refine x_then ?_
      exact brkB x224 (weak [1] ⟨rfl, trivial⟩ ⟨rfl, trivial⟩)
  · refine n_then ?_
    refine ref_seq ?_
    refine ref_region ?_
    refine s_rd (r_move rfl) rfl ?_
    refine s_rd (r_assign rfl) rfl ?_
    refine l_nil ?_
    refine n_then ?_
    refine ref_ret ?_
    exact fin1 (.inl rfl) y332 [0] rfl ⟨rfl, trivial⟩ rfl (rv_tmp rfl)

/-! deliberation/deliberationref27.End -/
noncomputable def ref27_End_l1 (d_0 : T_api_Dialogue) (lead8 : Int) (s14 : Int × Int) : Option (Sum (Int) (Int × Int)) :=
  bif decide (s14.2 < (d_0.Moves.length : Int)) then
    Option.bind (idxM d_0.Moves s14.2) fun t17 =>
    bif t17.By != lead8 then
      letM (iadd .i64 s14.1 1) fun made19 =>
      letM (iadd .i64 s14.2 1) fun i20 =>
      some (Sum.inr (made19, i20))
    else
      letM (iadd .i64 s14.2 1) fun i21 =>
      some (Sum.inr (s14.1, i21))
  else
    some (Sum.inl s14.1)

noncomputable def ref27_End_m (d_0 : T_api_Dialogue) : Option (T_api_Outcome) :=
  Option.bind (idxM d_0.Moves (isub .i64 (d_0.Moves.length : Int) 1)) fun t3 =>
  bif t3.Kind == 4 then
    some (T_api_Outcome.mk (isub .i64 3 t3.By) 3)
  else
    Option.bind (ref27_Status_m d_0) fun t6 =>
    Option.bind (ref27_leader_m t6) fun lead8 =>
    Option.bind (loopC (ref27_End_l1 d_0 lead8) (0, 0)) fun q22 : Int =>
    letM (decide ((d_0.Moves.length : Int) ≥ 200)) fun t24 =>
    bif t24 then
      some (T_api_Outcome.mk lead8 4)
    else
      Option.bind (idxM [d_0.Limits.i0, d_0.Limits.i1] (isub .i64 2 lead8)) fun t26 =>
      letM (decide (q22 ≥ t26)) fun t27 =>
      bif t27 then
        some (T_api_Outcome.mk lead8 2)
      else
        Option.bind (ref27_attacks_m d_0) fun t29 =>
        letM ((t29.length : Int) == 0) fun t31 =>
        bif t31 then
          some (T_api_Outcome.mk lead8 1)
        else
          some (T_api_Outcome.mk 0 0)

theorem ref27_End_ok {d_0 : T_api_Dialogue} {r : T_api_Outcome} (hm : ref27_End_m d_0 = some r) :
    FnOk prog 33 [ag [iv .i64 d_0.Graph.N, slv rT_api_Pair d_0.Graph.L, iv .i64 d_0.Root, iv .i64 d_0.Limits.i0, iv .i64 d_0.Limits.i1, slv rT_api_Move d_0.Moves]] [] (fun (x : Unit) => [ag [iv .i64 r.Winner, iv .i64 r.Reason]]) (fun (x : Unit) => []) := by
  refine fn_ok (X := Unit) (fn := Try.f33) (N := 67) (m := ref27_End_m d_0) (res := fun r x => [ag [iv .i64 r.Winner, iv .i64 r.Reason]]) (Ω1 := fun r x => []) Try.func33 rfl rfl hm rfl (fun E hM => ?_)
  unfold ref27_End_m
  refine ref_seq ?_
  refine ref_region ?_
  refine s_st (s_box (part_ag (ψs := [iv .i64 d_0.Graph.N, slv rT_api_Pair d_0.Graph.L, iv .i64 d_0.Root, iv .i64 d_0.Limits.i0, iv .i64 d_0.Limits.i1, slv rT_api_Move d_0.Moves]) rfl (by intro φ h; simp only [List.mem_cons, List.not_mem_nil, or_false] at h; rcases h with rfl | rfl | rfl | rfl | rfl | rfl <;> first | exact iv_at | exact bv_at | exact sv_at | exact slv_at | exact pv_at rfl))) rfl (fun b1 => ?_)
  refine s_st (s_alloc zt_50) rfl (fun b2 => ?_)
  refine l_nil ?_
  refine n_then ?_
  refine ref_seq ?_
  refine ref_region ?_
  refine s_rd (r_faddr (fo := 5) Try.underlying31 rfl rfl Try.sizeOf29 rfl) rfl ?_
  refine s_rd (r_cload Try.isAgg29 rfl (j := 0) rfl rfl) rfl ?_
  refine s_rd (r_faddr (fo := 5) Try.underlying31 rfl rfl Try.sizeOf29 rfl) rfl ?_
  refine s_rd (r_cload Try.isAgg29 rfl (j := 0) rfl rfl) rfl ?_
  refine s_rd (r_len Try.underlying29 rfl) rfl ?_
  refine s_rd (r_sub rfl rfl) rfl ?_
  refine pull fun t3 h_t3 => ?_
  refine s_rd (r_index h_t3 Try.underlying29 el_38 rfl rfl) rfl ?_
  refine s_rd (r_load el_38 rfl) rfl ?_
  refine s_st (s_alloc zt_38) rfl (fun b4 => ?_)
  refine s_st0 (s_cstore (out := [iv .i64 t3.By, iv .i64 t3.Kind, iv .i64 t3.Node, iv .i64 t3.Target]) Try.sizeOf38 rfl (j := 2) rfl (part_ag (ψs := [iv .i64 t3.By, iv .i64 t3.Kind, iv .i64 t3.Node, iv .i64 t3.Target]) rfl (by intro φ h; simp only [List.mem_cons, List.not_mem_nil, or_false] at h; rcases h with rfl | rfl | rfl | rfl <;> first | exact iv_at | exact bv_at | exact sv_at | exact slv_at | exact pv_at rfl)) rfl rfl rfl) (fun _ => ?_)
  refine l_nil ?_
  refine b_of (nrm [oc b1 [iv .i64 d_0.Graph.N, slv rT_api_Pair d_0.Graph.L, iv .i64 d_0.Root, iv .i64 d_0.Limits.i0, iv .i64 d_0.Limits.i1, slv rT_api_Move d_0.Moves], oc b2 [iv .i64 0, iv .i64 0], oc b4 [iv .i64 t3.By, iv .i64 t3.Kind, iv .i64 t3.Node, iv .i64 t3.Target]] rfl) ?_
  refine n_then ?_
  refine ref_seq ?_
  refine ref_seq ?_
  refine ref_region ?_
  refine s_rd (r_faddr (fo := 1) Try.underlying38 rfl rfl Try.sizeOf3 rfl) rfl ?_
  refine s_rd (r_cload Try.isAgg3 rfl (j := 2) rfl rfl) rfl ?_
  refine s_rd (r_eql rfl rfl) rfl ?_
  refine l_nil ?_
  refine n_then ?_
  refine ref_cond rfl (fun hb5 => ?_) (fun hb5 => ?_)
  · refine ref_seq ?_
    refine ref_region ?_
    refine s_rd (r_faddr (fo := 0) Try.underlying38 rfl rfl Try.sizeOf3 rfl) rfl ?_
    refine s_rd (r_cload Try.isAgg3 rfl (j := 2) rfl rfl) rfl ?_
    refine s_rd (r_sub rfl rfl) rfl ?_
    refine s_rd (r_build (ps := [(0, .tmp 20), (1, .const (.int .i64 (3)))]) (rs := [(0, [iv .i64 (isub .i64 3 t3.By)]), (1, [iv .i64 3])]) st_50 zs_50 ⟨rfl, (part_at rfl iv_at), ⟨rfl, (part_at rfl iv_at), trivial⟩⟩ rfl rfl) rfl ?_
    refine s_st0 (s_cstore (out := [iv .i64 (isub .i64 3 t3.By), iv .i64 3]) Try.sizeOf50 rfl (j := 1) rfl (part_ag (ψs := [iv .i64 (isub .i64 3 t3.By), iv .i64 3]) rfl (by intro φ h; simp only [List.mem_cons, List.not_mem_nil, or_false] at h; rcases h with rfl | rfl <;> first | exact iv_at | exact bv_at | exact sv_at | exact slv_at | exact pv_at rfl)) rfl rfl rfl) (fun _ => ?_)
    refine l_nil ?_
    refine n_then ?_
    refine ref_ret ?_
    refine r_then ?_
    exact fin1 (.inl rfl) () [] rfl trivial rfl (rv_cell rfl (j := 1) rfl Try.isAgg50 Try.sizeOf50 rfl rfl)
  · refine ref_skip ?_
    refine n_then ?_
    refine ref_seq ?_
    refine ref_region ?_
    refine s_rd (r_cloadS Try.isAgg31 Try.sizeOf31 rfl (j := 0) rfl rfl rfl) rfl ?_
    refine pull fun t6 h_t6 => ?_
    refine s_st (s_call (ψ := fun (x7 : (Value × List Nat)) => pv x7.1) (args := [.tmp 22]) Try.call31 rfl (ref27_Status_ok h_t6) ⟨arg rfl, trivial⟩ (fun _ _ _ _ h => h)) rfl (fun x7 => ?_)
    refine pull fun lead8 h_lead8 => ?_
    refine s_st (s_callB (ψ := fun (_ : Unit) => iv .i64 lead8) (args := [.tmp 23]) Try.call34 rfl (ref27_leader_ok h_lead8) ⟨argO rfl (j := 3) rfl, trivial⟩ (fun _ _ _ _ _ h => h)) rfl (fun _ => ?_)
    refine s_rd (r_assign rfl) rfl ?_
    refine l_nil ?_
    refine n_then ?_
    refine ref_seq ?_
    refine ref_region ?_
    refine s_rd (r_assign rfl) rfl ?_
    refine l_nil ?_
    refine n_then ?_
    refine ref_seq ?_
    refine ref_seq ?_
    refine ref_region ?_
    refine s_rd (r_assign rfl) rfl ?_
    refine l_nil ?_
    refine n_then ?_
    refine ref_loopB (f := (ref27_End_l1 d_0 lead8)) (Γl := (fun (s14 : Int × Int) (x15 : Unit) => [(1, pv (ptr b1 0)), (2, pv (ptr b2 0)), (4, iv .i64 lead8), (5, iv .i64 s14.1), (6, iv .i64 s14.2)])) (Ωl := (fun (s14 : Int × Int) (x15 : Unit) => [oc b1 [iv .i64 d_0.Graph.N, slv rT_api_Pair d_0.Graph.L, iv .i64 d_0.Root, iv .i64 d_0.Limits.i0, iv .i64 d_0.Limits.i1, slv rT_api_Move d_0.Moves], oc b2 [iv .i64 0, iv .i64 0]])) (Γb := (fun (q22 : Int) (y23 : Unit) => [(1, pv (ptr b1 0)), (2, pv (ptr b2 0)), (4, iv .i64 lead8), (5, iv .i64 q22)])) (Ωb := (fun (q22 : Int) (y23 : Unit) => [oc b1 [iv .i64 d_0.Graph.N, slv rT_api_Pair d_0.Graph.L, iv .i64 d_0.Root, iv .i64 d_0.Limits.i0, iv .i64 d_0.Limits.i1, slv rT_api_Move d_0.Moves], oc b2 [iv .i64 0, iv .i64 0]])) (0, 0) () (weak [0, 1] ⟨rfl, rfl, rfl, rfl, rfl, trivial⟩ ⟨rfl, rfl, trivial⟩) (fun s14 x15 => ?_) (fun q22 y23 => ?_)
    · unfold ref27_End_l1
      refine ref_seq ?_
      refine ref_seq ?_
      refine ref_region ?_
      refine s_rd (r_move rfl) rfl ?_
      refine s_rd (r_faddr (fo := 5) Try.underlying31 rfl rfl Try.sizeOf29 rfl) rfl ?_
      refine s_rd (r_cload Try.isAgg29 rfl (j := 0) rfl rfl) rfl ?_
      refine s_rd (r_len Try.underlying29 rfl) rfl ?_
      refine s_rd (r_lss rfl rfl) rfl ?_
      refine l_nil ?_
      refine n_then ?_
      refine ref_cond rfl (fun hb16 => ?_) (fun hb16 => ?_)
      · refine ref_skip ?_
        refine n_then ?_
        refine ref_seq ?_
        refine ref_block ?_
        refine ref_seq ?_
        refine ref_region ?_
        refine s_rd (r_faddr (fo := 5) Try.underlying31 rfl rfl Try.sizeOf29 rfl) rfl ?_
        refine s_rd (r_cload Try.isAgg29 rfl (j := 0) rfl rfl) rfl ?_
        refine s_rd (r_move rfl) rfl ?_
        refine pull fun t17 h_t17 => ?_
        refine s_rd (r_index h_t17 Try.underlying29 el_38 rfl rfl) rfl ?_
        refine s_rd (r_fea (fo := 0) (ρ := rT_api_Move) (y := t17) (ρ' := (rI .i64)) (z := t17.By) Try.underlying38 rfl rfl Try.sizeOf3 rfl rfl rfl) rfl ?_
        refine s_rd (r_load el_3 rfl) rfl ?_
        refine s_rd (r_move rfl) rfl ?_
        refine s_rd (r_neq rfl rfl) rfl ?_
        refine l_nil ?_
        refine n_then ?_
        refine ref_cond rfl (fun hb18 => ?_) (fun hb18 => ?_)
        · refine ref_region ?_
          refine s_rd (r_move rfl) rfl ?_
          refine s_rd (r_add rfl rfl) rfl ?_
          refine s_rd (r_assign rfl) rfl ?_
          refine b_let (f := iv .i64) (t := 5) rfl fun made19 => ?_
          refine l_nil ?_
          refine n_block ?_
          refine n_then ?_
          refine ref_region ?_
          refine s_rd (r_move rfl) rfl ?_
          refine s_rd (r_add rfl rfl) rfl ?_
          refine s_rd (r_assign rfl) rfl ?_
          refine b_let (f := iv .i64) (t := 6) rfl fun i20 => ?_
          refine l_nil ?_
          exact goB () (weak [0, 1] ⟨rfl, rfl, rfl, rfl, rfl, trivial⟩ ⟨rfl, rfl, trivial⟩)
        · refine ref_skip ?_
          refine n_block ?_
          refine n_then ?_
          refine ref_region ?_
          refine s_rd (r_move rfl) rfl ?_
          refine s_rd (r_add rfl rfl) rfl ?_
          refine s_rd (r_assign rfl) rfl ?_
          refine b_let (f := iv .i64) (t := 6) rfl fun i21 => ?_
          refine l_nil ?_
          exact goB () (weak [0, 1] ⟨rfl, rfl, rfl, rfl, rfl, trivial⟩ ⟨rfl, rfl, trivial⟩)
      · refine ref_exit ?_
        refine x_then ?_
        exact brkB () (weak [0, 1] ⟨rfl, rfl, rfl, rfl, trivial⟩ ⟨rfl, rfl, trivial⟩)
    · refine n_then ?_
      refine ref_seq ?_
      refine ref_block ?_
      refine ref_seq ?_
      refine ref_region ?_
      refine s_rd (r_faddr (fo := 5) Try.underlying31 rfl rfl Try.sizeOf29 rfl) rfl ?_
      refine s_rd (r_cload Try.isAgg29 rfl (j := 0) rfl rfl) rfl ?_
      refine s_rd (r_len Try.underlying29 rfl) rfl ?_
      refine s_rd (r_geq rfl rfl) rfl ?_
      refine s_rd (r_assign rfl) rfl ?_
      refine b_let (f := bv) (t := 42) rfl fun t24 => ?_
      refine l_nil ?_
      refine n_then ?_
      refine ref_cond rfl (fun hb25 => ?_) (fun hb25 => ?_)
      · refine ref_seq ?_
        refine ref_region ?_
        refine s_rd (r_move rfl) rfl ?_
        refine s_rd (r_build (ps := [(0, .tmp 47), (1, .const (.int .i64 (4)))]) (rs := [(0, [iv .i64 lead8]), (1, [iv .i64 4])]) st_50 zs_50 ⟨rfl, (part_at rfl iv_at), ⟨rfl, (part_at rfl iv_at), trivial⟩⟩ rfl rfl) rfl ?_
        refine s_st0 (s_cstore (out := [iv .i64 lead8, iv .i64 4]) Try.sizeOf50 rfl (j := 1) rfl (part_ag (ψs := [iv .i64 lead8, iv .i64 4]) rfl (by intro φ h; simp only [List.mem_cons, List.not_mem_nil, or_false] at h; rcases h with rfl | rfl <;> first | exact iv_at | exact bv_at | exact sv_at | exact slv_at | exact pv_at rfl)) rfl rfl rfl) (fun _ => ?_)
        refine l_nil ?_
        refine n_then ?_
        refine ref_ret ?_
        refine r_block ?_
        refine r_then ?_
        exact fin1 (.inl rfl) () [] rfl trivial rfl (rv_cell rfl (j := 1) rfl Try.isAgg50 Try.sizeOf50 rfl rfl)
      · refine ref_seq ?_
        refine ref_region ?_
        refine s_rd (r_move rfl) rfl ?_
        refine s_rd (r_move rfl) rfl ?_
        refine s_rd (r_sub rfl rfl) rfl ?_
        refine s_rd (r_faddr (fo := 3) Try.underlying31 rfl rfl Try.sizeOf28 rfl) rfl ?_
        refine pull fun t26 h_t26 => ?_
        refine s_rd (r_aaddrV h_t26 rfl Try.underlying28 Try.sizeOf3 rfl rfl) rfl ?_
        refine s_rd (r_acload (ρ := (rI .i64)) (off := 3) h_t26 Try.isAgg3 rfl (j := 0) rfl rfl rfl rfl) rfl ?_
        refine s_rd (r_geq rfl rfl) rfl ?_
        refine s_rd (r_assign rfl) rfl ?_
        refine b_let (f := bv) (t := 49) rfl fun t27 => ?_
        refine l_nil ?_
        refine n_then ?_
        refine ref_cond rfl (fun hb28 => ?_) (fun hb28 => ?_)
        · refine ref_seq ?_
          refine ref_region ?_
          refine s_rd (r_move rfl) rfl ?_
          refine s_rd (r_build (ps := [(0, .tmp 57), (1, .const (.int .i64 (2)))]) (rs := [(0, [iv .i64 lead8]), (1, [iv .i64 2])]) st_50 zs_50 ⟨rfl, (part_at rfl iv_at), ⟨rfl, (part_at rfl iv_at), trivial⟩⟩ rfl rfl) rfl ?_
          refine s_st0 (s_cstore (out := [iv .i64 lead8, iv .i64 2]) Try.sizeOf50 rfl (j := 1) rfl (part_ag (ψs := [iv .i64 lead8, iv .i64 2]) rfl (by intro φ h; simp only [List.mem_cons, List.not_mem_nil, or_false] at h; rcases h with rfl | rfl <;> first | exact iv_at | exact bv_at | exact sv_at | exact slv_at | exact pv_at rfl)) rfl rfl rfl) (fun _ => ?_)
          refine l_nil ?_
          refine n_then ?_
          refine ref_ret ?_
          refine r_block ?_
          refine r_then ?_
          exact fin1 (.inl rfl) () [] rfl trivial rfl (rv_cell rfl (j := 1) rfl Try.isAgg50 Try.sizeOf50 rfl rfl)
        · refine ref_seq ?_
          refine ref_region ?_
          refine s_rd (r_cloadS Try.isAgg31 Try.sizeOf31 rfl (j := 0) rfl rfl rfl) rfl ?_
          refine pull fun t29 h_t29 => ?_
          refine s_st (s_call (ψ := fun (x30 : (Value × List Nat)) => pv x30.1) (args := [.tmp 60]) Try.call30 rfl (ref27_attacks_ok h_t29) ⟨arg rfl, trivial⟩ (fun _ _ _ _ h => h)) rfl (fun x30 => ?_)
          refine s_rd (r_olen Try.underlying29 rfl (j := 2) rfl) rfl ?_
          refine s_rd (r_eql rfl rfl) rfl ?_
          refine s_rd (r_assign rfl) rfl ?_
          refine b_let (f := bv) (t := 59) rfl fun t31 => ?_
          refine l_nil ?_
          refine n_then ?_
          refine ref_cond rfl (fun hb32 => ?_) (fun hb32 => ?_)
          · refine ref_seq ?_
            refine ref_region ?_
            refine s_rd (r_move rfl) rfl ?_
            refine s_rd (r_build (ps := [(0, .tmp 64), (1, .const (.int .i64 (1)))]) (rs := [(0, [iv .i64 lead8]), (1, [iv .i64 1])]) st_50 zs_50 ⟨rfl, (part_at rfl iv_at), ⟨rfl, (part_at rfl iv_at), trivial⟩⟩ rfl rfl) rfl ?_
            refine s_st0 (s_cstore (out := [iv .i64 lead8, iv .i64 1]) Try.sizeOf50 rfl (j := 1) rfl (part_ag (ψs := [iv .i64 lead8, iv .i64 1]) rfl (by intro φ h; simp only [List.mem_cons, List.not_mem_nil, or_false] at h; rcases h with rfl | rfl <;> first | exact iv_at | exact bv_at | exact sv_at | exact slv_at | exact pv_at rfl)) rfl rfl rfl) (fun _ => ?_)
            refine l_nil ?_
            refine n_then ?_
            refine ref_ret ?_
            refine r_block ?_
            refine r_then ?_
            exact fin1 (.inl rfl) () [] rfl trivial rfl (rv_cell rfl (j := 1) rfl Try.isAgg50 Try.sizeOf50 rfl rfl)
          · refine ref_skip ?_
            refine n_block ?_
            refine n_then ?_
            refine ref_seq ?_
            refine ref_region ?_
            refine s_rd (r_build (ps := []) (rs := []) st_50 zs_50 trivial rfl rfl) rfl ?_
            refine s_st0 (s_cstore (out := [iv .i64 0, iv .i64 0]) Try.sizeOf50 rfl (j := 1) rfl (part_ag (ψs := [iv .i64 0, iv .i64 0]) rfl (by intro φ h; simp only [List.mem_cons, List.not_mem_nil, or_false] at h; rcases h with rfl | rfl <;> first | exact iv_at | exact bv_at | exact sv_at | exact slv_at | exact pv_at rfl)) rfl rfl rfl) (fun _ => ?_)
            refine l_nil ?_
            refine n_then ?_
            refine ref_ret ?_
            exact fin1 (.inl rfl) () [] rfl trivial rfl (rv_cell rfl (j := 1) rfl Try.isAgg50 Try.sizeOf50 rfl rfl)

/-! deliberation/deliberationref27.Turn -/
noncomputable def ref27_Turn_m (d_0 : T_api_Dialogue) : Option (Int) :=
  Option.bind (ref27_End_m d_0) fun t2 =>
  bif !decide (t2 = (T_api_Outcome.mk 0 0)) then
    some 0
  else
    Option.bind (ref27_Status_m d_0) fun t4 =>
    Option.bind (ref27_leader_m t4) fun t6 =>
    some (isub .i64 3 t6)

theorem ref27_Turn_ok {d_0 : T_api_Dialogue} {r : Int} (hm : ref27_Turn_m d_0 = some r) :
    FnOk prog 12 [ag [iv .i64 d_0.Graph.N, slv rT_api_Pair d_0.Graph.L, iv .i64 d_0.Root, iv .i64 d_0.Limits.i0, iv .i64 d_0.Limits.i1, slv rT_api_Move d_0.Moves]] [] (fun (x : Unit) => [iv .i64 r]) (fun (x : Unit) => []) := by
  refine fn_ok (X := Unit) (fn := Try.f12) (N := 11) (m := ref27_Turn_m d_0) (res := fun r x => [iv .i64 r]) (Ω1 := fun r x => []) Try.func12 rfl rfl hm rfl (fun E hM => ?_)
  unfold ref27_Turn_m
  refine ref_seq ?_
  refine ref_region ?_
  refine s_st (s_box (part_ag (ψs := [iv .i64 d_0.Graph.N, slv rT_api_Pair d_0.Graph.L, iv .i64 d_0.Root, iv .i64 d_0.Limits.i0, iv .i64 d_0.Limits.i1, slv rT_api_Move d_0.Moves]) rfl (by intro φ h; simp only [List.mem_cons, List.not_mem_nil, or_false] at h; rcases h with rfl | rfl | rfl | rfl | rfl | rfl <;> first | exact iv_at | exact bv_at | exact sv_at | exact slv_at | exact pv_at rfl))) rfl (fun b1 => ?_)
  refine s_rd (r_assign rfl) rfl ?_
  refine l_nil ?_
  refine n_then ?_
  refine ref_seq ?_
  refine ref_seq ?_
  refine ref_region ?_
  refine s_rd (r_cloadS Try.isAgg31 Try.sizeOf31 rfl (j := 0) rfl rfl rfl) rfl ?_
  refine pull fun t2 h_t2 => ?_
  refine s_st (s_call (ψ := fun (_ : Unit) => ag [iv .i64 t2.Winner, iv .i64 t2.Reason]) (args := [.tmp 3]) Try.call33 rfl (ref27_End_ok h_t2) ⟨arg rfl, trivial⟩ (fun _ _ _ _ h => h)) rfl (fun _ => ?_)
  refine s_rd (r_build (ps := []) (rs := []) st_50 zs_50 trivial rfl rfl) rfl ?_
  refine s_rd (r_stneq (u := t2) (v := (T_api_Outcome.mk 0 0)) eq_50 rfl rfl rfl rfl) rfl ?_
  refine l_nil ?_
  refine n_then ?_
  refine ref_cond rfl (fun hb3 => ?_) (fun hb3 => ?_)
  · refine ref_seq ?_
    refine ref_region ?_
    refine s_rd (r_assign rfl) rfl ?_
    refine l_nil ?_
    refine n_then ?_
    refine ref_ret ?_
    refine r_then ?_
    exact fin1 (.inl rfl) () [] rfl trivial rfl (rv_tmp rfl)
  · refine ref_skip ?_
    refine n_then ?_
    refine ref_seq ?_
    refine ref_region ?_
    refine s_rd (r_cloadS Try.isAgg31 Try.sizeOf31 rfl (j := 0) rfl rfl rfl) rfl ?_
    refine pull fun t4 h_t4 => ?_
    refine s_st (s_call (ψ := fun (x5 : (Value × List Nat)) => pv x5.1) (args := [.tmp 7]) Try.call31 rfl (ref27_Status_ok h_t4) ⟨arg rfl, trivial⟩ (fun _ _ _ _ h => h)) rfl (fun x5 => ?_)
    refine pull fun t6 h_t6 => ?_
    refine s_st (s_callB (ψ := fun (_ : Unit) => iv .i64 t6) (args := [.tmp 8]) Try.call34 rfl (ref27_leader_ok h_t6) ⟨argO rfl (j := 1) rfl, trivial⟩ (fun _ _ _ _ _ h => h)) rfl (fun _ => ?_)
    refine s_rd (r_sub rfl rfl) rfl ?_
    refine s_rd (r_assign rfl) rfl ?_
    refine l_nil ?_
    refine b_of (nrm [oc b1 [iv .i64 d_0.Graph.N, slv rT_api_Pair d_0.Graph.L, iv .i64 d_0.Root, iv .i64 d_0.Limits.i0, iv .i64 d_0.Limits.i1, slv rT_api_Move d_0.Moves], oa (rI .i64) x5.1 x5.2 t4] rfl) ?_
    refine n_then ?_
    refine ref_ret ?_
    exact fin1 (.inl rfl) () [] rfl trivial rfl (rv_tmp rfl)

/-! deliberation/deliberationref27.Legal -/
noncomputable def ref27_Legal_m (d_0 : T_api_Dialogue) : Option (List T_api_Move) :=
  Option.bind (ref27_Turn_m d_0) fun t2 =>
  bif t2 == 0 then
    some []
  else
    Option.bind (ref27_attacks_m d_0) fun t4 =>
    some t4

theorem ref27_Legal_ok {d_0 : T_api_Dialogue} {r : List T_api_Move} (hm : ref27_Legal_m d_0 = some r) :
    FnOk prog 9 [ag [iv .i64 d_0.Graph.N, slv rT_api_Pair d_0.Graph.L, iv .i64 d_0.Root, iv .i64 d_0.Limits.i0, iv .i64 d_0.Limits.i1, slv rT_api_Move d_0.Moves]] [] (fun (x : (Value × List Nat)) => [pv x.1]) (fun (x : (Value × List Nat)) => [oa rT_api_Move x.1 x.2 r]) := by
  refine fn_ok (X := (Value × List Nat)) (fn := Try.f9) (N := 8) (m := ref27_Legal_m d_0) (res := fun r x => [pv x.1]) (Ω1 := fun r x => [oa rT_api_Move x.1 x.2 r]) Try.func9 rfl rfl hm rfl (fun E hM => ?_)
  unfold ref27_Legal_m
  refine ref_seq ?_
  refine ref_region ?_
  refine s_st (s_box (part_ag (ψs := [iv .i64 d_0.Graph.N, slv rT_api_Pair d_0.Graph.L, iv .i64 d_0.Root, iv .i64 d_0.Limits.i0, iv .i64 d_0.Limits.i1, slv rT_api_Move d_0.Moves]) rfl (by intro φ h; simp only [List.mem_cons, List.not_mem_nil, or_false] at h; rcases h with rfl | rfl | rfl | rfl | rfl | rfl <;> first | exact iv_at | exact bv_at | exact sv_at | exact slv_at | exact pv_at rfl))) rfl (fun b1 => ?_)
  refine s_rd (r_assign rfl) rfl ?_
  refine l_nil ?_
  refine n_then ?_
  refine ref_seq ?_
  refine ref_seq ?_
  refine ref_region ?_
  refine s_rd (r_cloadS Try.isAgg31 Try.sizeOf31 rfl (j := 0) rfl rfl rfl) rfl ?_
  refine pull fun t2 h_t2 => ?_
  refine s_st (s_call (ψ := fun (_ : Unit) => iv .i64 t2) (args := [.tmp 3]) Try.call12 rfl (ref27_Turn_ok h_t2) ⟨arg rfl, trivial⟩ (fun _ _ _ _ h => h)) rfl (fun _ => ?_)
  refine s_rd (r_eql rfl rfl) rfl ?_
  refine l_nil ?_
  refine n_then ?_
  refine ref_cond rfl (fun hb3 => ?_) (fun hb3 => ?_)
  · refine ref_seq ?_
    refine ref_region ?_
    refine s_rd (r_assign rfl) rfl ?_
    refine l_nil ?_
    refine n_then ?_
    refine ref_ret ?_
    refine r_then ?_
    refine b_of (own_nil rT_api_Move) ?_
    exact fin1 (.inl rfl) ((.slice none 0 0), []) [1] rfl ⟨rfl, trivial⟩ rfl (rv_tmp rfl)
  · refine ref_skip ?_
    refine n_then ?_
    refine ref_seq ?_
    refine ref_region ?_
    refine s_rd (r_cloadS Try.isAgg31 Try.sizeOf31 rfl (j := 0) rfl rfl rfl) rfl ?_
    refine pull fun t4 h_t4 => ?_
    refine s_st (s_call (ψ := fun (x5 : (Value × List Nat)) => pv x5.1) (args := [.tmp 6]) Try.call30 rfl (ref27_attacks_ok h_t4) ⟨arg rfl, trivial⟩ (fun _ _ _ _ h => h)) rfl (fun x5 => ?_)
    refine s_rd (r_assign rfl) rfl ?_
    refine l_nil ?_
    refine n_then ?_
    refine ref_ret ?_
    exact fin1 (.inl rfl) x5 [1] rfl ⟨rfl, trivial⟩ rfl (rv_tmp rfl)

end Go.Dc
