/- Part LAW22W.A0 of a proof: lemmas. -/
import Derived.Test.YtmbflfngkcmfeaaDoorLAW22WLay
import Derived.Test.YtmbflfngkcmfeaaDoorProg
set_option linter.unusedVariables false
set_option maxRecDepth 100000
set_option maxHeartbeats 4000000
namespace Go.Dc
open Go.Proofs
open Go.Proofs.Tryd (prog)

/-! deliberation/deliberationkeep.New -/
noncomputable def keep_New_m (l_0 : (List Int)) : Option (T_deliberationkeep_Src) :=
  Option.bind (slM l_0 0 (imin (l_0.length : Int) 2000)) fun t1 =>
  some (T_deliberationkeep_Src.mk t1 0)

theorem keep_New_ok {l_0 : (List Int)} {r : T_deliberationkeep_Src} (hm : keep_New_m l_0 = some r) :
    FnOk prog 9 [slv (rI .i64) l_0] [] (fun (x : Nat) => [pv (ptr x 0)]) (fun (x : Nat) => [oc x [slv (rI .i64) r.L, iv .i64 r.At]]) := by
  refine fn_ok (X := Nat) (fn := Tryd.f9) (N := 10) (res := fun r x => [pv (ptr x 0)]) (Ω1 := fun r x => [oc x [slv (rI .i64) r.L, iv .i64 r.At]]) Tryd.func9 rfl rfl hm rfl (fun E hM => ?_)
  unfold keep_New_m
  refine ref_seq (ref_region ?_)
  refine as1 rfl rfl ?_
  refine l_nil (n_then (ref_seq (ref_region ?_)))
  refine mv1 rfl rfl ?_
  refine mv1 rfl rfl ?_
  refine s_rd (r_len Tryd.underlying22 rfl) rfl ?_
  refine s_rd (r_min rfl rfl) rfl ?_
  refine pull fun t1 h_t1 => ?_
  refine s_rd (r_slice h_t1 Tryd.underlying22 el_3 rfl .dft (.of rfl)) rfl ?_
  refine s_rd (r_build (ps := [(0, .tmp 7)]) (rs := [(0, [slv (rI .i64) t1])]) st_69 zs_69 ⟨rfl, (part_at rfl slv_at), trivial⟩ rfl rfl) rfl ?_
  refine s_st (s_box (part_agO (ψs := [slv (rI .i64) t1, iv .i64 0]) rfl ⟨.inl slv_at, .inl iv_at, trivial⟩)) rfl (fun b2 => ?_)
  refine as1 rfl rfl ?_
  refine l_nil (n_then (ref_ret ?_))
  exact fin1 (.inl rfl) b2 [0] rfl ⟨rfl, trivial⟩ rfl (rv_tmp rfl)

/-! (*deliberation/deliberationkeep.Src).Raw -/
noncomputable def keep_Src_Raw_m (s_0 : T_deliberationkeep_Src) : Option (Int × T_deliberationkeep_Src) :=
  bif decide (s_0.At ≥ (s_0.L.length : Int)) then
    some (0, s_0)
  else
    Option.bind (idxM s_0.L (isub .i64 (iadd .i64 s_0.At 1) 1)) fun t2 =>
    some (t2, (T_deliberationkeep_Src.mk s_0.L (iadd .i64 s_0.At 1)))

theorem keep_Src_Raw_ok {s_0 : T_deliberationkeep_Src} {b_0 : Nat} {r : Int × T_deliberationkeep_Src} (hm : keep_Src_Raw_m s_0 = some r) :
    FnOk prog 35 [pv (ptr b_0 0)] [oc b_0 [slv (rI .i64) s_0.L, iv .i64 s_0.At]] (fun (x : Unit) => [iv .i64 r.1]) (fun (x : Unit) => [oc b_0 [slv (rI .i64) r.2.L, iv .i64 r.2.At]]) := by
  refine fn_ok (fn := Tryd.f35) (N := 31) (res := fun r x => [iv .i64 r.1]) (Ω1 := fun r x => [oc b_0 [slv (rI .i64) r.2.L, iv .i64 r.2.At]]) Tryd.func35 rfl rfl hm rfl (fun E hM => ?_)
  unfold keep_Src_Raw_m
  refine ref_seq (ref_region ?_)
  refine as1 rfl rfl ?_
  refine l_nil (n_then (ref_seq (ref_seq ?_)))
  refine ref_draw [0, 1, 2, 3, 4, 5, 6, 7, 8, 9] rfl (by kernel_rfl) (fun hok => ?_)
  refine a_rd (i := 0) hok rfl (by kernel_rfl) rfl (r_move rfl) rfl ?_
  refine a_rd (i := 1) hok rfl (by kernel_rfl) rfl (r_nilc rfl) rfl ?_
  refine a_rd (i := 2) hok rfl (by kernel_rfl) rfl (r_faddr (fo := 1) Tryd.underlying69 rfl rfl Tryd.sizeOf3 rfl) rfl ?_
  refine a_rd (i := 3) hok rfl (by kernel_rfl) rfl (r_cload Tryd.isAgg3 rfl (j := 0) rfl rfl) rfl ?_
  refine a_rd (i := 4) hok rfl (by kernel_rfl) rfl (r_move rfl) rfl ?_
  refine a_rd (i := 5) hok rfl (by kernel_rfl) rfl (r_nilc rfl) rfl ?_
  refine a_rd (i := 6) hok rfl (by kernel_rfl) rfl (r_faddr (fo := 0) Tryd.underlying69 rfl rfl Tryd.sizeOf22 rfl) rfl ?_
  refine a_rd (i := 7) hok rfl (by kernel_rfl) rfl (r_cload Tryd.isAgg22 rfl (j := 0) rfl rfl) rfl ?_
  refine a_rd (i := 8) hok rfl (by kernel_rfl) rfl (r_len Tryd.underlying22 rfl) rfl ?_
  refine a_rd (i := 9) hok rfl (by kernel_rfl) rfl (r_geq rfl rfl) rfl ?_
  refine a_fin hok (by kernel_rfl) ?_
  refine n_then ?_
  refine ref_cond rfl (fun hb1 => ?_) (fun hb1 => ?_)
  · refine ref_seq (ref_region ?_)
    refine as1 rfl rfl ?_
    refine l_nil (n_then (ref_ret (r_then ?_)))
    exact fin1 (.inl rfl) () [0] rfl ⟨rfl, trivial⟩ rfl (rv_tmp rfl)
  refine ref_skip (n_then (ref_seq (ref_region ?_)))
  refine mv1 rfl rfl ?_
  refine s_rd (r_nilc rfl) rfl ?_
  refine s_rd (r_faddr (fo := 1) Tryd.underlying69 rfl rfl Tryd.sizeOf3 rfl) rfl ?_
  refine s_rd (r_cload Tryd.isAgg3 rfl (j := 0) rfl rfl) rfl ?_
  refine s_rd (r_add rfl rfl) rfl ?_
  refine s_rd (r_nilc rfl) rfl ?_
  refine s_rd (r_faddr (fo := 1) Tryd.underlying69 rfl rfl Tryd.sizeOf3 rfl) rfl ?_
  refine s_st0 (s_cstore (out := [slv (rI .i64) s_0.L, iv .i64 (iadd .i64 s_0.At 1)]) Tryd.sizeOf3 rfl (j := 0) rfl (part_at rfl iv_at) rfl rfl rfl) (fun _ => ?_)
  refine l_nil (n_then (ref_seq ?_))
  refine ref_draw [0, 1, 2, 3, 4, 5, 6, 7, 8, 9, 10] rfl (by kernel_rfl) (fun hok => ?_)
  refine a_rd (i := 0) hok rfl (by kernel_rfl) rfl (r_move rfl) rfl ?_
  refine a_rd (i := 1) hok rfl (by kernel_rfl) rfl (r_nilc rfl) rfl ?_
  refine a_rd (i := 2) hok rfl (by kernel_rfl) rfl (r_faddr (fo := 0) Tryd.underlying69 rfl rfl Tryd.sizeOf22 rfl) rfl ?_
  refine a_rd (i := 3) hok rfl (by kernel_rfl) rfl (r_cload Tryd.isAgg22 rfl (j := 0) rfl rfl) rfl ?_
  refine a_rd (i := 4) hok rfl (by kernel_rfl) rfl (r_move rfl) rfl ?_
  refine a_rd (i := 5) hok rfl (by kernel_rfl) rfl (r_nilc rfl) rfl ?_
  refine a_rd (i := 6) hok rfl (by kernel_rfl) rfl (r_faddr (fo := 1) Tryd.underlying69 rfl rfl Tryd.sizeOf3 rfl) rfl ?_
  refine a_rd (i := 7) hok rfl (by kernel_rfl) rfl (r_cload Tryd.isAgg3 rfl (j := 0) rfl rfl) rfl ?_
  refine a_rd (i := 8) hok rfl (by kernel_rfl) rfl (r_sub rfl rfl) rfl ?_
  refine pull fun t2 h_t2 => ?_
  refine a_rd (i := 9) hok rfl (by kernel_rfl) rfl (r_index h_t2 Tryd.underlying22 el_3 rfl rfl) rfl ?_
  refine a_rd (i := 10) hok rfl (by kernel_rfl) rfl (r_load el_3 rfl) rfl ?_
  refine a_next hok 11 [] (by kernel_rfl) ?_ trivial
  refine a_st (i := 11) hok rfl rfl (St.ofRd (r_assign rfl)) (by intro _ h; cases h; rfl) (fun _ => ⟨trivial, ⟨trivial, ⟨trivial, ⟨trivial, ⟨trivial, ⟨trivial, ⟨trivial, ⟨trivial, ⟨trivial, ⟨trivial, ⟨trivial, trivial⟩⟩⟩⟩⟩⟩⟩⟩⟩⟩⟩) (fun _ => ?_)
  refine a_fin hok (by kernel_rfl) ?_
  refine n_then (ref_ret ?_)
  exact fin1 (.inl rfl) () [0] rfl ⟨rfl, trivial⟩ rfl (rv_tmp rfl)

/-! deliberation/deliberationkeep.Mod -/
noncomputable def keep_Mod_m (x_0 : Int) (n_1 : Int) : Option (Int) :=
  bif decide (n_1 < 1) then
    some 0
  else
    Option.bind (iremM .i64 x_0 n_1) fun x2 =>
    bif decide (x2 < 0) then
      letM (iadd .i64 x2 n_1) fun x4 =>
      some x4
    else
      some x2

theorem keep_Mod_ok {x_0 : Int} {n_1 : Int} {r : Int} (hm : keep_Mod_m x_0 n_1 = some r) :
    FnOk prog 19 [iv .i64 x_0, iv .i64 n_1] [] (fun (x : Unit) => [iv .i64 r]) (fun (x : Unit) => []) := by
  refine fn_ok (fn := Tryd.f19) (N := 16) (res := fun r x => [iv .i64 r]) (Ω1 := fun r x => []) Tryd.func19 rfl rfl hm rfl (fun E hM => ?_)
  unfold keep_Mod_m
  refine ref_seq (ref_region ?_)
  refine as1 rfl rfl ?_
  refine l_nil (n_then (ref_seq (ref_seq (ref_region ?_))))
  refine mv1 rfl rfl ?_
  refine s_rd (r_lss rfl rfl) rfl ?_
  refine l_nil (n_then ?_)
  refine ref_cond rfl (fun hb1 => ?_) (fun hb1 => ?_)
  · refine ref_seq (ref_region ?_)
    refine as1 rfl rfl ?_
    refine l_nil (n_then (ref_ret (r_then ?_)))
    exact fin1 (.inl rfl) () [] rfl trivial rfl (rv_tmp rfl)
  refine ref_skip (n_then (ref_seq (ref_region ?_)))
  refine mv1 rfl rfl ?_
  refine mv1 rfl rfl ?_
  refine pull fun x2 h_x2 => ?_
  refine s_rd (r_remM h_x2 rfl rfl) rfl ?_
  refine as1 rfl rfl ?_
  refine l_nil (n_then (ref_seq (ref_seq (ref_region ?_))))
  refine mv1 rfl rfl ?_
  refine s_rd (r_lss rfl rfl) rfl ?_
  refine l_nil (n_then ?_)
  refine ref_cond rfl (fun hb3 => ?_) (fun hb3 => ?_)
  · refine ref_region ?_
    refine mv1 rfl rfl ?_
    refine mv1 rfl rfl ?_
    refine s_rd (r_add rfl rfl) rfl ?_
    refine as1 rfl rfl ?_
    refine b_let (f := iv .i64) (t := 0) rfl fun x4 => ?_
    refine l_nil (n_then (ref_seq (ref_region ?_)))
    refine mv1 rfl rfl ?_
    refine as1 rfl rfl ?_
    refine l_nil (n_then (ref_ret ?_))
    exact fin1 (.inl rfl) () [] rfl trivial rfl (rv_tmp rfl)
  refine ref_skip (n_then (ref_seq (ref_region ?_)))
  refine mv1 rfl rfl ?_
  refine as1 rfl rfl ?_
  refine l_nil (n_then (ref_ret ?_))
  exact fin1 (.inl rfl) () [] rfl trivial rfl (rv_tmp rfl)

/-! (*deliberation/deliberationkeep.Src).N -/
noncomputable def keep_Src_N_m (s_0 : T_deliberationkeep_Src) (n_1 : Int) : Option (Int × T_deliberationkeep_Src) :=
  Option.bind (keep_Src_Raw_m s_0) fun t1 =>
  Option.bind (keep_Mod_m t1.1 n_1) fun t2 =>
  some (t2, t1.2)

theorem keep_Src_N_ok {s_0 : T_deliberationkeep_Src} {n_1 : Int} {b_0 : Nat} {r : Int × T_deliberationkeep_Src} (hm : keep_Src_N_m s_0 n_1 = some r) :
    FnOk prog 11 [pv (ptr b_0 0), iv .i64 n_1] [oc b_0 [slv (rI .i64) s_0.L, iv .i64 s_0.At]] (fun (x : Unit) => [iv .i64 r.1]) (fun (x : Unit) => [oc b_0 [slv (rI .i64) r.2.L, iv .i64 r.2.At]]) := by
  refine fn_ok (fn := Tryd.f11) (N := 9) (res := fun r x => [iv .i64 r.1]) (Ω1 := fun r x => [oc b_0 [slv (rI .i64) r.2.L, iv .i64 r.2.At]]) Tryd.func11 rfl rfl hm rfl (fun E hM => ?_)
  unfold keep_Src_N_m
  refine ref_seq (ref_region ?_)
  refine as1 rfl rfl ?_
  refine l_nil (n_then (ref_seq (ref_region ?_)))
  refine mv1 rfl rfl ?_
  refine pull fun t1 h_t1 => ?_
  refine s_st (s_callC [0] [true] (fun (_ : Unit) => [oc b_0 [slv (rI .i64) t1.2.L, iv .i64 t1.2.At]]) (fun (_ : Unit) => []) (fun (_ : Unit) => iv .i64 t1.1) (args := [.tmp 5]) (caps := []) Tryd.call35 rfl (keep_Src_Raw_ok h_t1) ⟨rfl, rfl, trivial⟩ (fun _ => rfl) (fun _ => trivial) (fun _ => rfl) ⟨arg rfl, trivial⟩ (fun _ _ _ _ h => h)) rfl (fun _ => ?_)
  refine mv1 rfl rfl ?_
  refine pull fun t2 h_t2 => ?_
  refine s_st (s_call (ψ := fun (_ : Unit) => iv .i64 t2) (args := [.tmp 6, .tmp 7]) Tryd.call19 rfl (keep_Mod_ok h_t2) ⟨arg rfl, arg rfl, trivial⟩ (fun _ _ _ _ h => h)) rfl (fun _ => ?_)
  refine as1 rfl rfl ?_
  refine l_nil (n_then (ref_ret ?_))
  exact fin1 (.inl rfl) () [0] rfl ⟨rfl, trivial⟩ rfl (rv_tmp rfl)

/-! (*deliberation/deliberationkeep.Src).Range -/
noncomputable def keep_Src_Range_m (s_0 : T_deliberationkeep_Src) (lo_1 : Int) (hi_2 : Int) : Option (Int × T_deliberationkeep_Src) :=
  Option.bind (keep_Src_N_m s_0 (iadd .i64 (isub .i64 hi_2 lo_1) 1)) fun t1 =>
  letM (iadd .i64 lo_1 t1.1) fun t2 =>
  some (t2, t1.2)

theorem keep_Src_Range_ok {s_0 : T_deliberationkeep_Src} {lo_1 : Int} {hi_2 : Int} {b_0 : Nat} {r : Int × T_deliberationkeep_Src} (hm : keep_Src_Range_m s_0 lo_1 hi_2 = some r) :
    FnOk prog 24 [pv (ptr b_0 0), iv .i64 lo_1, iv .i64 hi_2] [oc b_0 [slv (rI .i64) s_0.L, iv .i64 s_0.At]] (fun (x : Unit) => [iv .i64 r.1]) (fun (x : Unit) => [oc b_0 [slv (rI .i64) r.2.L, iv .i64 r.2.At]]) := by
  refine fn_ok (fn := Tryd.f24) (N := 15) (res := fun r x => [iv .i64 r.1]) (Ω1 := fun r x => [oc b_0 [slv (rI .i64) r.2.L, iv .i64 r.2.At]]) Tryd.func24 rfl rfl hm rfl (fun E hM => ?_)
  unfold keep_Src_Range_m
  refine ref_seq (ref_region ?_)
  refine as1 rfl rfl ?_
  refine l_nil (n_then (ref_seq (ref_region ?_)))
  refine mv1 rfl rfl ?_
  refine mv1 rfl rfl ?_
  refine mv1 rfl rfl ?_
  refine mv1 rfl rfl ?_
  refine s_rd (r_sub rfl rfl) rfl ?_
  refine s_rd (r_add rfl rfl) rfl ?_
  refine pull fun t1 h_t1 => ?_
  refine s_st (s_callC [0] [true] (fun (_ : Unit) => [oc b_0 [slv (rI .i64) t1.2.L, iv .i64 t1.2.At]]) (fun (_ : Unit) => []) (fun (_ : Unit) => iv .i64 t1.1) (args := [.tmp 8, .tmp 12]) (caps := []) Tryd.call11 rfl (keep_Src_N_ok h_t1) ⟨rfl, rfl, trivial⟩ (fun _ => rfl) (fun _ => trivial) (fun _ => rfl) ⟨arg rfl, arg rfl, trivial⟩ (fun _ _ _ _ h => h)) rfl (fun _ => ?_)
  refine s_rd (r_add rfl rfl) rfl ?_
  refine as1 rfl rfl ?_
  refine b_let (f := iv .i64) (t := 6) rfl fun t2 => ?_
  refine l_nil (n_then (ref_ret ?_))
  exact fin1 (.inl rfl) () [0] rfl ⟨rfl, trivial⟩ rfl (rv_tmp rfl)

/-! deliberation/deliberationnet.Graph -/
noncomputable def net_Graph_l2 (t2 : Int × T_deliberationkeep_Src) (dense4 : Int × T_deliberationkeep_Src) (s159 : Int × T_deliberationkeep_Src × (List T_api_Pair)) (s186 : Int × T_deliberationkeep_Src × (List T_api_Pair)) : Option (Sum (T_deliberationkeep_Src × (List T_api_Pair)) (Int × T_deliberationkeep_Src × (List T_api_Pair))) :=
  bif decide (s186.1 < t2.1) then
    joinM (fun j190 : Int =>
        Option.bind (keep_Src_N_m s186.2.1 j190) fun t193 =>
        bif t193.1 == 1 then
          Option.bind (appM 16 s186.2.2 [(T_api_Pair.mk s159.1 s186.1)]) fun t195 =>
          letM (iadd .i64 s186.1 1) fun b197 =>
          some (Sum.inr (b197, t193.2, t195))
        else
          letM (iadd .i64 s186.1 1) fun b198 =>
          some (Sum.inr (b198, t193.2, s186.2.2))) fun k192 =>
    bif s159.1 == s186.1 then
      k192 9
    else
      k192 dense4.1
  else
    some (Sum.inl (s186.2.1, s186.2.2))

noncomputable def net_Graph_l1 (t2 : Int × T_deliberationkeep_Src) (dense4 : Int × T_deliberationkeep_Src) (s159 : Int × T_deliberationkeep_Src × (List T_api_Pair)) : Option (Sum (T_deliberationkeep_Src × (List T_api_Pair)) (Int × T_deliberationkeep_Src × (List T_api_Pair))) :=
  bif decide (s159.1 < t2.1) then
    Option.bind (loopC (net_Graph_l2 t2 dense4 s159) (0, s159.2.1, s159.2.2)) fun q199 : T_deliberationkeep_Src × (List T_api_Pair) =>
    letM (iadd .i64 s159.1 1) fun a_201 =>
    some (Sum.inr (a_201, q199.1, q199.2))
  else
    some (Sum.inl (s159.2.1, s159.2.2))

noncomputable def net_Graph_m (s_0 : T_deliberationkeep_Src) (n_1 : Int) : Option (T_api_Graph × T_deliberationkeep_Src) :=
  Option.bind (keep_Src_Range_m s_0 1 n_1) fun t2 =>
  Option.bind (keep_Src_Range_m t2.2 2 5) fun dense4 =>
  Option.bind (loopC (net_Graph_l1 t2 dense4) (0, dense4.2, [])) fun q202 : T_deliberationkeep_Src × (List T_api_Pair) =>
  some ((T_api_Graph.mk t2.1 q202.2), q202.1)

theorem net_Graph_ok {s_0 : T_deliberationkeep_Src} {n_1 : Int} {b_0 : Nat} {r : T_api_Graph × T_deliberationkeep_Src} (hm : net_Graph_m s_0 n_1 = some r) :
    FnOk prog 17 [pv (ptr b_0 0), iv .i64 n_1] [oc b_0 [slv (rI .i64) s_0.L, iv .i64 s_0.At]] (fun (x : Unit) => [ag [iv .i64 r.1.N, slv rT_api_Pair r.1.L]]) (fun (x : Unit) => [oc b_0 [slv (rI .i64) r.2.L, iv .i64 r.2.At]]) := by
  refine fn_ok (fn := Tryd.f17) (N := 45) (res := fun r x => [ag [iv .i64 r.1.N, slv rT_api_Pair r.1.L]]) (Ω1 := fun r x => [oc b_0 [slv (rI .i64) r.2.L, iv .i64 r.2.At]]) Tryd.func17 rfl rfl hm rfl (fun E hM => ?_)
  unfold net_Graph_m
  refine ref_seq (ref_region ?_)
  refine s_st (s_alloc zt_27) rfl (fun b1 => ?_)
  refine l_nil (n_then (ref_seq (ref_region ?_)))
  refine mv1 rfl rfl ?_
  refine mv1 rfl rfl ?_
  refine pull fun t2 h_t2 => ?_
  refine s_st (s_callC [0] [true] (fun (_ : Unit) => [oc b_0 [slv (rI .i64) t2.2.L, iv .i64 t2.2.At]]) (fun (_ : Unit) => []) (fun (_ : Unit) => iv .i64 t2.1) (args := [.tmp 10, .const (.int .i64 (1)), .tmp 11]) (caps := []) Tryd.call24 rfl (keep_Src_Range_ok h_t2) ⟨rfl, rfl, trivial⟩ (fun _ => rfl) (fun _ => trivial) (fun _ => rfl) ⟨arg rfl, arg rfl, arg rfl, trivial⟩ (fun _ _ _ _ h => h)) rfl (fun _ => ?_)
  refine s_rd (r_build (ps := [(0, .tmp 12)]) (rs := [(0, [iv .i64 t2.1])]) st_27 zs_27 ⟨rfl, (part_at rfl iv_at), trivial⟩ rfl rfl) rfl ?_
  refine s_st (s_alloc zt_27) rfl (fun b3 => ?_)
  refine s_st0 (s_cstore (out := [iv .i64 t2.1, pv (.slice none 0 0)]) Tryd.sizeOf27 rfl (j := 2) rfl (part_agO (ψs := [iv .i64 t2.1, pv (.slice none 0 0)]) rfl ⟨.inl iv_at, .inl (pv_at rfl), trivial⟩) rfl rfl rfl) (fun _ => ?_)
  refine l_nil ?_
  refine b_of (nrm [oc b_0 [slv (rI .i64) t2.2.L, iv .i64 t2.2.At], oc b1 [iv .i64 0, pv (.slice none 0 0)], oc b3 [iv .i64 t2.1, pv (.slice none 0 0)]] rfl) ?_
  refine n_then (ref_seq (ref_region ?_))
  refine mv1 rfl rfl ?_
  refine pull fun dense4 h_dense4 => ?_
  refine s_st (s_callC [0] [true] (fun (_ : Unit) => [oc b_0 [slv (rI .i64) dense4.2.L, iv .i64 dense4.2.At]]) (fun (_ : Unit) => []) (fun (_ : Unit) => iv .i64 dense4.1) (args := [.tmp 14, .const (.int .i64 (2)), .const (.int .i64 (5))]) (caps := []) Tryd.call24 rfl (keep_Src_Range_ok h_dense4) ⟨rfl, rfl, trivial⟩ (fun _ => rfl) (fun _ => trivial) (fun _ => rfl) ⟨arg rfl, arg rfl, arg rfl, trivial⟩ (fun _ _ _ _ h => h)) rfl (fun _ => ?_)
  refine as1 rfl rfl ?_
  refine l_nil (n_then (ref_seq (ref_seq (ref_region ?_))))
  refine as1 rfl rfl ?_
  refine l_nil (n_then ?_)
  refine b_of (own_nil rT_api_Pair) ?_
  refine ref_loopB (f := (net_Graph_l1 t2 dense4)) (Γl := (fun (s159 : Int × T_deliberationkeep_Src × (List T_api_Pair)) (x160 : (Value × List Nat)) => [(0, pv (ptr b_0 0)), (4, pv (ptr b1 0)), (5, pv (ptr b3 0)), (6, iv .i64 dense4.1), (7, iv .i64 s159.1)])) (Ωl := (fun (s159 : Int × T_deliberationkeep_Src × (List T_api_Pair)) (x160 : (Value × List Nat)) => [oc b_0 [slv (rI .i64) s159.2.1.L, iv .i64 s159.2.1.At], oc b1 [iv .i64 0, pv (.slice none 0 0)], oc b3 [iv .i64 t2.1, pv x160.1], oa rT_api_Pair x160.1 x160.2 s159.2.2])) (Γb := (fun (q202 : T_deliberationkeep_Src × (List T_api_Pair)) (y203 : (Value × List Nat)) => [(0, pv (ptr b_0 0)), (4, pv (ptr b1 0)), (5, pv (ptr b3 0))])) (Ωb := (fun (q202 : T_deliberationkeep_Src × (List T_api_Pair)) (y203 : (Value × List Nat)) => [oc b_0 [slv (rI .i64) q202.1.L, iv .i64 q202.1.At], oc b1 [iv .i64 0, pv (.slice none 0 0)], oc b3 [iv .i64 t2.1, pv y203.1], oa rT_api_Pair y203.1 y203.2 q202.2])) (0, dense4.2, []) ((.slice none 0 0), []) (weak [0, 1, 2, 3] ⟨rfl, rfl, rfl, rfl, rfl, trivial⟩ ⟨rfl, rfl, rfl, rfl, trivial⟩) (fun s159 x160 => ?_) (fun q202 y203 => ?_)
  · unfold net_Graph_l1
    refine ref_seq (ref_seq (ref_region ?_))
    refine mv1 rfl rfl ?_
    refine s_rd (r_faddr (fo := 0) Tryd.underlying27 rfl rfl Tryd.sizeOf3 rfl) rfl ?_
    refine s_rd (r_cload Tryd.isAgg3 rfl (j := 2) rfl rfl) rfl ?_
    refine s_rd (r_lss rfl rfl) rfl ?_
    refine l_nil (n_then ?_)
    refine ref_cond rfl (fun hb161 => ?_) (fun hb161 => ?_)
    · refine ref_skip (n_then (ref_seq (ref_block (ref_seq (ref_region ?_)))))
      refine as1 rfl rfl ?_
      refine l_nil (n_then ?_)
      refine ref_loopB (f := (net_Graph_l2 t2 dense4 s159)) (Γl := (fun (s186 : Int × T_deliberationkeep_Src × (List T_api_Pair)) (x187 : (Value × List Nat)) => [(0, pv (ptr b_0 0)), (4, pv (ptr b1 0)), (5, pv (ptr b3 0)), (6, iv .i64 dense4.1), (7, iv .i64 s159.1), (8, iv .i64 s186.1)])) (Ωl := (fun (s186 : Int × T_deliberationkeep_Src × (List T_api_Pair)) (x187 : (Value × List Nat)) => [oc b_0 [slv (rI .i64) s186.2.1.L, iv .i64 s186.2.1.At], oc b1 [iv .i64 0, pv (.slice none 0 0)], oc b3 [iv .i64 t2.1, pv x187.1], oa rT_api_Pair x187.1 x187.2 s186.2.2])) (Γb := (fun (q199 : T_deliberationkeep_Src × (List T_api_Pair)) (y200 : (Value × List Nat)) => [(0, pv (ptr b_0 0)), (4, pv (ptr b1 0)), (5, pv (ptr b3 0)), (6, iv .i64 dense4.1), (7, iv .i64 s159.1)])) (Ωb := (fun (q199 : T_deliberationkeep_Src × (List T_api_Pair)) (y200 : (Value × List Nat)) => [oc b_0 [slv (rI .i64) q199.1.L, iv .i64 q199.1.At], oc b1 [iv .i64 0, pv (.slice none 0 0)], oc b3 [iv .i64 t2.1, pv y200.1], oa rT_api_Pair y200.1 y200.2 q199.2])) (0, s159.2.1, s159.2.2) x160 (weak [0, 1, 2, 3] ⟨rfl, rfl, rfl, rfl, rfl, rfl, trivial⟩ ⟨rfl, rfl, rfl, rfl, trivial⟩) (fun s186 x187 => ?_) (fun q199 y200 => ?_)
      · unfold net_Graph_l2
        refine ref_seq (ref_seq (ref_region ?_))
        refine mv1 rfl rfl ?_
        refine s_rd (r_faddr (fo := 0) Tryd.underlying27 rfl rfl Tryd.sizeOf3 rfl) rfl ?_
        refine s_rd (r_cload Tryd.isAgg3 rfl (j := 2) rfl rfl) rfl ?_
        refine s_rd (r_lss rfl rfl) rfl ?_
        refine l_nil (n_then ?_)
        refine ref_cond rfl (fun hb188 => ?_) (fun hb188 => ?_)
        · refine ref_skip (n_then (ref_seq (ref_block (ref_seq (ref_region ?_)))))
          refine mv1 rfl rfl ?_
          refine as1 rfl rfl ?_
          refine l_nil (n_then (ref_seq ?_))
          refine ref_join (fun (j190 : Int) (x191 : Unit) => [(0, pv (ptr b_0 0)), (4, pv (ptr b1 0)), (5, pv (ptr b3 0)), (6, iv .i64 dense4.1), (7, iv .i64 s159.1), (8, iv .i64 s186.1), (9, iv .i64 j190)]) (fun (j190 : Int) (x191 : Unit) => [oc b_0 [slv (rI .i64) s186.2.1.L, iv .i64 s186.2.1.At], oc b1 [iv .i64 0, pv (.slice none 0 0)], oc b3 [iv .i64 t2.1, pv x187.1], oa rT_api_Pair x187.1 x187.2 s186.2.2]) (fun k192 hk192 => ?_) (fun j190 x191 => ?_)
          · refine ref_seq (ref_region ?_)
            refine mv1 rfl rfl ?_
            refine mv1 rfl rfl ?_
            refine s_rd (r_eql rfl rfl) rfl ?_
            refine l_nil (n_then ?_)
            refine ref_cond rfl (fun hb189 => ?_) (fun hb189 => ?_)
            · refine ref_region ?_
              refine as1 rfl rfl ?_
              refine l_nil ?_
              exact b_to (hk192 9 ()) (weak [0, 1, 2, 3] ⟨rfl, rfl, rfl, rfl, rfl, rfl, rfl, trivial⟩ ⟨rfl, rfl, rfl, rfl, trivial⟩)
            refine ref_skip ?_
            exact b_to (hk192 dense4.1 ()) (weak [0, 1, 2, 3] ⟨rfl, rfl, rfl, rfl, rfl, rfl, rfl, trivial⟩ ⟨rfl, rfl, rfl, rfl, trivial⟩)
          refine n_then (ref_seq (ref_region ?_))
          refine mv1 rfl rfl ?_
          refine mv1 rfl rfl ?_
          refine pull fun t193 h_t193 => ?_
          refine s_st (s_callC [0] [true] (fun (_ : Unit) => [oc b_0 [slv (rI .i64) t193.2.L, iv .i64 t193.2.At]]) (fun (_ : Unit) => []) (fun (_ : Unit) => iv .i64 t193.1) (args := [.tmp 32, .tmp 33]) (caps := []) Tryd.call11 rfl (keep_Src_N_ok h_t193) ⟨rfl, rfl, trivial⟩ (fun _ => rfl) (fun _ => trivial) (fun _ => rfl) ⟨arg rfl, arg rfl, trivial⟩ (fun _ _ _ _ h => h)) rfl (fun _ => ?_)
          refine s_rd (r_eql rfl rfl) rfl ?_
          refine l_nil (n_then ?_)
          refine ref_cond rfl (fun hb194 => ?_) (fun hb194 => ?_)
          · refine ref_region ?_
            refine s_rd (r_faddr (fo := 1) Tryd.underlying27 rfl rfl Tryd.sizeOf25 rfl) rfl ?_
            refine s_rd (r_cload Tryd.isAgg25 rfl (j := 2) rfl rfl) rfl ?_
            refine mv1 rfl rfl ?_
            refine mv1 rfl rfl ?_
            refine s_rd (r_build (ps := [(0, .tmp 38), (1, .tmp 39)]) (rs := [(0, [iv .i64 s159.1]), (1, [iv .i64 s186.1])]) st_56 zs_56 ⟨rfl, (part_at rfl iv_at), ⟨rfl, (part_at rfl iv_at), trivial⟩⟩ rfl rfl) rfl ?_
            refine s_st (s_bslice (xs := [.tmp 40]) (ds := [(T_api_Pair.mk s159.1 s186.1)]) Tryd.underlying25 el_56 rfl (Nat.le_of_ble_eq_true rfl) ⟨(part_agO (ψs := [iv .i64 s159.1, iv .i64 s186.1]) rfl ⟨.inl iv_at, .inl iv_at, trivial⟩), trivial⟩) rfl (fun _ => ?_)
            refine pull fun t195 h_t195 => ?_
            refine s_st (s_append h_t195 Tryd.underlying25 el_56 rfl (j := 3) rfl rfl) rfl (fun o196 => ?_)
            refine s_rd (r_faddr (fo := 1) Tryd.underlying27 rfl rfl Tryd.sizeOf25 rfl) rfl ?_
            refine s_st0 (s_cstore (out := [iv .i64 t2.1, pv o196.1]) Tryd.sizeOf25 rfl (j := 2) rfl (part_own rfl (j := 3) rfl) rfl rfl rfl) (fun _ => ?_)
            refine l_nil ?_
            refine b_of (nrm [oc b_0 [slv (rI .i64) t193.2.L, iv .i64 t193.2.At], oc b1 [iv .i64 0, pv (.slice none 0 0)], oc b3 [iv .i64 t2.1, pv o196.1], oa rT_api_Pair o196.1 o196.2 t195] rfl) ?_
            refine n_block (n_then (ref_region ?_))
            refine mv1 rfl rfl ?_
            refine s_rd (r_add rfl rfl) rfl ?_
            refine as1 rfl rfl ?_
            refine b_let (f := iv .i64) (t := 8) rfl fun b197 => ?_
            refine l_nil ?_
            exact goB o196 (weak [0, 1, 2, 3] ⟨rfl, rfl, rfl, rfl, rfl, rfl, trivial⟩ ⟨rfl, rfl, rfl, rfl, trivial⟩)
          refine ref_skip (n_block (n_then (ref_region ?_)))
          refine mv1 rfl rfl ?_
          refine s_rd (r_add rfl rfl) rfl ?_
          refine as1 rfl rfl ?_
          refine b_let (f := iv .i64) (t := 8) rfl fun b198 => ?_
          refine l_nil ?_
          exact goB x187 (weak [0, 1, 2, 3] ⟨rfl, rfl, rfl, rfl, rfl, rfl, trivial⟩ ⟨rfl, rfl, rfl, rfl, trivial⟩)
        refine ref_exit (x_then ?_)
        exact brkB x187 (weak [0, 1, 2, 3] ⟨rfl, rfl, rfl, rfl, rfl, trivial⟩ ⟨rfl, rfl, rfl, rfl, trivial⟩)
      refine n_block (n_then (ref_region ?_))
      refine mv1 rfl rfl ?_
      refine s_rd (r_add rfl rfl) rfl ?_
      refine as1 rfl rfl ?_
      refine b_let (f := iv .i64) (t := 7) rfl fun a_201 => ?_
      refine l_nil ?_
      exact goB y200 (weak [0, 1, 2, 3] ⟨rfl, rfl, rfl, rfl, rfl, trivial⟩ ⟨rfl, rfl, rfl, rfl, trivial⟩)
    refine ref_exit (x_then ?_)
    exact brkB x160 (weak [0, 1, 2, 3] ⟨rfl, rfl, rfl, trivial⟩ ⟨rfl, rfl, rfl, rfl, trivial⟩)
  refine n_then (ref_seq (ref_region ?_))
  refine s_rd (r_cloadS Tryd.isAgg27 Tryd.sizeOf27 rfl (j := 2) rfl rfl rfl) rfl ?_
  refine s_st0 (s_cstore (out := [iv .i64 t2.1, pv y203.1]) Tryd.sizeOf27 rfl (j := 1) rfl (part_agO (ψs := [iv .i64 t2.1, pv y203.1]) rfl ⟨.inl iv_at, .inr ⟨_, _, _, _, _, 3, rfl, rfl⟩, trivial⟩) rfl rfl rfl) (fun _ => ?_)
  refine l_nil (n_then (ref_ret ?_))
  refine b_of (frzGL [(44, ag [iv .i64 t2.1, slv rT_api_Pair q202.2])] [(1, b1, [iv .i64 t2.1, slv rT_api_Pair q202.2]), (2, b3, [iv .i64 t2.1, slv rT_api_Pair q202.2])] (j := 3) rfl ⟨⟨_, rfl, .inr ⟨_, _, rfl, rfl, ⟨.inl rfl, .inr ⟨rfl, rfl⟩, trivial⟩⟩⟩, trivial⟩ ⟨⟨_, rfl, ⟨.inl rfl, .inr ⟨rfl, rfl⟩, trivial⟩⟩, ⟨_, rfl, ⟨.inl rfl, .inr ⟨rfl, rfl⟩, trivial⟩⟩, trivial⟩) ?_
  refine b_of (nrm [oc b_0 [slv (rI .i64) q202.1.L, iv .i64 q202.1.At], oc b1 [iv .i64 t2.1, slv rT_api_Pair q202.2], oc b3 [iv .i64 t2.1, slv rT_api_Pair q202.2], dead] rfl) ?_
  exact fin1 (.inl rfl) () [0] rfl ⟨rfl, trivial⟩ rfl (rv_cell rfl (j := 1) rfl Tryd.isAgg27 Tryd.sizeOf27 rfl rfl)

/-! deliberation/deliberationlaw22.acyclic -/
noncomputable def law22_acyclic_l1 (t2 : T_api_Graph × T_deliberationkeep_Src) (s24 : Int × (List T_api_Pair)) : Option (Sum ((List T_api_Pair)) (Int × (List T_api_Pair))) :=
  bif decide (s24.1 < (t2.1.L.length : Int)) then
    Option.bind (idxM t2.1.L s24.1) fun t27 =>
    Option.bind (idxM t2.1.L s24.1) fun t28 =>
    bif decide (t27.From < t28.To) then
      Option.bind (idxM t2.1.L s24.1) fun t30 =>
      Option.bind (appM 16 s24.2 [t30]) fun l31 =>
      letM (iadd .i64 s24.1 1) fun i33 =>
      some (Sum.inr (i33, l31))
    else
      letM (iadd .i64 s24.1 1) fun i34 =>
      some (Sum.inr (i34, s24.2))
  else
    some (Sum.inl s24.2)

noncomputable def law22_acyclic_m (s_0 : T_deliberationkeep_Src) (n_1 : Int) : Option (T_api_Graph × T_deliberationkeep_Src) :=
  Option.bind (net_Graph_m s_0 n_1) fun t2 =>
  Option.bind (loopC (law22_acyclic_l1 t2) (0, [])) fun q35 : (List T_api_Pair) =>
  some ((T_api_Graph.mk t2.1.N q35), t2.2)

theorem law22_acyclic_ok {s_0 : T_deliberationkeep_Src} {n_1 : Int} {b_0 : Nat} {r : T_api_Graph × T_deliberationkeep_Src} (hm : law22_acyclic_m s_0 n_1 = some r) :
    FnOk prog 16 [pv (ptr b_0 0), iv .i64 n_1] [oc b_0 [slv (rI .i64) s_0.L, iv .i64 s_0.At]] (fun (x : Unit) => [ag [iv .i64 r.1.N, slv rT_api_Pair r.1.L]]) (fun (x : Unit) => [oc b_0 [slv (rI .i64) r.2.L, iv .i64 r.2.At]]) := by
  refine fn_ok (fn := Tryd.f16) (N := 42) (res := fun r x => [ag [iv .i64 r.1.N, slv rT_api_Pair r.1.L]]) (Ω1 := fun r x => [oc b_0 [slv (rI .i64) r.2.L, iv .i64 r.2.At]]) Tryd.func16 rfl rfl hm rfl (fun E hM => ?_)
  unfold law22_acyclic_m
  refine ref_seq (ref_region ?_)
  refine s_st (s_alloc zt_27) rfl (fun b1 => ?_)
  refine l_nil (n_then (ref_seq (ref_region ?_)))
  refine mv1 rfl rfl ?_
  refine mv1 rfl rfl ?_
  refine pull fun t2 h_t2 => ?_
  refine s_st (s_callC [0] [true] (fun (_ : Unit) => [oc b_0 [slv (rI .i64) t2.2.L, iv .i64 t2.2.At]]) (fun (_ : Unit) => []) (fun (_ : Unit) => ag [iv .i64 t2.1.N, slv rT_api_Pair t2.1.L]) (args := [.tmp 8, .tmp 9]) (caps := []) Tryd.call17 rfl (net_Graph_ok h_t2) ⟨rfl, rfl, trivial⟩ (fun _ => rfl) (fun _ => trivial) (fun _ => rfl) ⟨arg rfl, arg rfl, trivial⟩ (fun _ _ _ _ h => h)) rfl (fun _ => ?_)
  refine s_st (s_alloc zt_27) rfl (fun b3 => ?_)
  refine s_st0 (s_cstore (out := [iv .i64 t2.1.N, slv rT_api_Pair t2.1.L]) Tryd.sizeOf27 rfl (j := 2) rfl (part_agO (ψs := [iv .i64 t2.1.N, slv rT_api_Pair t2.1.L]) rfl ⟨.inl iv_at, .inl slv_at, trivial⟩) rfl rfl rfl) (fun _ => ?_)
  refine l_nil ?_
  refine b_of (nrm [oc b_0 [slv (rI .i64) t2.2.L, iv .i64 t2.2.At], oc b1 [iv .i64 0, pv (.slice none 0 0)], oc b3 [iv .i64 t2.1.N, slv rT_api_Pair t2.1.L]] rfl) ?_
  refine n_then (ref_seq (ref_region ?_))
  refine as1 rfl rfl ?_
  refine l_nil (n_then (ref_seq (ref_seq (ref_region ?_))))
  refine as1 rfl rfl ?_
  refine l_nil (n_then ?_)
  refine b_of (own_nil rT_api_Pair) ?_
  refine ref_loopB (f := (law22_acyclic_l1 t2)) (Γl := (fun (s24 : Int × (List T_api_Pair)) (x25 : (Value × List Nat)) => [(0, pv (ptr b_0 0)), (4, pv (ptr b1 0)), (5, pv (ptr b3 0)), (6, pv x25.1), (7, iv .i64 s24.1)])) (Ωl := (fun (s24 : Int × (List T_api_Pair)) (x25 : (Value × List Nat)) => [oc b_0 [slv (rI .i64) t2.2.L, iv .i64 t2.2.At], oc b1 [iv .i64 0, pv (.slice none 0 0)], oc b3 [iv .i64 t2.1.N, slv rT_api_Pair t2.1.L], oa rT_api_Pair x25.1 x25.2 s24.2])) (Γb := (fun (q35 : (List T_api_Pair)) (y36 : (Value × List Nat)) => [(0, pv (ptr b_0 0)), (4, pv (ptr b1 0)), (5, pv (ptr b3 0)), (6, pv y36.1)])) (Ωb := (fun (q35 : (List T_api_Pair)) (y36 : (Value × List Nat)) => [oc b_0 [slv (rI .i64) t2.2.L, iv .i64 t2.2.At], oc b1 [iv .i64 0, pv (.slice none 0 0)], oc b3 [iv .i64 t2.1.N, slv rT_api_Pair t2.1.L], oa rT_api_Pair y36.1 y36.2 q35])) (0, []) ((.slice none 0 0), []) (weak [0, 1, 2, 3] ⟨rfl, rfl, rfl, rfl, rfl, trivial⟩ ⟨rfl, rfl, rfl, rfl, trivial⟩) (fun s24 x25 => ?_) (fun q35 y36 => ?_)
  · unfold law22_acyclic_l1
    refine ref_seq (ref_seq (ref_region ?_))
    refine mv1 rfl rfl ?_
    refine s_rd (r_faddr (fo := 1) Tryd.underlying27 rfl rfl Tryd.sizeOf25 rfl) rfl ?_
    refine s_rd (r_cload Tryd.isAgg25 rfl (j := 2) rfl rfl) rfl ?_
    refine s_rd (r_len Tryd.underlying25 rfl) rfl ?_
    refine s_rd (r_lss rfl rfl) rfl ?_
    refine l_nil (n_then ?_)
    refine ref_cond rfl (fun hb26 => ?_) (fun hb26 => ?_)
    · refine ref_skip (n_then (ref_seq (ref_block (ref_seq ?_))))
      refine ref_draw [0, 1, 2, 3, 4, 5, 6, 7, 8, 9, 10, 11, 12] rfl (by kernel_rfl) (fun hok => ?_)
      refine a_rd (i := 0) hok rfl (by kernel_rfl) rfl (r_faddr (fo := 1) Tryd.underlying27 rfl rfl Tryd.sizeOf25 rfl) rfl ?_
      refine a_rd (i := 1) hok rfl (by kernel_rfl) rfl (r_cload Tryd.isAgg25 rfl (j := 2) rfl rfl) rfl ?_
      refine a_rd (i := 2) hok rfl (by kernel_rfl) rfl (r_move rfl) rfl ?_
      refine pull fun t27 h_t27 => ?_
      refine a_rd (i := 3) hok rfl (by kernel_rfl) rfl (r_index h_t27 Tryd.underlying25 el_56 rfl rfl) rfl ?_
      refine a_rd (i := 4) hok rfl (by kernel_rfl) rfl (r_fea (fo := 0) (ρ := rT_api_Pair) (y := t27) (ρ' := (rI .i64)) (z := t27.From) Tryd.underlying56 rfl rfl Tryd.sizeOf3 rfl rfl rfl) rfl ?_
      refine a_rd (i := 5) hok rfl (by kernel_rfl) rfl (r_load el_3 rfl) rfl ?_
      refine a_rd (i := 6) hok rfl (by kernel_rfl) rfl (r_faddr (fo := 1) Tryd.underlying27 rfl rfl Tryd.sizeOf25 rfl) rfl ?_
      refine a_rd (i := 7) hok rfl (by kernel_rfl) rfl (r_cload Tryd.isAgg25 rfl (j := 2) rfl rfl) rfl ?_
      refine a_rd (i := 8) hok rfl (by kernel_rfl) rfl (r_move rfl) rfl ?_
      refine pull fun t28 h_t28 => ?_
      refine a_rd (i := 9) hok rfl (by kernel_rfl) rfl (r_index h_t28 Tryd.underlying25 el_56 rfl rfl) rfl ?_
      refine a_rd (i := 10) hok rfl (by kernel_rfl) rfl (r_fea (fo := 1) (ρ := rT_api_Pair) (y := t28) (ρ' := (rI .i64)) (z := t28.To) Tryd.underlying56 rfl rfl Tryd.sizeOf3 rfl rfl rfl) rfl ?_
      refine a_rd (i := 11) hok rfl (by kernel_rfl) rfl (r_load el_3 rfl) rfl ?_
      refine a_rd (i := 12) hok rfl (by kernel_rfl) rfl (r_lss rfl rfl) rfl ?_
      refine a_fin hok (by kernel_rfl) ?_
      refine n_then ?_
      refine ref_cond rfl (fun hb29 => ?_) (fun hb29 => ?_)
      · refine ref_region ?_
        refine mv1 rfl rfl ?_
        refine s_rd (r_faddr (fo := 1) Tryd.underlying27 rfl rfl Tryd.sizeOf25 rfl) rfl ?_
        refine s_rd (r_cload Tryd.isAgg25 rfl (j := 2) rfl rfl) rfl ?_
        refine mv1 rfl rfl ?_
        refine pull fun t30 h_t30 => ?_
        refine s_rd (r_index h_t30 Tryd.underlying25 el_56 rfl rfl) rfl ?_
        refine s_rd (r_load el_56 rfl) rfl ?_
        refine s_st (s_bslice (xs := [.tmp 36]) (ds := [t30]) Tryd.underlying25 el_56 rfl (Nat.le_of_ble_eq_true rfl) ⟨(part_agO (ψs := [iv .i64 t30.From, iv .i64 t30.To]) rfl ⟨.inl iv_at, .inl iv_at, trivial⟩), trivial⟩) rfl (fun _ => ?_)
        refine pull fun l31 h_l31 => ?_
        refine s_st (s_append h_l31 Tryd.underlying25 el_56 rfl (j := 3) rfl rfl) rfl (fun o32 => ?_)
        refine as1 rfl rfl ?_
        refine l_nil (n_block (n_then (ref_region ?_)))
        refine mv1 rfl rfl ?_
        refine s_rd (r_add rfl rfl) rfl ?_
        refine as1 rfl rfl ?_
        refine b_let (f := iv .i64) (t := 7) rfl fun i33 => ?_
        refine l_nil ?_
        exact goB o32 (weak [0, 1, 2, 3] ⟨rfl, rfl, rfl, rfl, rfl, trivial⟩ ⟨rfl, rfl, rfl, rfl, trivial⟩)
      refine ref_skip (n_block (n_then (ref_region ?_)))
      refine mv1 rfl rfl ?_
      refine s_rd (r_add rfl rfl) rfl ?_
      refine as1 rfl rfl ?_
      refine b_let (f := iv .i64) (t := 7) rfl fun i34 => ?_
      refine l_nil ?_
      exact goB x25 (weak [0, 1, 2, 3] ⟨rfl, rfl, rfl, rfl, rfl, trivial⟩ ⟨rfl, rfl, rfl, rfl, trivial⟩)
    refine ref_exit (x_then ?_)
    exact brkB x25 (weak [0, 1, 2, 3] ⟨rfl, rfl, rfl, rfl, trivial⟩ ⟨rfl, rfl, rfl, rfl, trivial⟩)
  refine n_then (ref_seq (ref_region ?_))
  refine mv1 rfl rfl ?_
  refine s_rd (r_faddr (fo := 1) Tryd.underlying27 rfl rfl Tryd.sizeOf25 rfl) rfl ?_
  refine s_st0 (s_cstore (out := [iv .i64 t2.1.N, pv y36.1]) Tryd.sizeOf25 rfl (j := 2) rfl (part_own rfl (j := 3) rfl) rfl rfl rfl) (fun _ => ?_)
  refine l_nil (n_then (ref_seq (ref_region ?_)))
  refine s_rd (r_cloadS Tryd.isAgg27 Tryd.sizeOf27 rfl (j := 2) rfl rfl rfl) rfl ?_
  refine s_st0 (s_cstore (out := [iv .i64 t2.1.N, pv y36.1]) Tryd.sizeOf27 rfl (j := 1) rfl (part_agO (ψs := [iv .i64 t2.1.N, pv y36.1]) rfl ⟨.inl iv_at, .inr ⟨_, _, _, _, _, 3, rfl, rfl⟩, trivial⟩) rfl rfl rfl) (fun _ => ?_)
  refine l_nil (n_then (ref_ret ?_))
  refine b_of (frzGL [(6, slv rT_api_Pair q35), (39, slv rT_api_Pair q35), (41, ag [iv .i64 t2.1.N, slv rT_api_Pair q35])] [(1, b1, [iv .i64 t2.1.N, slv rT_api_Pair q35]), (2, b3, [iv .i64 t2.1.N, slv rT_api_Pair q35])] (j := 3) rfl ⟨⟨_, rfl, .inl ⟨rfl, rfl⟩⟩, ⟨_, rfl, .inl ⟨rfl, rfl⟩⟩, ⟨_, rfl, .inr ⟨_, _, rfl, rfl, ⟨.inl rfl, .inr ⟨rfl, rfl⟩, trivial⟩⟩⟩, trivial⟩ ⟨⟨_, rfl, ⟨.inl rfl, .inr ⟨rfl, rfl⟩, trivial⟩⟩, ⟨_, rfl, ⟨.inl rfl, .inr ⟨rfl, rfl⟩, trivial⟩⟩, trivial⟩) ?_
  refine b_of (nrm [oc b_0 [slv (rI .i64) t2.2.L, iv .i64 t2.2.At], oc b1 [iv .i64 t2.1.N, slv rT_api_Pair q35], oc b3 [iv .i64 t2.1.N, slv rT_api_Pair q35], dead] rfl) ?_
  exact fin1 (.inl rfl) () [0] rfl ⟨rfl, trivial⟩ rfl (rv_cell rfl (j := 1) rfl Tryd.isAgg27 Tryd.sizeOf27 rfl rfl)

/-! deliberation/deliberationlaw22.fractions -/
noncomputable def law22_fractions_l1 (n_1 : Int) (s15 : Int × T_deliberationkeep_Src × (List T_api_Fraction)) : Option (Sum (T_deliberationkeep_Src × (List T_api_Fraction)) (Int × T_deliberationkeep_Src × (List T_api_Fraction))) :=
  bif decide (s15.1 < n_1) then
    Option.bind (keep_Src_Range_m s15.2.1 1 6) fun d18 =>
    Option.bind (keep_Src_N_m d18.2 (iadd .i64 d18.1 1)) fun t19 =>
    Option.bind (appM 16 s15.2.2 [(T_api_Fraction.mk t19.1 d18.1)]) fun out20 =>
    letM (iadd .i64 s15.1 1) fun i22 =>
    some (Sum.inr (i22, t19.2, out20))
  else
    some (Sum.inl (s15.2.1, s15.2.2))

noncomputable def law22_fractions_m (s_0 : T_deliberationkeep_Src) (n_1 : Int) : Option (List T_api_Fraction × T_deliberationkeep_Src) :=
  Option.bind (loopC (law22_fractions_l1 n_1) (0, s_0, [])) fun q23 : T_deliberationkeep_Src × (List T_api_Fraction) =>
  some (q23.2, q23.1)

theorem law22_fractions_ok {s_0 : T_deliberationkeep_Src} {n_1 : Int} {b_0 : Nat} {r : List T_api_Fraction × T_deliberationkeep_Src} (hm : law22_fractions_m s_0 n_1 = some r) :
    FnOk prog 18 [pv (ptr b_0 0), iv .i64 n_1] [oc b_0 [slv (rI .i64) s_0.L, iv .i64 s_0.At]] (fun (x : (Value × List Nat)) => [pv x.1]) (fun (x : (Value × List Nat)) => [oc b_0 [slv (rI .i64) r.2.L, iv .i64 r.2.At], oa rT_api_Fraction x.1 x.2 r.1]) := by
  refine fn_ok (X := (Value × List Nat)) (fn := Tryd.f18) (N := 25) (res := fun r x => [pv x.1]) (Ω1 := fun r x => [oc b_0 [slv (rI .i64) r.2.L, iv .i64 r.2.At], oa rT_api_Fraction x.1 x.2 r.1]) Tryd.func18 rfl rfl hm rfl (fun E hM => ?_)
  unfold law22_fractions_m
  refine ref_seq (ref_region ?_)
  refine as1 rfl rfl ?_
  refine l_nil (n_then (ref_seq (ref_region ?_)))
  refine as1 rfl rfl ?_
  refine l_nil (n_then (ref_seq (ref_seq (ref_region ?_))))
  refine as1 rfl rfl ?_
  refine l_nil (n_then ?_)
  refine b_of (own_nil rT_api_Fraction) ?_
  refine ref_loopB (f := (law22_fractions_l1 n_1)) (Γl := (fun (s15 : Int × T_deliberationkeep_Src × (List T_api_Fraction)) (x16 : (Value × List Nat)) => [(0, pv (ptr b_0 0)), (1, iv .i64 n_1), (5, pv x16.1), (6, iv .i64 s15.1)])) (Ωl := (fun (s15 : Int × T_deliberationkeep_Src × (List T_api_Fraction)) (x16 : (Value × List Nat)) => [oc b_0 [slv (rI .i64) s15.2.1.L, iv .i64 s15.2.1.At], oa rT_api_Fraction x16.1 x16.2 s15.2.2])) (Γb := (fun (q23 : T_deliberationkeep_Src × (List T_api_Fraction)) (y24 : (Value × List Nat)) => [(0, pv (ptr b_0 0)), (5, pv y24.1)])) (Ωb := (fun (q23 : T_deliberationkeep_Src × (List T_api_Fraction)) (y24 : (Value × List Nat)) => [oc b_0 [slv (rI .i64) q23.1.L, iv .i64 q23.1.At], oa rT_api_Fraction y24.1 y24.2 q23.2])) (0, s_0, []) ((.slice none 0 0), []) (weak [0, 1] ⟨rfl, rfl, rfl, rfl, trivial⟩ ⟨rfl, rfl, trivial⟩) (fun s15 x16 => ?_) (fun q23 y24 => ?_)
  · unfold law22_fractions_l1
    refine ref_seq (ref_seq (ref_region ?_))
    refine mv1 rfl rfl ?_
    refine mv1 rfl rfl ?_
    refine s_rd (r_lss rfl rfl) rfl ?_
    refine l_nil (n_then ?_)
    refine ref_cond rfl (fun hb17 => ?_) (fun hb17 => ?_)
    · refine ref_skip (n_then (ref_seq (ref_block (ref_seq (ref_region ?_)))))
      refine mv1 rfl rfl ?_
      refine pull fun d18 h_d18 => ?_
      refine s_st (s_callC [0] [true] (fun (_ : Unit) => [oc b_0 [slv (rI .i64) d18.2.L, iv .i64 d18.2.At]]) (fun (_ : Unit) => []) (fun (_ : Unit) => iv .i64 d18.1) (args := [.tmp 13, .const (.int .i64 (1)), .const (.int .i64 (6))]) (caps := []) Tryd.call24 rfl (keep_Src_Range_ok h_d18) ⟨rfl, rfl, trivial⟩ (fun _ => rfl) (fun _ => trivial) (fun _ => rfl) ⟨arg rfl, arg rfl, arg rfl, trivial⟩ (fun _ _ _ _ h => h)) rfl (fun _ => ?_)
      refine as1 rfl rfl ?_
      refine l_nil (n_then (ref_region ?_))
      refine mv1 rfl rfl ?_
      refine mv1 rfl rfl ?_
      refine mv1 rfl rfl ?_
      refine s_rd (r_add rfl rfl) rfl ?_
      refine pull fun t19 h_t19 => ?_
      refine s_st (s_callC [0] [true] (fun (_ : Unit) => [oc b_0 [slv (rI .i64) t19.2.L, iv .i64 t19.2.At]]) (fun (_ : Unit) => []) (fun (_ : Unit) => iv .i64 t19.1) (args := [.tmp 16, .tmp 18]) (caps := []) Tryd.call11 rfl (keep_Src_N_ok h_t19) ⟨rfl, rfl, trivial⟩ (fun _ => rfl) (fun _ => trivial) (fun _ => rfl) ⟨arg rfl, arg rfl, trivial⟩ (fun _ _ _ _ h => h)) rfl (fun _ => ?_)
      refine mv1 rfl rfl ?_
      refine s_rd (r_build (ps := [(0, .tmp 19), (1, .tmp 20)]) (rs := [(0, [iv .i64 t19.1]), (1, [iv .i64 d18.1])]) st_53 zs_53 ⟨rfl, (part_at rfl iv_at), ⟨rfl, (part_at rfl iv_at), trivial⟩⟩ rfl rfl) rfl ?_
      refine s_st (s_bslice (xs := [.tmp 21]) (ds := [(T_api_Fraction.mk t19.1 d18.1)]) Tryd.underlying40 el_53 rfl (Nat.le_of_ble_eq_true rfl) ⟨(part_agO (ψs := [iv .i64 t19.1, iv .i64 d18.1]) rfl ⟨.inl iv_at, .inl iv_at, trivial⟩), trivial⟩) rfl (fun _ => ?_)
      refine pull fun out20 h_out20 => ?_
      refine s_st (s_append h_out20 Tryd.underlying40 el_53 rfl (j := 1) rfl rfl) rfl (fun o21 => ?_)
      refine as1 rfl rfl ?_
      refine l_nil ?_
      refine b_of (nrm [oc b_0 [slv (rI .i64) t19.2.L, iv .i64 t19.2.At], oa rT_api_Fraction o21.1 o21.2 out20] rfl) ?_
      refine n_block (n_then (ref_region ?_))
      refine mv1 rfl rfl ?_
      refine s_rd (r_add rfl rfl) rfl ?_
      refine as1 rfl rfl ?_
      refine b_let (f := iv .i64) (t := 6) rfl fun i22 => ?_
      refine l_nil ?_
      exact goB o21 (weak [0, 1] ⟨rfl, rfl, rfl, rfl, trivial⟩ ⟨rfl, rfl, trivial⟩)
    refine ref_exit (x_then ?_)
    exact brkB x16 (weak [0, 1] ⟨rfl, rfl, trivial⟩ ⟨rfl, rfl, trivial⟩)
  refine n_then (ref_seq (ref_region ?_))
  refine mv1 rfl rfl ?_
  refine as1 rfl rfl ?_
  refine l_nil (n_then (ref_ret ?_))
  exact fin1 (.inl rfl) y24 [0, 1] rfl ⟨rfl, rfl, trivial⟩ rfl (rv_tmp rfl)

/-! cmp.isNaN[int] -/
noncomputable def cmp_isNaN_int_m (x_0 : Int) : Option (Bool) :=
  some (x_0 != x_0)

theorem cmp_isNaN_int_ok {x_0 : Int} {r : Bool} (hm : cmp_isNaN_int_m x_0 = some r) :
    FnOk prog 87 [iv .i64 x_0] [] (fun (x : Unit) => [bv r]) (fun (x : Unit) => []) := by
  refine fn_ok (fn := Tryd.f87) (N := 6) (res := fun r x => [bv r]) (Ω1 := fun r x => []) Tryd.func87 rfl rfl hm rfl (fun E hM => ?_)
  unfold cmp_isNaN_int_m
  refine ref_seq (ref_region ?_)
  refine as1 rfl rfl ?_
  refine l_nil (n_then (ref_seq (ref_region ?_)))
  refine mv1 rfl rfl ?_
  refine mv1 rfl rfl ?_
  refine s_rd (r_neq rfl rfl) rfl ?_
  refine as1 rfl rfl ?_
  refine l_nil (n_then (ref_ret ?_))
  exact fin1 (.inl rfl) () [] rfl trivial rfl (rv_tmp rfl)

/-! cmp.Compare[int] -/
noncomputable def cmp_Compare_int_m (x_0 : Int) (y_1 : Int) : Option (Int) :=
  Option.bind (cmp_isNaN_int_m x_0) fun xNaN1 =>
  Option.bind (cmp_isNaN_int_m y_1) fun yNaN2 =>
  bif xNaN1 then
    bif yNaN2 then
      some 0
    else
      some (-1)
  else
    bif yNaN2 then
      some 1
    else
      bif decide (x_0 < y_1) then
        some (-1)
      else
        bif decide (x_0 > y_1) then
          some 1
        else
          some 0

theorem cmp_Compare_int_ok {x_0 : Int} {y_1 : Int} {r : Int} (hm : cmp_Compare_int_m x_0 y_1 = some r) :
    FnOk prog 73 [iv .i64 x_0, iv .i64 y_1] [] (fun (x : Unit) => [iv .i64 r]) (fun (x : Unit) => []) := by
  refine fn_ok (fn := Tryd.f73) (N := 20) (res := fun r x => [iv .i64 r]) (Ω1 := fun r x => []) Tryd.func73 rfl rfl hm rfl (fun E hM => ?_)
  unfold cmp_Compare_int_m
  refine ref_seq (ref_region ?_)
  refine as1 rfl rfl ?_
  refine l_nil (n_then (ref_seq (ref_region ?_)))
  refine mv1 rfl rfl ?_
  refine pull fun xNaN1 h_xNaN1 => ?_
  refine s_st (s_call (ψ := fun (_ : Unit) => bv xNaN1) (args := [.tmp 7]) Tryd.call87 rfl (cmp_isNaN_int_ok h_xNaN1) ⟨arg rfl, trivial⟩ (fun _ _ _ _ h => h)) rfl (fun _ => ?_)
  refine as1 rfl rfl ?_
  refine l_nil (n_then (ref_seq (ref_region ?_)))
  refine mv1 rfl rfl ?_
  refine pull fun yNaN2 h_yNaN2 => ?_
  refine s_st (s_call (ψ := fun (_ : Unit) => bv yNaN2) (args := [.tmp 9]) Tryd.call87 rfl (cmp_isNaN_int_ok h_yNaN2) ⟨arg rfl, trivial⟩ (fun _ _ _ _ h => h)) rfl (fun _ => ?_)
  refine as1 rfl rfl ?_
  refine l_nil (n_then (ref_seq (ref_seq (ref_region ?_))))
  refine mv1 rfl rfl ?_
  refine l_nil (n_then ?_)
  refine ref_cond rfl (fun hb3 => ?_) (fun hb3 => ?_)
  · refine ref_seq (ref_seq (ref_region ?_))
    refine mv1 rfl rfl ?_
    refine l_nil (n_then ?_)
    refine ref_cond rfl (fun hb4 => ?_) (fun hb4 => ?_)
    · refine ref_seq (ref_region ?_)
      refine as1 rfl rfl ?_
      refine l_nil (n_then (ref_ret (r_then (r_then ?_))))
      exact fin1 (.inl rfl) () [] rfl trivial rfl (rv_tmp rfl)
    refine ref_skip (n_then (ref_seq (ref_region ?_)))
    refine as1 rfl rfl ?_
    refine l_nil (n_then (ref_ret (r_then ?_)))
    exact fin1 (.inl rfl) () [] rfl trivial rfl (rv_tmp rfl)
  refine ref_skip (n_then (ref_seq (ref_seq (ref_region ?_))))
  refine mv1 rfl rfl ?_
  refine l_nil (n_then ?_)
  refine ref_cond rfl (fun hb5 => ?_) (fun hb5 => ?_)
  · refine ref_seq (ref_region ?_)
    refine as1 rfl rfl ?_
    refine l_nil (n_then (ref_ret (r_then ?_)))
    exact fin1 (.inl rfl) () [] rfl trivial rfl (rv_tmp rfl)
  refine ref_skip (n_then (ref_seq (ref_seq (ref_region ?_))))
  refine mv1 rfl rfl ?_
  refine mv1 rfl rfl ?_
  refine s_rd (r_lss rfl rfl) rfl ?_
  refine l_nil (n_then ?_)
  refine ref_cond rfl (fun hb6 => ?_) (fun hb6 => ?_)
  · refine ref_seq (ref_region ?_)
    refine as1 rfl rfl ?_
    refine l_nil (n_then (ref_ret (r_then ?_)))
    exact fin1 (.inl rfl) () [] rfl trivial rfl (rv_tmp rfl)
  refine ref_skip (n_then (ref_seq (ref_seq (ref_region ?_))))
  refine mv1 rfl rfl ?_
  refine mv1 rfl rfl ?_
  refine s_rd (r_gtr rfl rfl) rfl ?_
  refine l_nil (n_then ?_)
  refine ref_cond rfl (fun hb7 => ?_) (fun hb7 => ?_)
  · refine ref_seq (ref_region ?_)
    refine as1 rfl rfl ?_
    refine l_nil (n_then (ref_ret (r_then ?_)))
    exact fin1 (.inl rfl) () [] rfl trivial rfl (rv_tmp rfl)
  refine ref_skip (n_then (ref_seq (ref_region ?_)))
  refine as1 rfl rfl ?_
  refine l_nil (n_then (ref_ret ?_))
  exact fin1 (.inl rfl) () [] rfl trivial rfl (rv_tmp rfl)

/-! cmp.Or[int] -/
noncomputable def cmp_Or_int_l1 (vals_0 : (List Int)) (s6 : Int) : Option (Sum ((Sum (Int) (Unit))) (Int)) :=
  bif decide (s6 < (vals_0.length : Int)) then
    Option.bind (idxM vals_0 s6) fun val9 =>
    bif val9 != 0 then
      some (Sum.inl (Sum.inl val9))
    else
      some (Sum.inr (iadd .i64 s6 1))
  else
    some (Sum.inl (Sum.inr ()))

noncomputable def cmp_Or_int_m (vals_0 : (List Int)) : Option (Int) :=
  Option.bind (loopC (cmp_Or_int_l1 vals_0) 0) (sumK (fun a : Int => some a) fun q11 : Unit =>
    some 0)

theorem cmp_Or_int_ok {vals_0 : (List Int)} {r : Int} (hm : cmp_Or_int_m vals_0 = some r) :
    FnOk prog 85 [slv (rI .i64) vals_0] [] (fun (x : Unit) => [iv .i64 r]) (fun (x : Unit) => []) := by
  refine fn_ok (fn := Tryd.f85) (N := 18) (res := fun r x => [iv .i64 r]) (Ω1 := fun r x => []) Tryd.func85 rfl rfl hm rfl (fun E hM => ?_)
  unfold cmp_Or_int_m
  refine ref_seq (ref_region ?_)
  refine as1 rfl rfl ?_
  refine l_nil (n_then (ref_seq (ref_region ?_)))
  refine as1 rfl rfl ?_
  refine l_nil (n_then (ref_seq (ref_seq (ref_region ?_))))
  refine mv1 rfl rfl ?_
  refine s_rd (r_len Tryd.underlying22 rfl) rfl ?_
  refine mv1 rfl rfl ?_
  refine l_nil (n_then ?_)
  refine ref_loopX (f := (cmp_Or_int_l1 vals_0)) (Γl := (fun (s6 : Int) (x7 : Unit) => [(3, iv .i64 0), (6, slv (rI .i64) vals_0), (7, iv .i64 (vals_0.length : Int)), (8, iv .i64 s6)])) (Ωl := (fun (s6 : Int) (x7 : Unit) => [])) (Γb := (fun (q11 : Unit) (y12 : Unit) => [(3, iv .i64 0)])) (Ωb := (fun (q11 : Unit) (y12 : Unit) => [])) (kr := (fun a : Int => some a)) 0 () (weak [] ⟨rfl, rfl, rfl, rfl, trivial⟩ trivial) (fun s6 x7 => ?_) (fun q11 y12 => ?_)
  · unfold cmp_Or_int_l1
    refine ref_seq (ref_region ?_)
    refine s_rd (r_lss rfl rfl) rfl ?_
    refine l_nil (n_then (ref_seq ?_))
    refine ref_cond rfl (fun hb8 => ?_) (fun hb8 => ?_)
    · refine ref_skip (n_then (ref_seq (ref_block (ref_seq (ref_region ?_)))))
      refine pull fun val9 h_val9 => ?_
      refine s_rd (r_index h_val9 Tryd.underlying22 el_3 rfl rfl) rfl ?_
      refine s_rd (r_load el_3 rfl) rfl ?_
      refine as1 rfl rfl ?_
      refine l_nil (n_then (ref_seq (ref_region ?_)))
      refine mv1 rfl rfl ?_
      refine mv1 rfl rfl ?_
      refine s_rd (r_neq rfl rfl) rfl ?_
      refine l_nil (n_then ?_)
      refine ref_cond rfl (fun hb10 => ?_) (fun hb10 => ?_)
      · refine ref_seq (ref_region ?_)
        refine mv1 rfl rfl ?_
        refine as1 rfl rfl ?_
        refine l_nil (n_then (ref_ret (r_block (r_then ?_))))
        refine retX ?_
        refine r_block (r_then ?_)
        exact fin1 (.inl rfl) () [] rfl trivial rfl (rv_tmp rfl)
      refine ref_skip (n_block (n_then (ref_region ?_)))
      refine s_rd (r_add rfl rfl) rfl ?_
      refine mv1 rfl rfl ?_
      refine l_nil ?_
      exact goX () (weak [] ⟨rfl, rfl, rfl, rfl, trivial⟩ trivial)
    refine ref_exit (x_then ?_)
    exact brkX () (weak [] ⟨rfl, trivial⟩ trivial)
  refine n_then (ref_seq (ref_region ?_))
  refine mv1 rfl rfl ?_
  refine as1 rfl rfl ?_
  refine l_nil (n_then (ref_ret ?_))
  exact fin1 (.inl rfl) () [] rfl trivial rfl (rv_tmp rfl)

/-! deliberation/graph.compare -/
noncomputable def graph_compare_m (a__0 : T_api_Pair) (b_1 : T_api_Pair) : Option (Int) :=
  Option.bind (cmp_Compare_int_m a__0.From b_1.From) fun t3 =>
  Option.bind (cmp_Compare_int_m a__0.To b_1.To) fun t4 =>
  Option.bind (cmp_Or_int_m [t3, t4]) fun t5 =>
  some t5

theorem graph_compare_ok {a__0 : T_api_Pair} {b_1 : T_api_Pair} {r : Int} (hm : graph_compare_m a__0 b_1 = some r) :
    FnOk prog 70 [ag [iv .i64 a__0.From, iv .i64 a__0.To], ag [iv .i64 b_1.From, iv .i64 b_1.To]] [] (fun (x : Unit) => [iv .i64 r]) (fun (x : Unit) => []) := by
  refine fn_ok (fn := Tryd.f70) (N := 17) (res := fun r x => [iv .i64 r]) (Ω1 := fun r x => []) Tryd.func70 rfl rfl hm rfl (fun E hM => ?_)
  unfold graph_compare_m
  refine ref_seq (ref_region ?_)
  refine s_st (s_box (part_agO (ψs := [iv .i64 a__0.From, iv .i64 a__0.To]) rfl ⟨.inl iv_at, .inl iv_at, trivial⟩)) rfl (fun b1 => ?_)
  refine s_st (s_box (part_agO (ψs := [iv .i64 b_1.From, iv .i64 b_1.To]) rfl ⟨.inl iv_at, .inl iv_at, trivial⟩)) rfl (fun b2 => ?_)
  refine as1 rfl rfl ?_
  refine l_nil (n_then (ref_seq ?_))
  refine ref_draw [0, 1, 2, 3, 5, 6, 7, 8] rfl (by kernel_rfl) (fun hok => ?_)
  refine a_rd (i := 0) hok rfl (by kernel_rfl) rfl (r_faddr (fo := 0) Tryd.underlying56 rfl rfl Tryd.sizeOf3 rfl) rfl ?_
  refine a_rd (i := 1) hok rfl (by kernel_rfl) rfl (r_cload Tryd.isAgg3 rfl (j := 0) rfl rfl) rfl ?_
  refine a_rd (i := 2) hok rfl (by kernel_rfl) rfl (r_faddr (fo := 0) Tryd.underlying56 rfl rfl Tryd.sizeOf3 rfl) rfl ?_
  refine a_rd (i := 3) hok rfl (by kernel_rfl) rfl (r_cload Tryd.isAgg3 rfl (j := 1) rfl rfl) rfl ?_
  refine a_rd (i := 5) hok rfl (by kernel_rfl) rfl (r_faddr (fo := 1) Tryd.underlying56 rfl rfl Tryd.sizeOf3 rfl) rfl ?_
  refine a_rd (i := 6) hok rfl (by kernel_rfl) rfl (r_cload Tryd.isAgg3 rfl (j := 0) rfl rfl) rfl ?_
  refine a_rd (i := 7) hok rfl (by kernel_rfl) rfl (r_faddr (fo := 1) Tryd.underlying56 rfl rfl Tryd.sizeOf3 rfl) rfl ?_
  refine a_rd (i := 8) hok rfl (by kernel_rfl) rfl (r_cload Tryd.isAgg3 rfl (j := 1) rfl rfl) rfl ?_
  refine pull fun t3 h_t3 => ?_
  refine a_next hok 4 [] (by kernel_rfl) ?_ trivial
  refine a_st (i := 4) hok rfl rfl (s_call (ψ := fun (_ : Unit) => iv .i64 t3) (args := [.tmp 6, .tmp 8]) Tryd.call73 rfl (cmp_Compare_int_ok h_t3) ⟨arg rfl, arg rfl, trivial⟩ (fun _ _ _ _ h => h)) (by intro _ h; cases h; rfl) (fun _ => ⟨⟨⟨rfl, rfl⟩, trivial⟩, ⟨trivial, ⟨⟨⟨rfl, rfl⟩, trivial⟩, ⟨trivial, ⟨trivial, ⟨trivial, ⟨trivial, ⟨trivial, trivial⟩⟩⟩⟩⟩⟩⟩⟩) (fun _ => ?_)
  refine pull fun t4 h_t4 => ?_
  refine a_next hok 9 [] (by kernel_rfl) ?_ trivial
  refine a_st (i := 9) hok rfl rfl (s_call (ψ := fun (_ : Unit) => iv .i64 t4) (args := [.tmp 11, .tmp 13]) Tryd.call73 rfl (cmp_Compare_int_ok h_t4) ⟨arg rfl, arg rfl, trivial⟩ (fun _ _ _ _ h => h)) (by intro _ h; cases h; rfl) (fun _ => ⟨trivial, ⟨trivial, ⟨trivial, ⟨trivial, ⟨⟨⟨rfl, rfl⟩, trivial⟩, ⟨trivial, ⟨⟨⟨rfl, rfl⟩, trivial⟩, ⟨trivial, trivial⟩⟩⟩⟩⟩⟩⟩⟩) (fun _ => ?_)
  refine a_next hok 10 [] (by kernel_rfl) ?_ trivial
  refine a_st (i := 10) hok rfl rfl (s_bslice (xs := [.tmp 9, .tmp 14]) (ds := [t3, t4]) Tryd.underlying22 el_3 rfl (Nat.le_of_ble_eq_true rfl) ⟨(part_at rfl iv_at), ⟨(part_at rfl iv_at), trivial⟩⟩) (by intro _ h; cases h; rfl) (fun _ => ⟨⟨⟨rfl, rfl⟩, trivial⟩, ⟨trivial, ⟨⟨⟨rfl, rfl⟩, trivial⟩, ⟨trivial, ⟨⟨⟨rfl, rfl⟩, trivial⟩, ⟨trivial, ⟨⟨⟨rfl, rfl⟩, trivial⟩, ⟨trivial, trivial⟩⟩⟩⟩⟩⟩⟩⟩) (fun _ => ?_)
  refine pull fun t5 h_t5 => ?_
  refine a_next hok 11 [] (by kernel_rfl) ?_ trivial
  refine a_st (i := 11) hok rfl rfl (s_call (ψ := fun (_ : Unit) => iv .i64 t5) (args := [.tmp 15]) Tryd.call85 rfl (cmp_Or_int_ok h_t5) ⟨arg rfl, trivial⟩ (fun _ _ _ _ h => h)) (by intro _ h; cases h; rfl) (fun _ => ⟨⟨⟨rfl, rfl⟩, trivial⟩, ⟨trivial, ⟨⟨⟨rfl, rfl⟩, trivial⟩, ⟨trivial, ⟨⟨⟨rfl, rfl⟩, trivial⟩, ⟨trivial, ⟨⟨⟨rfl, rfl⟩, trivial⟩, ⟨trivial, trivial⟩⟩⟩⟩⟩⟩⟩⟩) (fun _ => ?_)
  refine a_next hok 12 [] (by kernel_rfl) ?_ trivial
  refine a_st (i := 12) hok rfl rfl (St.ofRd (r_assign rfl)) (by intro _ h; cases h; rfl) (fun _ => ⟨trivial, ⟨trivial, ⟨trivial, ⟨trivial, ⟨trivial, ⟨trivial, ⟨trivial, ⟨trivial, trivial⟩⟩⟩⟩⟩⟩⟩⟩) (fun _ => ?_)
  refine a_fin hok (by kernel_rfl) ?_
  refine b_of (nrm [oc b1 [iv .i64 a__0.From, iv .i64 a__0.To], oc b2 [iv .i64 b_1.From, iv .i64 b_1.To]] rfl) ?_
  refine n_then (ref_ret ?_)
  exact fin1 (.inl rfl) () [] rfl trivial rfl (rv_tmp rfl)

/-! deliberation/graph.Validate -/
noncomputable def graph_Validate_l1 (g_0 : T_api_Graph) (s12 : Int) : Option (Sum ((Sum (Int) (Unit))) (Int)) :=
  bif decide (s12 < (g_0.L.length : Int)) then
    Option.bind (idxM g_0.L s12) fun t15 =>
    bif decide ((imin t15.From t15.To) < 0) then
      some (Sum.inl (Sum.inl 1))
    else
      bif decide ((imax t15.From t15.To) ≥ g_0.N) then
        some (Sum.inl (Sum.inl 1))
      else
        bif decide (s12 > 0) then
          Option.bind (idxM g_0.L (isub .i64 s12 1)) fun t18 =>
          Option.bind (graph_compare_m t18 t15) fun t19 =>
          bif decide (t19 ≥ 0) then
            some (Sum.inl (Sum.inl 8))
          else
            some (Sum.inr (iadd .i64 s12 1))
        else
          some (Sum.inr (iadd .i64 s12 1))
  else
    some (Sum.inl (Sum.inr ()))

noncomputable def graph_Validate_m (g_0 : T_api_Graph) : Option (Int) :=
  bif decide (g_0.N < 0) then
    some 1
  else
    bif decide (g_0.N > 40) then
      some 1
    else
      Option.bind (loopC (graph_Validate_l1 g_0) 0) (sumK (fun a : Int => some a) fun q21 : Unit =>
        some 0)

theorem graph_Validate_ok {g_0 : T_api_Graph} {r : Int} (hm : graph_Validate_m g_0 = some r) :
    FnOk prog 36 [ag [iv .i64 g_0.N, slv rT_api_Pair g_0.L]] [] (fun (x : Unit) => [iv .i64 r]) (fun (x : Unit) => []) := by
  refine fn_ok (fn := Tryd.f36) (N := 51) (res := fun r x => [iv .i64 r]) (Ω1 := fun r x => []) Tryd.func36 rfl rfl hm rfl (fun E hM => ?_)
  unfold graph_Validate_m
  refine ref_seq (ref_region ?_)
  refine s_st (s_box (part_agO (ψs := [iv .i64 g_0.N, slv rT_api_Pair g_0.L]) rfl ⟨.inl iv_at, .inl slv_at, trivial⟩)) rfl (fun b1 => ?_)
  refine as1 rfl rfl ?_
  refine l_nil (n_then (ref_seq (ref_seq (ref_region ?_))))
  refine s_rd (r_faddr (fo := 0) Tryd.underlying27 rfl rfl Tryd.sizeOf3 rfl) rfl ?_
  refine s_rd (r_cload Tryd.isAgg3 rfl (j := 0) rfl rfl) rfl ?_
  refine s_rd (r_lss rfl rfl) rfl ?_
  refine mv1 rfl rfl ?_
  refine b_split (t := 8) rfl (fun _ => ?_) (fun _ => ?_)
  · refine s_off rfl rfl rfl rfl rfl ?_
    refine s_off rfl rfl rfl rfl rfl ?_
    refine s_off rfl rfl rfl rfl rfl ?_
    refine s_rd (r_pickT rfl rfl) rfl ?_
    refine l_nil (n_then ?_)
    refine ref_condT rfl rfl ?_
    refine ref_seq (ref_region ?_)
    refine as1 rfl rfl ?_
    refine l_nil (n_then (ref_ret (r_then ?_)))
    exact fin1 (.inl rfl) () [] rfl trivial rfl (rv_tmp rfl)
  refine s_on rfl rfl rfl ?_
  refine s_rd (r_faddr (fo := 0) Tryd.underlying27 rfl rfl Tryd.sizeOf3 rfl) rfl ?_
  refine s_on rfl rfl rfl ?_
  refine s_rd (r_cload Tryd.isAgg3 rfl (j := 0) rfl rfl) rfl ?_
  refine s_on rfl rfl rfl ?_
  refine s_rd (r_gtr rfl rfl) rfl ?_
  refine s_rd (r_pickF rfl rfl) rfl ?_
  refine l_nil (n_then ?_)
  refine ref_cond rfl (fun hb2 => ?_) (fun hb2 => ?_)
  · refine ref_seq (ref_region ?_)
    refine as1 rfl rfl ?_
    refine l_nil (n_then (ref_ret (r_then ?_)))
    exact fin1 (.inl rfl) () [] rfl trivial rfl (rv_tmp rfl)
  refine ref_skip (n_then (ref_seq (ref_seq (ref_region ?_))))
  refine s_rd (r_faddr (fo := 1) Tryd.underlying27 rfl rfl Tryd.sizeOf25 rfl) rfl ?_
  refine s_rd (r_cload Tryd.isAgg25 rfl (j := 0) rfl rfl) rfl ?_
  refine s_rd (r_len Tryd.underlying25 rfl) rfl ?_
  refine mv1 rfl rfl ?_
  refine l_nil (n_then ?_)
  refine ref_loopX (f := (graph_Validate_l1 g_0)) (Γl := (fun (s12 : Int) (x13 : Unit) => [(1, pv (ptr b1 0)), (14, slv rT_api_Pair g_0.L), (15, iv .i64 (g_0.L.length : Int)), (16, iv .i64 s12)])) (Ωl := (fun (s12 : Int) (x13 : Unit) => [oc b1 [iv .i64 g_0.N, slv rT_api_Pair g_0.L]])) (Γb := (fun (q21 : Unit) (y22 : Unit) => [])) (Ωb := (fun (q21 : Unit) (y22 : Unit) => [])) (kr := (fun a : Int => some a)) 0 () (weak [0] ⟨rfl, rfl, rfl, rfl, trivial⟩ ⟨rfl, trivial⟩) (fun s12 x13 => ?_) (fun q21 y22 => ?_)
  · unfold graph_Validate_l1
    refine ref_seq (ref_region ?_)
    refine s_rd (r_lss rfl rfl) rfl ?_
    refine l_nil (n_then (ref_seq ?_))
    refine ref_cond rfl (fun hb14 => ?_) (fun hb14 => ?_)
    · refine ref_skip (n_then (ref_seq (ref_block (ref_seq (ref_region ?_)))))
      refine mv1 rfl rfl ?_
      refine pull fun t15 h_t15 => ?_
      refine s_rd (r_index h_t15 Tryd.underlying25 el_56 rfl rfl) rfl ?_
      refine s_rd (r_load el_56 rfl) rfl ?_
      refine s_st (s_alloc zt_56) rfl (fun b16 => ?_)
      refine as1 rfl rfl ?_
      refine s_st0 (s_cstore (out := [iv .i64 t15.From, iv .i64 t15.To]) Tryd.sizeOf56 rfl (j := 1) rfl (part_agO (ψs := [iv .i64 t15.From, iv .i64 t15.To]) rfl ⟨.inl iv_at, .inl iv_at, trivial⟩) rfl rfl rfl) (fun _ => ?_)
      refine l_nil (n_then (ref_seq (ref_seq (ref_region ?_))))
      refine s_rd (r_faddr (fo := 0) Tryd.underlying56 rfl rfl Tryd.sizeOf3 rfl) rfl ?_
      refine s_rd (r_cload Tryd.isAgg3 rfl (j := 1) rfl rfl) rfl ?_
      refine s_rd (r_faddr (fo := 1) Tryd.underlying56 rfl rfl Tryd.sizeOf3 rfl) rfl ?_
      refine s_rd (r_cload Tryd.isAgg3 rfl (j := 1) rfl rfl) rfl ?_
      refine s_rd (r_min rfl rfl) rfl ?_
      refine s_rd (r_lss rfl rfl) rfl ?_
      refine mv1 rfl rfl ?_
      refine b_split (t := 27) rfl (fun _ => ?_) (fun _ => ?_)
      · refine s_off rfl rfl rfl rfl rfl ?_
        refine s_off rfl rfl rfl rfl rfl ?_
        refine s_off rfl rfl rfl rfl rfl ?_
        refine s_off rfl rfl rfl rfl rfl ?_
        refine s_off rfl rfl rfl rfl rfl ?_
        refine s_off rfl rfl rfl rfl rfl ?_
        refine s_off rfl rfl rfl rfl rfl ?_
        refine s_off rfl rfl rfl rfl rfl ?_
        refine s_rd (r_pickT rfl rfl) rfl ?_
        refine l_nil (n_then ?_)
        refine ref_condT rfl rfl ?_
        refine ref_seq (ref_region ?_)
        refine as1 rfl rfl ?_
        refine l_nil (n_then (ref_ret (r_then (r_block (r_then ?_)))))
        refine retX ?_
        refine r_block (r_then ?_)
        exact fin1 (.inl rfl) () [] rfl trivial rfl (rv_tmp rfl)
      refine s_on rfl rfl rfl ?_
      refine s_rd (r_faddr (fo := 0) Tryd.underlying56 rfl rfl Tryd.sizeOf3 rfl) rfl ?_
      refine s_on rfl rfl rfl ?_
      refine s_rd (r_cload Tryd.isAgg3 rfl (j := 1) rfl rfl) rfl ?_
      refine s_on rfl rfl rfl ?_
      refine s_rd (r_faddr (fo := 1) Tryd.underlying56 rfl rfl Tryd.sizeOf3 rfl) rfl ?_
      refine s_on rfl rfl rfl ?_
      refine s_rd (r_cload Tryd.isAgg3 rfl (j := 1) rfl rfl) rfl ?_
      refine s_on rfl rfl rfl ?_
      refine s_rd (r_max rfl rfl) rfl ?_
      refine s_on rfl rfl rfl ?_
      refine s_rd (r_faddr (fo := 0) Tryd.underlying27 rfl rfl Tryd.sizeOf3 rfl) rfl ?_
      refine s_on rfl rfl rfl ?_
      refine s_rd (r_cload Tryd.isAgg3 rfl (j := 0) rfl rfl) rfl ?_
      refine s_on rfl rfl rfl ?_
      refine s_rd (r_geq rfl rfl) rfl ?_
      refine s_rd (r_pickF rfl rfl) rfl ?_
      refine l_nil (n_then ?_)
      refine ref_cond rfl (fun hb17 => ?_) (fun hb17 => ?_)
      · refine ref_seq (ref_region ?_)
        refine as1 rfl rfl ?_
        refine l_nil (n_then (ref_ret (r_then (r_block (r_then ?_)))))
        refine retX ?_
        refine r_block (r_then ?_)
        exact fin1 (.inl rfl) () [] rfl trivial rfl (rv_tmp rfl)
      refine ref_skip (n_then (ref_seq ?_))
      refine ref_draw [0, 1, 2, 3, 4, 5, 6, 7, 8, 9, 11, 12] rfl (by kernel_rfl) (fun hok => ?_)
      refine a_rd (i := 0) hok rfl (by kernel_rfl) rfl (r_move rfl) rfl ?_
      refine a_rd (i := 1) hok rfl (by kernel_rfl) rfl (r_gtr rfl rfl) rfl ?_
      refine a_rd (i := 2) hok rfl (by kernel_rfl) rfl (r_move rfl) rfl ?_
      refine b_split (t := 39) rfl (fun _ => ?_) (fun _ => ?_)
      · refine a_rdOn (i := 3) hok rfl rfl rfl rfl (by kernel_rfl) rfl (r_faddr (fo := 1) Tryd.underlying27 rfl rfl Tryd.sizeOf25 rfl) rfl ?_
        refine a_rdOn (i := 4) hok rfl rfl rfl rfl (by kernel_rfl) rfl (r_cload Tryd.isAgg25 rfl (j := 0) rfl rfl) rfl ?_
        refine a_rdOn (i := 5) hok rfl rfl rfl rfl (by kernel_rfl) rfl (r_move rfl) rfl ?_
        refine a_rdOn (i := 6) hok rfl rfl rfl rfl (by kernel_rfl) rfl (r_sub rfl rfl) rfl ?_
        refine pull fun t18 h_t18 => ?_
        refine a_rdOn (i := 7) hok rfl rfl rfl rfl (by kernel_rfl) rfl (r_index h_t18 Tryd.underlying25 el_56 rfl rfl) rfl ?_
        refine a_rdOn (i := 8) hok rfl rfl rfl rfl (by kernel_rfl) rfl (r_load el_56 rfl) rfl ?_
        refine a_rdOn (i := 9) hok rfl rfl rfl rfl (by kernel_rfl) rfl (r_cloadS Tryd.isAgg56 Tryd.sizeOf56 rfl (j := 1) rfl rfl rfl) rfl ?_
        refine pull fun t19 h_t19 => ?_
        refine a_next hok 10 [] (by kernel_rfl) ?_ trivial
        refine a_stOn (i := 10) hok rfl rfl rfl rfl rfl (s_call (ψ := fun (_ : Unit) => iv .i64 t19) (args := [.tmp 45, .tmp 46]) Tryd.call70 rfl (graph_compare_ok h_t19) ⟨arg rfl, arg rfl, trivial⟩ (fun _ _ _ _ h => h)) (by intro _ h; cases h; rfl) (fun _ => ⟨trivial, ⟨trivial, ⟨trivial, ⟨trivial, ⟨trivial, ⟨⟨⟨rfl, rfl⟩, trivial⟩, ⟨trivial, ⟨trivial, ⟨trivial, ⟨trivial, trivial⟩⟩⟩⟩⟩⟩⟩⟩⟩⟩) (fun _ => ?_)
        refine a_rdOn (i := 11) hok rfl rfl rfl rfl (by kernel_rfl) rfl (r_geq rfl rfl) rfl ?_
        refine a_rd (i := 12) hok rfl (by kernel_rfl) rfl (r_pickT rfl rfl) rfl ?_
        refine a_fin hok (by kernel_rfl) ?_
        refine b_of (nrm [oc b1 [iv .i64 g_0.N, slv rT_api_Pair g_0.L], oc b16 [iv .i64 t15.From, iv .i64 t15.To]] rfl) ?_
        refine n_then ?_
        refine ref_cond rfl (fun hb20 => ?_) (fun hb20 => ?_)
        · refine ref_seq (ref_region ?_)
          refine as1 rfl rfl ?_
          refine l_nil (n_then (ref_ret (r_block (r_then ?_))))
          refine retX ?_
          refine r_block (r_then ?_)
          exact fin1 (.inl rfl) () [] rfl trivial rfl (rv_tmp rfl)
        refine ref_skip (n_block (n_then (ref_region ?_)))
        refine s_rd (r_add rfl rfl) rfl ?_
        refine mv1 rfl rfl ?_
        refine l_nil ?_
        exact goX () (weak [0] ⟨rfl, rfl, rfl, rfl, trivial⟩ ⟨rfl, trivial⟩)
      refine a_off (i := 3) hok rfl rfl rfl rfl rfl (by kernel_rfl) rfl rfl ?_
      refine a_off (i := 4) hok rfl rfl rfl rfl rfl (by kernel_rfl) rfl rfl ?_
      refine a_off (i := 5) hok rfl rfl rfl rfl rfl (by kernel_rfl) rfl rfl ?_
      refine a_off (i := 6) hok rfl rfl rfl rfl rfl (by kernel_rfl) rfl rfl ?_
      refine a_off (i := 7) hok rfl rfl rfl rfl rfl (by kernel_rfl) rfl rfl ?_
      refine a_off (i := 8) hok rfl rfl rfl rfl rfl (by kernel_rfl) rfl rfl ?_
      refine a_off (i := 9) hok rfl rfl rfl rfl rfl (by kernel_rfl) rfl rfl ?_
      refine a_next hok 10 [] (by kernel_rfl) ?_ trivial
      refine a_stOff (i := 10) hok rfl rfl rfl rfl rfl rfl (by intro _ h; cases h; rfl) ⟨trivial, ⟨trivial, ⟨trivial, ⟨trivial, ⟨trivial, ⟨trivial, ⟨trivial, ⟨trivial, ⟨trivial, ⟨trivial, trivial⟩⟩⟩⟩⟩⟩⟩⟩⟩⟩ ?_
      refine a_off (i := 11) hok rfl rfl rfl rfl rfl (by kernel_rfl) rfl rfl ?_
      refine a_rd (i := 12) hok rfl (by kernel_rfl) rfl (r_pickF rfl rfl) rfl ?_
      refine a_fin hok (by kernel_rfl) ?_
      refine n_then ?_
      refine ref_condF rfl rfl ?_
      refine ref_skip (n_block (n_then (ref_region ?_)))
      refine s_rd (r_add rfl rfl) rfl ?_
      refine mv1 rfl rfl ?_
      refine l_nil ?_
      exact goX () (weak [0] ⟨rfl, rfl, rfl, rfl, trivial⟩ ⟨rfl, trivial⟩)
    refine ref_exit (x_then ?_)
    exact brkX () (weak [] trivial trivial)
  refine n_then (ref_seq (ref_region ?_))
  refine as1 rfl rfl ?_
  refine l_nil (n_then (ref_ret ?_))
  exact fin1 (.inl rfl) () [] rfl trivial rfl (rv_tmp rfl)

/-! deliberation/degree.Strength$1 -/
noncomputable def degree_Strength_1_m (f_0 : T_api_Fraction) : Option (Bool) :=
  bif decide (f_0.Den < 1) then
    some true
  else
    bif decide (f_0.Num < 0) then
      some true
    else
      letM (decide (f_0.Num > f_0.Den)) fun t2 =>
      some t2

theorem degree_Strength_1_ok {f_0 : T_api_Fraction} {r : Bool} (hm : degree_Strength_1_m f_0 = some r) :
    FnOk prog 46 [ag [iv .i64 f_0.Num, iv .i64 f_0.Den]] [] (fun (x : Unit) => [bv r]) (fun (x : Unit) => []) := by
  refine fn_ok (fn := Tryd.f46) (N := 18) (res := fun r x => [bv r]) (Ω1 := fun r x => []) Tryd.func46 rfl rfl hm rfl (fun E hM => ?_)
  unfold degree_Strength_1_m
  refine ref_seq (ref_region ?_)
  refine s_st (s_box (part_agO (ψs := [iv .i64 f_0.Num, iv .i64 f_0.Den]) rfl ⟨.inl iv_at, .inl iv_at, trivial⟩)) rfl (fun b1 => ?_)
  refine as1 rfl rfl ?_
  refine l_nil (n_then (ref_seq (ref_region ?_)))
  refine s_rd (r_faddr (fo := 1) Tryd.underlying53 rfl rfl Tryd.sizeOf3 rfl) rfl ?_
  refine s_rd (r_cload Tryd.isAgg3 rfl (j := 0) rfl rfl) rfl ?_
  refine s_rd (r_lss rfl rfl) rfl ?_
  refine mv1 rfl rfl ?_
  refine b_split (t := 6) rfl (fun _ => ?_) (fun _ => ?_)
  · refine s_off rfl rfl rfl rfl rfl ?_
    refine s_off rfl rfl rfl rfl rfl ?_
    refine s_off rfl rfl rfl rfl rfl ?_
    refine s_rd (r_pickT rfl rfl) rfl ?_
    refine mv1 rfl rfl ?_
    refine s_off rfl rfl rfl rfl rfl ?_
    refine s_off rfl rfl rfl rfl rfl ?_
    refine s_off rfl rfl rfl rfl rfl ?_
    refine s_off rfl rfl rfl rfl rfl ?_
    refine s_off rfl rfl rfl rfl rfl ?_
    refine s_rd (r_pickT rfl rfl) rfl ?_
    refine as1 rfl rfl ?_
    refine l_nil (n_then (ref_ret ?_))
    exact fin1 (.inl rfl) () [] rfl trivial rfl (rv_tmp rfl)
  refine s_on rfl rfl rfl ?_
  refine s_rd (r_faddr (fo := 0) Tryd.underlying53 rfl rfl Tryd.sizeOf3 rfl) rfl ?_
  refine s_on rfl rfl rfl ?_
  refine s_rd (r_cload Tryd.isAgg3 rfl (j := 0) rfl rfl) rfl ?_
  refine s_on rfl rfl rfl ?_
  refine s_rd (r_lss rfl rfl) rfl ?_
  refine s_rd (r_pickF rfl rfl) rfl ?_
  refine mv1 rfl rfl ?_
  refine b_split (t := 11) rfl (fun _ => ?_) (fun _ => ?_)
  · refine s_off rfl rfl rfl rfl rfl ?_
    refine s_off rfl rfl rfl rfl rfl ?_
    refine s_off rfl rfl rfl rfl rfl ?_
    refine s_off rfl rfl rfl rfl rfl ?_
    refine s_off rfl rfl rfl rfl rfl ?_
    refine s_rd (r_pickT rfl rfl) rfl ?_
    refine as1 rfl rfl ?_
    refine l_nil (n_then (ref_ret ?_))
    exact fin1 (.inl rfl) () [] rfl trivial rfl (rv_tmp rfl)
  refine s_on rfl rfl rfl ?_
  refine s_rd (r_faddr (fo := 0) Tryd.underlying53 rfl rfl Tryd.sizeOf3 rfl) rfl ?_
  refine s_on rfl rfl rfl ?_
  refine s_rd (r_cload Tryd.isAgg3 rfl (j := 0) rfl rfl) rfl ?_
  refine s_on rfl rfl rfl ?_
  refine s_rd (r_faddr (fo := 1) Tryd.underlying53 rfl rfl Tryd.sizeOf3 rfl) rfl ?_
  refine s_on rfl rfl rfl ?_
  refine s_rd (r_cload Tryd.isAgg3 rfl (j := 0) rfl rfl) rfl ?_
  refine s_on rfl rfl rfl ?_
  refine s_rd (r_gtr rfl rfl) rfl ?_
  refine s_rd (r_pickF rfl rfl) rfl ?_
  refine as1 rfl rfl ?_
  refine b_let (f := bv) (t := 2) rfl fun t2 => ?_
  refine l_nil (n_then (ref_ret ?_))
  exact fin1 (.inl rfl) () [] rfl trivial rfl (rv_tmp rfl)

/-! (deliberation/network.Set).With -/
noncomputable def network_Set_With_m (s_0 : Int) (node_1 : Int) : Option (Int) :=
  Option.bind (ishlM .u64 1 (IntKind.wrap .u64 node_1)) fun t1 =>
  letM (ior .u64 s_0 t1) fun t2 =>
  some t2

theorem network_Set_With_ok {s_0 : Int} {node_1 : Int} {r : Int} (hm : network_Set_With_m s_0 node_1 = some r) :
    FnOk prog 74 [iv .u64 s_0, iv .i64 node_1] [] (fun (x : Unit) => [iv .u64 r]) (fun (x : Unit) => []) := by
  refine fn_ok (fn := Tryd.f74) (N := 10) (res := fun r x => [iv .u64 r]) (Ω1 := fun r x => []) Tryd.func74 rfl rfl hm rfl (fun E hM => ?_)
  unfold network_Set_With_m
  refine ref_seq (ref_region ?_)
  refine as1 rfl rfl ?_
  refine l_nil (n_then (ref_seq (ref_region ?_)))
  refine mv1 rfl rfl ?_
  refine mv1 rfl rfl ?_
  refine s_rd (r_conv (k' := .u64) rfl rfl rfl) rfl ?_
  refine pull fun t1 h_t1 => ?_
  refine s_rd (r_shlM h_t1 rfl rfl) rfl ?_
  refine s_rd (r_or rfl rfl) rfl ?_
  refine as1 rfl rfl ?_
  refine b_let (f := iv .u64) (t := 4) rfl fun t2 => ?_
  refine l_nil (n_then (ref_ret ?_))
  exact fin1 (.inl rfl) () [] rfl trivial rfl (rv_tmp rfl)

/-! deliberation/network.New -/
noncomputable def network_New_l1 (g_0 : T_api_Graph) (s17 : Int × Int) : Option (Sum (Int) (Int × Int)) :=
  bif decide (s17.1 < g_0.N) then
    Option.bind (network_Set_With_m s17.2 s17.1) fun t20 =>
    some (Sum.inr (iadd .i64 s17.1 1, t20))
  else
    some (Sum.inl s17.2)

noncomputable def network_New_l2 (g_0 : T_api_Graph) (s45 : Int × (List Int) × (List Int)) : Option (Sum ((List Int) × (List Int)) (Int × (List Int) × (List Int))) :=
  bif decide (s45.1 < (g_0.L.length : Int)) then
    Option.bind (idxM g_0.L s45.1) fun t48 =>
    Option.bind (idxM s45.2.1 t48.To) fun t50 =>
    Option.bind (network_Set_With_m t50 t48.From) fun t51 =>
    Option.bind (idxM s45.2.1 t48.To) fun t52 =>
    Option.bind (idxM s45.2.2 t48.From) fun t53 =>
    Option.bind (network_Set_With_m t53 t48.To) fun t54 =>
    Option.bind (idxM s45.2.2 t48.From) fun t55 =>
    some (Sum.inr (iadd .i64 s45.1 1, s45.2.1.set (Int.toNat t48.To) t51, s45.2.2.set (Int.toNat t48.From) t54))
  else
    some (Sum.inl (s45.2.1, s45.2.2))

noncomputable def network_New_m (g_0 : T_api_Graph) : Option (T_network_Net) :=
  Option.bind (mkM 8 0 g_0.N) fun t4 =>
  Option.bind (mkM 8 0 g_0.N) fun t6 =>
  Option.bind (loopC (network_New_l1 g_0) (0, 0)) fun q21 : Int =>
  Option.bind (loopC (network_New_l2 g_0) (0, t4, t6)) fun q56 : (List Int) × (List Int) =>
  some (T_network_Net.mk q21 q56.1 q56.2)

theorem network_New_ok {g_0 : T_api_Graph} {r : T_network_Net} (hm : network_New_m g_0 = some r) :
    FnOk prog 39 [ag [iv .i64 g_0.N, slv rT_api_Pair g_0.L]] [] (fun (x : Unit) => [ag [iv .u64 r.All, slv (rI .u64) r.By, slv (rI .u64) r.Out]]) (fun (x : Unit) => []) := by
  refine fn_ok (fn := Tryd.f39) (N := 62) (res := fun r x => [ag [iv .u64 r.All, slv (rI .u64) r.By, slv (rI .u64) r.Out]]) (Ω1 := fun r x => []) Tryd.func39 rfl rfl hm rfl (fun E hM => ?_)
  unfold network_New_m
  refine ref_seq (ref_region ?_)
  refine s_st (s_box (part_agO (ψs := [iv .i64 g_0.N, slv rT_api_Pair g_0.L]) rfl ⟨.inl iv_at, .inl slv_at, trivial⟩)) rfl (fun b1 => ?_)
  refine s_st (s_alloc zt_80) rfl (fun b2 => ?_)
  refine l_nil (n_then (ref_seq ?_))
  refine pull fun t4 h_t4 => ?_
  refine pull fun t6 h_t6 => ?_
  refine ref_drawI 3 [⟨[], [], [], [], [], fun us u => pv (ptr b1 0), fun us u => []⟩, ⟨[0], [], [], [0], [], fun us u => iv .i64 g_0.N, fun us u => []⟩, ⟨[0, 1], [], [2], [2], [], fun us u => pv u.V.1, fun us u => [oa (rI .u64) u.V.1 u.V.2 t4]⟩, ⟨[], [], [], [], [], fun us u => pv (ptr b1 0), fun us u => []⟩, ⟨[3], [], [], [0], [], fun us u => iv .i64 g_0.N, fun us u => []⟩, ⟨[3, 4], [], [3], [3], [], fun us u => pv u.V.1, fun us u => [oa (rI .u64) u.V.1 u.V.2 t6]⟩, ⟨[0, 1, 2, 3, 4, 5], [2, 5], [], [2, 3], [], fun us u => ag [iv .u64 0, pv (us.getD 0 .none).V.1, pv (us.getD 1 .none).V.1], fun us u => []⟩, ⟨[], [], [4], [4], [], fun us u => pv (ptr u.Nn 0), fun us u => [oc u.Nn [iv .u64 0, pv (.slice none 0 0), pv (.slice none 0 0)]]⟩, ⟨[0, 1, 2, 3, 4, 5, 6, 7], [2, 5, 7], [4], [2, 3, 4], [4], fun us u => pv undef, fun us u => [oc (us.getD 2 .none).Nn [iv .u64 0, pv (us.getD 0 .none).V.1, pv (us.getD 1 .none).V.1]]⟩] (fun χ3 => [(1, pv (ptr b1 0)), (2, pv (ptr b2 0)), (3, pv (ptr (χ3 7).Nn 0))]) (fun χ3 => [oc b1 [iv .i64 g_0.N, slv rT_api_Pair g_0.L], oc b2 [iv .u64 0, pv (.slice none 0 0), pv (.slice none 0 0)], oa (rI .u64) (χ3 2).V.1 (χ3 2).V.2 t4, oa (rI .u64) (χ3 5).V.1 (χ3 5).V.2 t6, oc (χ3 7).Nn [iv .u64 0, pv (χ3 2).V.1, pv (χ3 5).V.1]]) rfl (by kernel_rfl) ⟨fun χ3 Ω _ => St.toR (r_faddr (fo := 0) Tryd.underlying27 rfl rfl Tryd.sizeOf3 rfl) (fun _ => rfl) (fun _ => rfl), (by intro _ h; cases h; rfl), ⟨fun χ3 Ω ⟨h0, _⟩ => St.toR (r_cload Tryd.isAgg3 rfl (j := 0) h0 rfl) (fun _ => rfl) (fun _ => rfl), (by intro _ h; cases h; rfl), ⟨fun χ3 Ω ⟨h2, _⟩ => St.to XU.V XU.hV (St.placeL (os := fun _ => [_]) [2] (s_make h_t4 Tryd.underlying78 el_77 ze_77 rfl rfl) (fun _ => rfl) (fun _ => ⟨h2, rfl, trivial⟩)) (fun _ => rfl) (fun _ => rfl), (by intro _ h; cases h; rfl), ⟨fun χ3 Ω _ => St.toR (r_faddr (fo := 0) Tryd.underlying27 rfl rfl Tryd.sizeOf3 rfl) (fun _ => rfl) (fun _ => rfl), (by intro _ h; cases h; rfl), ⟨fun χ3 Ω ⟨h0, _⟩ => St.toR (r_cload Tryd.isAgg3 rfl (j := 0) h0 rfl) (fun _ => rfl) (fun _ => rfl), (by intro _ h; cases h; rfl), ⟨fun χ3 Ω ⟨h3, _⟩ => St.to XU.V XU.hV (St.placeL (os := fun _ => [_]) [3] (s_make h_t6 Tryd.underlying78 el_77 ze_77 rfl rfl) (fun _ => rfl) (fun _ => ⟨h3, rfl, trivial⟩)) (fun _ => rfl) (fun _ => rfl), (by intro _ h; cases h; rfl), ⟨fun χ3 Ω ⟨h2, h3, _⟩ => St.toR (r_build (ps := [(1, .tmp 9), (2, .tmp 12)]) (rs := [(1, [pv (χ3 2).V.1]), (2, [pv (χ3 5).V.1])]) st_80 zs_80 ⟨rfl, (part_own rfl (j := 2) h2), ⟨rfl, (part_own rfl (j := 3) h3), trivial⟩⟩ rfl rfl) (fun _ => rfl) (fun _ => rfl), (by intro _ h; cases h; rfl), ⟨fun χ3 Ω ⟨h4, _⟩ => St.to XU.Nn XU.hN (St.placeL (os := fun _ => [_]) [4] (s_alloc zt_80) (fun _ => rfl) (fun _ => ⟨h4, rfl, trivial⟩)) (fun _ => rfl) (fun _ => rfl), (by intro _ h; cases h; rfl), ⟨fun χ3 Ω ⟨h2, h3, h4, _⟩ => St.to XU.U XU.hU (s_cstore (out := [iv .u64 0, pv (χ3 2).V.1, pv (χ3 5).V.1]) Tryd.sizeOf80 rfl (j := 4) h4 (part_agO (ψs := [iv .u64 0, pv (χ3 2).V.1, pv (χ3 5).V.1]) rfl ⟨.inl iv_at, .inr ⟨_, _, _, _, _, 2, rfl, h2⟩, .inr ⟨_, _, _, _, _, 3, rfl, h3⟩, trivial⟩) rfl rfl rfl) (fun _ => rfl) (fun _ => rfl), (by intro _ h; cases h), trivial⟩⟩⟩⟩⟩⟩⟩⟩⟩ (fun _ => ⟨rfl, rfl, rfl, trivial⟩) (fun _ => rfl) (fun χ3 => ?_)
  refine n_then (ref_seq (ref_seq (ref_region ?_)))
  refine s_rd (r_faddr (fo := 0) Tryd.underlying27 rfl rfl Tryd.sizeOf3 rfl) rfl ?_
  refine s_rd (r_cload Tryd.isAgg3 rfl (j := 0) rfl rfl) rfl ?_
  refine mv1 rfl rfl ?_
  refine l_nil (n_then ?_)
  refine ref_loopB (f := (network_New_l1 g_0)) (Γl := (fun (s17 : Int × Int) (x18 : Unit) => [(1, pv (ptr b1 0)), (2, pv (ptr b2 0)), (3, pv (ptr (χ3 7).Nn 0)), (15, iv .i64 g_0.N), (16, iv .i64 s17.1)])) (Ωl := (fun (s17 : Int × Int) (x18 : Unit) => [oc b1 [iv .i64 g_0.N, slv rT_api_Pair g_0.L], oc b2 [iv .u64 0, pv (.slice none 0 0), pv (.slice none 0 0)], oc (χ3 7).Nn [iv .u64 s17.2, pv (χ3 2).V.1, pv (χ3 5).V.1], oa (rI .u64) (χ3 2).V.1 (χ3 2).V.2 t4, oa (rI .u64) (χ3 5).V.1 (χ3 5).V.2 t6])) (Γb := (fun (q21 : Int) (y22 : Unit) => [(1, pv (ptr b1 0)), (2, pv (ptr b2 0)), (3, pv (ptr (χ3 7).Nn 0))])) (Ωb := (fun (q21 : Int) (y22 : Unit) => [oc b1 [iv .i64 g_0.N, slv rT_api_Pair g_0.L], oc b2 [iv .u64 0, pv (.slice none 0 0), pv (.slice none 0 0)], oc (χ3 7).Nn [iv .u64 q21, pv (χ3 2).V.1, pv (χ3 5).V.1], oa (rI .u64) (χ3 2).V.1 (χ3 2).V.2 t4, oa (rI .u64) (χ3 5).V.1 (χ3 5).V.2 t6])) (0, 0) () (weak [0, 1, 4, 2, 3] ⟨rfl, rfl, rfl, rfl, rfl, trivial⟩ ⟨rfl, rfl, rfl, rfl, rfl, trivial⟩) (fun s17 x18 => ?_) (fun q21 y22 => ?_)
  · unfold network_New_l1
    refine ref_seq (ref_region ?_)
    refine s_rd (r_lss rfl rfl) rfl ?_
    refine l_nil (n_then (ref_seq ?_))
    refine ref_cond rfl (fun hb19 => ?_) (fun hb19 => ?_)
    · refine ref_skip (n_then (ref_seq (ref_block (ref_seq (ref_region ?_)))))
      refine mv1 rfl rfl ?_
      refine as1 rfl rfl ?_
      refine l_nil (n_then (ref_region ?_))
      refine s_rd (r_faddr (fo := 0) Tryd.underlying80 rfl rfl Tryd.sizeOf77 rfl) rfl ?_
      refine s_rd (r_cload Tryd.isAgg77 rfl (j := 2) rfl rfl) rfl ?_
      refine mv1 rfl rfl ?_
      refine pull fun t20 h_t20 => ?_
      refine s_st (s_call (ψ := fun (_ : Unit) => iv .u64 t20) (args := [.tmp 20, .tmp 21]) Tryd.call74 rfl (network_Set_With_ok h_t20) ⟨arg rfl, arg rfl, trivial⟩ (fun _ _ _ _ h => h)) rfl (fun _ => ?_)
      refine s_rd (r_faddr (fo := 0) Tryd.underlying80 rfl rfl Tryd.sizeOf77 rfl) rfl ?_
      refine s_st0 (s_cstore (out := [iv .u64 t20, pv (χ3 2).V.1, pv (χ3 5).V.1]) Tryd.sizeOf77 rfl (j := 2) rfl (part_at rfl iv_at) rfl rfl rfl) (fun _ => ?_)
      refine l_nil (n_block (n_then (ref_region ?_)))
      refine s_rd (r_add rfl rfl) rfl ?_
      refine mv1 rfl rfl ?_
      refine l_nil ?_
      exact goB () (weak [0, 1, 2, 3, 4] ⟨rfl, rfl, rfl, rfl, rfl, trivial⟩ ⟨rfl, rfl, rfl, rfl, rfl, trivial⟩)
    refine ref_exit (x_then ?_)
    exact brkB () (weak [0, 1, 2, 3, 4] ⟨rfl, rfl, rfl, trivial⟩ ⟨rfl, rfl, rfl, rfl, rfl, trivial⟩)
  refine n_then (ref_seq (ref_seq (ref_region ?_)))
  refine s_rd (r_faddr (fo := 1) Tryd.underlying27 rfl rfl Tryd.sizeOf25 rfl) rfl ?_
  refine s_rd (r_cload Tryd.isAgg25 rfl (j := 0) rfl rfl) rfl ?_
  refine s_rd (r_len Tryd.underlying25 rfl) rfl ?_
  refine mv1 rfl rfl ?_
  refine l_nil (n_then ?_)
  refine ref_loopB (f := (network_New_l2 g_0)) (Γl := (fun (s45 : Int × (List Int) × (List Int)) (x46 : Unit) => [(2, pv (ptr b2 0)), (3, pv (ptr (χ3 7).Nn 0)), (26, slv rT_api_Pair g_0.L), (27, iv .i64 (g_0.L.length : Int)), (28, iv .i64 s45.1)])) (Ωl := (fun (s45 : Int × (List Int) × (List Int)) (x46 : Unit) => [oc b2 [iv .u64 0, pv (.slice none 0 0), pv (.slice none 0 0)], oc (χ3 7).Nn [iv .u64 q21, pv (χ3 2).V.1, pv (χ3 5).V.1], oa (rI .u64) (χ3 2).V.1 (χ3 2).V.2 s45.2.1, oa (rI .u64) (χ3 5).V.1 (χ3 5).V.2 s45.2.2])) (Γb := (fun (q56 : (List Int) × (List Int)) (y57 : Unit) => [(2, pv (ptr b2 0)), (3, pv (ptr (χ3 7).Nn 0))])) (Ωb := (fun (q56 : (List Int) × (List Int)) (y57 : Unit) => [oc b2 [iv .u64 0, pv (.slice none 0 0), pv (.slice none 0 0)], oc (χ3 7).Nn [iv .u64 q21, pv (χ3 2).V.1, pv (χ3 5).V.1], oa (rI .u64) (χ3 2).V.1 (χ3 2).V.2 q56.1, oa (rI .u64) (χ3 5).V.1 (χ3 5).V.2 q56.2])) (0, t4, t6) () (weak [1, 2, 3, 4] ⟨rfl, rfl, rfl, rfl, rfl, trivial⟩ ⟨rfl, rfl, rfl, rfl, trivial⟩) (fun s45 x46 => ?_) (fun q56 y57 => ?_)
  · unfold network_New_l2
    refine ref_seq (ref_region ?_)
    refine s_rd (r_lss rfl rfl) rfl ?_
    refine l_nil (n_then (ref_seq ?_))
    refine ref_cond rfl (fun hb47 => ?_) (fun hb47 => ?_)
    · refine ref_skip (n_then (ref_seq (ref_block (ref_seq (ref_region ?_)))))
      refine pull fun t48 h_t48 => ?_
      refine s_rd (r_index h_t48 Tryd.underlying25 el_56 rfl rfl) rfl ?_
      refine s_rd (r_load el_56 rfl) rfl ?_
      refine s_st (s_alloc zt_56) rfl (fun b49 => ?_)
      refine s_st0 (s_cstore (out := [iv .i64 t48.From, iv .i64 t48.To]) Tryd.sizeOf56 rfl (j := 4) rfl (part_agO (ψs := [iv .i64 t48.From, iv .i64 t48.To]) rfl ⟨.inl iv_at, .inl iv_at, trivial⟩) rfl rfl rfl) (fun _ => ?_)
      refine l_nil (n_then (ref_seq ?_))
      refine ref_draw [0, 1, 2, 3, 4, 5, 6, 7, 8, 9, 10, 11, 13] rfl (by kernel_rfl) (fun hok => ?_)
      refine a_rd (i := 0) hok rfl (by kernel_rfl) rfl (r_faddr (fo := 1) Tryd.underlying80 rfl rfl Tryd.sizeOf78 rfl) rfl ?_
      refine a_rd (i := 1) hok rfl (by kernel_rfl) rfl (r_cload Tryd.isAgg78 rfl (j := 1) rfl rfl) rfl ?_
      refine a_rd (i := 2) hok rfl (by kernel_rfl) rfl (r_faddr (fo := 1) Tryd.underlying56 rfl rfl Tryd.sizeOf3 rfl) rfl ?_
      refine a_rd (i := 3) hok rfl (by kernel_rfl) rfl (r_cload Tryd.isAgg3 rfl (j := 4) rfl rfl) rfl ?_
      refine a_rd (i := 4) hok rfl (by kernel_rfl) rfl (r_faddr (fo := 1) Tryd.underlying80 rfl rfl Tryd.sizeOf78 rfl) rfl ?_
      refine a_rd (i := 5) hok rfl (by kernel_rfl) rfl (r_cload Tryd.isAgg78 rfl (j := 1) rfl rfl) rfl ?_
      refine a_rd (i := 6) hok rfl (by kernel_rfl) rfl (r_faddr (fo := 1) Tryd.underlying56 rfl rfl Tryd.sizeOf3 rfl) rfl ?_
      refine a_rd (i := 7) hok rfl (by kernel_rfl) rfl (r_cload Tryd.isAgg3 rfl (j := 4) rfl rfl) rfl ?_
      refine pull fun t50 h_t50 => ?_
      refine a_rd (i := 8) hok rfl (by kernel_rfl) rfl (r_oindex h_t50 Tryd.underlying78 el_77 rfl (j := 2) rfl rfl) rfl ?_
      refine a_rd (i := 9) hok rfl (by kernel_rfl) rfl (r_oload h_t50 el_77 rfl (j := 2) rfl) rfl ?_
      refine a_rd (i := 10) hok rfl (by kernel_rfl) rfl (r_faddr (fo := 0) Tryd.underlying56 rfl rfl Tryd.sizeOf3 rfl) rfl ?_
      refine a_rd (i := 11) hok rfl (by kernel_rfl) rfl (r_cload Tryd.isAgg3 rfl (j := 4) rfl rfl) rfl ?_
      refine pull fun t51 h_t51 => ?_
      refine a_next hok 12 [] (by kernel_rfl) ?_ trivial
      refine a_st (i := 12) hok rfl rfl (s_call (ψ := fun (_ : Unit) => iv .u64 t51) (args := [.tmp 41, .tmp 43]) Tryd.call74 rfl (network_Set_With_ok h_t51) ⟨arg rfl, arg rfl, trivial⟩ (fun _ _ _ _ h => h)) (by intro _ h; cases h; rfl) (fun _ => ⟨trivial, ⟨trivial, ⟨trivial, ⟨trivial, ⟨⟨⟨rfl, rfl⟩, trivial⟩, ⟨trivial, ⟨⟨⟨rfl, rfl⟩, trivial⟩, ⟨trivial, ⟨⟨⟨rfl, rfl⟩, trivial⟩, ⟨trivial, ⟨⟨⟨rfl, rfl⟩, trivial⟩, ⟨trivial, trivial⟩⟩⟩⟩⟩⟩⟩⟩⟩⟩⟩⟩) (fun _ => ?_)
      refine pull fun t52 h_t52 => ?_
      refine a_rd (i := 13) hok rfl (by kernel_rfl) rfl (r_oindex h_t52 Tryd.underlying78 el_77 rfl (j := 2) rfl rfl) rfl ?_
      refine a_next hok 14 [] (by kernel_rfl) ?_ trivial
      refine a_st (i := 14) hok rfl rfl (s_ostore (u := t51) h_t52 el_77 rfl (j := 2) rfl (part_at rfl iv_at)) (by intro _ h; cases h) (fun _ => ⟨trivial, ⟨trivial, ⟨trivial, ⟨trivial, ⟨trivial, ⟨trivial, ⟨trivial, ⟨trivial, ⟨trivial, ⟨trivial, ⟨trivial, ⟨trivial, ⟨trivial, trivial⟩⟩⟩⟩⟩⟩⟩⟩⟩⟩⟩⟩⟩) (fun _ => ?_)
      refine a_fin hok (by kernel_rfl) ?_
      refine b_of (nrm [oc b2 [iv .u64 0, pv (.slice none 0 0), pv (.slice none 0 0)], oc (χ3 7).Nn [iv .u64 q21, pv (χ3 2).V.1, pv (χ3 5).V.1], oa (rI .u64) (χ3 2).V.1 (χ3 2).V.2 (s45.2.1.set (Int.toNat t48.To) t51), oa (rI .u64) (χ3 5).V.1 (χ3 5).V.2 s45.2.2, oc b49 [iv .i64 t48.From, iv .i64 t48.To]] rfl) ?_
      refine n_then ?_
      refine ref_draw [0, 1, 2, 3, 4, 5, 6, 7, 8, 9, 10, 11, 13] rfl (by kernel_rfl) (fun hok => ?_)
      refine a_rd (i := 0) hok rfl (by kernel_rfl) rfl (r_faddr (fo := 2) Tryd.underlying80 rfl rfl Tryd.sizeOf78 rfl) rfl ?_
      refine a_rd (i := 1) hok rfl (by kernel_rfl) rfl (r_cload Tryd.isAgg78 rfl (j := 1) rfl rfl) rfl ?_
      refine a_rd (i := 2) hok rfl (by kernel_rfl) rfl (r_faddr (fo := 0) Tryd.underlying56 rfl rfl Tryd.sizeOf3 rfl) rfl ?_
      refine a_rd (i := 3) hok rfl (by kernel_rfl) rfl (r_cload Tryd.isAgg3 rfl (j := 4) rfl rfl) rfl ?_
      refine a_rd (i := 4) hok rfl (by kernel_rfl) rfl (r_faddr (fo := 2) Tryd.underlying80 rfl rfl Tryd.sizeOf78 rfl) rfl ?_
      refine a_rd (i := 5) hok rfl (by kernel_rfl) rfl (r_cload Tryd.isAgg78 rfl (j := 1) rfl rfl) rfl ?_
      refine a_rd (i := 6) hok rfl (by kernel_rfl) rfl (r_faddr (fo := 0) Tryd.underlying56 rfl rfl Tryd.sizeOf3 rfl) rfl ?_
      refine a_rd (i := 7) hok rfl (by kernel_rfl) rfl (r_cload Tryd.isAgg3 rfl (j := 4) rfl rfl) rfl ?_
      refine pull fun t53 h_t53 => ?_
      refine a_rd (i := 8) hok rfl (by kernel_rfl) rfl (r_oindex h_t53 Tryd.underlying78 el_77 rfl (j := 3) rfl rfl) rfl ?_
      refine a_rd (i := 9) hok rfl (by kernel_rfl) rfl (r_oload h_t53 el_77 rfl (j := 3) rfl) rfl ?_
      refine a_rd (i := 10) hok rfl (by kernel_rfl) rfl (r_faddr (fo := 1) Tryd.underlying56 rfl rfl Tryd.sizeOf3 rfl) rfl ?_
      refine a_rd (i := 11) hok rfl (by kernel_rfl) rfl (r_cload Tryd.isAgg3 rfl (j := 4) rfl rfl) rfl ?_
      refine pull fun t54 h_t54 => ?_
      refine a_next hok 12 [] (by kernel_rfl) ?_ trivial
      refine a_st (i := 12) hok rfl rfl (s_call (ψ := fun (_ : Unit) => iv .u64 t54) (args := [.tmp 55, .tmp 57]) Tryd.call74 rfl (network_Set_With_ok h_t54) ⟨arg rfl, arg rfl, trivial⟩ (fun _ _ _ _ h => h)) (by intro _ h; cases h; rfl) (fun _ => ⟨trivial, ⟨trivial, ⟨trivial, ⟨trivial, ⟨⟨⟨rfl, rfl⟩, trivial⟩, ⟨trivial, ⟨⟨⟨rfl, rfl⟩, trivial⟩, ⟨trivial, ⟨⟨⟨rfl, rfl⟩, trivial⟩, ⟨trivial, ⟨⟨⟨rfl, rfl⟩, trivial⟩, ⟨trivial, trivial⟩⟩⟩⟩⟩⟩⟩⟩⟩⟩⟩⟩) (fun _ => ?_)
      refine pull fun t55 h_t55 => ?_
      refine a_rd (i := 13) hok rfl (by kernel_rfl) rfl (r_oindex h_t55 Tryd.underlying78 el_77 rfl (j := 3) rfl rfl) rfl ?_
      refine a_next hok 14 [] (by kernel_rfl) ?_ trivial
      refine a_st (i := 14) hok rfl rfl (s_ostore (u := t54) h_t55 el_77 rfl (j := 3) rfl (part_at rfl iv_at)) (by intro _ h; cases h) (fun _ => ⟨trivial, ⟨trivial, ⟨trivial, ⟨trivial, ⟨trivial, ⟨trivial, ⟨trivial, ⟨trivial, ⟨trivial, ⟨trivial, ⟨trivial, ⟨trivial, ⟨trivial, trivial⟩⟩⟩⟩⟩⟩⟩⟩⟩⟩⟩⟩⟩) (fun _ => ?_)
      refine a_fin hok (by kernel_rfl) ?_
      refine n_block (n_then (ref_region ?_))
      refine s_rd (r_add rfl rfl) rfl ?_
      refine mv1 rfl rfl ?_
      refine l_nil ?_
      exact goB () (weak [0, 1, 2, 3] ⟨rfl, rfl, rfl, rfl, rfl, trivial⟩ ⟨rfl, rfl, rfl, rfl, trivial⟩)
    refine ref_exit (x_then ?_)
    exact brkB () (weak [0, 1, 2, 3] ⟨rfl, rfl, trivial⟩ ⟨rfl, rfl, rfl, rfl, trivial⟩)
  refine n_then (ref_seq (ref_region ?_))
  refine s_rd (r_cloadS Tryd.isAgg80 Tryd.sizeOf80 rfl (j := 1) rfl rfl rfl) rfl ?_
  refine s_st0 (s_cstore (out := [iv .u64 q21, pv (χ3 2).V.1, pv (χ3 5).V.1]) Tryd.sizeOf80 rfl (j := 0) rfl (part_agO (ψs := [iv .u64 q21, pv (χ3 2).V.1, pv (χ3 5).V.1]) rfl ⟨.inl iv_at, .inr ⟨_, _, _, _, _, 2, rfl, rfl⟩, .inr ⟨_, _, _, _, _, 3, rfl, rfl⟩, trivial⟩) rfl rfl rfl) (fun _ => ?_)
  refine l_nil (n_then (ref_ret ?_))
  refine b_of (frzGL [(61, ag [iv .u64 q21, slv (rI .u64) q56.1, pv (χ3 5).V.1])] [(0, b2, [iv .u64 q21, slv (rI .u64) q56.1, pv (χ3 5).V.1]), (1, (χ3 7).Nn, [iv .u64 q21, slv (rI .u64) q56.1, pv (χ3 5).V.1])] (j := 2) rfl ⟨⟨_, rfl, .inr ⟨_, _, rfl, rfl, ⟨.inl rfl, .inr ⟨rfl, rfl⟩, .inl rfl, trivial⟩⟩⟩, trivial⟩ ⟨⟨_, rfl, ⟨.inl rfl, .inr ⟨rfl, rfl⟩, .inl rfl, trivial⟩⟩, ⟨_, rfl, ⟨.inl rfl, .inr ⟨rfl, rfl⟩, .inl rfl, trivial⟩⟩, trivial⟩) ?_
  refine b_of (nrm [oc b2 [iv .u64 q21, slv (rI .u64) q56.1, pv (χ3 5).V.1], oc (χ3 7).Nn [iv .u64 q21, slv (rI .u64) q56.1, pv (χ3 5).V.1], dead, oa (rI .u64) (χ3 5).V.1 (χ3 5).V.2 q56.2] rfl) ?_
  refine b_of (frzGL [(61, ag [iv .u64 q21, slv (rI .u64) q56.1, slv (rI .u64) q56.2])] [(0, b2, [iv .u64 q21, slv (rI .u64) q56.1, slv (rI .u64) q56.2]), (1, (χ3 7).Nn, [iv .u64 q21, slv (rI .u64) q56.1, slv (rI .u64) q56.2])] (j := 3) rfl ⟨⟨_, rfl, .inr ⟨_, _, rfl, rfl, ⟨.inl rfl, .inl rfl, .inr ⟨rfl, rfl⟩, trivial⟩⟩⟩, trivial⟩ ⟨⟨_, rfl, ⟨.inl rfl, .inl rfl, .inr ⟨rfl, rfl⟩, trivial⟩⟩, ⟨_, rfl, ⟨.inl rfl, .inl rfl, .inr ⟨rfl, rfl⟩, trivial⟩⟩, trivial⟩) ?_
  refine b_of (nrm [oc b2 [iv .u64 q21, slv (rI .u64) q56.1, slv (rI .u64) q56.2], oc (χ3 7).Nn [iv .u64 q21, slv (rI .u64) q56.1, slv (rI .u64) q56.2], dead, dead] rfl) ?_
  exact fin1 (.inl rfl) () [] rfl trivial rfl (rv_cell rfl (j := 0) rfl Tryd.isAgg80 Tryd.sizeOf80 rfl rfl)

/-! math/bits.TrailingZeros64 -/
noncomputable def math_bits_TrailingZeros64_m (x_0 : Int) : Option (Int) :=
  bif x_0 == 0 then
    some 64
  else
    Option.bind (idxM tab_0 (ishr .u64 (imul .u64 (iand .u64 x_0 (ineg .u64 x_0)) 285870213051353865) 58)) fun t2 =>
    letM (IntKind.wrap .i64 t2) fun t3 =>
    some t3

theorem math_bits_TrailingZeros64_ok {x_0 : Int} {r : Int} (hm : math_bits_TrailingZeros64_m x_0 = some r) :
    FnOk prog 78 [iv .u64 x_0] [tbO (rI .u8) 0 tab_0] (fun (x : Unit) => [iv .i64 r]) (fun (x : Unit) => [tbO (rI .u8) 0 tab_0]) := by
  refine fn_ok (fn := Tryd.f78) (N := 14) (res := fun r x => [iv .i64 r]) (Ω1 := fun r x => [tbO (rI .u8) 0 tab_0]) Tryd.func78 rfl rfl hm rfl (fun E hM => ?_)
  unfold math_bits_TrailingZeros64_m
  refine ref_seq (ref_region ?_)
  refine as1 rfl rfl ?_
  refine l_nil (n_then (ref_seq (ref_seq (ref_region ?_))))
  refine mv1 rfl rfl ?_
  refine s_rd (r_eql rfl rfl) rfl ?_
  refine l_nil (n_then ?_)
  refine ref_cond rfl (fun hb1 => ?_) (fun hb1 => ?_)
  · refine ref_seq (ref_region ?_)
    refine as1 rfl rfl ?_
    refine l_nil (n_then (ref_ret (r_then ?_)))
    exact fin1 (.inl rfl) () [0] rfl ⟨rfl, trivial⟩ rfl (rv_tmp rfl)
  refine ref_skip (n_then (ref_seq (ref_region ?_)))
  refine mv1 rfl rfl ?_
  refine mv1 rfl rfl ?_
  refine s_rd (r_neg rfl) rfl ?_
  refine s_rd (r_and rfl rfl) rfl ?_
  refine s_rd (r_mul rfl rfl) rfl ?_
  refine s_rd (r_shr rfl rfl (by decide)) rfl ?_
  refine pull fun t2 h_t2 => ?_
  refine s_rd (r_gindex (ρ := (rI .u8)) (sz := 1) h_t2 rfl rfl Tryd.underlying116 Tryd.sizeOf5 (j := 0) rfl rfl) rfl ?_
  refine s_rd (r_load el_5 rfl) rfl ?_
  refine s_rd (r_conv (k' := .i64) rfl rfl rfl) rfl ?_
  refine as1 rfl rfl ?_
  refine b_let (f := iv .i64) (t := 2) rfl fun t3 => ?_
  refine l_nil (n_then (ref_ret ?_))
  exact fin1 (.inl rfl) () [0] rfl ⟨rfl, trivial⟩ rfl (rv_tmp rfl)

/-! (deliberation/network.Set).List -/
noncomputable def network_Set_List_l1  (s15 : Int × (List Int)) : Option (Sum ((List Int)) (Int × (List Int))) :=
  bif s15.1 != 0 then
    Option.bind (math_bits_TrailingZeros64_m s15.1) fun t18 =>
    Option.bind (appM 8 s15.2 [t18]) fun out19 =>
    letM (iand .u64 s15.1 (isub .u64 s15.1 1)) fun s21 =>
    some (Sum.inr (s21, out19))
  else
    some (Sum.inl s15.2)

noncomputable def network_Set_List_m (s_0 : Int) : Option (List Int) :=
  Option.bind (loopC (network_Set_List_l1) (s_0, [])) fun q22 : (List Int) =>
  some q22

theorem network_Set_List_ok {s_0 : Int} {r : List Int} (hm : network_Set_List_m s_0 = some r) :
    FnOk prog 48 [iv .u64 s_0] [tbO (rI .u8) 0 tab_0] (fun (x : (Value × List Nat)) => [pv x.1]) (fun (x : (Value × List Nat)) => [tbO (rI .u8) 0 tab_0, oa (rI .i64) x.1 x.2 r]) := by
  refine fn_ok (X := (Value × List Nat)) (fn := Tryd.f48) (N := 16) (res := fun r x => [pv x.1]) (Ω1 := fun r x => [tbO (rI .u8) 0 tab_0, oa (rI .i64) x.1 x.2 r]) Tryd.func48 rfl rfl hm rfl (fun E hM => ?_)
  unfold network_Set_List_m
  refine ref_seq (ref_region ?_)
  refine as1 rfl rfl ?_
  refine l_nil (n_then (ref_seq (ref_region ?_)))
  refine as1 rfl rfl ?_
  refine l_nil (n_then (ref_seq ?_))
  refine b_of (own_nil (rI .i64)) ?_
  refine ref_loopB (f := (network_Set_List_l1)) (Γl := (fun (s15 : Int × (List Int)) (x16 : (Value × List Nat)) => [(0, iv .u64 s15.1), (3, pv x16.1)])) (Ωl := (fun (s15 : Int × (List Int)) (x16 : (Value × List Nat)) => [tbO (rI .u8) 0 tab_0, oa (rI .i64) x16.1 x16.2 s15.2])) (Γb := (fun (q22 : (List Int)) (y23 : (Value × List Nat)) => [(3, pv y23.1)])) (Ωb := (fun (q22 : (List Int)) (y23 : (Value × List Nat)) => [oa (rI .i64) y23.1 y23.2 q22, tbO (rI .u8) 0 tab_0])) (s_0, []) ((.slice none 0 0), []) (weak [0, 1] ⟨rfl, rfl, trivial⟩ ⟨rfl, rfl, trivial⟩) (fun s15 x16 => ?_) (fun q22 y23 => ?_)
  · unfold network_Set_List_l1
    refine ref_seq (ref_seq (ref_region ?_))
    refine mv1 rfl rfl ?_
    refine s_rd (r_neq rfl rfl) rfl ?_
    refine l_nil (n_then ?_)
    refine ref_cond rfl (fun hb17 => ?_) (fun hb17 => ?_)
    · refine ref_skip (n_then (ref_seq (ref_block (ref_region ?_))))
      refine mv1 rfl rfl ?_
      refine mv1 rfl rfl ?_
      refine pull fun t18 h_t18 => ?_
      refine s_st (s_callC [0] [true] (fun (_ : Unit) => [tbO (rI .u8) 0 tab_0]) (fun (_ : Unit) => []) (fun (_ : Unit) => iv .i64 t18) (args := [.tmp 11]) (caps := []) Tryd.call78 rfl (math_bits_TrailingZeros64_ok h_t18) ⟨rfl, rfl, trivial⟩ (fun _ => rfl) (fun _ => trivial) (fun _ => rfl) ⟨arg rfl, trivial⟩ (fun _ _ _ _ h => h)) rfl (fun _ => ?_)
      refine s_st (s_bslice (xs := [.tmp 12]) (ds := [t18]) Tryd.underlying22 el_3 rfl (Nat.le_of_ble_eq_true rfl) ⟨(part_at rfl iv_at), trivial⟩) rfl (fun _ => ?_)
      refine pull fun out19 h_out19 => ?_
      refine s_st (s_append h_out19 Tryd.underlying22 el_3 rfl (j := 1) rfl rfl) rfl (fun o20 => ?_)
      refine as1 rfl rfl ?_
      refine l_nil (n_block (n_then (ref_region ?_)))
      refine mv1 rfl rfl ?_
      refine mv1 rfl rfl ?_
      refine s_rd (r_sub rfl rfl) rfl ?_
      refine s_rd (r_and rfl rfl) rfl ?_
      refine as1 rfl rfl ?_
      refine b_let (f := iv .u64) (t := 0) rfl fun s21 => ?_
      refine l_nil ?_
      exact goB o20 (weak [0, 1] ⟨rfl, rfl, trivial⟩ ⟨rfl, rfl, trivial⟩)
    refine ref_exit (x_then ?_)
    exact brkB x16 (weak [1, 0] ⟨rfl, trivial⟩ ⟨rfl, rfl, trivial⟩)
  refine n_then (ref_seq (ref_region ?_))
  refine mv1 rfl rfl ?_
  refine as1 rfl rfl ?_
  refine l_nil (n_then (ref_ret ?_))
  exact fin1 (.inl rfl) y23 [1, 0] rfl ⟨rfl, rfl, trivial⟩ rfl (rv_tmp rfl)

/-! deliberation/degree.order -/
noncomputable def degree_order_l2 (n_0 : T_network_Net) (t77 : List Int) (s97 : Int × Int × (List Int)) : Option (Sum ((List Int) × Int) (Int × Int × (List Int))) :=
  bif decide (s97.2.1 < (t77.length : Int)) then
    Option.bind (idxM t77 s97.2.1) fun i100 =>
    Option.bind (idxM n_0.By i100) fun t101 =>
    bif (iandn .u64 t101 s97.1) == 0 then
      Option.bind (appM 8 s97.2.2 [i100]) fun out103 =>
      Option.bind (network_Set_With_m s97.1 i100) fun done105 =>
      some (Sum.inr (done105, iadd .i64 s97.2.1 1, out103))
    else
      some (Sum.inr (s97.1, iadd .i64 s97.2.1 1, s97.2.2))
  else
    some (Sum.inl (s97.2.2, s97.1))

noncomputable def degree_order_l1 (n_0 : T_network_Net) (s73 : Int × (List Int)) : Option (Sum ((Sum (List Int × Bool) ((List Int)))) (Int × (List Int))) :=
  bif s73.1 != n_0.All then
    letM ((s73.2.length : Int)) fun before76 =>
    Option.bind (network_Set_List_m (iandn .u64 n_0.All s73.1)) fun t77 =>
    Option.bind (loopC (degree_order_l2 n_0 t77) (s73.1, 0, s73.2)) fun q106 : (List Int) × Int =>
    bif (q106.1.length : Int) == before76 then
      some (Sum.inl (Sum.inl ([], false)))
    else
      some (Sum.inr (q106.2, q106.1))
  else
    some (Sum.inl (Sum.inr s73.2))

noncomputable def degree_order_m (n_0 : T_network_Net) : Option (List Int × Bool) :=
  Option.bind (loopC (degree_order_l1 n_0) (0, [])) (sumK (fun a : List Int × Bool => some a) fun q109 : (List Int) =>
    some (q109, true))

theorem degree_order_ok {n_0 : T_network_Net} {r : List Int × Bool} (hm : degree_order_m n_0 = some r) :
    FnOk prog 47 [ag [iv .u64 n_0.All, slv (rI .u64) n_0.By, slv (rI .u64) n_0.Out]] [tbO (rI .u8) 0 tab_0] (fun (x : (Value × List Nat)) => [pv x.1, bv r.2]) (fun (x : (Value × List Nat)) => [tbO (rI .u8) 0 tab_0, oa (rI .i64) x.1 x.2 r.1]) := by
  refine fn_ok (X := (Value × List Nat)) (fn := Tryd.f47) (N := 46) (res := fun r x => [pv x.1, bv r.2]) (Ω1 := fun r x => [tbO (rI .u8) 0 tab_0, oa (rI .i64) x.1 x.2 r.1]) Tryd.func47 rfl rfl hm rfl (fun E hM => ?_)
  unfold degree_order_m
  refine ref_seq (ref_region ?_)
  refine s_st (s_box (part_agO (ψs := [iv .u64 n_0.All, slv (rI .u64) n_0.By, slv (rI .u64) n_0.Out]) rfl ⟨.inl iv_at, .inl slv_at, .inl slv_at, trivial⟩)) rfl (fun b1 => ?_)
  refine as1 rfl rfl ?_
  refine as1 rfl rfl ?_
  refine l_nil (n_then (ref_seq (ref_region ?_)))
  refine as1 rfl rfl ?_
  refine l_nil (n_then (ref_seq (ref_region ?_)))
  refine as1 rfl rfl ?_
  refine l_nil (n_then (ref_seq ?_))
  refine b_of (own_nil (rI .i64)) ?_
  refine ref_loopX (f := (degree_order_l1 n_0)) (Γl := (fun (s73 : Int × (List Int)) (x74 : (Value × List Nat)) => [(1, pv (ptr b1 0)), (4, pv x74.1), (5, iv .u64 s73.1)])) (Ωl := (fun (s73 : Int × (List Int)) (x74 : (Value × List Nat)) => [tbO (rI .u8) 0 tab_0, oc b1 [iv .u64 n_0.All, slv (rI .u64) n_0.By, slv (rI .u64) n_0.Out], oa (rI .i64) x74.1 x74.2 s73.2])) (Γb := (fun (q109 : (List Int)) (y110 : (Value × List Nat)) => [(4, pv y110.1)])) (Ωb := (fun (q109 : (List Int)) (y110 : (Value × List Nat)) => [oa (rI .i64) y110.1 y110.2 q109, tbO (rI .u8) 0 tab_0])) (kr := (fun a : List Int × Bool => some a)) (0, []) ((.slice none 0 0), []) (weak [0, 1, 2] ⟨rfl, rfl, rfl, trivial⟩ ⟨rfl, rfl, rfl, trivial⟩) (fun s73 x74 => ?_) (fun q109 y110 => ?_)
  · unfold degree_order_l1
    refine ref_seq (ref_seq (ref_region ?_))
    refine mv1 rfl rfl ?_
    refine s_rd (r_faddr (fo := 0) Tryd.underlying80 rfl rfl Tryd.sizeOf77 rfl) rfl ?_
    refine s_rd (r_cload Tryd.isAgg77 rfl (j := 1) rfl rfl) rfl ?_
    refine s_rd (r_neq rfl rfl) rfl ?_
    refine l_nil (n_then ?_)
    refine ref_cond rfl (fun hb75 => ?_) (fun hb75 => ?_)
    · refine ref_skip (n_then (ref_block (ref_seq (ref_region ?_))))
      refine mv1 rfl rfl ?_
      refine s_rd (r_olen Tryd.underlying22 rfl (j := 2) rfl) rfl ?_
      refine as1 rfl rfl ?_
      refine b_let (f := iv .i64) (t := 6) rfl fun before76 => ?_
      refine l_nil (n_then (ref_seq (ref_seq (ref_region ?_))))
      refine s_rd (r_faddr (fo := 0) Tryd.underlying80 rfl rfl Tryd.sizeOf77 rfl) rfl ?_
      refine s_rd (r_cload Tryd.isAgg77 rfl (j := 1) rfl rfl) rfl ?_
      refine mv1 rfl rfl ?_
      refine s_rd (r_andn rfl rfl) rfl ?_
      refine pull fun t77 h_t77 => ?_
      refine s_st (s_callC [0] [true] (fun (x78 : (Value × List Nat)) => [tbO (rI .u8) 0 tab_0]) (fun (x78 : (Value × List Nat)) => [oa (rI .i64) x78.1 x78.2 t77]) (fun (x78 : (Value × List Nat)) => pv x78.1) (args := [.tmp 18]) (caps := []) Tryd.call48 rfl (network_Set_List_ok h_t77) ⟨rfl, rfl, trivial⟩ (fun _ => rfl) (fun _ => trivial) (fun _ => rfl) ⟨arg rfl, trivial⟩ (fun _ _ _ _ h => h)) rfl (fun x78 => ?_)
      refine s_rd (r_olen Tryd.underlying22 rfl (j := 3) rfl) rfl ?_
      refine mv1 rfl rfl ?_
      refine l_nil (n_then ?_)
      refine ref_loopB (f := (degree_order_l2 n_0 t77)) (Γl := (fun (s97 : Int × Int × (List Int)) (x98 : (Value × List Nat)) => [(1, pv (ptr b1 0)), (4, pv x98.1), (5, iv .u64 s97.1), (6, iv .i64 before76), (19, pv x78.1), (20, iv .i64 (t77.length : Int)), (21, iv .i64 s97.2.1)])) (Ωl := (fun (s97 : Int × Int × (List Int)) (x98 : (Value × List Nat)) => [tbO (rI .u8) 0 tab_0, oc b1 [iv .u64 n_0.All, slv (rI .u64) n_0.By, slv (rI .u64) n_0.Out], oa (rI .i64) x98.1 x98.2 s97.2.2, oa (rI .i64) x78.1 x78.2 t77])) (Γb := (fun (q106 : (List Int) × Int) (y107 : (Value × List Nat)) => [(1, pv (ptr b1 0)), (4, pv y107.1), (5, iv .u64 q106.2), (6, iv .i64 before76)])) (Ωb := (fun (q106 : (List Int) × Int) (y107 : (Value × List Nat)) => [oc b1 [iv .u64 n_0.All, slv (rI .u64) n_0.By, slv (rI .u64) n_0.Out], oa (rI .i64) y107.1 y107.2 q106.1, tbO (rI .u8) 0 tab_0])) (s73.1, 0, s73.2) x74 (weak [0, 1, 2, 3] ⟨rfl, rfl, rfl, rfl, rfl, rfl, rfl, trivial⟩ ⟨rfl, rfl, rfl, rfl, trivial⟩) (fun s97 x98 => ?_) (fun q106 y107 => ?_)
      · unfold degree_order_l2
        refine ref_seq (ref_region ?_)
        refine s_rd (r_lss rfl rfl) rfl ?_
        refine l_nil (n_then (ref_seq ?_))
        refine ref_cond rfl (fun hb99 => ?_) (fun hb99 => ?_)
        · refine ref_skip (n_then (ref_seq (ref_block (ref_seq (ref_region ?_)))))
          refine pull fun i100 h_i100 => ?_
          refine s_rd (r_oindex h_i100 Tryd.underlying22 el_3 rfl (j := 3) rfl rfl) rfl ?_
          refine s_rd (r_oload h_i100 el_3 rfl (j := 3) rfl) rfl ?_
          refine as1 rfl rfl ?_
          refine l_nil (n_then (ref_seq (ref_region ?_)))
          refine s_rd (r_faddr (fo := 1) Tryd.underlying80 rfl rfl Tryd.sizeOf78 rfl) rfl ?_
          refine s_rd (r_cload Tryd.isAgg78 rfl (j := 1) rfl rfl) rfl ?_
          refine mv1 rfl rfl ?_
          refine pull fun t101 h_t101 => ?_
          refine s_rd (r_index h_t101 Tryd.underlying78 el_77 rfl rfl) rfl ?_
          refine s_rd (r_load el_77 rfl) rfl ?_
          refine mv1 rfl rfl ?_
          refine s_rd (r_andn rfl rfl) rfl ?_
          refine s_rd (r_eql rfl rfl) rfl ?_
          refine l_nil (n_then ?_)
          refine ref_cond rfl (fun hb102 => ?_) (fun hb102 => ?_)
          · refine ref_region ?_
            refine mv1 rfl rfl ?_
            refine mv1 rfl rfl ?_
            refine s_st (s_bslice (xs := [.tmp 34]) (ds := [i100]) Tryd.underlying22 el_3 rfl (Nat.le_of_ble_eq_true rfl) ⟨(part_at rfl iv_at), trivial⟩) rfl (fun _ => ?_)
            refine pull fun out103 h_out103 => ?_
            refine s_st (s_append h_out103 Tryd.underlying22 el_3 rfl (j := 2) rfl rfl) rfl (fun o104 => ?_)
            refine mv1 rfl rfl ?_
            refine mv1 rfl rfl ?_
            refine pull fun done105 h_done105 => ?_
            refine s_st (s_call (ψ := fun (_ : Unit) => iv .u64 done105) (args := [.tmp 37, .tmp 38]) Tryd.call74 rfl (network_Set_With_ok h_done105) ⟨arg rfl, arg rfl, trivial⟩ (fun _ _ _ _ h => h)) rfl (fun _ => ?_)
            refine as1 rfl rfl ?_
            refine as1 rfl rfl ?_
            refine l_nil ?_
            refine b_of (nrm [tbO (rI .u8) 0 tab_0, oc b1 [iv .u64 n_0.All, slv (rI .u64) n_0.By, slv (rI .u64) n_0.Out], oa (rI .i64) o104.1 o104.2 out103, oa (rI .i64) x78.1 x78.2 t77] rfl) ?_
            refine n_block (n_then (ref_region ?_))
            refine s_rd (r_add rfl rfl) rfl ?_
            refine mv1 rfl rfl ?_
            refine l_nil ?_
            exact goB o104 (weak [0, 1, 2, 3] ⟨rfl, rfl, rfl, rfl, rfl, rfl, rfl, trivial⟩ ⟨rfl, rfl, rfl, rfl, trivial⟩)
          refine ref_skip (n_block (n_then (ref_region ?_)))
          refine s_rd (r_add rfl rfl) rfl ?_
          refine mv1 rfl rfl ?_
          refine l_nil ?_
          exact goB x98 (weak [0, 1, 2, 3] ⟨rfl, rfl, rfl, rfl, rfl, rfl, rfl, trivial⟩ ⟨rfl, rfl, rfl, rfl, trivial⟩)
        refine ref_exit (x_then ?_)
        exact brkB x98 (weak [1, 2, 0] ⟨rfl, rfl, rfl, rfl, trivial⟩ ⟨rfl, rfl, rfl, trivial⟩)
      refine n_then (ref_seq (ref_region ?_))
      refine mv1 rfl rfl ?_
      refine s_rd (r_olen Tryd.underlying22 rfl (j := 1) rfl) rfl ?_
      refine mv1 rfl rfl ?_
      refine s_rd (r_eql rfl rfl) rfl ?_
      refine l_nil (n_then ?_)
      refine ref_cond rfl (fun hb108 => ?_) (fun hb108 => ?_)
      · refine ref_seq (ref_region ?_)
        refine as1 rfl rfl ?_
        refine as1 rfl rfl ?_
        refine l_nil (n_then (ref_ret (r_block ?_)))
        refine retX ?_
        refine r_block (r_then ?_)
        refine b_of (own_nil (rI .i64)) ?_
        exact fin2 (.inl rfl) ((.slice none 0 0), []) [2, 3] rfl ⟨rfl, rfl, trivial⟩ rfl (rv_tmp rfl) (rv_tmp rfl)
      refine ref_skip (n_block ?_)
      exact goX y107 (weak [2, 0, 1] ⟨rfl, rfl, rfl, trivial⟩ ⟨rfl, rfl, rfl, trivial⟩)
    refine ref_exit (x_then ?_)
    exact brkX x74 (weak [2, 0] ⟨rfl, trivial⟩ ⟨rfl, rfl, trivial⟩)
  refine n_then (ref_seq (ref_region ?_))
  refine mv1 rfl rfl ?_
  refine as1 rfl rfl ?_
  refine as1 rfl rfl ?_
  refine l_nil (n_then (ref_ret ?_))
  exact fin2 (.inl rfl) y110 [1, 0] rfl ⟨rfl, rfl, trivial⟩ rfl (rv_tmp rfl) (rv_tmp rfl)

/-! math/bits.Mul64 -/
noncomputable def math_bits_Mul64_m (x_0 : Int) (y_1 : Int) : Option (Int × Int) :=
  letM (iand .u64 x_0 4294967295) fun x01 =>
  letM (ishr .u64 x_0 32) fun x12 =>
  letM (iand .u64 y_1 4294967295) fun y03 =>
  letM (ishr .u64 y_1 32) fun y14 =>
  letM (imul .u64 x01 y03) fun w05 =>
  letM (iadd .u64 (imul .u64 x12 y03) (ishr .u64 w05 32)) fun t6 =>
  letM (iand .u64 t6 4294967295) fun w17 =>
  letM (ishr .u64 t6 32) fun w28 =>
  letM (iadd .u64 w17 (imul .u64 x01 y14)) fun w19 =>
  letM (iadd .u64 (iadd .u64 (imul .u64 x12 y14) w28) (ishr .u64 w19 32)) fun hi10 =>
  letM (imul .u64 x_0 y_1) fun lo11 =>
  some (hi10, lo11)

theorem math_bits_Mul64_ok {x_0 : Int} {y_1 : Int} {r : Int × Int} (hm : math_bits_Mul64_m x_0 y_1 = some r) :
    FnOk prog 88 [iv .u64 x_0, iv .u64 y_1] [] (fun (x : Unit) => [iv .u64 r.1, iv .u64 r.2]) (fun (x : Unit) => []) := by
  refine fn_ok (fn := Tryd.f88) (N := 51) (res := fun r x => [iv .u64 r.1, iv .u64 r.2]) (Ω1 := fun r x => []) Tryd.func88 rfl rfl hm rfl (fun E hM => ?_)
  unfold math_bits_Mul64_m
  refine ref_seq (ref_region ?_)
  refine as1 rfl rfl ?_
  refine as1 rfl rfl ?_
  refine l_nil (n_then (ref_seq (ref_region ?_)))
  refine mv1 rfl rfl ?_
  refine s_rd (r_and rfl rfl) rfl ?_
  refine as1 rfl rfl ?_
  refine b_let (f := iv .u64) (t := 6) rfl fun x01 => ?_
  refine l_nil (n_then (ref_seq (ref_region ?_)))
  refine mv1 rfl rfl ?_
  refine s_rd (r_shr rfl rfl (by decide)) rfl ?_
  refine as1 rfl rfl ?_
  refine b_let (f := iv .u64) (t := 7) rfl fun x12 => ?_
  refine l_nil (n_then (ref_seq (ref_region ?_)))
  refine mv1 rfl rfl ?_
  refine s_rd (r_and rfl rfl) rfl ?_
  refine as1 rfl rfl ?_
  refine b_let (f := iv .u64) (t := 8) rfl fun y03 => ?_
  refine l_nil (n_then (ref_seq (ref_region ?_)))
  refine mv1 rfl rfl ?_
  refine s_rd (r_shr rfl rfl (by decide)) rfl ?_
  refine as1 rfl rfl ?_
  refine b_let (f := iv .u64) (t := 9) rfl fun y14 => ?_
  refine l_nil (n_then (ref_seq (ref_region ?_)))
  refine mv1 rfl rfl ?_
  refine mv1 rfl rfl ?_
  refine s_rd (r_mul rfl rfl) rfl ?_
  refine as1 rfl rfl ?_
  refine b_let (f := iv .u64) (t := 10) rfl fun w05 => ?_
  refine l_nil (n_then (ref_seq (ref_region ?_)))
  refine mv1 rfl rfl ?_
  refine mv1 rfl rfl ?_
  refine s_rd (r_mul rfl rfl) rfl ?_
  refine mv1 rfl rfl ?_
  refine s_rd (r_shr rfl rfl (by decide)) rfl ?_
  refine s_rd (r_add rfl rfl) rfl ?_
  refine as1 rfl rfl ?_
  refine b_let (f := iv .u64) (t := 11) rfl fun t6 => ?_
  refine l_nil (n_then (ref_seq (ref_region ?_)))
  refine mv1 rfl rfl ?_
  refine s_rd (r_and rfl rfl) rfl ?_
  refine as1 rfl rfl ?_
  refine b_let (f := iv .u64) (t := 12) rfl fun w17 => ?_
  refine l_nil (n_then (ref_seq (ref_region ?_)))
  refine mv1 rfl rfl ?_
  refine s_rd (r_shr rfl rfl (by decide)) rfl ?_
  refine as1 rfl rfl ?_
  refine b_let (f := iv .u64) (t := 13) rfl fun w28 => ?_
  refine l_nil (n_then (ref_seq (ref_region ?_)))
  refine mv1 rfl rfl ?_
  refine mv1 rfl rfl ?_
  refine mv1 rfl rfl ?_
  refine s_rd (r_mul rfl rfl) rfl ?_
  refine s_rd (r_add rfl rfl) rfl ?_
  refine as1 rfl rfl ?_
  refine b_let (f := iv .u64) (t := 12) rfl fun w19 => ?_
  refine l_nil (n_then (ref_seq (ref_region ?_)))
  refine mv1 rfl rfl ?_
  refine mv1 rfl rfl ?_
  refine s_rd (r_mul rfl rfl) rfl ?_
  refine mv1 rfl rfl ?_
  refine s_rd (r_add rfl rfl) rfl ?_
  refine mv1 rfl rfl ?_
  refine s_rd (r_shr rfl rfl (by decide)) rfl ?_
  refine s_rd (r_add rfl rfl) rfl ?_
  refine as1 rfl rfl ?_
  refine b_let (f := iv .u64) (t := 4) rfl fun hi10 => ?_
  refine l_nil (n_then (ref_seq (ref_region ?_)))
  refine mv1 rfl rfl ?_
  refine mv1 rfl rfl ?_
  refine s_rd (r_mul rfl rfl) rfl ?_
  refine as1 rfl rfl ?_
  refine b_let (f := iv .u64) (t := 5) rfl fun lo11 => ?_
  refine l_nil (n_then (ref_ret ?_))
  exact fin2 (.inl rfl) () [] rfl trivial rfl (rv_tmp rfl) (rv_tmp rfl)

/-! deliberation/degree.product -/
noncomputable def degree_product_m (a__0 : Int) (b_1 : Int) : Option (Int × Bool) :=
  Option.bind (math_bits_Mul64_m (IntKind.wrap .u64 a__0) (IntKind.wrap .u64 b_1)) fun t1 =>
  bif t1.1 != 0 then
    some (0, false)
  else
    bif decide (t1.2 > 4611686018427387904) then
      some (0, false)
    else
      letM (IntKind.wrap .i64 t1.2) fun t3 =>
      some (t3, true)

theorem degree_product_ok {a__0 : Int} {b_1 : Int} {r : Int × Bool} (hm : degree_product_m a__0 b_1 = some r) :
    FnOk prog 79 [iv .i64 a__0, iv .i64 b_1] [] (fun (x : Unit) => [iv .i64 r.1, bv r.2]) (fun (x : Unit) => []) := by
  refine fn_ok (fn := Tryd.f79) (N := 24) (res := fun r x => [iv .i64 r.1, bv r.2]) (Ω1 := fun r x => []) Tryd.func79 rfl rfl hm rfl (fun E hM => ?_)
  unfold degree_product_m
  refine ref_seq (ref_region ?_)
  refine as1 rfl rfl ?_
  refine as1 rfl rfl ?_
  refine l_nil (n_then (ref_seq (ref_region ?_)))
  refine mv1 rfl rfl ?_
  refine s_rd (r_conv (k' := .u64) rfl rfl rfl) rfl ?_
  refine mv1 rfl rfl ?_
  refine s_rd (r_conv (k' := .u64) rfl rfl rfl) rfl ?_
  refine pull fun t1 h_t1 => ?_
  refine s_st (s_call (ψ := fun (_ : Unit) => tup [iv .u64 t1.1, iv .u64 t1.2]) (args := [.tmp 10, .tmp 12]) Tryd.call88 rfl (math_bits_Mul64_ok h_t1) ⟨arg rfl, arg rfl, trivial⟩ (fun _ _ _ _ h => h)) rfl (fun _ => ?_)
  refine mv1 rfl rfl ?_
  refine s_rd (r_extract rfl rfl) rfl ?_
  refine s_rd (r_extract rfl rfl) rfl ?_
  refine as1 rfl rfl ?_
  refine as1 rfl rfl ?_
  refine l_nil (n_then (ref_seq (ref_seq (ref_region ?_))))
  refine mv1 rfl rfl ?_
  refine s_rd (r_neq rfl rfl) rfl ?_
  refine mv1 rfl rfl ?_
  refine b_split (t := 18) rfl (fun _ => ?_) (fun _ => ?_)
  · refine s_off rfl rfl rfl rfl rfl ?_
    refine s_off rfl rfl rfl rfl rfl ?_
    refine s_rd (r_pickT rfl rfl) rfl ?_
    refine l_nil (n_then ?_)
    refine ref_condT rfl rfl ?_
    refine ref_seq (ref_region ?_)
    refine as1 rfl rfl ?_
    refine as1 rfl rfl ?_
    refine l_nil (n_then (ref_ret (r_then ?_)))
    exact fin2 (.inl rfl) () [] rfl trivial rfl (rv_tmp rfl) (rv_tmp rfl)
  refine s_on rfl rfl rfl ?_
  refine mv1 rfl rfl ?_
  refine s_on rfl rfl rfl ?_
  refine s_rd (r_gtr rfl rfl) rfl ?_
  refine s_rd (r_pickF rfl rfl) rfl ?_
  refine l_nil (n_then ?_)
  refine ref_cond rfl (fun hb2 => ?_) (fun hb2 => ?_)
  · refine ref_seq (ref_region ?_)
    refine as1 rfl rfl ?_
    refine as1 rfl rfl ?_
    refine l_nil (n_then (ref_ret (r_then ?_)))
    exact fin2 (.inl rfl) () [] rfl trivial rfl (rv_tmp rfl) (rv_tmp rfl)
  refine ref_skip (n_then (ref_seq (ref_region ?_)))
  refine mv1 rfl rfl ?_
  refine s_rd (r_conv (k' := .i64) rfl rfl rfl) rfl ?_
  refine as1 rfl rfl ?_
  refine b_let (f := iv .i64) (t := 4) rfl fun t3 => ?_
  refine as1 rfl rfl ?_
  refine l_nil (n_then (ref_ret ?_))
  exact fin2 (.inl rfl) () [] rfl trivial rfl (rv_tmp rfl) (rv_tmp rfl)

/-! deliberation/degree.reduce -/
noncomputable def degree_reduce_l1  (s7 : Int × Int) : Option (Sum (Int) (Int × Int)) :=
  bif s7.2 != 0 then
    Option.bind (iremM .i64 s7.1 s7.2) fun b10 =>
    some (Sum.inr (s7.2, b10))
  else
    some (Sum.inl s7.1)

noncomputable def degree_reduce_m (f_0 : T_api_Fraction) : Option (T_api_Fraction) :=
  Option.bind (loopC (degree_reduce_l1) (f_0.Num, f_0.Den)) fun q11 : Int =>
  Option.bind (iquoM .i64 f_0.Num q11) fun t13 =>
  Option.bind (iquoM .i64 f_0.Den q11) fun t14 =>
  some (T_api_Fraction.mk t13 t14)

theorem degree_reduce_ok {f_0 : T_api_Fraction} {r : T_api_Fraction} (hm : degree_reduce_m f_0 = some r) :
    FnOk prog 51 [ag [iv .i64 f_0.Num, iv .i64 f_0.Den]] [] (fun (x : Unit) => [ag [iv .i64 r.Num, iv .i64 r.Den]]) (fun (x : Unit) => []) := by
  refine fn_ok (fn := Tryd.f51) (N := 24) (res := fun r x => [ag [iv .i64 r.Num, iv .i64 r.Den]]) (Ω1 := fun r x => []) Tryd.func51 rfl rfl hm rfl (fun E hM => ?_)
  unfold degree_reduce_m
  refine ref_seq (ref_region ?_)
  refine s_st (s_box (part_agO (ψs := [iv .i64 f_0.Num, iv .i64 f_0.Den]) rfl ⟨.inl iv_at, .inl iv_at, trivial⟩)) rfl (fun b1 => ?_)
  refine s_st (s_alloc zt_53) rfl (fun b2 => ?_)
  refine l_nil (n_then (ref_seq ?_))
  refine ref_draw [0, 1, 2, 3] rfl (by kernel_rfl) (fun hok => ?_)
  refine a_rd (i := 0) hok rfl (by kernel_rfl) rfl (r_faddr (fo := 0) Tryd.underlying53 rfl rfl Tryd.sizeOf3 rfl) rfl ?_
  refine a_rd (i := 1) hok rfl (by kernel_rfl) rfl (r_cload Tryd.isAgg3 rfl (j := 0) rfl rfl) rfl ?_
  refine a_rd (i := 2) hok rfl (by kernel_rfl) rfl (r_faddr (fo := 1) Tryd.underlying53 rfl rfl Tryd.sizeOf3 rfl) rfl ?_
  refine a_rd (i := 3) hok rfl (by kernel_rfl) rfl (r_cload Tryd.isAgg3 rfl (j := 0) rfl rfl) rfl ?_
  refine a_next hok 4 [] (by kernel_rfl) ?_ trivial
  refine a_st (i := 4) hok rfl rfl (St.ofRd (r_assign rfl)) (by intro _ h; cases h; rfl) (fun _ => ⟨⟨⟨rfl, rfl⟩, trivial⟩, ⟨trivial, ⟨trivial, ⟨trivial, trivial⟩⟩⟩⟩) (fun _ => ?_)
  refine a_next hok 5 [] (by kernel_rfl) ?_ trivial
  refine a_st (i := 5) hok rfl rfl (St.ofRd (r_assign rfl)) (by intro _ h; cases h; rfl) (fun _ => ⟨trivial, ⟨trivial, ⟨trivial, ⟨trivial, trivial⟩⟩⟩⟩) (fun _ => ?_)
  refine a_fin hok (by kernel_rfl) ?_
  refine b_of (nrm [oc b1 [iv .i64 f_0.Num, iv .i64 f_0.Den], oc b2 [iv .i64 0, iv .i64 0]] rfl) ?_
  refine n_then (ref_seq ?_)
  refine ref_loopB (f := (degree_reduce_l1)) (Γl := (fun (s7 : Int × Int) (x8 : Unit) => [(1, pv (ptr b1 0)), (2, pv (ptr b2 0)), (3, iv .i64 s7.1), (4, iv .i64 s7.2)])) (Ωl := (fun (s7 : Int × Int) (x8 : Unit) => [oc b1 [iv .i64 f_0.Num, iv .i64 f_0.Den], oc b2 [iv .i64 0, iv .i64 0]])) (Γb := (fun (q11 : Int) (y12 : Unit) => [(1, pv (ptr b1 0)), (2, pv (ptr b2 0)), (3, iv .i64 q11)])) (Ωb := (fun (q11 : Int) (y12 : Unit) => [oc b1 [iv .i64 f_0.Num, iv .i64 f_0.Den], oc b2 [iv .i64 0, iv .i64 0]])) (f_0.Num, f_0.Den) () (weak [0, 1] ⟨rfl, rfl, rfl, rfl, trivial⟩ ⟨rfl, rfl, trivial⟩) (fun s7 x8 => ?_) (fun q11 y12 => ?_)
  · unfold degree_reduce_l1
    refine ref_seq (ref_seq (ref_region ?_))
    refine mv1 rfl rfl ?_
    refine s_rd (r_neq rfl rfl) rfl ?_
    refine l_nil (n_then ?_)
    refine ref_cond rfl (fun hb9 => ?_) (fun hb9 => ?_)
    · refine ref_skip (n_then (ref_block ?_))
      refine ref_draw [0, 1, 2, 3] rfl (by kernel_rfl) (fun hok => ?_)
      refine a_rd (i := 0) hok rfl (by kernel_rfl) rfl (r_move rfl) rfl ?_
      refine a_rd (i := 1) hok rfl (by kernel_rfl) rfl (r_move rfl) rfl ?_
      refine a_rd (i := 2) hok rfl (by kernel_rfl) rfl (r_move rfl) rfl ?_
      refine pull fun b10 h_b10 => ?_
      refine a_rd (i := 3) hok rfl (by kernel_rfl) rfl (r_remM h_b10 rfl rfl) rfl ?_
      refine a_next hok 4 [] (by kernel_rfl) ?_ trivial
      refine a_st (i := 4) hok rfl rfl (St.ofRd (r_assign rfl)) (by intro _ h; cases h; rfl) (fun _ => ⟨trivial, ⟨trivial, ⟨trivial, ⟨trivial, trivial⟩⟩⟩⟩) (fun _ => ?_)
      refine a_next hok 5 [] (by kernel_rfl) ?_ trivial
      refine a_st (i := 5) hok rfl rfl (St.ofRd (r_assign rfl)) (by intro _ h; cases h; rfl) (fun _ => ⟨trivial, ⟨trivial, ⟨trivial, ⟨trivial, trivial⟩⟩⟩⟩) (fun _ => ?_)
      refine a_fin hok (by kernel_rfl) ?_
      refine n_block ?_
      exact goB () (weak [0, 1] ⟨rfl, rfl, rfl, rfl, trivial⟩ ⟨rfl, rfl, trivial⟩)
    refine ref_exit (x_then ?_)
    exact brkB () (weak [0, 1] ⟨rfl, rfl, rfl, trivial⟩ ⟨rfl, rfl, trivial⟩)
  refine n_then (ref_seq ?_)
  refine ref_draw [0, 1, 2, 3, 4, 5, 6, 7, 8] rfl (by kernel_rfl) (fun hok => ?_)
  refine a_rd (i := 0) hok rfl (by kernel_rfl) rfl (r_faddr (fo := 0) Tryd.underlying53 rfl rfl Tryd.sizeOf3 rfl) rfl ?_
  refine a_rd (i := 1) hok rfl (by kernel_rfl) rfl (r_cload Tryd.isAgg3 rfl (j := 0) rfl rfl) rfl ?_
  refine a_rd (i := 2) hok rfl (by kernel_rfl) rfl (r_move rfl) rfl ?_
  refine pull fun t13 h_t13 => ?_
  refine a_rd (i := 3) hok rfl (by kernel_rfl) rfl (r_quoM h_t13 rfl rfl) rfl ?_
  refine a_rd (i := 4) hok rfl (by kernel_rfl) rfl (r_faddr (fo := 1) Tryd.underlying53 rfl rfl Tryd.sizeOf3 rfl) rfl ?_
  refine a_rd (i := 5) hok rfl (by kernel_rfl) rfl (r_cload Tryd.isAgg3 rfl (j := 0) rfl rfl) rfl ?_
  refine a_rd (i := 6) hok rfl (by kernel_rfl) rfl (r_move rfl) rfl ?_
  refine pull fun t14 h_t14 => ?_
  refine a_rd (i := 7) hok rfl (by kernel_rfl) rfl (r_quoM h_t14 rfl rfl) rfl ?_
  refine a_rd (i := 8) hok rfl (by kernel_rfl) rfl (r_build (ps := [(0, .tmp 18), (1, .tmp 22)]) (rs := [(0, [iv .i64 t13]), (1, [iv .i64 t14])]) st_53 zs_53 ⟨rfl, (part_at rfl iv_at), ⟨rfl, (part_at rfl iv_at), trivial⟩⟩ rfl rfl) rfl ?_
  refine a_next hok 9 [] (by kernel_rfl) ?_ trivial
  refine a_st (i := 9) hok rfl rfl (s_cstore (out := [iv .i64 t13, iv .i64 t14]) Tryd.sizeOf53 rfl (j := 1) rfl (part_agO (ψs := [iv .i64 t13, iv .i64 t14]) rfl ⟨.inl iv_at, .inl iv_at, trivial⟩) rfl rfl rfl) (by intro _ h; cases h) (fun _ => ⟨trivial, ⟨trivial, ⟨trivial, ⟨trivial, ⟨trivial, ⟨trivial, ⟨trivial, ⟨trivial, ⟨trivial, trivial⟩⟩⟩⟩⟩⟩⟩⟩⟩) (fun _ => ?_)
  refine a_fin hok (by kernel_rfl) ?_
  refine n_then (ref_ret ?_)
  exact fin1 (.inl rfl) () [] rfl trivial rfl (rv_cell rfl (j := 1) rfl Tryd.isAgg53 Tryd.sizeOf53 rfl rfl)

/-! deliberation/degree.small -/
noncomputable def degree_small_m (num_0 : Int) (den_1 : Int) : Option (T_api_Fraction × Bool) :=
  Option.bind (degree_reduce_m (T_api_Fraction.mk num_0 den_1)) fun t2 =>
  bif decide (t2.Num ≤ 1099511627776) then
    some (t2, decide (t2.Den ≤ 1099511627776))
  else
    some (t2, false)

theorem degree_small_ok {num_0 : Int} {den_1 : Int} {r : T_api_Fraction × Bool} (hm : degree_small_m num_0 den_1 = some r) :
    FnOk prog 80 [iv .i64 num_0, iv .i64 den_1] [] (fun (x : Unit) => [ag [iv .i64 r.1.Num, iv .i64 r.1.Den], bv r.2]) (fun (x : Unit) => []) := by
  refine fn_ok (fn := Tryd.f80) (N := 20) (res := fun r x => [ag [iv .i64 r.1.Num, iv .i64 r.1.Den], bv r.2]) (Ω1 := fun r x => []) Tryd.func80 rfl rfl hm rfl (fun E hM => ?_)
  unfold degree_small_m
  refine ref_seq (ref_region ?_)
  refine s_st (s_alloc zt_53) rfl (fun b1 => ?_)
  refine as1 rfl rfl ?_
  refine l_nil (n_then (ref_seq (ref_region ?_)))
  refine mv1 rfl rfl ?_
  refine mv1 rfl rfl ?_
  refine s_rd (r_build (ps := [(0, .tmp 7), (1, .tmp 8)]) (rs := [(0, [iv .i64 num_0]), (1, [iv .i64 den_1])]) st_53 zs_53 ⟨rfl, (part_at rfl iv_at), ⟨rfl, (part_at rfl iv_at), trivial⟩⟩ rfl rfl) rfl ?_
  refine pull fun t2 h_t2 => ?_
  refine s_st (s_call (ψ := fun (_ : Unit) => ag [iv .i64 t2.Num, iv .i64 t2.Den]) (args := [.tmp 9]) Tryd.call51 rfl (degree_reduce_ok h_t2) ⟨arg rfl, trivial⟩ (fun _ _ _ _ h => h)) rfl (fun _ => ?_)
  refine s_st (s_alloc zt_53) rfl (fun b3 => ?_)
  refine s_st0 (s_cstore (out := [iv .i64 t2.Num, iv .i64 t2.Den]) Tryd.sizeOf53 rfl (j := 1) rfl (part_agO (ψs := [iv .i64 t2.Num, iv .i64 t2.Den]) rfl ⟨.inl iv_at, .inl iv_at, trivial⟩) rfl rfl rfl) (fun _ => ?_)
  refine l_nil ?_
  refine b_of (nrm [oc b1 [iv .i64 0, iv .i64 0], oc b3 [iv .i64 t2.Num, iv .i64 t2.Den]] rfl) ?_
  refine n_then (ref_seq ?_)
  refine ref_draw [0, 1, 2, 3, 4, 5, 6, 7, 8] rfl (by kernel_rfl) (fun hok => ?_)
  refine a_rd (i := 0) hok rfl (by kernel_rfl) rfl (r_cloadS Tryd.isAgg53 Tryd.sizeOf53 rfl (j := 1) rfl rfl rfl) rfl ?_
  refine a_rd (i := 1) hok rfl (by kernel_rfl) rfl (r_faddr (fo := 0) Tryd.underlying53 rfl rfl Tryd.sizeOf3 rfl) rfl ?_
  refine a_rd (i := 2) hok rfl (by kernel_rfl) rfl (r_cload Tryd.isAgg3 rfl (j := 1) rfl rfl) rfl ?_
  refine a_rd (i := 3) hok rfl (by kernel_rfl) rfl (r_leq rfl rfl) rfl ?_
  refine a_rd (i := 4) hok rfl (by kernel_rfl) rfl (r_move rfl) rfl ?_
  refine b_split (t := 15) rfl (fun _ => ?_) (fun _ => ?_)
  · refine a_rdOn (i := 5) hok rfl rfl rfl rfl (by kernel_rfl) rfl (r_faddr (fo := 1) Tryd.underlying53 rfl rfl Tryd.sizeOf3 rfl) rfl ?_
    refine a_rdOn (i := 6) hok rfl rfl rfl rfl (by kernel_rfl) rfl (r_cload Tryd.isAgg3 rfl (j := 1) rfl rfl) rfl ?_
    refine a_rdOn (i := 7) hok rfl rfl rfl rfl (by kernel_rfl) rfl (r_leq rfl rfl) rfl ?_
    refine a_rd (i := 8) hok rfl (by kernel_rfl) rfl (r_pickT rfl rfl) rfl ?_
    refine a_next hok 9 [] (by kernel_rfl) ?_ trivial
    refine a_st (i := 9) hok rfl rfl (s_cstore (out := [iv .i64 t2.Num, iv .i64 t2.Den]) Tryd.sizeOf53 rfl (j := 0) rfl (part_agO (ψs := [iv .i64 t2.Num, iv .i64 t2.Den]) rfl ⟨.inl iv_at, .inl iv_at, trivial⟩) rfl rfl rfl) (by intro _ h; cases h) (fun _ => ⟨trivial, ⟨trivial, ⟨⟨⟨rfl, rfl⟩, trivial⟩, ⟨trivial, ⟨trivial, ⟨trivial, ⟨⟨⟨rfl, rfl⟩, trivial⟩, ⟨trivial, ⟨trivial, trivial⟩⟩⟩⟩⟩⟩⟩⟩⟩) (fun _ => ?_)
    refine a_next hok 10 [] (by kernel_rfl) ?_ trivial
    refine a_st (i := 10) hok rfl rfl (St.ofRd (r_assign rfl)) (by intro _ h; cases h; rfl) (fun _ => ⟨trivial, ⟨trivial, ⟨trivial, ⟨trivial, ⟨trivial, ⟨trivial, ⟨trivial, ⟨trivial, ⟨trivial, trivial⟩⟩⟩⟩⟩⟩⟩⟩⟩) (fun _ => ?_)
    refine a_fin hok (by kernel_rfl) ?_
    refine n_then (ref_ret ?_)
    exact fin2 (.inl rfl) () [] rfl trivial rfl (rv_cell rfl (j := 0) rfl Tryd.isAgg53 Tryd.sizeOf53 rfl rfl) (rv_tmp rfl)
  refine a_off (i := 5) hok rfl rfl rfl rfl rfl (by kernel_rfl) rfl rfl ?_
  refine a_off (i := 6) hok rfl rfl rfl rfl rfl (by kernel_rfl) rfl rfl ?_
  refine a_off (i := 7) hok rfl rfl rfl rfl rfl (by kernel_rfl) rfl rfl ?_
  refine a_rd (i := 8) hok rfl (by kernel_rfl) rfl (r_pickF rfl rfl) rfl ?_
  refine a_next hok 9 [] (by kernel_rfl) ?_ trivial
  refine a_st (i := 9) hok rfl rfl (s_cstore (out := [iv .i64 t2.Num, iv .i64 t2.Den]) Tryd.sizeOf53 rfl (j := 0) rfl (part_agO (ψs := [iv .i64 t2.Num, iv .i64 t2.Den]) rfl ⟨.inl iv_at, .inl iv_at, trivial⟩) rfl rfl rfl) (by intro _ h; cases h) (fun _ => ⟨trivial, ⟨trivial, ⟨trivial, ⟨trivial, ⟨trivial, ⟨trivial, ⟨⟨⟨rfl, rfl⟩, trivial⟩, ⟨trivial, ⟨trivial, trivial⟩⟩⟩⟩⟩⟩⟩⟩⟩) (fun _ => ?_)
  refine a_next hok 10 [] (by kernel_rfl) ?_ trivial
  refine a_st (i := 10) hok rfl rfl (St.ofRd (r_assign rfl)) (by intro _ h; cases h; rfl) (fun _ => ⟨trivial, ⟨trivial, ⟨trivial, ⟨trivial, ⟨trivial, ⟨trivial, ⟨trivial, ⟨trivial, ⟨trivial, trivial⟩⟩⟩⟩⟩⟩⟩⟩⟩) (fun _ => ?_)
  refine a_fin hok (by kernel_rfl) ?_
  refine n_then (ref_ret ?_)
  exact fin2 (.inl rfl) () [] rfl trivial rfl (rv_cell rfl (j := 0) rfl Tryd.isAgg53 Tryd.sizeOf53 rfl rfl) (rv_tmp rfl)

/-! deliberation/degree.add -/
noncomputable def degree_add_m (x_0 : T_api_Fraction) (y_1 : T_api_Fraction) : Option (T_api_Fraction × Bool) :=
  Option.bind (degree_product_m x_0.Num y_1.Den) fun t4 =>
  Option.bind (degree_product_m y_1.Num x_0.Den) fun t5 =>
  Option.bind (degree_product_m x_0.Den y_1.Den) fun t6 =>
  bif !t4.2 then
    some ((T_api_Fraction.mk 0 0), false)
  else
    bif !t5.2 then
      some ((T_api_Fraction.mk 0 0), false)
    else
      bif !t6.2 then
        some ((T_api_Fraction.mk 0 0), false)
      else
        bif decide ((iadd .u64 (IntKind.wrap .u64 t4.1) (IntKind.wrap .u64 t5.1)) > 4611686018427387904) then
          some ((T_api_Fraction.mk 0 0), false)
        else
          Option.bind (degree_small_m (iadd .i64 t4.1 t5.1) t6.1) fun t8 =>
          some (t8.1, t8.2)

theorem degree_add_ok {x_0 : T_api_Fraction} {y_1 : T_api_Fraction} {r : T_api_Fraction × Bool} (hm : degree_add_m x_0 y_1 = some r) :
    FnOk prog 49 [ag [iv .i64 x_0.Num, iv .i64 x_0.Den], ag [iv .i64 y_1.Num, iv .i64 y_1.Den]] [] (fun (x : Unit) => [ag [iv .i64 r.1.Num, iv .i64 r.1.Den], bv r.2]) (fun (x : Unit) => []) := by
  refine fn_ok (fn := Tryd.f49) (N := 62) (res := fun r x => [ag [iv .i64 r.1.Num, iv .i64 r.1.Den], bv r.2]) (Ω1 := fun r x => []) Tryd.func49 rfl rfl hm rfl (fun E hM => ?_)
  unfold degree_add_m
  refine ref_seq (ref_region ?_)
  refine s_st (s_box (part_agO (ψs := [iv .i64 x_0.Num, iv .i64 x_0.Den]) rfl ⟨.inl iv_at, .inl iv_at, trivial⟩)) rfl (fun b1 => ?_)
  refine s_st (s_box (part_agO (ψs := [iv .i64 y_1.Num, iv .i64 y_1.Den]) rfl ⟨.inl iv_at, .inl iv_at, trivial⟩)) rfl (fun b2 => ?_)
  refine s_st (s_alloc zt_53) rfl (fun b3 => ?_)
  refine as1 rfl rfl ?_
  refine l_nil (n_then (ref_seq (ref_region ?_)))
  refine s_rd (r_faddr (fo := 0) Tryd.underlying53 rfl rfl Tryd.sizeOf3 rfl) rfl ?_
  refine s_rd (r_cload Tryd.isAgg3 rfl (j := 0) rfl rfl) rfl ?_
  refine s_rd (r_faddr (fo := 1) Tryd.underlying53 rfl rfl Tryd.sizeOf3 rfl) rfl ?_
  refine s_rd (r_cload Tryd.isAgg3 rfl (j := 1) rfl rfl) rfl ?_
  refine pull fun t4 h_t4 => ?_
  refine s_st (s_call (ψ := fun (_ : Unit) => tup [iv .i64 t4.1, bv t4.2]) (args := [.tmp 14, .tmp 16]) Tryd.call79 rfl (degree_product_ok h_t4) ⟨arg rfl, arg rfl, trivial⟩ (fun _ _ _ _ h => h)) rfl (fun _ => ?_)
  refine mv1 rfl rfl ?_
  refine s_rd (r_extract rfl rfl) rfl ?_
  refine s_rd (r_extract rfl rfl) rfl ?_
  refine as1 rfl rfl ?_
  refine as1 rfl rfl ?_
  refine l_nil ?_
  refine b_of (nrm [oc b1 [iv .i64 x_0.Num, iv .i64 x_0.Den], oc b2 [iv .i64 y_1.Num, iv .i64 y_1.Den], oc b3 [iv .i64 0, iv .i64 0]] rfl) ?_
  refine n_then (ref_seq (ref_region ?_))
  refine s_rd (r_faddr (fo := 0) Tryd.underlying53 rfl rfl Tryd.sizeOf3 rfl) rfl ?_
  refine s_rd (r_cload Tryd.isAgg3 rfl (j := 1) rfl rfl) rfl ?_
  refine s_rd (r_faddr (fo := 1) Tryd.underlying53 rfl rfl Tryd.sizeOf3 rfl) rfl ?_
  refine s_rd (r_cload Tryd.isAgg3 rfl (j := 0) rfl rfl) rfl ?_
  refine pull fun t5 h_t5 => ?_
  refine s_st (s_call (ψ := fun (_ : Unit) => tup [iv .i64 t5.1, bv t5.2]) (args := [.tmp 22, .tmp 24]) Tryd.call79 rfl (degree_product_ok h_t5) ⟨arg rfl, arg rfl, trivial⟩ (fun _ _ _ _ h => h)) rfl (fun _ => ?_)
  refine mv1 rfl rfl ?_
  refine s_rd (r_extract rfl rfl) rfl ?_
  refine s_rd (r_extract rfl rfl) rfl ?_
  refine as1 rfl rfl ?_
  refine as1 rfl rfl ?_
  refine l_nil (n_then (ref_seq (ref_region ?_)))
  refine s_rd (r_faddr (fo := 1) Tryd.underlying53 rfl rfl Tryd.sizeOf3 rfl) rfl ?_
  refine s_rd (r_cload Tryd.isAgg3 rfl (j := 0) rfl rfl) rfl ?_
  refine s_rd (r_faddr (fo := 1) Tryd.underlying53 rfl rfl Tryd.sizeOf3 rfl) rfl ?_
  refine s_rd (r_cload Tryd.isAgg3 rfl (j := 1) rfl rfl) rfl ?_
  refine pull fun t6 h_t6 => ?_
  refine s_st (s_call (ψ := fun (_ : Unit) => tup [iv .i64 t6.1, bv t6.2]) (args := [.tmp 30, .tmp 32]) Tryd.call79 rfl (degree_product_ok h_t6) ⟨arg rfl, arg rfl, trivial⟩ (fun _ _ _ _ h => h)) rfl (fun _ => ?_)
  refine mv1 rfl rfl ?_
  refine s_rd (r_extract rfl rfl) rfl ?_
  refine s_rd (r_extract rfl rfl) rfl ?_
  refine as1 rfl rfl ?_
  refine as1 rfl rfl ?_
  refine l_nil (n_then (ref_seq (ref_seq (ref_region ?_))))
  refine mv1 rfl rfl ?_
  refine s_rd (r_not rfl) rfl ?_
  refine mv1 rfl rfl ?_
  refine b_split (t := 38) rfl (fun _ => ?_) (fun _ => ?_)
  · refine s_off rfl rfl rfl rfl rfl ?_
    refine s_off rfl rfl rfl rfl rfl ?_
    refine s_rd (r_pickT rfl rfl) rfl ?_
    refine mv1 rfl rfl ?_
    refine s_off rfl rfl rfl rfl rfl ?_
    refine s_off rfl rfl rfl rfl rfl ?_
    refine s_rd (r_pickT rfl rfl) rfl ?_
    refine mv1 rfl rfl ?_
    refine s_off rfl rfl rfl rfl rfl ?_
    refine s_off rfl rfl rfl rfl rfl ?_
    refine s_off rfl rfl rfl rfl rfl ?_
    refine s_off rfl rfl rfl rfl rfl ?_
    refine s_off rfl rfl rfl rfl rfl ?_
    refine s_off rfl rfl rfl rfl rfl ?_
    refine s_rd (r_pickT rfl rfl) rfl ?_
    refine l_nil (n_then ?_)
    refine ref_condT rfl rfl ?_
    refine ref_seq (ref_region ?_)
    refine s_rd (r_build (ps := []) (rs := []) st_53 zs_53 trivial rfl rfl) rfl ?_
    refine s_st0 (s_cstore (out := [iv .i64 0, iv .i64 0]) Tryd.sizeOf53 rfl (j := 2) rfl (part_agO (ψs := [iv .i64 0, iv .i64 0]) rfl ⟨.inl iv_at, .inl iv_at, trivial⟩) rfl rfl rfl) (fun _ => ?_)
    refine as1 rfl rfl ?_
    refine l_nil (n_then (ref_ret (r_then ?_)))
    exact fin2 (.inl rfl) () [] rfl trivial rfl (rv_cell rfl (j := 2) rfl Tryd.isAgg53 Tryd.sizeOf53 rfl rfl) (rv_tmp rfl)
  refine s_on rfl rfl rfl ?_
  refine mv1 rfl rfl ?_
  refine s_on rfl rfl rfl ?_
  refine s_rd (r_not rfl) rfl ?_
  refine s_rd (r_pickF rfl rfl) rfl ?_
  refine mv1 rfl rfl ?_
  refine b_split (t := 42) rfl (fun _ => ?_) (fun _ => ?_)
  · refine s_off rfl rfl rfl rfl rfl ?_
    refine s_off rfl rfl rfl rfl rfl ?_
    refine s_rd (r_pickT rfl rfl) rfl ?_
    refine mv1 rfl rfl ?_
    refine s_off rfl rfl rfl rfl rfl ?_
    refine s_off rfl rfl rfl rfl rfl ?_
    refine s_off rfl rfl rfl rfl rfl ?_
    refine s_off rfl rfl rfl rfl rfl ?_
    refine s_off rfl rfl rfl rfl rfl ?_
    refine s_off rfl rfl rfl rfl rfl ?_
    refine s_rd (r_pickT rfl rfl) rfl ?_
    refine l_nil (n_then ?_)
    refine ref_condT rfl rfl ?_
    refine ref_seq (ref_region ?_)
    refine s_rd (r_build (ps := []) (rs := []) st_53 zs_53 trivial rfl rfl) rfl ?_
    refine s_st0 (s_cstore (out := [iv .i64 0, iv .i64 0]) Tryd.sizeOf53 rfl (j := 2) rfl (part_agO (ψs := [iv .i64 0, iv .i64 0]) rfl ⟨.inl iv_at, .inl iv_at, trivial⟩) rfl rfl rfl) (fun _ => ?_)
    refine as1 rfl rfl ?_
    refine l_nil (n_then (ref_ret (r_then ?_)))
    exact fin2 (.inl rfl) () [] rfl trivial rfl (rv_cell rfl (j := 2) rfl Tryd.isAgg53 Tryd.sizeOf53 rfl rfl) (rv_tmp rfl)
  refine s_on rfl rfl rfl ?_
  refine mv1 rfl rfl ?_
  refine s_on rfl rfl rfl ?_
  refine s_rd (r_not rfl) rfl ?_
  refine s_rd (r_pickF rfl rfl) rfl ?_
  refine mv1 rfl rfl ?_
  refine b_split (t := 46) rfl (fun _ => ?_) (fun _ => ?_)
  · refine s_off rfl rfl rfl rfl rfl ?_
    refine s_off rfl rfl rfl rfl rfl ?_
    refine s_off rfl rfl rfl rfl rfl ?_
    refine s_off rfl rfl rfl rfl rfl ?_
    refine s_off rfl rfl rfl rfl rfl ?_
    refine s_off rfl rfl rfl rfl rfl ?_
    refine s_rd (r_pickT rfl rfl) rfl ?_
    refine l_nil (n_then ?_)
    refine ref_condT rfl rfl ?_
    refine ref_seq (ref_region ?_)
    refine s_rd (r_build (ps := []) (rs := []) st_53 zs_53 trivial rfl rfl) rfl ?_
    refine s_st0 (s_cstore (out := [iv .i64 0, iv .i64 0]) Tryd.sizeOf53 rfl (j := 2) rfl (part_agO (ψs := [iv .i64 0, iv .i64 0]) rfl ⟨.inl iv_at, .inl iv_at, trivial⟩) rfl rfl rfl) (fun _ => ?_)
    refine as1 rfl rfl ?_
    refine l_nil (n_then (ref_ret (r_then ?_)))
    exact fin2 (.inl rfl) () [] rfl trivial rfl (rv_cell rfl (j := 2) rfl Tryd.isAgg53 Tryd.sizeOf53 rfl rfl) (rv_tmp rfl)
  refine s_on rfl rfl rfl ?_
  refine mv1 rfl rfl ?_
  refine s_on rfl rfl rfl ?_
  refine s_rd (r_conv (k' := .u64) rfl rfl rfl) rfl ?_
  refine s_on rfl rfl rfl ?_
  refine mv1 rfl rfl ?_
  refine s_on rfl rfl rfl ?_
  refine s_rd (r_conv (k' := .u64) rfl rfl rfl) rfl ?_
  refine s_on rfl rfl rfl ?_
  refine s_rd (r_add rfl rfl) rfl ?_
  refine s_on rfl rfl rfl ?_
  refine s_rd (r_gtr rfl rfl) rfl ?_
  refine s_rd (r_pickF rfl rfl) rfl ?_
  refine l_nil (n_then ?_)
  refine ref_cond rfl (fun hb7 => ?_) (fun hb7 => ?_)
  · refine ref_seq (ref_region ?_)
    refine s_rd (r_build (ps := []) (rs := []) st_53 zs_53 trivial rfl rfl) rfl ?_
    refine s_st0 (s_cstore (out := [iv .i64 0, iv .i64 0]) Tryd.sizeOf53 rfl (j := 2) rfl (part_agO (ψs := [iv .i64 0, iv .i64 0]) rfl ⟨.inl iv_at, .inl iv_at, trivial⟩) rfl rfl rfl) (fun _ => ?_)
    refine as1 rfl rfl ?_
    refine l_nil (n_then (ref_ret (r_then ?_)))
    exact fin2 (.inl rfl) () [] rfl trivial rfl (rv_cell rfl (j := 2) rfl Tryd.isAgg53 Tryd.sizeOf53 rfl rfl) (rv_tmp rfl)
  refine ref_skip (n_then (ref_seq (ref_region ?_)))
  refine mv1 rfl rfl ?_
  refine mv1 rfl rfl ?_
  refine s_rd (r_add rfl rfl) rfl ?_
  refine mv1 rfl rfl ?_
  refine pull fun t8 h_t8 => ?_
  refine s_st (s_call (ψ := fun (_ : Unit) => tup [ag [iv .i64 t8.1.Num, iv .i64 t8.1.Den], bv t8.2]) (args := [.tmp 57, .tmp 58]) Tryd.call80 rfl (degree_small_ok h_t8) ⟨arg rfl, arg rfl, trivial⟩ (fun _ _ _ _ h => h)) rfl (fun _ => ?_)
  refine s_rd (r_extract rfl rfl) rfl ?_
  refine s_rd (r_extract rfl rfl) rfl ?_
  refine s_st0 (s_cstore (out := [iv .i64 t8.1.Num, iv .i64 t8.1.Den]) Tryd.sizeOf53 rfl (j := 2) rfl (part_agO (ψs := [iv .i64 t8.1.Num, iv .i64 t8.1.Den]) rfl ⟨.inl iv_at, .inl iv_at, trivial⟩) rfl rfl rfl) (fun _ => ?_)
  refine as1 rfl rfl ?_
  refine l_nil ?_
  refine b_of (nrm [oc b1 [iv .i64 x_0.Num, iv .i64 x_0.Den], oc b2 [iv .i64 y_1.Num, iv .i64 y_1.Den], oc b3 [iv .i64 t8.1.Num, iv .i64 t8.1.Den]] rfl) ?_
  refine n_then (ref_ret ?_)
  exact fin2 (.inl rfl) () [] rfl trivial rfl (rv_cell rfl (j := 2) rfl Tryd.isAgg53 Tryd.sizeOf53 rfl rfl) (rv_tmp rfl)

/-! deliberation/degree.divide -/
noncomputable def degree_divide_m (x_0 : T_api_Fraction) (y_1 : T_api_Fraction) : Option (T_api_Fraction × Bool) :=
  Option.bind (degree_product_m x_0.Num y_1.Den) fun t4 =>
  Option.bind (degree_product_m x_0.Den y_1.Num) fun t5 =>
  bif !t4.2 then
    some ((T_api_Fraction.mk 0 0), false)
  else
    bif !t5.2 then
      some ((T_api_Fraction.mk 0 0), false)
    else
      Option.bind (degree_small_m t4.1 t5.1) fun t7 =>
      some (t7.1, t7.2)

theorem degree_divide_ok {x_0 : T_api_Fraction} {y_1 : T_api_Fraction} {r : T_api_Fraction × Bool} (hm : degree_divide_m x_0 y_1 = some r) :
    FnOk prog 50 [ag [iv .i64 x_0.Num, iv .i64 x_0.Den], ag [iv .i64 y_1.Num, iv .i64 y_1.Den]] [] (fun (x : Unit) => [ag [iv .i64 r.1.Num, iv .i64 r.1.Den], bv r.2]) (fun (x : Unit) => []) := by
  refine fn_ok (fn := Tryd.f50) (N := 38) (res := fun r x => [ag [iv .i64 r.1.Num, iv .i64 r.1.Den], bv r.2]) (Ω1 := fun r x => []) Tryd.func50 rfl rfl hm rfl (fun E hM => ?_)
  unfold degree_divide_m
  refine ref_seq (ref_region ?_)
  refine s_st (s_box (part_agO (ψs := [iv .i64 x_0.Num, iv .i64 x_0.Den]) rfl ⟨.inl iv_at, .inl iv_at, trivial⟩)) rfl (fun b1 => ?_)
  refine s_st (s_box (part_agO (ψs := [iv .i64 y_1.Num, iv .i64 y_1.Den]) rfl ⟨.inl iv_at, .inl iv_at, trivial⟩)) rfl (fun b2 => ?_)
  refine s_st (s_alloc zt_53) rfl (fun b3 => ?_)
  refine as1 rfl rfl ?_
  refine l_nil (n_then (ref_seq (ref_region ?_)))
  refine s_rd (r_faddr (fo := 0) Tryd.underlying53 rfl rfl Tryd.sizeOf3 rfl) rfl ?_
  refine s_rd (r_cload Tryd.isAgg3 rfl (j := 0) rfl rfl) rfl ?_
  refine s_rd (r_faddr (fo := 1) Tryd.underlying53 rfl rfl Tryd.sizeOf3 rfl) rfl ?_
  refine s_rd (r_cload Tryd.isAgg3 rfl (j := 1) rfl rfl) rfl ?_
  refine pull fun t4 h_t4 => ?_
  refine s_st (s_call (ψ := fun (_ : Unit) => tup [iv .i64 t4.1, bv t4.2]) (args := [.tmp 12, .tmp 14]) Tryd.call79 rfl (degree_product_ok h_t4) ⟨arg rfl, arg rfl, trivial⟩ (fun _ _ _ _ h => h)) rfl (fun _ => ?_)
  refine mv1 rfl rfl ?_
  refine s_rd (r_extract rfl rfl) rfl ?_
  refine s_rd (r_extract rfl rfl) rfl ?_
  refine as1 rfl rfl ?_
  refine as1 rfl rfl ?_
  refine l_nil ?_
  refine b_of (nrm [oc b1 [iv .i64 x_0.Num, iv .i64 x_0.Den], oc b2 [iv .i64 y_1.Num, iv .i64 y_1.Den], oc b3 [iv .i64 0, iv .i64 0]] rfl) ?_
  refine n_then (ref_seq (ref_region ?_))
  refine s_rd (r_faddr (fo := 1) Tryd.underlying53 rfl rfl Tryd.sizeOf3 rfl) rfl ?_
  refine s_rd (r_cload Tryd.isAgg3 rfl (j := 0) rfl rfl) rfl ?_
  refine s_rd (r_faddr (fo := 0) Tryd.underlying53 rfl rfl Tryd.sizeOf3 rfl) rfl ?_
  refine s_rd (r_cload Tryd.isAgg3 rfl (j := 1) rfl rfl) rfl ?_
  refine pull fun t5 h_t5 => ?_
  refine s_st (s_call (ψ := fun (_ : Unit) => tup [iv .i64 t5.1, bv t5.2]) (args := [.tmp 20, .tmp 22]) Tryd.call79 rfl (degree_product_ok h_t5) ⟨arg rfl, arg rfl, trivial⟩ (fun _ _ _ _ h => h)) rfl (fun _ => ?_)
  refine mv1 rfl rfl ?_
  refine s_rd (r_extract rfl rfl) rfl ?_
  refine s_rd (r_extract rfl rfl) rfl ?_
  refine as1 rfl rfl ?_
  refine as1 rfl rfl ?_
  refine l_nil (n_then (ref_seq (ref_seq (ref_region ?_))))
  refine mv1 rfl rfl ?_
  refine s_rd (r_not rfl) rfl ?_
  refine mv1 rfl rfl ?_
  refine b_split (t := 28) rfl (fun _ => ?_) (fun _ => ?_)
  · refine s_off rfl rfl rfl rfl rfl ?_
    refine s_off rfl rfl rfl rfl rfl ?_
    refine s_rd (r_pickT rfl rfl) rfl ?_
    refine l_nil (n_then ?_)
    refine ref_condT rfl rfl ?_
    refine ref_seq (ref_region ?_)
    refine s_rd (r_build (ps := []) (rs := []) st_53 zs_53 trivial rfl rfl) rfl ?_
    refine s_st0 (s_cstore (out := [iv .i64 0, iv .i64 0]) Tryd.sizeOf53 rfl (j := 2) rfl (part_agO (ψs := [iv .i64 0, iv .i64 0]) rfl ⟨.inl iv_at, .inl iv_at, trivial⟩) rfl rfl rfl) (fun _ => ?_)
    refine as1 rfl rfl ?_
    refine l_nil (n_then (ref_ret (r_then ?_)))
    exact fin2 (.inl rfl) () [] rfl trivial rfl (rv_cell rfl (j := 2) rfl Tryd.isAgg53 Tryd.sizeOf53 rfl rfl) (rv_tmp rfl)
  refine s_on rfl rfl rfl ?_
  refine mv1 rfl rfl ?_
  refine s_on rfl rfl rfl ?_
  refine s_rd (r_not rfl) rfl ?_
  refine s_rd (r_pickF rfl rfl) rfl ?_
  refine l_nil (n_then ?_)
  refine ref_cond rfl (fun hb6 => ?_) (fun hb6 => ?_)
  · refine ref_seq (ref_region ?_)
    refine s_rd (r_build (ps := []) (rs := []) st_53 zs_53 trivial rfl rfl) rfl ?_
    refine s_st0 (s_cstore (out := [iv .i64 0, iv .i64 0]) Tryd.sizeOf53 rfl (j := 2) rfl (part_agO (ψs := [iv .i64 0, iv .i64 0]) rfl ⟨.inl iv_at, .inl iv_at, trivial⟩) rfl rfl rfl) (fun _ => ?_)
    refine as1 rfl rfl ?_
    refine l_nil (n_then (ref_ret (r_then ?_)))
    exact fin2 (.inl rfl) () [] rfl trivial rfl (rv_cell rfl (j := 2) rfl Tryd.isAgg53 Tryd.sizeOf53 rfl rfl) (rv_tmp rfl)
  refine ref_skip (n_then (ref_seq (ref_region ?_)))
  refine mv1 rfl rfl ?_
  refine mv1 rfl rfl ?_
  refine pull fun t7 h_t7 => ?_
  refine s_st (s_call (ψ := fun (_ : Unit) => tup [ag [iv .i64 t7.1.Num, iv .i64 t7.1.Den], bv t7.2]) (args := [.tmp 33, .tmp 34]) Tryd.call80 rfl (degree_small_ok h_t7) ⟨arg rfl, arg rfl, trivial⟩ (fun _ _ _ _ h => h)) rfl (fun _ => ?_)
  refine s_rd (r_extract rfl rfl) rfl ?_
  refine s_rd (r_extract rfl rfl) rfl ?_
  refine s_st0 (s_cstore (out := [iv .i64 t7.1.Num, iv .i64 t7.1.Den]) Tryd.sizeOf53 rfl (j := 2) rfl (part_agO (ψs := [iv .i64 t7.1.Num, iv .i64 t7.1.Den]) rfl ⟨.inl iv_at, .inl iv_at, trivial⟩) rfl rfl rfl) (fun _ => ?_)
  refine as1 rfl rfl ?_
  refine l_nil (n_then (ref_ret ?_))
  exact fin2 (.inl rfl) () [] rfl trivial rfl (rv_cell rfl (j := 2) rfl Tryd.isAgg53 Tryd.sizeOf53 rfl rfl) (rv_tmp rfl)

/-! slices.IndexFunc[[]deliberation/api.Fraction,deliberation/api.Fraction] -/
noncomputable def slices_IndexFunc_api_Fraction_api_Fraction_l1 (s_0 : (List T_api_Fraction)) (s7 : Int) : Option (Sum ((Sum (Int) (Unit))) (Int)) :=
  bif decide (s7 < (s_0.length : Int)) then
    Option.bind (idxM s_0 s7) fun t10 =>
    Option.bind (degree_Strength_1_m t10) fun t11 =>
    bif t11 then
      some (Sum.inl (Sum.inl s7))
    else
      some (Sum.inr (iadd .i64 s7 1))
  else
    some (Sum.inl (Sum.inr ()))

noncomputable def slices_IndexFunc_api_Fraction_api_Fraction_m (s_0 : (List T_api_Fraction)) : Option (Int) :=
  Option.bind (loopC (slices_IndexFunc_api_Fraction_api_Fraction_l1 s_0) 0) (sumK (fun a : Int => some a) fun q13 : Unit =>
    some (-1))

theorem slices_IndexFunc_api_Fraction_api_Fraction_ok {s_0 : (List T_api_Fraction)} {r : Int} (hm : slices_IndexFunc_api_Fraction_api_Fraction_m s_0 = some r) :
    FnOk prog 77 [slv rT_api_Fraction s_0, pv (.func (.func 46) #[] #[])] [] (fun (x : Unit) => [iv .i64 r]) (fun (x : Unit) => []) := by
  refine fn_ok (fn := Tryd.f77) (N := 19) (res := fun r x => [iv .i64 r]) (Ω1 := fun r x => []) Tryd.func77 rfl rfl hm rfl (fun E hM => ?_)
  unfold slices_IndexFunc_api_Fraction_api_Fraction_m
  refine ref_seq (ref_region ?_)
  refine as1 rfl rfl ?_
  refine l_nil (n_then (ref_seq (ref_seq (ref_region ?_))))
  refine mv1 rfl rfl ?_
  refine s_rd (r_len Tryd.underlying40 rfl) rfl ?_
  refine mv1 rfl rfl ?_
  refine l_nil (n_then ?_)
  refine ref_loopX (f := (slices_IndexFunc_api_Fraction_api_Fraction_l1 s_0)) (Γl := (fun (s7 : Int) (x8 : Unit) => [(0, slv rT_api_Fraction s_0), (1, pv (.func (.func 46) #[] #[])), (7, iv .i64 (s_0.length : Int)), (8, iv .i64 s7)])) (Ωl := (fun (s7 : Int) (x8 : Unit) => [])) (Γb := (fun (q13 : Unit) (y14 : Unit) => [(1, pv (.func (.func 46) #[] #[]))])) (Ωb := (fun (q13 : Unit) (y14 : Unit) => [])) (kr := (fun a : Int => some a)) 0 () (weak [] ⟨rfl, rfl, rfl, rfl, trivial⟩ trivial) (fun s7 x8 => ?_) (fun q13 y14 => ?_)
  · unfold slices_IndexFunc_api_Fraction_api_Fraction_l1
    refine ref_seq (ref_region ?_)
    refine s_rd (r_lss rfl rfl) rfl ?_
    refine l_nil (n_then (ref_seq ?_))
    refine ref_cond rfl (fun hb9 => ?_) (fun hb9 => ?_)
    · refine ref_skip (n_then (ref_seq (ref_block (ref_seq (ref_region ?_)))))
      refine mv1 rfl rfl ?_
      refine as1 rfl rfl ?_
      refine l_nil (n_then (ref_seq (ref_region ?_)))
      refine mv1 rfl rfl ?_
      refine mv1 rfl rfl ?_
      refine mv1 rfl rfl ?_
      refine pull fun t10 h_t10 => ?_
      refine s_rd (r_index h_t10 Tryd.underlying40 el_53 rfl rfl) rfl ?_
      refine s_rd (r_load el_53 rfl) rfl ?_
      refine pull fun t11 h_t11 => ?_
      refine s_st (s_call (ψ := fun (_ : Unit) => bv t11) (args := [.tmp 15]) Tryd.call46 rfl (degree_Strength_1_ok h_t11) ⟨arg rfl, trivial⟩ (fun _ _ _ _ h => h)) rfl (fun _ => ?_)
      refine l_nil (n_then ?_)
      refine ref_cond rfl (fun hb12 => ?_) (fun hb12 => ?_)
      · refine ref_seq (ref_region ?_)
        refine mv1 rfl rfl ?_
        refine as1 rfl rfl ?_
        refine l_nil (n_then (ref_ret (r_block (r_then ?_))))
        refine retX ?_
        refine r_block (r_then ?_)
        exact fin1 (.inl rfl) () [] rfl trivial rfl (rv_tmp rfl)
      refine ref_skip (n_block (n_then (ref_region ?_)))
      refine s_rd (r_add rfl rfl) rfl ?_
      refine mv1 rfl rfl ?_
      refine l_nil ?_
      exact goX () (weak [] ⟨rfl, rfl, rfl, rfl, trivial⟩ trivial)
    refine ref_exit (x_then ?_)
    exact brkX () (weak [] ⟨rfl, trivial⟩ trivial)
  refine n_then (ref_seq (ref_region ?_))
  refine as1 rfl rfl ?_
  refine l_nil (n_then (ref_ret ?_))
  exact fin1 (.inl rfl) () [] rfl trivial rfl (rv_tmp rfl)

/-! slices.ContainsFunc[[]deliberation/api.Fraction,deliberation/api.Fraction] -/
noncomputable def slices_ContainsFunc_api_Fraction_api_Fraction_m (s_0 : (List T_api_Fraction)) : Option (Bool) :=
  Option.bind (slices_IndexFunc_api_Fraction_api_Fraction_m s_0) fun t1 =>
  letM (decide (t1 ≥ 0)) fun t2 =>
  some t2

theorem slices_ContainsFunc_api_Fraction_api_Fraction_ok {s_0 : (List T_api_Fraction)} {r : Bool} (hm : slices_ContainsFunc_api_Fraction_api_Fraction_m s_0 = some r) :
    FnOk prog 45 [slv rT_api_Fraction s_0, pv (.func (.func 46) #[] #[])] [] (fun (x : Unit) => [bv r]) (fun (x : Unit) => []) := by
  refine fn_ok (fn := Tryd.f45) (N := 9) (res := fun r x => [bv r]) (Ω1 := fun r x => []) Tryd.func45 rfl rfl hm rfl (fun E hM => ?_)
  unfold slices_ContainsFunc_api_Fraction_api_Fraction_m
  refine ref_seq (ref_region ?_)
  refine as1 rfl rfl ?_
  refine l_nil (n_then (ref_seq (ref_region ?_)))
  refine mv1 rfl rfl ?_
  refine mv1 rfl rfl ?_
  refine pull fun t1 h_t1 => ?_
  refine s_st (s_call (ψ := fun (_ : Unit) => iv .i64 t1) (args := [.tmp 5, .tmp 6]) Tryd.call77 rfl (slices_IndexFunc_api_Fraction_api_Fraction_ok h_t1) ⟨arg rfl, arg rfl, trivial⟩ (fun _ _ _ _ h => h)) rfl (fun _ => ?_)
  refine s_rd (r_geq rfl rfl) rfl ?_
  refine as1 rfl rfl ?_
  refine b_let (f := bv) (t := 4) rfl fun t2 => ?_
  refine l_nil (n_then (ref_ret ?_))
  exact fin1 (.inl rfl) () [] rfl trivial rfl (rv_tmp rfl)

/-! deliberation/degree.Strength -/
noncomputable def degree_Strength_l2 (s85 : Int × (List T_api_Fraction)) (t91 : List Int) (s107 : Int × T_api_Fraction) : Option (Sum ((Sum (List T_api_Fraction × Int) (T_api_Fraction))) (Int × T_api_Fraction)) :=
  bif decide (s107.1 < (t91.length : Int)) then
    Option.bind (idxM t91 s107.1) fun a_110 =>
    Option.bind (idxM s85.2 a_110) fun t111 =>
    Option.bind (degree_add_m s107.2 t111) fun t112 =>
    bif !t112.2 then
      some (Sum.inl (Sum.inl ([], 2)))
    else
      some (Sum.inr (iadd .i64 s107.1 1, t112.1))
  else
    some (Sum.inl (Sum.inr s107.2))

noncomputable def degree_Strength_l1 (base_1 : (List T_api_Fraction)) (t6 : T_network_Net) (t8 : List Int × Bool) (s85 : Int × (List T_api_Fraction)) : Option (Sum ((Sum (List T_api_Fraction × Int) ((List T_api_Fraction)))) (Int × (List T_api_Fraction))) :=
  bif decide (s85.1 < (t8.1.length : Int)) then
    Option.bind (idxM t8.1 s85.1) fun i88 =>
    Option.bind (idxM t6.By i88) fun t90 =>
    Option.bind (network_Set_List_m t90) fun t91 =>
    Option.bind (loopC (degree_Strength_l2 s85 t91) (0, (T_api_Fraction.mk 1 1))) (sumK (fun a : List T_api_Fraction × Int => some (Sum.inl (Sum.inl a))) fun q114 : T_api_Fraction =>
      Option.bind (idxM base_1 i88) fun t116 =>
      Option.bind (degree_reduce_m t116) fun t117 =>
      Option.bind (degree_divide_m t117 q114) fun t118 =>
      Option.bind (idxM s85.2 i88) fun t119 =>
      bif !t118.2 then
        some (Sum.inl (Sum.inl ([], 2)))
      else
        some (Sum.inr (iadd .i64 s85.1 1, s85.2.set (Int.toNat i88) t118.1)))
  else
    some (Sum.inl (Sum.inr s85.2))

noncomputable def degree_Strength_m (g_0 : T_api_Graph) (base_1 : (List T_api_Fraction)) : Option (List T_api_Fraction × Int) :=
  Option.bind (graph_Validate_m g_0) fun e2 =>
  bif e2 != 0 then
    some ([], e2)
  else
    bif (base_1.length : Int) != g_0.N then
      some ([], 1)
    else
      Option.bind (slices_ContainsFunc_api_Fraction_api_Fraction_m base_1) fun t4 =>
      bif t4 then
        some ([], 1)
      else
        Option.bind (network_New_m g_0) fun t6 =>
        Option.bind (degree_order_m t6) fun t8 =>
        bif !t8.2 then
          some ([], 8)
        else
          Option.bind (mkM 16 (T_api_Fraction.mk 0 0) g_0.N) fun out11 =>
          Option.bind (loopC (degree_Strength_l1 base_1 t6 t8) (0, out11)) (sumK (fun a : List T_api_Fraction × Int => some a) fun q121 : (List T_api_Fraction) =>
            some (q121, 0))

theorem degree_Strength_ok {g_0 : T_api_Graph} {base_1 : (List T_api_Fraction)} {r : List T_api_Fraction × Int} (hm : degree_Strength_m g_0 base_1 = some r) :
    FnOk prog 20 [ag [iv .i64 g_0.N, slv rT_api_Pair g_0.L], slv rT_api_Fraction base_1] [tbO (rI .u8) 0 tab_0] (fun (x : (Value × List Nat)) => [pv x.1, iv .i64 r.2]) (fun (x : (Value × List Nat)) => [tbO (rI .u8) 0 tab_0, oa rT_api_Fraction x.1 x.2 r.1]) := by
  refine fn_ok (X := (Value × List Nat)) (fn := Tryd.f20) (N := 89) (res := fun r x => [pv x.1, iv .i64 r.2]) (Ω1 := fun r x => [tbO (rI .u8) 0 tab_0, oa rT_api_Fraction x.1 x.2 r.1]) Tryd.func20 rfl rfl hm rfl (fun E hM => ?_)
  unfold degree_Strength_m
  refine ref_seq (ref_region ?_)
  refine s_st (s_box (part_agO (ψs := [iv .i64 g_0.N, slv rT_api_Pair g_0.L]) rfl ⟨.inl iv_at, .inl slv_at, trivial⟩)) rfl (fun b1 => ?_)
  refine as1 rfl rfl ?_
  refine as1 rfl rfl ?_
  refine l_nil (n_then (ref_seq (ref_seq (ref_region ?_))))
  refine s_rd (r_cloadS Tryd.isAgg27 Tryd.sizeOf27 rfl (j := 1) rfl rfl rfl) rfl ?_
  refine pull fun e2 h_e2 => ?_
  refine s_st (s_call (ψ := fun (_ : Unit) => iv .i64 e2) (args := [.tmp 16]) Tryd.call36 rfl (graph_Validate_ok h_e2) ⟨arg rfl, trivial⟩ (fun _ _ _ _ h => h)) rfl (fun _ => ?_)
  refine as1 rfl rfl ?_
  refine l_nil (n_then (ref_seq (ref_region ?_)))
  refine mv1 rfl rfl ?_
  refine s_rd (r_neq rfl rfl) rfl ?_
  refine l_nil (n_then ?_)
  refine ref_cond rfl (fun hb3 => ?_) (fun hb3 => ?_)
  · refine ref_seq (ref_region ?_)
    refine mv1 rfl rfl ?_
    refine as1 rfl rfl ?_
    refine as1 rfl rfl ?_
    refine l_nil (n_then (ref_ret (r_then ?_)))
    refine b_of (own_nil rT_api_Fraction) ?_
    exact fin2 (.inl rfl) ((.slice none 0 0), []) [0, 2] rfl ⟨rfl, rfl, trivial⟩ rfl (rv_tmp rfl) (rv_tmp rfl)
  refine ref_skip (n_then (ref_seq (ref_seq (ref_region ?_))))
  refine mv1 rfl rfl ?_
  refine s_rd (r_len Tryd.underlying40 rfl) rfl ?_
  refine s_rd (r_faddr (fo := 0) Tryd.underlying27 rfl rfl Tryd.sizeOf3 rfl) rfl ?_
  refine s_rd (r_cload Tryd.isAgg3 rfl (j := 1) rfl rfl) rfl ?_
  refine s_rd (r_neq rfl rfl) rfl ?_
  refine mv1 rfl rfl ?_
  refine b_split (t := 26) rfl (fun _ => ?_) (fun _ => ?_)
  · refine s_off rfl rfl rfl rfl rfl ?_
    refine s_off rfl rfl rfl rfl rfl ?_
    refine s_rd (r_pickT rfl rfl) rfl ?_
    refine l_nil (n_then ?_)
    refine ref_condT rfl rfl ?_
    refine ref_seq (ref_region ?_)
    refine as1 rfl rfl ?_
    refine as1 rfl rfl ?_
    refine l_nil (n_then (ref_ret (r_then ?_)))
    refine b_of (own_nil rT_api_Fraction) ?_
    exact fin2 (.inl rfl) ((.slice none 0 0), []) [0, 2] rfl ⟨rfl, rfl, trivial⟩ rfl (rv_tmp rfl) (rv_tmp rfl)
  refine s_on rfl rfl rfl ?_
  refine mv1 rfl rfl ?_
  refine s_on rfl rfl rfl ?_
  refine pull fun t4 h_t4 => ?_
  refine s_st (s_call (ψ := fun (_ : Unit) => bv t4) (args := [.tmp 27, .func 46]) Tryd.call45 rfl (slices_ContainsFunc_api_Fraction_api_Fraction_ok h_t4) ⟨arg rfl, arg rfl, trivial⟩ (fun _ _ _ _ h => h)) rfl (fun _ => ?_)
  refine s_rd (r_pickF rfl rfl) rfl ?_
  refine l_nil (n_then ?_)
  refine ref_cond rfl (fun hb5 => ?_) (fun hb5 => ?_)
  · refine ref_seq (ref_region ?_)
    refine as1 rfl rfl ?_
    refine as1 rfl rfl ?_
    refine l_nil (n_then (ref_ret (r_then ?_)))
    refine b_of (own_nil rT_api_Fraction) ?_
    exact fin2 (.inl rfl) ((.slice none 0 0), []) [0, 2] rfl ⟨rfl, rfl, trivial⟩ rfl (rv_tmp rfl) (rv_tmp rfl)
  refine ref_skip (n_then (ref_seq (ref_region ?_)))
  refine s_rd (r_cloadS Tryd.isAgg27 Tryd.sizeOf27 rfl (j := 1) rfl rfl rfl) rfl ?_
  refine pull fun t6 h_t6 => ?_
  refine s_st (s_call (ψ := fun (_ : Unit) => ag [iv .u64 t6.All, slv (rI .u64) t6.By, slv (rI .u64) t6.Out]) (args := [.tmp 30]) Tryd.call39 rfl (network_New_ok h_t6) ⟨arg rfl, trivial⟩ (fun _ _ _ _ h => h)) rfl (fun _ => ?_)
  refine s_st (s_alloc zt_80) rfl (fun b7 => ?_)
  refine s_st0 (s_cstore (out := [iv .u64 t6.All, slv (rI .u64) t6.By, slv (rI .u64) t6.Out]) Tryd.sizeOf80 rfl (j := 2) rfl (part_agO (ψs := [iv .u64 t6.All, slv (rI .u64) t6.By, slv (rI .u64) t6.Out]) rfl ⟨.inl iv_at, .inl slv_at, .inl slv_at, trivial⟩) rfl rfl rfl) (fun _ => ?_)
  refine l_nil ?_
  refine b_of (nrm [tbO (rI .u8) 0 tab_0, oc b1 [iv .i64 g_0.N, slv rT_api_Pair g_0.L], oc b7 [iv .u64 t6.All, slv (rI .u64) t6.By, slv (rI .u64) t6.Out]] rfl) ?_
  refine n_then (ref_seq (ref_region ?_))
  refine s_rd (r_cloadS Tryd.isAgg80 Tryd.sizeOf80 rfl (j := 2) rfl rfl rfl) rfl ?_
  refine pull fun t8 h_t8 => ?_
  refine s_st (s_callC [0] [true] (fun (x9 : (Value × List Nat)) => [tbO (rI .u8) 0 tab_0]) (fun (x9 : (Value × List Nat)) => [oa (rI .i64) x9.1 x9.2 t8.1]) (fun (x9 : (Value × List Nat)) => tup [pv x9.1, bv t8.2]) (args := [.tmp 33]) (caps := []) Tryd.call47 rfl (degree_order_ok h_t8) ⟨rfl, rfl, trivial⟩ (fun _ => rfl) (fun _ => trivial) (fun _ => rfl) ⟨arg rfl, trivial⟩ (fun _ _ _ _ h => h)) rfl (fun x9 => ?_)
  refine mv1 rfl rfl ?_
  refine s_rd (r_extract rfl rfl) rfl ?_
  refine s_rd (r_extract rfl rfl) rfl ?_
  refine as1 rfl rfl ?_
  refine as1 rfl rfl ?_
  refine l_nil (n_then (ref_seq (ref_seq (ref_region ?_))))
  refine mv1 rfl rfl ?_
  refine s_rd (r_not rfl) rfl ?_
  refine l_nil (n_then ?_)
  refine ref_cond rfl (fun hb10 => ?_) (fun hb10 => ?_)
  · refine ref_seq (ref_region ?_)
    refine as1 rfl rfl ?_
    refine as1 rfl rfl ?_
    refine l_nil (n_then (ref_ret (r_then ?_)))
    refine b_of (own_nil rT_api_Fraction) ?_
    exact fin2 (.inl rfl) ((.slice none 0 0), []) [0, 4] rfl ⟨rfl, rfl, trivial⟩ rfl (rv_tmp rfl) (rv_tmp rfl)
  refine ref_skip (n_then (ref_seq (ref_region ?_)))
  refine s_rd (r_faddr (fo := 0) Tryd.underlying27 rfl rfl Tryd.sizeOf3 rfl) rfl ?_
  refine s_rd (r_cload Tryd.isAgg3 rfl (j := 1) rfl rfl) rfl ?_
  refine pull fun out11 h_out11 => ?_
  refine s_st (s_make h_out11 Tryd.underlying40 el_53 ze_53 rfl rfl) rfl (fun o12 => ?_)
  refine as1 rfl rfl ?_
  refine l_nil (n_then (ref_seq (ref_seq (ref_region ?_))))
  refine mv1 rfl rfl ?_
  refine s_rd (r_olen Tryd.underlying22 rfl (j := 3) rfl) rfl ?_
  refine mv1 rfl rfl ?_
  refine l_nil (n_then ?_)
  refine ref_loopX (f := (degree_Strength_l1 base_1 t6 t8)) (Γl := (fun (s85 : Int × (List T_api_Fraction)) (x86 : Unit) => [(1, slv rT_api_Fraction base_1), (7, pv (ptr b7 0)), (10, pv o12.1), (42, pv x9.1), (43, iv .i64 (t8.1.length : Int)), (44, iv .i64 s85.1)])) (Ωl := (fun (s85 : Int × (List T_api_Fraction)) (x86 : Unit) => [tbO (rI .u8) 0 tab_0, oc b7 [iv .u64 t6.All, slv (rI .u64) t6.By, slv (rI .u64) t6.Out], oa rT_api_Fraction o12.1 o12.2 s85.2, oa (rI .i64) x9.1 x9.2 t8.1])) (Γb := (fun (q121 : (List T_api_Fraction)) (y122 : Unit) => [(10, pv o12.1)])) (Ωb := (fun (q121 : (List T_api_Fraction)) (y122 : Unit) => [oa rT_api_Fraction o12.1 o12.2 q121, tbO (rI .u8) 0 tab_0])) (kr := (fun a : List T_api_Fraction × Int => some a)) (0, out11) () (weak [0, 2, 4, 3] ⟨rfl, rfl, rfl, rfl, rfl, rfl, trivial⟩ ⟨rfl, rfl, rfl, rfl, trivial⟩) (fun s85 x86 => ?_) (fun q121 y122 => ?_)
  · unfold degree_Strength_l1
    refine ref_seq (ref_region ?_)
    refine s_rd (r_lss rfl rfl) rfl ?_
    refine l_nil (n_then (ref_seq ?_))
    refine ref_cond rfl (fun hb87 => ?_) (fun hb87 => ?_)
    · refine ref_skip (n_then (ref_seq (ref_block (ref_seq (ref_region ?_)))))
      refine pull fun i88 h_i88 => ?_
      refine s_rd (r_oindex h_i88 Tryd.underlying22 el_3 rfl (j := 3) rfl rfl) rfl ?_
      refine s_rd (r_oload h_i88 el_3 rfl (j := 3) rfl) rfl ?_
      refine as1 rfl rfl ?_
      refine l_nil (n_then (ref_seq (ref_region ?_)))
      refine s_rd (r_build (ps := [(0, .const (.int .i64 (1))), (1, .const (.int .i64 (1)))]) (rs := [(0, [iv .i64 1]), (1, [iv .i64 1])]) st_53 zs_53 ⟨rfl, (part_at rfl iv_at), ⟨rfl, (part_at rfl iv_at), trivial⟩⟩ rfl rfl) rfl ?_
      refine s_st (s_alloc zt_53) rfl (fun b89 => ?_)
      refine s_st0 (s_cstore (out := [iv .i64 1, iv .i64 1]) Tryd.sizeOf53 rfl (j := 4) rfl (part_agO (ψs := [iv .i64 1, iv .i64 1]) rfl ⟨.inl iv_at, .inl iv_at, trivial⟩) rfl rfl rfl) (fun _ => ?_)
      refine l_nil ?_
      refine b_of (nrm [tbO (rI .u8) 0 tab_0, oc b7 [iv .u64 t6.All, slv (rI .u64) t6.By, slv (rI .u64) t6.Out], oa rT_api_Fraction o12.1 o12.2 s85.2, oa (rI .i64) x9.1 x9.2 t8.1, oc b89 [iv .i64 1, iv .i64 1]] rfl) ?_
      refine n_then (ref_seq (ref_seq (ref_region ?_)))
      refine s_rd (r_faddr (fo := 1) Tryd.underlying80 rfl rfl Tryd.sizeOf78 rfl) rfl ?_
      refine s_rd (r_cload Tryd.isAgg78 rfl (j := 1) rfl rfl) rfl ?_
      refine mv1 rfl rfl ?_
      refine pull fun t90 h_t90 => ?_
      refine s_rd (r_index h_t90 Tryd.underlying78 el_77 rfl rfl) rfl ?_
      refine s_rd (r_load el_77 rfl) rfl ?_
      refine pull fun t91 h_t91 => ?_
      refine s_st (s_callC [0] [true] (fun (x92 : (Value × List Nat)) => [tbO (rI .u8) 0 tab_0]) (fun (x92 : (Value × List Nat)) => [oa (rI .i64) x92.1 x92.2 t91]) (fun (x92 : (Value × List Nat)) => pv x92.1) (args := [.tmp 53]) (caps := []) Tryd.call48 rfl (network_Set_List_ok h_t91) ⟨rfl, rfl, trivial⟩ (fun _ => rfl) (fun _ => trivial) (fun _ => rfl) ⟨arg rfl, trivial⟩ (fun _ _ _ _ h => h)) rfl (fun x92 => ?_)
      refine s_rd (r_olen Tryd.underlying22 rfl (j := 5) rfl) rfl ?_
      refine mv1 rfl rfl ?_
      refine l_nil (n_then ?_)
      refine ref_loopX (f := (degree_Strength_l2 s85 t91)) (Γl := (fun (s107 : Int × T_api_Fraction) (x108 : Unit) => [(1, slv rT_api_Fraction base_1), (7, pv (ptr b7 0)), (10, pv o12.1), (12, iv .i64 i88), (13, pv (ptr b89 0)), (42, pv x9.1), (43, iv .i64 (t8.1.length : Int)), (44, iv .i64 s85.1), (54, pv x92.1), (55, iv .i64 (t91.length : Int)), (56, iv .i64 s107.1)])) (Ωl := (fun (s107 : Int × T_api_Fraction) (x108 : Unit) => [tbO (rI .u8) 0 tab_0, oc b7 [iv .u64 t6.All, slv (rI .u64) t6.By, slv (rI .u64) t6.Out], oa rT_api_Fraction o12.1 o12.2 s85.2, oc b89 [iv .i64 s107.2.Num, iv .i64 s107.2.Den], oa (rI .i64) x9.1 x9.2 t8.1, oa (rI .i64) x92.1 x92.2 t91])) (Γb := (fun (q114 : T_api_Fraction) (y115 : Unit) => [(1, slv rT_api_Fraction base_1), (7, pv (ptr b7 0)), (10, pv o12.1), (12, iv .i64 i88), (13, pv (ptr b89 0)), (42, pv x9.1), (43, iv .i64 (t8.1.length : Int)), (44, iv .i64 s85.1)])) (Ωb := (fun (q114 : T_api_Fraction) (y115 : Unit) => [oc b7 [iv .u64 t6.All, slv (rI .u64) t6.By, slv (rI .u64) t6.Out], oa rT_api_Fraction o12.1 o12.2 s85.2, oc b89 [iv .i64 q114.Num, iv .i64 q114.Den], oa (rI .i64) x9.1 x9.2 t8.1, tbO (rI .u8) 0 tab_0])) (kr := (fun a : List T_api_Fraction × Int => some (Sum.inl (Sum.inl a)))) (0, (T_api_Fraction.mk 1 1)) () (weak [0, 1, 2, 4, 3, 5] ⟨rfl, rfl, rfl, rfl, rfl, rfl, rfl, rfl, rfl, rfl, rfl, trivial⟩ ⟨rfl, rfl, rfl, rfl, rfl, rfl, trivial⟩) (fun s107 x108 => ?_) (fun q114 y115 => ?_)
      · unfold degree_Strength_l2
        refine ref_seq (ref_region ?_)
        refine s_rd (r_lss rfl rfl) rfl ?_
        refine l_nil (n_then (ref_seq ?_))
        refine ref_cond rfl (fun hb109 => ?_) (fun hb109 => ?_)
        · refine ref_skip (n_then (ref_seq (ref_block (ref_seq (ref_region ?_)))))
          refine pull fun a_110 h_a_110 => ?_
          refine s_rd (r_oindex h_a_110 Tryd.underlying22 el_3 rfl (j := 5) rfl rfl) rfl ?_
          refine s_rd (r_oload h_a_110 el_3 rfl (j := 5) rfl) rfl ?_
          refine as1 rfl rfl ?_
          refine l_nil (n_then (ref_seq ?_))
          refine ref_draw [0, 1, 2, 3, 4, 6, 7, 8] rfl (by kernel_rfl) (fun hok => ?_)
          refine a_rd (i := 0) hok rfl (by kernel_rfl) rfl (r_cloadS Tryd.isAgg53 Tryd.sizeOf53 rfl (j := 3) rfl rfl rfl) rfl ?_
          refine a_rd (i := 1) hok rfl (by kernel_rfl) rfl (r_move rfl) rfl ?_
          refine a_rd (i := 2) hok rfl (by kernel_rfl) rfl (r_move rfl) rfl ?_
          refine pull fun t111 h_t111 => ?_
          refine a_rd (i := 3) hok rfl (by kernel_rfl) rfl (r_oindex h_t111 Tryd.underlying40 el_53 rfl (j := 2) rfl rfl) rfl ?_
          refine a_rd (i := 4) hok rfl (by kernel_rfl) rfl (r_oload h_t111 el_53 rfl (j := 2) rfl) rfl ?_
          refine pull fun t112 h_t112 => ?_
          refine a_next hok 5 [] (by kernel_rfl) ?_ trivial
          refine a_st (i := 5) hok rfl rfl (s_call (ψ := fun (_ : Unit) => tup [ag [iv .i64 t112.1.Num, iv .i64 t112.1.Den], bv t112.2]) (args := [.tmp 61, .tmp 65]) Tryd.call49 rfl (degree_add_ok h_t112) ⟨arg rfl, arg rfl, trivial⟩ (fun _ _ _ _ h => h)) (by intro _ h; cases h; rfl) (fun _ => ⟨trivial, ⟨trivial, ⟨trivial, ⟨trivial, ⟨trivial, trivial⟩⟩⟩⟩⟩) (fun _ => ?_)
          refine a_rd (i := 6) hok rfl (by kernel_rfl) rfl (r_move rfl) rfl ?_
          refine a_rd (i := 7) hok rfl (by kernel_rfl) rfl (r_extract rfl rfl) rfl ?_
          refine a_rd (i := 8) hok rfl (by kernel_rfl) rfl (r_extract rfl rfl) rfl ?_
          refine a_next hok 9 [] (by kernel_rfl) ?_ trivial
          refine a_st (i := 9) hok rfl rfl (s_cstore (out := [iv .i64 t112.1.Num, iv .i64 t112.1.Den]) Tryd.sizeOf53 rfl (j := 3) rfl (part_agO (ψs := [iv .i64 t112.1.Num, iv .i64 t112.1.Den]) rfl ⟨.inl iv_at, .inl iv_at, trivial⟩) rfl rfl rfl) (by intro _ h; cases h) (fun _ => ⟨trivial, ⟨trivial, ⟨trivial, ⟨trivial, ⟨trivial, ⟨trivial, ⟨trivial, ⟨trivial, trivial⟩⟩⟩⟩⟩⟩⟩⟩) (fun _ => ?_)
          refine a_next hok 10 [] (by kernel_rfl) ?_ trivial
          refine a_st (i := 10) hok rfl rfl (St.ofRd (r_assign rfl)) (by intro _ h; cases h; rfl) (fun _ => ⟨trivial, ⟨trivial, ⟨trivial, ⟨trivial, ⟨trivial, ⟨trivial, ⟨trivial, ⟨trivial, trivial⟩⟩⟩⟩⟩⟩⟩⟩) (fun _ => ?_)
          refine a_fin hok (by kernel_rfl) ?_
          refine b_of (nrm [tbO (rI .u8) 0 tab_0, oc b7 [iv .u64 t6.All, slv (rI .u64) t6.By, slv (rI .u64) t6.Out], oa rT_api_Fraction o12.1 o12.2 s85.2, oc b89 [iv .i64 t112.1.Num, iv .i64 t112.1.Den], oa (rI .i64) x9.1 x9.2 t8.1, oa (rI .i64) x92.1 x92.2 t91] rfl) ?_
          refine n_then (ref_seq (ref_region ?_))
          refine mv1 rfl rfl ?_
          refine s_rd (r_not rfl) rfl ?_
          refine l_nil (n_then ?_)
          refine ref_cond rfl (fun hb113 => ?_) (fun hb113 => ?_)
          · refine ref_seq (ref_region ?_)
            refine as1 rfl rfl ?_
            refine as1 rfl rfl ?_
            refine l_nil (n_then (ref_ret (r_block (r_then ?_))))
            refine retX ?_
            refine r_block (r_then (r_block (r_then ?_)))
            refine retX ?_
            refine r_block (r_then ?_)
            refine b_of (own_nil rT_api_Fraction) ?_
            exact fin2 (.inl rfl) ((.slice none 0 0), []) [0, 6] rfl ⟨rfl, rfl, trivial⟩ rfl (rv_tmp rfl) (rv_tmp rfl)
          refine ref_skip (n_block (n_then (ref_region ?_)))
          refine s_rd (r_add rfl rfl) rfl ?_
          refine mv1 rfl rfl ?_
          refine l_nil ?_
          exact goX () (weak [0, 1, 2, 3, 4, 5] ⟨rfl, rfl, rfl, rfl, rfl, rfl, rfl, rfl, rfl, rfl, rfl, trivial⟩ ⟨rfl, rfl, rfl, rfl, rfl, rfl, trivial⟩)
        refine ref_exit (x_then ?_)
        exact brkX () (weak [1, 2, 3, 4, 0] ⟨rfl, rfl, rfl, rfl, rfl, rfl, rfl, rfl, trivial⟩ ⟨rfl, rfl, rfl, rfl, rfl, trivial⟩)
      refine n_then (ref_seq ?_)
      refine ref_draw [0, 1, 2, 3, 4, 5, 7, 9, 10, 11, 12] rfl (by kernel_rfl) (fun hok => ?_)
      refine a_rd (i := 0) hok rfl (by kernel_rfl) rfl (r_move rfl) rfl ?_
      refine a_rd (i := 1) hok rfl (by kernel_rfl) rfl (r_move rfl) rfl ?_
      refine a_rd (i := 2) hok rfl (by kernel_rfl) rfl (r_move rfl) rfl ?_
      refine a_rd (i := 3) hok rfl (by kernel_rfl) rfl (r_move rfl) rfl ?_
      refine pull fun t116 h_t116 => ?_
      refine a_rd (i := 4) hok rfl (by kernel_rfl) rfl (r_index h_t116 Tryd.underlying40 el_53 rfl rfl) rfl ?_
      refine a_rd (i := 5) hok rfl (by kernel_rfl) rfl (r_load el_53 rfl) rfl ?_
      refine a_rd (i := 7) hok rfl (by kernel_rfl) rfl (r_cloadS Tryd.isAgg53 Tryd.sizeOf53 rfl (j := 2) rfl rfl rfl) rfl ?_
      refine pull fun t117 h_t117 => ?_
      refine a_next hok 6 [] (by kernel_rfl) ?_ trivial
      refine a_st (i := 6) hok rfl rfl (s_call (ψ := fun (_ : Unit) => ag [iv .i64 t117.Num, iv .i64 t117.Den]) (args := [.tmp 78]) Tryd.call51 rfl (degree_reduce_ok h_t117) ⟨arg rfl, trivial⟩ (fun _ _ _ _ h => h)) (by intro _ h; cases h; rfl) (fun _ => ⟨⟨⟨rfl, rfl⟩, trivial⟩, ⟨trivial, ⟨trivial, ⟨trivial, ⟨trivial, ⟨trivial, ⟨trivial, trivial⟩⟩⟩⟩⟩⟩⟩) (fun _ => ?_)
      refine pull fun t118 h_t118 => ?_
      refine a_next hok 8 [] (by kernel_rfl) ?_ trivial
      refine a_st (i := 8) hok rfl rfl (s_call (ψ := fun (_ : Unit) => tup [ag [iv .i64 t118.1.Num, iv .i64 t118.1.Den], bv t118.2]) (args := [.tmp 79, .tmp 80]) Tryd.call50 rfl (degree_divide_ok h_t118) ⟨arg rfl, arg rfl, trivial⟩ (fun _ _ _ _ h => h)) (by intro _ h; cases h; rfl) (fun _ => ⟨trivial, ⟨trivial, ⟨trivial, ⟨trivial, ⟨trivial, ⟨trivial, ⟨trivial, trivial⟩⟩⟩⟩⟩⟩⟩) (fun _ => ?_)
      refine a_rd (i := 9) hok rfl (by kernel_rfl) rfl (r_move rfl) rfl ?_
      refine a_rd (i := 10) hok rfl (by kernel_rfl) rfl (r_extract rfl rfl) rfl ?_
      refine a_rd (i := 11) hok rfl (by kernel_rfl) rfl (r_extract rfl rfl) rfl ?_
      refine pull fun t119 h_t119 => ?_
      refine a_rd (i := 12) hok rfl (by kernel_rfl) rfl (r_oindex h_t119 Tryd.underlying40 el_53 rfl (j := 1) rfl rfl) rfl ?_
      refine a_next hok 13 [] (by kernel_rfl) ?_ trivial
      refine a_st (i := 13) hok rfl rfl (s_ostore (u := t118.1) h_t119 el_53 rfl (j := 1) rfl (part_agO (ψs := [iv .i64 t118.1.Num, iv .i64 t118.1.Den]) rfl ⟨.inl iv_at, .inl iv_at, trivial⟩)) (by intro _ h; cases h) (fun _ => ⟨trivial, ⟨trivial, ⟨trivial, ⟨trivial, ⟨trivial, ⟨trivial, ⟨trivial, ⟨trivial, ⟨trivial, ⟨trivial, ⟨trivial, trivial⟩⟩⟩⟩⟩⟩⟩⟩⟩⟩⟩) (fun _ => ?_)
      refine a_next hok 14 [] (by kernel_rfl) ?_ trivial
      refine a_st (i := 14) hok rfl rfl (St.ofRd (r_assign rfl)) (by intro _ h; cases h; rfl) (fun _ => ⟨trivial, ⟨trivial, ⟨trivial, ⟨trivial, ⟨trivial, ⟨trivial, ⟨trivial, ⟨trivial, ⟨trivial, ⟨trivial, ⟨trivial, trivial⟩⟩⟩⟩⟩⟩⟩⟩⟩⟩⟩) (fun _ => ?_)
      refine a_fin hok (by kernel_rfl) ?_
      refine b_of (nrm [oc b7 [iv .u64 t6.All, slv (rI .u64) t6.By, slv (rI .u64) t6.Out], oa rT_api_Fraction o12.1 o12.2 (s85.2.set (Int.toNat i88) t118.1), oc b89 [iv .i64 q114.Num, iv .i64 q114.Den], oa (rI .i64) x9.1 x9.2 t8.1, tbO (rI .u8) 0 tab_0] rfl) ?_
      refine n_then (ref_seq (ref_region ?_))
      refine mv1 rfl rfl ?_
      refine s_rd (r_not rfl) rfl ?_
      refine l_nil (n_then ?_)
      refine ref_cond rfl (fun hb120 => ?_) (fun hb120 => ?_)
      · refine ref_seq (ref_region ?_)
        refine as1 rfl rfl ?_
        refine as1 rfl rfl ?_
        refine l_nil (n_then (ref_ret (r_block (r_then ?_))))
        refine retX ?_
        refine r_block (r_then ?_)
        refine b_of (own_nil rT_api_Fraction) ?_
        exact fin2 (.inl rfl) ((.slice none 0 0), []) [4, 5] rfl ⟨rfl, rfl, trivial⟩ rfl (rv_tmp rfl) (rv_tmp rfl)
      refine ref_skip (n_block (n_then (ref_region ?_)))
      refine s_rd (r_add rfl rfl) rfl ?_
      refine mv1 rfl rfl ?_
      refine l_nil ?_
      exact goX () (weak [4, 0, 1, 3] ⟨rfl, rfl, rfl, rfl, rfl, rfl, trivial⟩ ⟨rfl, rfl, rfl, rfl, trivial⟩)
    refine ref_exit (x_then ?_)
    exact brkX () (weak [2, 0] ⟨rfl, trivial⟩ ⟨rfl, rfl, trivial⟩)
  refine n_then (ref_seq (ref_region ?_))
  refine mv1 rfl rfl ?_
  refine as1 rfl rfl ?_
  refine as1 rfl rfl ?_
  refine l_nil (n_then (ref_ret ?_))
  exact fin2 (.inl rfl) o12 [1, 0] rfl ⟨rfl, rfl, trivial⟩ rfl (rv_tmp rfl) (rv_tmp rfl)

/-! deliberation/deliberationnet.Has -/
noncomputable def net_Has_l1 (g_0 : T_api_Graph) (from__1 : Int) (to__2 : Int) (s8 : Int) : Option (Sum ((Sum (Bool) (Unit))) (Int)) :=
  bif decide (s8 < (g_0.L.length : Int)) then
    Option.bind (idxM g_0.L s8) fun t11 =>
    bif t11.From == from__1 then
      Option.bind (idxM g_0.L s8) fun t12 =>
      bif t12.To == to__2 then
        some (Sum.inl (Sum.inl true))
      else
        some (Sum.inr (iadd .i64 s8 1))
    else
      some (Sum.inr (iadd .i64 s8 1))
  else
    some (Sum.inl (Sum.inr ()))

noncomputable def net_Has_m (g_0 : T_api_Graph) (from__1 : Int) (to__2 : Int) : Option (Bool) :=
  Option.bind (loopC (net_Has_l1 g_0 from__1 to__2) 0) (sumK (fun a : Bool => some a) fun q14 : Unit =>
    some false)

theorem net_Has_ok {g_0 : T_api_Graph} {from__1 : Int} {to__2 : Int} {r : Bool} (hm : net_Has_m g_0 from__1 to__2 = some r) :
    FnOk prog 23 [ag [iv .i64 g_0.N, slv rT_api_Pair g_0.L], iv .i64 from__1, iv .i64 to__2] [] (fun (x : Unit) => [bv r]) (fun (x : Unit) => []) := by
  refine fn_ok (fn := Tryd.f23) (N := 33) (res := fun r x => [bv r]) (Ω1 := fun r x => []) Tryd.func23 rfl rfl hm rfl (fun E hM => ?_)
  unfold net_Has_m
  refine ref_seq (ref_region ?_)
  refine s_st (s_box (part_agO (ψs := [iv .i64 g_0.N, slv rT_api_Pair g_0.L]) rfl ⟨.inl iv_at, .inl slv_at, trivial⟩)) rfl (fun b1 => ?_)
  refine as1 rfl rfl ?_
  refine l_nil (n_then (ref_seq (ref_seq (ref_region ?_))))
  refine as1 rfl rfl ?_
  refine l_nil (n_then ?_)
  refine ref_loopX (f := (net_Has_l1 g_0 from__1 to__2)) (Γl := (fun (s8 : Int) (x9 : Unit) => [(1, iv .i64 from__1), (2, iv .i64 to__2), (3, pv (ptr b1 0)), (7, iv .i64 s8)])) (Ωl := (fun (s8 : Int) (x9 : Unit) => [oc b1 [iv .i64 g_0.N, slv rT_api_Pair g_0.L]])) (Γb := (fun (q14 : Unit) (y15 : Unit) => [])) (Ωb := (fun (q14 : Unit) (y15 : Unit) => [])) (kr := (fun a : Bool => some a)) 0 () (weak [0] ⟨rfl, rfl, rfl, rfl, trivial⟩ ⟨rfl, trivial⟩) (fun s8 x9 => ?_) (fun q14 y15 => ?_)
  · unfold net_Has_l1
    refine ref_seq (ref_seq (ref_region ?_))
    refine mv1 rfl rfl ?_
    refine s_rd (r_faddr (fo := 1) Tryd.underlying27 rfl rfl Tryd.sizeOf25 rfl) rfl ?_
    refine s_rd (r_cload Tryd.isAgg25 rfl (j := 0) rfl rfl) rfl ?_
    refine s_rd (r_len Tryd.underlying25 rfl) rfl ?_
    refine s_rd (r_lss rfl rfl) rfl ?_
    refine l_nil (n_then ?_)
    refine ref_cond rfl (fun hb10 => ?_) (fun hb10 => ?_)
    · refine ref_skip (n_then (ref_seq (ref_block (ref_seq (ref_region ?_)))))
      refine s_rd (r_faddr (fo := 1) Tryd.underlying27 rfl rfl Tryd.sizeOf25 rfl) rfl ?_
      refine s_rd (r_cload Tryd.isAgg25 rfl (j := 0) rfl rfl) rfl ?_
      refine mv1 rfl rfl ?_
      refine pull fun t11 h_t11 => ?_
      refine s_rd (r_index h_t11 Tryd.underlying25 el_56 rfl rfl) rfl ?_
      refine s_rd (r_fea (fo := 0) (ρ := rT_api_Pair) (y := t11) (ρ' := (rI .i64)) (z := t11.From) Tryd.underlying56 rfl rfl Tryd.sizeOf3 rfl rfl rfl) rfl ?_
      refine s_rd (r_load el_3 rfl) rfl ?_
      refine mv1 rfl rfl ?_
      refine s_rd (r_eql rfl rfl) rfl ?_
      refine mv1 rfl rfl ?_
      refine b_split (t := 23) rfl (fun _ => ?_) (fun _ => ?_)
      · refine s_on rfl rfl rfl ?_
        refine s_rd (r_faddr (fo := 1) Tryd.underlying27 rfl rfl Tryd.sizeOf25 rfl) rfl ?_
        refine s_on rfl rfl rfl ?_
        refine s_rd (r_cload Tryd.isAgg25 rfl (j := 0) rfl rfl) rfl ?_
        refine s_on rfl rfl rfl ?_
        refine mv1 rfl rfl ?_
        refine s_on rfl rfl rfl ?_
        refine pull fun t12 h_t12 => ?_
        refine s_rd (r_index h_t12 Tryd.underlying25 el_56 rfl rfl) rfl ?_
        refine s_on rfl rfl rfl ?_
        refine s_rd (r_fea (fo := 1) (ρ := rT_api_Pair) (y := t12) (ρ' := (rI .i64)) (z := t12.To) Tryd.underlying56 rfl rfl Tryd.sizeOf3 rfl rfl rfl) rfl ?_
        refine s_on rfl rfl rfl ?_
        refine s_rd (r_load el_3 rfl) rfl ?_
        refine s_on rfl rfl rfl ?_
        refine mv1 rfl rfl ?_
        refine s_on rfl rfl rfl ?_
        refine s_rd (r_eql rfl rfl) rfl ?_
        refine s_rd (r_pickT rfl rfl) rfl ?_
        refine l_nil (n_then ?_)
        refine ref_cond rfl (fun hb13 => ?_) (fun hb13 => ?_)
        · refine ref_seq (ref_region ?_)
          refine as1 rfl rfl ?_
          refine l_nil (n_then (ref_ret (r_block (r_then ?_))))
          refine retX ?_
          refine r_block (r_then ?_)
          exact fin1 (.inl rfl) () [] rfl trivial rfl (rv_tmp rfl)
        refine ref_skip (n_block (n_then (ref_region ?_)))
        refine mv1 rfl rfl ?_
        refine s_rd (r_add rfl rfl) rfl ?_
        refine as1 rfl rfl ?_
        refine l_nil ?_
        exact goX () (weak [0] ⟨rfl, rfl, rfl, rfl, trivial⟩ ⟨rfl, trivial⟩)
      refine s_off rfl rfl rfl rfl rfl ?_
      refine s_off rfl rfl rfl rfl rfl ?_
      refine s_off rfl rfl rfl rfl rfl ?_
      refine s_off rfl rfl rfl rfl rfl ?_
      refine s_off rfl rfl rfl rfl rfl ?_
      refine s_off rfl rfl rfl rfl rfl ?_
      refine s_off rfl rfl rfl rfl rfl ?_
      refine s_off rfl rfl rfl rfl rfl ?_
      refine s_rd (r_pickF rfl rfl) rfl ?_
      refine l_nil (n_then ?_)
      refine ref_condF rfl rfl ?_
      refine ref_skip (n_block (n_then (ref_region ?_)))
      refine mv1 rfl rfl ?_
      refine s_rd (r_add rfl rfl) rfl ?_
      refine as1 rfl rfl ?_
      refine l_nil ?_
      exact goX () (weak [0] ⟨rfl, rfl, rfl, rfl, trivial⟩ ⟨rfl, trivial⟩)
    refine ref_exit (x_then ?_)
    exact brkX () (weak [] trivial trivial)
  refine n_then (ref_seq (ref_region ?_))
  refine as1 rfl rfl ?_
  refine l_nil (n_then (ref_ret ?_))
  exact fin1 (.inl rfl) () [] rfl trivial rfl (rv_tmp rfl)

/-! deliberation/degree.weighs$1 -/
noncomputable def degree_weighs_1_m (w__0 : Int) : Option (Bool) :=
  bif decide (w__0 < 0) then
    some true
  else
    letM (decide (w__0 > 1000)) fun t1 =>
    some t1

theorem degree_weighs_1_ok {w__0 : Int} {r : Bool} (hm : degree_weighs_1_m w__0 = some r) :
    FnOk prog 72 [iv .i64 w__0] [] (fun (x : Unit) => [bv r]) (fun (x : Unit) => []) := by
  refine fn_ok (fn := Tryd.f72) (N := 9) (res := fun r x => [bv r]) (Ω1 := fun r x => []) Tryd.func72 rfl rfl hm rfl (fun E hM => ?_)
  unfold degree_weighs_1_m
  refine ref_seq (ref_region ?_)
  refine as1 rfl rfl ?_
  refine l_nil (n_then (ref_seq (ref_region ?_)))
  refine mv1 rfl rfl ?_
  refine s_rd (r_lss rfl rfl) rfl ?_
  refine mv1 rfl rfl ?_
  refine b_split (t := 5) rfl (fun _ => ?_) (fun _ => ?_)
  · refine s_off rfl rfl rfl rfl rfl ?_
    refine s_off rfl rfl rfl rfl rfl ?_
    refine s_rd (r_pickT rfl rfl) rfl ?_
    refine as1 rfl rfl ?_
    refine l_nil (n_then (ref_ret ?_))
    exact fin1 (.inl rfl) () [] rfl trivial rfl (rv_tmp rfl)
  refine s_on rfl rfl rfl ?_
  refine mv1 rfl rfl ?_
  refine s_on rfl rfl rfl ?_
  refine s_rd (r_gtr rfl rfl) rfl ?_
  refine s_rd (r_pickF rfl rfl) rfl ?_
  refine as1 rfl rfl ?_
  refine b_let (f := bv) (t := 2) rfl fun t1 => ?_
  refine l_nil (n_then (ref_ret ?_))
  exact fin1 (.inl rfl) () [] rfl trivial rfl (rv_tmp rfl)

/-! slices.IndexFunc[[]int,int] -/
noncomputable def slices_IndexFunc_int_int_l1 (s_0 : (List Int)) (s7 : Int) : Option (Sum ((Sum (Int) (Unit))) (Int)) :=
  bif decide (s7 < (s_0.length : Int)) then
    Option.bind (idxM s_0 s7) fun t10 =>
    Option.bind (degree_weighs_1_m t10) fun t11 =>
    bif t11 then
      some (Sum.inl (Sum.inl s7))
    else
      some (Sum.inr (iadd .i64 s7 1))
  else
    some (Sum.inl (Sum.inr ()))

noncomputable def slices_IndexFunc_int_int_m (s_0 : (List Int)) : Option (Int) :=
  Option.bind (loopC (slices_IndexFunc_int_int_l1 s_0) 0) (sumK (fun a : Int => some a) fun q13 : Unit =>
    some (-1))

theorem slices_IndexFunc_int_int_ok {s_0 : (List Int)} {r : Int} (hm : slices_IndexFunc_int_int_m s_0 = some r) :
    FnOk prog 86 [slv (rI .i64) s_0, pv (.func (.func 72) #[] #[])] [] (fun (x : Unit) => [iv .i64 r]) (fun (x : Unit) => []) := by
  refine fn_ok (fn := Tryd.f86) (N := 19) (res := fun r x => [iv .i64 r]) (Ω1 := fun r x => []) Tryd.func86 rfl rfl hm rfl (fun E hM => ?_)
  unfold slices_IndexFunc_int_int_m
  refine ref_seq (ref_region ?_)
  refine as1 rfl rfl ?_
  refine l_nil (n_then (ref_seq (ref_seq (ref_region ?_))))
  refine mv1 rfl rfl ?_
  refine s_rd (r_len Tryd.underlying22 rfl) rfl ?_
  refine mv1 rfl rfl ?_
  refine l_nil (n_then ?_)
  refine ref_loopX (f := (slices_IndexFunc_int_int_l1 s_0)) (Γl := (fun (s7 : Int) (x8 : Unit) => [(0, slv (rI .i64) s_0), (1, pv (.func (.func 72) #[] #[])), (7, iv .i64 (s_0.length : Int)), (8, iv .i64 s7)])) (Ωl := (fun (s7 : Int) (x8 : Unit) => [])) (Γb := (fun (q13 : Unit) (y14 : Unit) => [(1, pv (.func (.func 72) #[] #[]))])) (Ωb := (fun (q13 : Unit) (y14 : Unit) => [])) (kr := (fun a : Int => some a)) 0 () (weak [] ⟨rfl, rfl, rfl, rfl, trivial⟩ trivial) (fun s7 x8 => ?_) (fun q13 y14 => ?_)
  · unfold slices_IndexFunc_int_int_l1
    refine ref_seq (ref_region ?_)
    refine s_rd (r_lss rfl rfl) rfl ?_
    refine l_nil (n_then (ref_seq ?_))
    refine ref_cond rfl (fun hb9 => ?_) (fun hb9 => ?_)
    · refine ref_skip (n_then (ref_seq (ref_block (ref_seq (ref_region ?_)))))
      refine mv1 rfl rfl ?_
      refine as1 rfl rfl ?_
      refine l_nil (n_then (ref_seq (ref_region ?_)))
      refine mv1 rfl rfl ?_
      refine mv1 rfl rfl ?_
      refine mv1 rfl rfl ?_
      refine pull fun t10 h_t10 => ?_
      refine s_rd (r_index h_t10 Tryd.underlying22 el_3 rfl rfl) rfl ?_
      refine s_rd (r_load el_3 rfl) rfl ?_
      refine pull fun t11 h_t11 => ?_
      refine s_st (s_call (ψ := fun (_ : Unit) => bv t11) (args := [.tmp 15]) Tryd.call72 rfl (degree_weighs_1_ok h_t11) ⟨arg rfl, trivial⟩ (fun _ _ _ _ h => h)) rfl (fun _ => ?_)
      refine l_nil (n_then ?_)
      refine ref_cond rfl (fun hb12 => ?_) (fun hb12 => ?_)
      · refine ref_seq (ref_region ?_)
        refine mv1 rfl rfl ?_
        refine as1 rfl rfl ?_
        refine l_nil (n_then (ref_ret (r_block (r_then ?_))))
        refine retX ?_
        refine r_block (r_then ?_)
        exact fin1 (.inl rfl) () [] rfl trivial rfl (rv_tmp rfl)
      refine ref_skip (n_block (n_then (ref_region ?_)))
      refine s_rd (r_add rfl rfl) rfl ?_
      refine mv1 rfl rfl ?_
      refine l_nil ?_
      exact goX () (weak [] ⟨rfl, rfl, rfl, rfl, trivial⟩ trivial)
    refine ref_exit (x_then ?_)
    exact brkX () (weak [] ⟨rfl, trivial⟩ trivial)
  refine n_then (ref_seq (ref_region ?_))
  refine as1 rfl rfl ?_
  refine l_nil (n_then (ref_ret ?_))
  exact fin1 (.inl rfl) () [] rfl trivial rfl (rv_tmp rfl)

/-! slices.ContainsFunc[[]int,int] -/
noncomputable def slices_ContainsFunc_int_int_m (s_0 : (List Int)) : Option (Bool) :=
  Option.bind (slices_IndexFunc_int_int_m s_0) fun t1 =>
  letM (decide (t1 ≥ 0)) fun t2 =>
  some t2

theorem slices_ContainsFunc_int_int_ok {s_0 : (List Int)} {r : Bool} (hm : slices_ContainsFunc_int_int_m s_0 = some r) :
    FnOk prog 71 [slv (rI .i64) s_0, pv (.func (.func 72) #[] #[])] [] (fun (x : Unit) => [bv r]) (fun (x : Unit) => []) := by
  refine fn_ok (fn := Tryd.f71) (N := 9) (res := fun r x => [bv r]) (Ω1 := fun r x => []) Tryd.func71 rfl rfl hm rfl (fun E hM => ?_)
  unfold slices_ContainsFunc_int_int_m
  refine ref_seq (ref_region ?_)
  refine as1 rfl rfl ?_
  refine l_nil (n_then (ref_seq (ref_region ?_)))
  refine mv1 rfl rfl ?_
  refine mv1 rfl rfl ?_
  refine pull fun t1 h_t1 => ?_
  refine s_st (s_call (ψ := fun (_ : Unit) => iv .i64 t1) (args := [.tmp 5, .tmp 6]) Tryd.call86 rfl (slices_IndexFunc_int_int_ok h_t1) ⟨arg rfl, arg rfl, trivial⟩ (fun _ _ _ _ h => h)) rfl (fun _ => ?_)
  refine s_rd (r_geq rfl rfl) rfl ?_
  refine as1 rfl rfl ?_
  refine b_let (f := bv) (t := 4) rfl fun t2 => ?_
  refine l_nil (n_then (ref_ret ?_))
  exact fin1 (.inl rfl) () [] rfl trivial rfl (rv_tmp rfl)

/-! deliberation/degree.weighs -/
noncomputable def degree_weighs_m (g_0 : T_api_Graph) (weights_1 : (List Int)) : Option (Bool) :=
  bif (weights_1.length : Int) == (g_0.L.length : Int) then
    Option.bind (slices_ContainsFunc_int_int_m weights_1) fun t2 =>
    some (!t2)
  else
    some false

theorem degree_weighs_ok {g_0 : T_api_Graph} {weights_1 : (List Int)} {r : Bool} (hm : degree_weighs_m g_0 weights_1 = some r) :
    FnOk prog 37 [ag [iv .i64 g_0.N, slv rT_api_Pair g_0.L], slv (rI .i64) weights_1] [] (fun (x : Unit) => [bv r]) (fun (x : Unit) => []) := by
  refine fn_ok (fn := Tryd.f37) (N := 16) (res := fun r x => [bv r]) (Ω1 := fun r x => []) Tryd.func37 rfl rfl hm rfl (fun E hM => ?_)
  unfold degree_weighs_m
  refine ref_seq (ref_region ?_)
  refine s_st (s_box (part_agO (ψs := [iv .i64 g_0.N, slv rT_api_Pair g_0.L]) rfl ⟨.inl iv_at, .inl slv_at, trivial⟩)) rfl (fun b1 => ?_)
  refine as1 rfl rfl ?_
  refine l_nil (n_then (ref_seq (ref_region ?_)))
  refine mv1 rfl rfl ?_
  refine s_rd (r_len Tryd.underlying22 rfl) rfl ?_
  refine s_rd (r_faddr (fo := 1) Tryd.underlying27 rfl rfl Tryd.sizeOf25 rfl) rfl ?_
  refine s_rd (r_cload Tryd.isAgg25 rfl (j := 0) rfl rfl) rfl ?_
  refine s_rd (r_len Tryd.underlying25 rfl) rfl ?_
  refine s_rd (r_eql rfl rfl) rfl ?_
  refine mv1 rfl rfl ?_
  refine b_split (t := 11) rfl (fun _ => ?_) (fun _ => ?_)
  · refine s_on rfl rfl rfl ?_
    refine mv1 rfl rfl ?_
    refine s_on rfl rfl rfl ?_
    refine pull fun t2 h_t2 => ?_
    refine s_st (s_call (ψ := fun (_ : Unit) => bv t2) (args := [.tmp 12, .func 72]) Tryd.call71 rfl (slices_ContainsFunc_int_int_ok h_t2) ⟨arg rfl, arg rfl, trivial⟩ (fun _ _ _ _ h => h)) rfl (fun _ => ?_)
    refine s_on rfl rfl rfl ?_
    refine s_rd (r_not rfl) rfl ?_
    refine s_rd (r_pickT rfl rfl) rfl ?_
    refine as1 rfl rfl ?_
    refine l_nil (n_then (ref_ret ?_))
    exact fin1 (.inl rfl) () [] rfl trivial rfl (rv_tmp rfl)
  refine s_off rfl rfl rfl rfl rfl ?_
  refine s_off rfl rfl rfl rfl rfl ?_
  refine s_off rfl rfl rfl rfl rfl ?_
  refine s_rd (r_pickF rfl rfl) rfl ?_
  refine as1 rfl rfl ?_
  refine l_nil (n_then (ref_ret ?_))
  exact fin1 (.inl rfl) () [] rfl trivial rfl (rv_tmp rfl)

/-! slices.Compare[[]int,int] -/
noncomputable def slices_Compare_int_int_l1 (s1_0 : (List Int)) (s2_1 : (List Int)) (s9 : Int) : Option (Sum ((Sum (Int) (Unit))) (Int)) :=
  bif decide (s9 < (s1_0.length : Int)) then
    Option.bind (idxM s1_0 s9) fun v112 =>
    bif decide (s9 ≥ (s2_1.length : Int)) then
      some (Sum.inl (Sum.inl 1))
    else
      Option.bind (idxM s2_1 s9) fun v214 =>
      Option.bind (cmp_Compare_int_m v112 v214) fun c15 =>
      bif c15 != 0 then
        some (Sum.inl (Sum.inl c15))
      else
        some (Sum.inr (iadd .i64 s9 1))
  else
    some (Sum.inl (Sum.inr ()))

noncomputable def slices_Compare_int_int_m (s1_0 : (List Int)) (s2_1 : (List Int)) : Option (Int) :=
  Option.bind (loopC (slices_Compare_int_int_l1 s1_0 s2_1) 0) (sumK (fun a : Int => some a) fun q17 : Unit =>
    bif decide ((s1_0.length : Int) < (s2_1.length : Int)) then
      some (-1)
    else
      some 0)

theorem slices_Compare_int_int_ok {s1_0 : (List Int)} {s2_1 : (List Int)} {r : Int} (hm : slices_Compare_int_int_m s1_0 s2_1 = some r) :
    FnOk prog 38 [slv (rI .i64) s1_0, slv (rI .i64) s2_1] [] (fun (x : Unit) => [iv .i64 r]) (fun (x : Unit) => []) := by
  refine fn_ok (fn := Tryd.f38) (N := 36) (res := fun r x => [iv .i64 r]) (Ω1 := fun r x => []) Tryd.func38 rfl rfl hm rfl (fun E hM => ?_)
  unfold slices_Compare_int_int_m
  refine ref_seq (ref_region ?_)
  refine as1 rfl rfl ?_
  refine l_nil (n_then (ref_seq (ref_seq (ref_region ?_))))
  refine mv1 rfl rfl ?_
  refine s_rd (r_len Tryd.underlying22 rfl) rfl ?_
  refine mv1 rfl rfl ?_
  refine l_nil (n_then ?_)
  refine ref_loopX (f := (slices_Compare_int_int_l1 s1_0 s2_1)) (Γl := (fun (s9 : Int) (x10 : Unit) => [(0, slv (rI .i64) s1_0), (1, slv (rI .i64) s2_1), (9, slv (rI .i64) s1_0), (10, iv .i64 (s1_0.length : Int)), (11, iv .i64 s9)])) (Ωl := (fun (s9 : Int) (x10 : Unit) => [])) (Γb := (fun (q17 : Unit) (y18 : Unit) => [(0, slv (rI .i64) s1_0), (1, slv (rI .i64) s2_1)])) (Ωb := (fun (q17 : Unit) (y18 : Unit) => [])) (kr := (fun a : Int => some a)) 0 () (weak [] ⟨rfl, rfl, rfl, rfl, rfl, trivial⟩ trivial) (fun s9 x10 => ?_) (fun q17 y18 => ?_)
  · unfold slices_Compare_int_int_l1
    refine ref_seq (ref_region ?_)
    refine s_rd (r_lss rfl rfl) rfl ?_
    refine l_nil (n_then (ref_seq ?_))
    refine ref_cond rfl (fun hb11 => ?_) (fun hb11 => ?_)
    · refine ref_skip (n_then (ref_seq (ref_block (ref_seq (ref_region ?_)))))
      refine mv1 rfl rfl ?_
      refine pull fun v112 h_v112 => ?_
      refine s_rd (r_index h_v112 Tryd.underlying22 el_3 rfl rfl) rfl ?_
      refine s_rd (r_load el_3 rfl) rfl ?_
      refine as1 rfl rfl ?_
      refine as1 rfl rfl ?_
      refine l_nil (n_then (ref_seq (ref_seq (ref_region ?_))))
      refine mv1 rfl rfl ?_
      refine mv1 rfl rfl ?_
      refine s_rd (r_len Tryd.underlying22 rfl) rfl ?_
      refine s_rd (r_geq rfl rfl) rfl ?_
      refine l_nil (n_then ?_)
      refine ref_cond rfl (fun hb13 => ?_) (fun hb13 => ?_)
      · refine ref_seq (ref_region ?_)
        refine as1 rfl rfl ?_
        refine l_nil (n_then (ref_ret (r_then (r_block (r_then ?_)))))
        refine retX ?_
        refine r_block (r_then ?_)
        exact fin1 (.inl rfl) () [] rfl trivial rfl (rv_tmp rfl)
      refine ref_skip (n_then (ref_seq (ref_region ?_)))
      refine mv1 rfl rfl ?_
      refine mv1 rfl rfl ?_
      refine pull fun v214 h_v214 => ?_
      refine s_rd (r_index h_v214 Tryd.underlying22 el_3 rfl rfl) rfl ?_
      refine s_rd (r_load el_3 rfl) rfl ?_
      refine as1 rfl rfl ?_
      refine l_nil (n_then (ref_seq (ref_region ?_)))
      refine mv1 rfl rfl ?_
      refine mv1 rfl rfl ?_
      refine pull fun c15 h_c15 => ?_
      refine s_st (s_call (ψ := fun (_ : Unit) => iv .i64 c15) (args := [.tmp 24, .tmp 25]) Tryd.call73 rfl (cmp_Compare_int_ok h_c15) ⟨arg rfl, arg rfl, trivial⟩ (fun _ _ _ _ h => h)) rfl (fun _ => ?_)
      refine as1 rfl rfl ?_
      refine l_nil (n_then (ref_seq (ref_region ?_)))
      refine mv1 rfl rfl ?_
      refine s_rd (r_neq rfl rfl) rfl ?_
      refine l_nil (n_then ?_)
      refine ref_cond rfl (fun hb16 => ?_) (fun hb16 => ?_)
      · refine ref_seq (ref_region ?_)
        refine mv1 rfl rfl ?_
        refine as1 rfl rfl ?_
        refine l_nil (n_then (ref_ret (r_block (r_then ?_))))
        refine retX ?_
        refine r_block (r_then ?_)
        exact fin1 (.inl rfl) () [] rfl trivial rfl (rv_tmp rfl)
      refine ref_skip (n_block (n_then (ref_region ?_)))
      refine s_rd (r_add rfl rfl) rfl ?_
      refine mv1 rfl rfl ?_
      refine l_nil ?_
      exact goX () (weak [] ⟨rfl, rfl, rfl, rfl, rfl, trivial⟩ trivial)
    refine ref_exit (x_then ?_)
    exact brkX () (weak [] ⟨rfl, rfl, trivial⟩ trivial)
  refine n_then (ref_seq (ref_seq (ref_region ?_)))
  refine mv1 rfl rfl ?_
  refine s_rd (r_len Tryd.underlying22 rfl) rfl ?_
  refine mv1 rfl rfl ?_
  refine s_rd (r_len Tryd.underlying22 rfl) rfl ?_
  refine s_rd (r_lss rfl rfl) rfl ?_
  refine l_nil (n_then ?_)
  refine ref_cond rfl (fun hb19 => ?_) (fun hb19 => ?_)
  · refine ref_seq (ref_region ?_)
    refine as1 rfl rfl ?_
    refine l_nil (n_then (ref_ret (r_then ?_)))
    exact fin1 (.inl rfl) () [] rfl trivial rfl (rv_tmp rfl)
  refine ref_skip (n_then (ref_seq (ref_region ?_)))
  refine as1 rfl rfl ?_
  refine l_nil (n_then (ref_ret ?_))
  exact fin1 (.inl rfl) () [] rfl trivial rfl (rv_tmp rfl)

/-! (deliberation/network.Net).Hit -/
noncomputable def network_Net_Hit_l1 (n_0 : T_network_Net) (t2 : List Int) (s9 : Int × Int) : Option (Sum (Int) (Int × Int)) :=
  bif decide (s9.2 < (t2.length : Int)) then
    Option.bind (idxM t2 s9.2) fun i12 =>
    Option.bind (idxM n_0.Out i12) fun t13 =>
    letM (ior .u64 s9.1 t13) fun out14 =>
    some (Sum.inr (out14, iadd .i64 s9.2 1))
  else
    some (Sum.inl s9.1)

noncomputable def network_Net_Hit_m (n_0 : T_network_Net) (s_1 : Int) : Option (Int) :=
  Option.bind (network_Set_List_m s_1) fun t2 =>
  Option.bind (loopC (network_Net_Hit_l1 n_0 t2) (0, 0)) fun q15 : Int =>
  some q15

theorem network_Net_Hit_ok {n_0 : T_network_Net} {s_1 : Int} {r : Int} (hm : network_Net_Hit_m n_0 s_1 = some r) :
    FnOk prog 66 [ag [iv .u64 n_0.All, slv (rI .u64) n_0.By, slv (rI .u64) n_0.Out], iv .u64 s_1] [tbO (rI .u8) 0 tab_0] (fun (x : Unit) => [iv .u64 r]) (fun (x : Unit) => [tbO (rI .u8) 0 tab_0]) := by
  refine fn_ok (fn := Tryd.f66) (N := 24) (res := fun r x => [iv .u64 r]) (Ω1 := fun r x => [tbO (rI .u8) 0 tab_0]) Tryd.func66 rfl rfl hm rfl (fun E hM => ?_)
  unfold network_Net_Hit_m
  refine ref_seq (ref_region ?_)
  refine s_st (s_box (part_agO (ψs := [iv .u64 n_0.All, slv (rI .u64) n_0.By, slv (rI .u64) n_0.Out]) rfl ⟨.inl iv_at, .inl slv_at, .inl slv_at, trivial⟩)) rfl (fun b1 => ?_)
  refine as1 rfl rfl ?_
  refine l_nil (n_then (ref_seq (ref_region ?_)))
  refine as1 rfl rfl ?_
  refine l_nil (n_then (ref_seq (ref_seq (ref_region ?_))))
  refine mv1 rfl rfl ?_
  refine pull fun t2 h_t2 => ?_
  refine s_st (s_callC [0] [true] (fun (x3 : (Value × List Nat)) => [tbO (rI .u8) 0 tab_0]) (fun (x3 : (Value × List Nat)) => [oa (rI .i64) x3.1 x3.2 t2]) (fun (x3 : (Value × List Nat)) => pv x3.1) (args := [.tmp 8]) (caps := []) Tryd.call48 rfl (network_Set_List_ok h_t2) ⟨rfl, rfl, trivial⟩ (fun _ => rfl) (fun _ => trivial) (fun _ => rfl) ⟨arg rfl, trivial⟩ (fun _ _ _ _ h => h)) rfl (fun x3 => ?_)
  refine s_rd (r_olen Tryd.underlying22 rfl (j := 2) rfl) rfl ?_
  refine mv1 rfl rfl ?_
  refine l_nil (n_then ?_)
  refine ref_loopB (f := (network_Net_Hit_l1 n_0 t2)) (Γl := (fun (s9 : Int × Int) (x10 : Unit) => [(2, pv (ptr b1 0)), (5, iv .u64 s9.1), (9, pv x3.1), (10, iv .i64 (t2.length : Int)), (11, iv .i64 s9.2)])) (Ωl := (fun (s9 : Int × Int) (x10 : Unit) => [tbO (rI .u8) 0 tab_0, oc b1 [iv .u64 n_0.All, slv (rI .u64) n_0.By, slv (rI .u64) n_0.Out], oa (rI .i64) x3.1 x3.2 t2])) (Γb := (fun (q15 : Int) (y16 : Unit) => [(5, iv .u64 q15)])) (Ωb := (fun (q15 : Int) (y16 : Unit) => [tbO (rI .u8) 0 tab_0])) (0, 0) () (weak [0, 1, 2] ⟨rfl, rfl, rfl, rfl, rfl, trivial⟩ ⟨rfl, rfl, rfl, trivial⟩) (fun s9 x10 => ?_) (fun q15 y16 => ?_)
  · unfold network_Net_Hit_l1
    refine ref_seq (ref_region ?_)
    refine s_rd (r_lss rfl rfl) rfl ?_
    refine l_nil (n_then (ref_seq ?_))
    refine ref_cond rfl (fun hb11 => ?_) (fun hb11 => ?_)
    · refine ref_skip (n_then (ref_seq (ref_block (ref_seq (ref_region ?_)))))
      refine pull fun i12 h_i12 => ?_
      refine s_rd (r_oindex h_i12 Tryd.underlying22 el_3 rfl (j := 2) rfl rfl) rfl ?_
      refine s_rd (r_oload h_i12 el_3 rfl (j := 2) rfl) rfl ?_
      refine as1 rfl rfl ?_
      refine l_nil (n_then (ref_region ?_))
      refine mv1 rfl rfl ?_
      refine s_rd (r_faddr (fo := 2) Tryd.underlying80 rfl rfl Tryd.sizeOf78 rfl) rfl ?_
      refine s_rd (r_cload Tryd.isAgg78 rfl (j := 1) rfl rfl) rfl ?_
      refine mv1 rfl rfl ?_
      refine pull fun t13 h_t13 => ?_
      refine s_rd (r_index h_t13 Tryd.underlying78 el_77 rfl rfl) rfl ?_
      refine s_rd (r_load el_77 rfl) rfl ?_
      refine s_rd (r_or rfl rfl) rfl ?_
      refine as1 rfl rfl ?_
      refine b_let (f := iv .u64) (t := 5) rfl fun out14 => ?_
      refine l_nil (n_block (n_then (ref_region ?_)))
      refine s_rd (r_add rfl rfl) rfl ?_
      refine mv1 rfl rfl ?_
      refine l_nil ?_
      exact goB () (weak [0, 1, 2] ⟨rfl, rfl, rfl, rfl, rfl, trivial⟩ ⟨rfl, rfl, rfl, trivial⟩)
    refine ref_exit (x_then ?_)
    exact brkB () (weak [0] ⟨rfl, trivial⟩ ⟨rfl, trivial⟩)
  refine n_then (ref_seq (ref_region ?_))
  refine mv1 rfl rfl ?_
  refine as1 rfl rfl ?_
  refine l_nil (n_then (ref_ret ?_))
  exact fin1 (.inl rfl) () [0] rfl ⟨rfl, trivial⟩ rfl (rv_tmp rfl)

/-! (deliberation/network.Net).Grounded -/
noncomputable def network_Net_Grounded_l2 (n_0 : T_network_Net) (out52 : Int) (t53 : List Int) (s62 : Int × Int) : Option (Sum (Int) (Int × Int)) :=
  bif decide (s62.2 < (t53.length : Int)) then
    Option.bind (idxM t53 s62.2) fun i65 =>
    Option.bind (idxM n_0.By i65) fun t66 =>
    bif (iandn .u64 t66 out52) == 0 then
      Option.bind (network_Set_With_m s62.1 i65) fun next68 =>
      some (Sum.inr (next68, iadd .i64 s62.2 1))
    else
      some (Sum.inr (s62.1, iadd .i64 s62.2 1))
  else
    some (Sum.inl s62.1)

noncomputable def network_Net_Grounded_l1 (n_0 : T_network_Net) (s50 : Int × (List Int)) : Option (Sum (List Int) (Int × (List Int))) :=
  Option.bind (network_Net_Hit_m n_0 s50.1) fun out52 =>
  Option.bind (network_Set_List_m n_0.All) fun t53 =>
  Option.bind (loopC (network_Net_Grounded_l2 n_0 out52 t53) (s50.1, 0)) fun q69 : Int =>
  bif q69 == s50.1 then
    some (Sum.inl s50.2)
  else
    Option.bind (appM 8 s50.2 [q69]) fun rounds72 =>
    some (Sum.inr (q69, rounds72))

noncomputable def network_Net_Grounded_m (n_0 : T_network_Net) : Option (List Int) :=
  Option.bind (loopC (network_Net_Grounded_l1 n_0) (0, [])) (fun a : List Int => some a)

theorem network_Net_Grounded_ok {n_0 : T_network_Net} {r : List Int} (hm : network_Net_Grounded_m n_0 = some r) :
    FnOk prog 75 [ag [iv .u64 n_0.All, slv (rI .u64) n_0.By, slv (rI .u64) n_0.Out]] [tbO (rI .u8) 0 tab_0] (fun (x : (Value × List Nat)) => [pv x.1]) (fun (x : (Value × List Nat)) => [tbO (rI .u8) 0 tab_0, oa (rI .u64) x.1 x.2 r]) := by
  refine fn_ok (X := (Value × List Nat)) (fn := Tryd.f75) (N := 42) (res := fun r x => [pv x.1]) (Ω1 := fun r x => [tbO (rI .u8) 0 tab_0, oa (rI .u64) x.1 x.2 r]) Tryd.func75 rfl rfl hm rfl (fun E hM => ?_)
  unfold network_Net_Grounded_m
  refine ref_seq (ref_region ?_)
  refine s_st (s_box (part_agO (ψs := [iv .u64 n_0.All, slv (rI .u64) n_0.By, slv (rI .u64) n_0.Out]) rfl ⟨.inl iv_at, .inl slv_at, .inl slv_at, trivial⟩)) rfl (fun b1 => ?_)
  refine as1 rfl rfl ?_
  refine l_nil (n_then (ref_seq (ref_region ?_)))
  refine as1 rfl rfl ?_
  refine l_nil (n_then (ref_seq (ref_region ?_)))
  refine as1 rfl rfl ?_
  refine l_nil (n_then ?_)
  refine b_of (own_nil (rI .u64)) ?_
  refine ref_block (ref_loop (f := (network_Net_Grounded_l1 n_0)) (Γl := (fun (s50 : Int × (List Int)) (x51 : (Value × List Nat)) => [(1, pv (ptr b1 0)), (3, pv x51.1), (4, iv .u64 s50.1)])) (Ωl := (fun (s50 : Int × (List Int)) (x51 : (Value × List Nat)) => [tbO (rI .u8) 0 tab_0, oc b1 [iv .u64 n_0.All, slv (rI .u64) n_0.By, slv (rI .u64) n_0.Out], oa (rI .u64) x51.1 x51.2 s50.2])) (k := (fun a : List Int => some a)) (0, []) ((.slice none 0 0), []) (weak [0, 1, 2] ⟨rfl, rfl, rfl, trivial⟩ ⟨rfl, rfl, rfl, trivial⟩) (fun s50 x51 => ?_))
  · unfold network_Net_Grounded_l1
    refine ref_block (ref_seq (ref_region ?_))
    refine s_rd (r_cloadS Tryd.isAgg80 Tryd.sizeOf80 rfl (j := 1) rfl rfl rfl) rfl ?_
    refine mv1 rfl rfl ?_
    refine pull fun out52 h_out52 => ?_
    refine s_st (s_callC [0] [true] (fun (_ : Unit) => [tbO (rI .u8) 0 tab_0]) (fun (_ : Unit) => []) (fun (_ : Unit) => iv .u64 out52) (args := [.tmp 9, .tmp 10]) (caps := []) Tryd.call66 rfl (network_Net_Hit_ok h_out52) ⟨rfl, rfl, trivial⟩ (fun _ => rfl) (fun _ => trivial) (fun _ => rfl) ⟨arg rfl, arg rfl, trivial⟩ (fun _ _ _ _ h => h)) rfl (fun _ => ?_)
    refine mv1 rfl rfl ?_
    refine as1 rfl rfl ?_
    refine as1 rfl rfl ?_
    refine l_nil (n_then (ref_seq (ref_seq (ref_region ?_))))
    refine s_rd (r_faddr (fo := 0) Tryd.underlying80 rfl rfl Tryd.sizeOf77 rfl) rfl ?_
    refine s_rd (r_cload Tryd.isAgg77 rfl (j := 1) rfl rfl) rfl ?_
    refine pull fun t53 h_t53 => ?_
    refine s_st (s_callC [0] [true] (fun (x54 : (Value × List Nat)) => [tbO (rI .u8) 0 tab_0]) (fun (x54 : (Value × List Nat)) => [oa (rI .i64) x54.1 x54.2 t53]) (fun (x54 : (Value × List Nat)) => pv x54.1) (args := [.tmp 14]) (caps := []) Tryd.call48 rfl (network_Set_List_ok h_t53) ⟨rfl, rfl, trivial⟩ (fun _ => rfl) (fun _ => trivial) (fun _ => rfl) ⟨arg rfl, trivial⟩ (fun _ _ _ _ h => h)) rfl (fun x54 => ?_)
    refine s_rd (r_olen Tryd.underlying22 rfl (j := 3) rfl) rfl ?_
    refine mv1 rfl rfl ?_
    refine l_nil (n_then ?_)
    refine ref_loopB (f := (network_Net_Grounded_l2 n_0 out52 t53)) (Γl := (fun (s62 : Int × Int) (x63 : Unit) => [(1, pv (ptr b1 0)), (3, pv x51.1), (4, iv .u64 s50.1), (5, iv .u64 out52), (6, iv .u64 s62.1), (15, pv x54.1), (16, iv .i64 (t53.length : Int)), (17, iv .i64 s62.2)])) (Ωl := (fun (s62 : Int × Int) (x63 : Unit) => [tbO (rI .u8) 0 tab_0, oc b1 [iv .u64 n_0.All, slv (rI .u64) n_0.By, slv (rI .u64) n_0.Out], oa (rI .u64) x51.1 x51.2 s50.2, oa (rI .i64) x54.1 x54.2 t53])) (Γb := (fun (q69 : Int) (y70 : Unit) => [(1, pv (ptr b1 0)), (3, pv x51.1), (4, iv .u64 s50.1), (6, iv .u64 q69)])) (Ωb := (fun (q69 : Int) (y70 : Unit) => [oc b1 [iv .u64 n_0.All, slv (rI .u64) n_0.By, slv (rI .u64) n_0.Out], oa (rI .u64) x51.1 x51.2 s50.2, tbO (rI .u8) 0 tab_0])) (s50.1, 0) () (weak [0, 1, 2, 3] ⟨rfl, rfl, rfl, rfl, rfl, rfl, rfl, rfl, trivial⟩ ⟨rfl, rfl, rfl, rfl, trivial⟩) (fun s62 x63 => ?_) (fun q69 y70 => ?_)
    · unfold network_Net_Grounded_l2
      refine ref_seq (ref_region ?_)
      refine s_rd (r_lss rfl rfl) rfl ?_
      refine l_nil (n_then (ref_seq ?_))
      refine ref_cond rfl (fun hb64 => ?_) (fun hb64 => ?_)
      · refine ref_skip (n_then (ref_seq (ref_block (ref_seq (ref_region ?_)))))
        refine pull fun i65 h_i65 => ?_
        refine s_rd (r_oindex h_i65 Tryd.underlying22 el_3 rfl (j := 3) rfl rfl) rfl ?_
        refine s_rd (r_oload h_i65 el_3 rfl (j := 3) rfl) rfl ?_
        refine as1 rfl rfl ?_
        refine l_nil (n_then (ref_seq (ref_region ?_)))
        refine s_rd (r_faddr (fo := 1) Tryd.underlying80 rfl rfl Tryd.sizeOf78 rfl) rfl ?_
        refine s_rd (r_cload Tryd.isAgg78 rfl (j := 1) rfl rfl) rfl ?_
        refine mv1 rfl rfl ?_
        refine pull fun t66 h_t66 => ?_
        refine s_rd (r_index h_t66 Tryd.underlying78 el_77 rfl rfl) rfl ?_
        refine s_rd (r_load el_77 rfl) rfl ?_
        refine mv1 rfl rfl ?_
        refine s_rd (r_andn rfl rfl) rfl ?_
        refine s_rd (r_eql rfl rfl) rfl ?_
        refine l_nil (n_then ?_)
        refine ref_cond rfl (fun hb67 => ?_) (fun hb67 => ?_)
        · refine ref_region ?_
          refine mv1 rfl rfl ?_
          refine mv1 rfl rfl ?_
          refine pull fun next68 h_next68 => ?_
          refine s_st (s_call (ψ := fun (_ : Unit) => iv .u64 next68) (args := [.tmp 29, .tmp 30]) Tryd.call74 rfl (network_Set_With_ok h_next68) ⟨arg rfl, arg rfl, trivial⟩ (fun _ _ _ _ h => h)) rfl (fun _ => ?_)
          refine as1 rfl rfl ?_
          refine l_nil ?_
          refine b_of (nrm [tbO (rI .u8) 0 tab_0, oc b1 [iv .u64 n_0.All, slv (rI .u64) n_0.By, slv (rI .u64) n_0.Out], oa (rI .u64) x51.1 x51.2 s50.2, oa (rI .i64) x54.1 x54.2 t53] rfl) ?_
          refine n_block (n_then (ref_region ?_))
          refine s_rd (r_add rfl rfl) rfl ?_
          refine mv1 rfl rfl ?_
          refine l_nil ?_
          exact goB () (weak [0, 1, 2, 3] ⟨rfl, rfl, rfl, rfl, rfl, rfl, rfl, rfl, trivial⟩ ⟨rfl, rfl, rfl, rfl, trivial⟩)
        refine ref_skip (n_block (n_then (ref_region ?_)))
        refine s_rd (r_add rfl rfl) rfl ?_
        refine mv1 rfl rfl ?_
        refine l_nil ?_
        exact goB () (weak [0, 1, 2, 3] ⟨rfl, rfl, rfl, rfl, rfl, rfl, rfl, rfl, trivial⟩ ⟨rfl, rfl, rfl, rfl, trivial⟩)
      refine ref_exit (x_then ?_)
      exact brkB () (weak [1, 2, 0] ⟨rfl, rfl, rfl, rfl, trivial⟩ ⟨rfl, rfl, rfl, trivial⟩)
    refine n_then (ref_seq (ref_seq (ref_region ?_)))
    refine mv1 rfl rfl ?_
    refine mv1 rfl rfl ?_
    refine s_rd (r_eql rfl rfl) rfl ?_
    refine l_nil (n_then ?_)
    refine ref_cond rfl (fun hb71 => ?_) (fun hb71 => ?_)
    · refine ref_seq (ref_region ?_)
      refine mv1 rfl rfl ?_
      refine as1 rfl rfl ?_
      refine l_nil (n_then (ref_ret (r_then (r_block ?_))))
      refine r_loop ?_
      refine r_block ?_
      exact fin1 (.inl rfl) x51 [2, 1] rfl ⟨rfl, rfl, trivial⟩ rfl (rv_tmp rfl)
    refine ref_skip (n_then (ref_region ?_))
    refine mv1 rfl rfl ?_
    refine mv1 rfl rfl ?_
    refine s_st (s_bslice (xs := [.tmp 38]) (ds := [q69]) Tryd.underlying78 el_77 rfl (Nat.le_of_ble_eq_true rfl) ⟨(part_at rfl iv_at), trivial⟩) rfl (fun _ => ?_)
    refine pull fun rounds72 h_rounds72 => ?_
    refine s_st (s_append h_rounds72 Tryd.underlying78 el_77 rfl (j := 1) rfl rfl) rfl (fun o73 => ?_)
    refine mv1 rfl rfl ?_
    refine as1 rfl rfl ?_
    refine as1 rfl rfl ?_
    refine l_nil (n_block ?_)
    exact n_loop o73 (weak [2, 0, 1] ⟨rfl, rfl, rfl, trivial⟩ ⟨rfl, rfl, rfl, trivial⟩)

/-! (deliberation/network.Net).In -/
noncomputable def network_Net_In_m (n_0 : T_network_Net) : Option (Int) :=
  Option.bind (network_Net_Grounded_m n_0) fun l2 =>
  bif (l2.length : Int) == 0 then
    some 0
  else
    Option.bind (idxM l2 (isub .i64 (l2.length : Int) 1)) fun t5 =>
    some t5

theorem network_Net_In_ok {n_0 : T_network_Net} {r : Int} (hm : network_Net_In_m n_0 = some r) :
    FnOk prog 42 [ag [iv .u64 n_0.All, slv (rI .u64) n_0.By, slv (rI .u64) n_0.Out]] [tbO (rI .u8) 0 tab_0] (fun (x : Unit) => [iv .u64 r]) (fun (x : Unit) => [tbO (rI .u8) 0 tab_0]) := by
  refine fn_ok (fn := Tryd.f42) (N := 15) (res := fun r x => [iv .u64 r]) (Ω1 := fun r x => [tbO (rI .u8) 0 tab_0]) Tryd.func42 rfl rfl hm rfl (fun E hM => ?_)
  unfold network_Net_In_m
  refine ref_seq (ref_region ?_)
  refine s_st (s_box (part_agO (ψs := [iv .u64 n_0.All, slv (rI .u64) n_0.By, slv (rI .u64) n_0.Out]) rfl ⟨.inl iv_at, .inl slv_at, .inl slv_at, trivial⟩)) rfl (fun b1 => ?_)
  refine as1 rfl rfl ?_
  refine l_nil (n_then (ref_seq (ref_region ?_)))
  refine s_rd (r_cloadS Tryd.isAgg80 Tryd.sizeOf80 rfl (j := 1) rfl rfl rfl) rfl ?_
  refine pull fun l2 h_l2 => ?_
  refine s_st (s_callC [0] [true] (fun (x3 : (Value × List Nat)) => [tbO (rI .u8) 0 tab_0]) (fun (x3 : (Value × List Nat)) => [oa (rI .u64) x3.1 x3.2 l2]) (fun (x3 : (Value × List Nat)) => pv x3.1) (args := [.tmp 4]) (caps := []) Tryd.call75 rfl (network_Net_Grounded_ok h_l2) ⟨rfl, rfl, trivial⟩ (fun _ => rfl) (fun _ => trivial) (fun _ => rfl) ⟨arg rfl, trivial⟩ (fun _ _ _ _ h => h)) rfl (fun x3 => ?_)
  refine as1 rfl rfl ?_
  refine l_nil (n_then (ref_seq (ref_seq (ref_region ?_))))
  refine mv1 rfl rfl ?_
  refine s_rd (r_olen Tryd.underlying78 rfl (j := 2) rfl) rfl ?_
  refine s_rd (r_eql rfl rfl) rfl ?_
  refine l_nil (n_then ?_)
  refine ref_cond rfl (fun hb4 => ?_) (fun hb4 => ?_)
  · refine ref_seq (ref_region ?_)
    refine as1 rfl rfl ?_
    refine l_nil (n_then (ref_ret (r_then ?_)))
    exact fin1 (.inl rfl) () [0] rfl ⟨rfl, trivial⟩ rfl (rv_tmp rfl)
  refine ref_skip (n_then (ref_seq (ref_region ?_)))
  refine mv1 rfl rfl ?_
  refine mv1 rfl rfl ?_
  refine s_rd (r_olen Tryd.underlying78 rfl (j := 2) rfl) rfl ?_
  refine s_rd (r_sub rfl rfl) rfl ?_
  refine pull fun t5 h_t5 => ?_
  refine s_rd (r_oindex h_t5 Tryd.underlying78 el_77 rfl (j := 2) rfl rfl) rfl ?_
  refine s_rd (r_oload h_t5 el_77 rfl (j := 2) rfl) rfl ?_
  refine as1 rfl rfl ?_
  refine l_nil (n_then (ref_ret ?_))
  exact fin1 (.inl rfl) () [0] rfl ⟨rfl, trivial⟩ rfl (rv_tmp rfl)

/-! (deliberation/network.Set).Has -/
noncomputable def network_Set_Has_m (s_0 : Int) (node_1 : Int) : Option (Bool) :=
  Option.bind (ishrM .u64 s_0 (IntKind.wrap .u64 node_1)) fun t1 =>
  letM ((iand .u64 t1 1) == 1) fun t2 =>
  some t2

theorem network_Set_Has_ok {s_0 : Int} {node_1 : Int} {r : Bool} (hm : network_Set_Has_m s_0 node_1 = some r) :
    FnOk prog 43 [iv .u64 s_0, iv .i64 node_1] [] (fun (x : Unit) => [bv r]) (fun (x : Unit) => []) := by
  refine fn_ok (fn := Tryd.f43) (N := 11) (res := fun r x => [bv r]) (Ω1 := fun r x => []) Tryd.func43 rfl rfl hm rfl (fun E hM => ?_)
  unfold network_Set_Has_m
  refine ref_seq (ref_region ?_)
  refine as1 rfl rfl ?_
  refine l_nil (n_then (ref_seq (ref_region ?_)))
  refine mv1 rfl rfl ?_
  refine mv1 rfl rfl ?_
  refine s_rd (r_conv (k' := .u64) rfl rfl rfl) rfl ?_
  refine pull fun t1 h_t1 => ?_
  refine s_rd (r_shrM h_t1 rfl rfl) rfl ?_
  refine s_rd (r_and rfl rfl) rfl ?_
  refine s_rd (r_eql rfl rfl) rfl ?_
  refine as1 rfl rfl ?_
  refine b_let (f := bv) (t := 4) rfl fun t2 => ?_
  refine l_nil (n_then (ref_ret ?_))
  exact fin1 (.inl rfl) () [] rfl trivial rfl (rv_tmp rfl)

/-! deliberation/degree.Budget$1 -/
noncomputable def degree_Budget_1_m (i_0 : Int) (p_1 : Int) : Option (Bool) :=
  Option.bind (ishrM .i64 p_1 i_0) fun t1 =>
  letM ((iand .i64 t1 1) == 0) fun t2 =>
  some t2

theorem degree_Budget_1_ok {i_0 : Int} {p_1 : Int} {b_1 : Nat} {r : Bool} (hm : degree_Budget_1_m i_0 p_1 = some r) :
    FnOk prog 41 [iv .i64 i_0, pv (ptr b_1 0)] [oc b_1 [iv .i64 p_1]] (fun (x : Unit) => [bv r]) (fun (x : Unit) => [oc b_1 [iv .i64 p_1]]) := by
  refine fn_ok (fn := Tryd.f41) (N := 9) (res := fun r x => [bv r]) (Ω1 := fun r x => [oc b_1 [iv .i64 p_1]]) Tryd.func41 rfl rfl hm rfl (fun E hM => ?_)
  unfold degree_Budget_1_m
  refine ref_seq (ref_region ?_)
  refine as1 rfl rfl ?_
  refine l_nil (n_then (ref_seq (ref_region ?_)))
  refine s_rd (r_cload Tryd.isAgg3 rfl (j := 0) rfl rfl) rfl ?_
  refine mv1 rfl rfl ?_
  refine pull fun t1 h_t1 => ?_
  refine s_rd (r_shrM h_t1 rfl rfl) rfl ?_
  refine s_rd (r_and rfl rfl) rfl ?_
  refine s_rd (r_eql rfl rfl) rfl ?_
  refine as1 rfl rfl ?_
  refine b_let (f := bv) (t := 3) rfl fun t2 => ?_
  refine l_nil (n_then (ref_ret ?_))
  exact fin1 (.inl rfl) () [0] rfl ⟨rfl, trivial⟩ rfl (rv_tmp rfl)

/-! deliberation/degree.without -/
noncomputable def degree_without_l1 (g_0 : T_api_Graph) (e_0 : Int) (s31 : Int × (List T_api_Pair)) : Option (Sum ((List T_api_Pair)) (Int × (List T_api_Pair))) :=
  bif decide (s31.1 < (g_0.L.length : Int)) then
    Option.bind (idxM g_0.L s31.1) fun t34 =>
    Option.bind (degree_Budget_1_m s31.1 e_0) fun t36 =>
    bif t36 then
      Option.bind (appM 16 s31.2 [t34]) fun t38 =>
      some (Sum.inr (iadd .i64 s31.1 1, t38))
    else
      some (Sum.inr (iadd .i64 s31.1 1, s31.2))
  else
    some (Sum.inl s31.2)

noncomputable def degree_without_m (g_0 : T_api_Graph) (e_0 : Int) : Option (T_api_Graph) :=
  Option.bind (loopC (degree_without_l1 g_0 e_0) (0, [])) fun q40 : (List T_api_Pair) =>
  some (T_api_Graph.mk g_0.N q40)

theorem degree_without_ok {g_0 : T_api_Graph} {e_0 : Int} {be_0 : Nat} {r : T_api_Graph} (hm : degree_without_m g_0 e_0 = some r) :
    FnOk prog 40 [ag [iv .i64 g_0.N, slv rT_api_Pair g_0.L], pv (.func (.func 41) #[] #[(ptr be_0 0)])] [oc be_0 [iv .i64 e_0]] (fun (x : Unit) => [ag [iv .i64 r.N, slv rT_api_Pair r.L]]) (fun (x : Unit) => [oc be_0 [iv .i64 e_0]]) := by
  refine fn_ok (fn := Tryd.f40) (N := 30) (res := fun r x => [ag [iv .i64 r.N, slv rT_api_Pair r.L]]) (Ω1 := fun r x => [oc be_0 [iv .i64 e_0]]) Tryd.func40 rfl rfl hm rfl (fun E hM => ?_)
  unfold degree_without_m
  refine ref_seq (ref_region ?_)
  refine s_st (s_box (part_agO (ψs := [iv .i64 g_0.N, slv rT_api_Pair g_0.L]) rfl ⟨.inl iv_at, .inl slv_at, trivial⟩)) rfl (fun b1 => ?_)
  refine s_st (s_alloc zt_27) rfl (fun b2 => ?_)
  refine l_nil (n_then (ref_seq (ref_region ?_)))
  refine s_rd (r_faddr (fo := 0) Tryd.underlying27 rfl rfl Tryd.sizeOf3 rfl) rfl ?_
  refine s_rd (r_cload Tryd.isAgg3 rfl (j := 1) rfl rfl) rfl ?_
  refine s_rd (r_build (ps := [(0, .tmp 9)]) (rs := [(0, [iv .i64 g_0.N])]) st_27 zs_27 ⟨rfl, (part_at rfl iv_at), trivial⟩ rfl rfl) rfl ?_
  refine s_st (s_alloc zt_27) rfl (fun b3 => ?_)
  refine s_st0 (s_cstore (out := [iv .i64 g_0.N, pv (.slice none 0 0)]) Tryd.sizeOf27 rfl (j := 3) rfl (part_agO (ψs := [iv .i64 g_0.N, pv (.slice none 0 0)]) rfl ⟨.inl iv_at, .inl (pv_at rfl), trivial⟩) rfl rfl rfl) (fun _ => ?_)
  refine l_nil ?_
  refine b_of (nrm [oc be_0 [iv .i64 e_0], oc b1 [iv .i64 g_0.N, slv rT_api_Pair g_0.L], oc b2 [iv .i64 0, pv (.slice none 0 0)], oc b3 [iv .i64 g_0.N, pv (.slice none 0 0)]] rfl) ?_
  refine n_then (ref_seq (ref_seq (ref_region ?_)))
  refine s_rd (r_faddr (fo := 1) Tryd.underlying27 rfl rfl Tryd.sizeOf25 rfl) rfl ?_
  refine s_rd (r_cload Tryd.isAgg25 rfl (j := 1) rfl rfl) rfl ?_
  refine s_rd (r_len Tryd.underlying25 rfl) rfl ?_
  refine mv1 rfl rfl ?_
  refine l_nil (n_then ?_)
  refine b_of (own_nil rT_api_Pair) ?_
  refine ref_loopB (f := (degree_without_l1 g_0 e_0)) (Γl := (fun (s31 : Int × (List T_api_Pair)) (x32 : (Value × List Nat)) => [(1, pv (.func (.func 41) #[] #[(ptr be_0 0)])), (4, pv (ptr b2 0)), (5, pv (ptr b3 0)), (12, slv rT_api_Pair g_0.L), (13, iv .i64 (g_0.L.length : Int)), (14, iv .i64 s31.1)])) (Ωl := (fun (s31 : Int × (List T_api_Pair)) (x32 : (Value × List Nat)) => [oc be_0 [iv .i64 e_0], oc b2 [iv .i64 0, pv (.slice none 0 0)], oc b3 [iv .i64 g_0.N, pv x32.1], oa rT_api_Pair x32.1 x32.2 s31.2])) (Γb := (fun (q40 : (List T_api_Pair)) (y41 : (Value × List Nat)) => [(1, pv (.func (.func 41) #[] #[(ptr be_0 0)])), (4, pv (ptr b2 0)), (5, pv (ptr b3 0))])) (Ωb := (fun (q40 : (List T_api_Pair)) (y41 : (Value × List Nat)) => [oc be_0 [iv .i64 e_0], oc b2 [iv .i64 0, pv (.slice none 0 0)], oc b3 [iv .i64 g_0.N, pv y41.1], oa rT_api_Pair y41.1 y41.2 q40])) (0, []) ((.slice none 0 0), []) (weak [0, 2, 3, 4] ⟨rfl, rfl, rfl, rfl, rfl, rfl, trivial⟩ ⟨rfl, rfl, rfl, rfl, trivial⟩) (fun s31 x32 => ?_) (fun q40 y41 => ?_)
  · unfold degree_without_l1
    refine ref_seq (ref_region ?_)
    refine s_rd (r_lss rfl rfl) rfl ?_
    refine l_nil (n_then (ref_seq ?_))
    refine ref_cond rfl (fun hb33 => ?_) (fun hb33 => ?_)
    · refine ref_skip (n_then (ref_seq (ref_block (ref_seq (ref_region ?_)))))
      refine mv1 rfl rfl ?_
      refine pull fun t34 h_t34 => ?_
      refine s_rd (r_index h_t34 Tryd.underlying25 el_56 rfl rfl) rfl ?_
      refine s_rd (r_load el_56 rfl) rfl ?_
      refine s_st (s_alloc zt_56) rfl (fun b35 => ?_)
      refine as1 rfl rfl ?_
      refine s_st0 (s_cstore (out := [iv .i64 t34.From, iv .i64 t34.To]) Tryd.sizeOf56 rfl (j := 4) rfl (part_agO (ψs := [iv .i64 t34.From, iv .i64 t34.To]) rfl ⟨.inl iv_at, .inl iv_at, trivial⟩) rfl rfl rfl) (fun _ => ?_)
      refine l_nil (n_then (ref_seq (ref_region ?_)))
      refine mv1 rfl rfl ?_
      refine mv1 rfl rfl ?_
      refine pull fun t36 h_t36 => ?_
      refine s_st (s_callC [0] [true] (fun (_ : Unit) => [oc be_0 [iv .i64 e_0]]) (fun (_ : Unit) => []) (fun (_ : Unit) => bv t36) (args := [.tmp 20]) (caps := [(ptr be_0 0)]) Tryd.call41 rfl (degree_Budget_1_ok h_t36) ⟨rfl, rfl, trivial⟩ (fun _ => rfl) (fun _ => trivial) (fun _ => rfl) ⟨arg rfl, arg rfl, trivial⟩ (fun _ _ _ _ h => h)) rfl (fun _ => ?_)
      refine l_nil (n_then ?_)
      refine ref_cond rfl (fun hb37 => ?_) (fun hb37 => ?_)
      · refine ref_region ?_
        refine s_rd (r_faddr (fo := 1) Tryd.underlying27 rfl rfl Tryd.sizeOf25 rfl) rfl ?_
        refine s_rd (r_cload Tryd.isAgg25 rfl (j := 2) rfl rfl) rfl ?_
        refine s_rd (r_cloadS Tryd.isAgg56 Tryd.sizeOf56 rfl (j := 4) rfl rfl rfl) rfl ?_
        refine s_st (s_bslice (xs := [.tmp 24]) (ds := [t34]) Tryd.underlying25 el_56 rfl (Nat.le_of_ble_eq_true rfl) ⟨(part_agO (ψs := [iv .i64 t34.From, iv .i64 t34.To]) rfl ⟨.inl iv_at, .inl iv_at, trivial⟩), trivial⟩) rfl (fun _ => ?_)
        refine pull fun t38 h_t38 => ?_
        refine s_st (s_append h_t38 Tryd.underlying25 el_56 rfl (j := 3) rfl rfl) rfl (fun o39 => ?_)
        refine s_rd (r_faddr (fo := 1) Tryd.underlying27 rfl rfl Tryd.sizeOf25 rfl) rfl ?_
        refine s_st0 (s_cstore (out := [iv .i64 g_0.N, pv o39.1]) Tryd.sizeOf25 rfl (j := 2) rfl (part_own rfl (j := 3) rfl) rfl rfl rfl) (fun _ => ?_)
        refine l_nil ?_
        refine b_of (nrm [oc be_0 [iv .i64 e_0], oc b2 [iv .i64 0, pv (.slice none 0 0)], oc b3 [iv .i64 g_0.N, pv o39.1], oa rT_api_Pair o39.1 o39.2 t38, oc b35 [iv .i64 t34.From, iv .i64 t34.To]] rfl) ?_
        refine n_block (n_then (ref_region ?_))
        refine s_rd (r_add rfl rfl) rfl ?_
        refine mv1 rfl rfl ?_
        refine l_nil ?_
        exact goB o39 (weak [0, 1, 2, 3] ⟨rfl, rfl, rfl, rfl, rfl, rfl, trivial⟩ ⟨rfl, rfl, rfl, rfl, trivial⟩)
      refine ref_skip (n_block (n_then (ref_region ?_)))
      refine s_rd (r_add rfl rfl) rfl ?_
      refine mv1 rfl rfl ?_
      refine l_nil ?_
      exact goB x32 (weak [0, 1, 2, 3] ⟨rfl, rfl, rfl, rfl, rfl, rfl, trivial⟩ ⟨rfl, rfl, rfl, rfl, trivial⟩)
    refine ref_exit (x_then ?_)
    exact brkB x32 (weak [0, 1, 2, 3] ⟨rfl, rfl, rfl, trivial⟩ ⟨rfl, rfl, rfl, rfl, trivial⟩)
  refine n_then (ref_seq (ref_region ?_))
  refine s_rd (r_cloadS Tryd.isAgg27 Tryd.sizeOf27 rfl (j := 2) rfl rfl rfl) rfl ?_
  refine s_st0 (s_cstore (out := [iv .i64 g_0.N, pv y41.1]) Tryd.sizeOf27 rfl (j := 1) rfl (part_agO (ψs := [iv .i64 g_0.N, pv y41.1]) rfl ⟨.inl iv_at, .inr ⟨_, _, _, _, _, 3, rfl, rfl⟩, trivial⟩) rfl rfl rfl) (fun _ => ?_)
  refine l_nil (n_then (ref_ret ?_))
  refine b_of (frzGL [(29, ag [iv .i64 g_0.N, slv rT_api_Pair q40])] [(1, b2, [iv .i64 g_0.N, slv rT_api_Pair q40]), (2, b3, [iv .i64 g_0.N, slv rT_api_Pair q40])] (j := 3) rfl ⟨⟨_, rfl, .inr ⟨_, _, rfl, rfl, ⟨.inl rfl, .inr ⟨rfl, rfl⟩, trivial⟩⟩⟩, trivial⟩ ⟨⟨_, rfl, ⟨.inl rfl, .inr ⟨rfl, rfl⟩, trivial⟩⟩, ⟨_, rfl, ⟨.inl rfl, .inr ⟨rfl, rfl⟩, trivial⟩⟩, trivial⟩) ?_
  refine b_of (nrm [oc be_0 [iv .i64 e_0], oc b2 [iv .i64 g_0.N, slv rT_api_Pair q40], oc b3 [iv .i64 g_0.N, slv rT_api_Pair q40], dead] rfl) ?_
  exact fin1 (.inl rfl) () [0] rfl ⟨rfl, trivial⟩ rfl (rv_cell rfl (j := 1) rfl Tryd.isAgg27 Tryd.sizeOf27 rfl rfl)

end Go.Dc
