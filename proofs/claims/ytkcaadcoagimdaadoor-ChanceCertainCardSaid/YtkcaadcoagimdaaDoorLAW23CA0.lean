/- Part LAW23C.A0 of a proof: lemmas. -/
import Derived.Test.YtkcaadcoagimdaaDoorLAW23CTypes
import Derived.Test.YtkcaadcoagimdaaDoorProg
set_option linter.unusedVariables false
set_option maxRecDepth 100000
set_option maxHeartbeats 4000000
namespace Go.Dc
open Go.Proofs
open Go.Proofs.Tryd (prog)

/-! deliberation/deliberationkeep.New -/
noncomputable def keep_New_m (l_0 : (List Int)) : Option (T_deliberationkeep_Src) :=
  Option.bind (slM l_0 0 (imin (l_0.length : Int) 2000)) fun t1 =>
  some (T_deliberationkeep_Src.mk t1 0)

theorem keep_New_ok {l_0 : (List Int)} {r : T_deliberationkeep_Src} (hm : keep_New_m l_0 = some r) :
    FnOk prog 7 [slv (rI .i64) l_0] [] (fun (x : Nat) => [pv (ptr x 0)]) (fun (x : Nat) => [oc x [slv (rI .i64) r.L, iv .i64 r.At]]) := by
  refine fn_ok (X := Nat) (fn := Tryd.f7) (N := 10) (res := fun r x => [pv (ptr x 0)]) (Ω1 := fun r x => [oc x [slv (rI .i64) r.L, iv .i64 r.At]]) Tryd.func7 rfl rfl hm rfl (fun E hM => ?_)
  unfold keep_New_m
  refine ref_seq (ref_region ?_)
  refine as1 rfl rfl ?_
  refine l_nil (n_then (ref_seq (ref_region ?_)))
  refine mv1 rfl rfl ?_
  refine mv1 rfl rfl ?_
  refine s_rd (r_len Tryd.underlying22 rfl) rfl ?_
  refine s_rd (r_min rfl rfl) rfl ?_
  refine pull fun t1 h_t1 => ?_
  refine s_rd (r_slice h_t1 Tryd.underlying22 el_3 rfl .dft (.of rfl)) rfl ?_
  refine s_rd (r_build (ps := [(0, .tmp 7)]) (rs := [(0, [slv (rI .i64) t1])]) st_61 zs_61 ⟨rfl, (part_at rfl slv_at), trivial⟩ rfl rfl) rfl ?_
  refine s_st (s_box (part_agO (ψs := [slv (rI .i64) t1, iv .i64 0]) rfl ⟨.inl slv_at, .inl iv_at, trivial⟩)) rfl (fun b2 => ?_)
  refine as1 rfl rfl ?_
  refine l_nil (n_then (ref_ret ?_))
  exact fin1 (.inl rfl) b2 [0] rfl ⟨rfl, trivial⟩ rfl (rv_tmp rfl)

/-! (*deliberation/deliberationkeep.Src).Raw -/
noncomputable def keep_Src_Raw_m (s_0 : T_deliberationkeep_Src) : Option (Int × T_deliberationkeep_Src) :=
  bif decide (s_0.At ≥ (s_0.L.length : Int)) then
    some (0, s_0)
  else
    Option.bind (idxM s_0.L (isub .i64 (iadd .i64 s_0.At 1) 1)) fun t2 =>
    some (t2, (T_deliberationkeep_Src.mk s_0.L (iadd .i64 s_0.At 1)))

theorem keep_Src_Raw_ok {s_0 : T_deliberationkeep_Src} {b_0 : Nat} {r : Int × T_deliberationkeep_Src} (hm : keep_Src_Raw_m s_0 = some r) :
    FnOk prog 36 [pv (ptr b_0 0)] [oc b_0 [slv (rI .i64) s_0.L, iv .i64 s_0.At]] (fun (x : Unit) => [iv .i64 r.1]) (fun (x : Unit) => [oc b_0 [slv (rI .i64) r.2.L, iv .i64 r.2.At]]) := by
  refine fn_ok (fn := Tryd.f36) (N := 31) (res := fun r x => [iv .i64 r.1]) (Ω1 := fun r x => [oc b_0 [slv (rI .i64) r.2.L, iv .i64 r.2.At]]) Tryd.func36 rfl rfl hm rfl (fun E hM => ?_)
  unfold keep_Src_Raw_m
  refine ref_seq (ref_region ?_)
  refine as1 rfl rfl ?_
  refine l_nil (n_then (ref_seq (ref_seq ?_)))
  refine ref_draw [0, 1, 2, 3, 4, 5, 6, 7, 8, 9] rfl (by kernel_rfl) (fun hok => ?_)
  refine a_rd (i := 0) hok rfl (by kernel_rfl) rfl (r_move rfl) rfl ?_
  refine a_rd (i := 1) hok rfl (by kernel_rfl) rfl (r_nilc rfl) rfl ?_
  refine a_rd (i := 2) hok rfl (by kernel_rfl) rfl (r_faddr (fo := 1) Tryd.underlying61 rfl rfl Tryd.sizeOf3 rfl) rfl ?_
  refine a_rd (i := 3) hok rfl (by kernel_rfl) rfl (r_cload Tryd.isAgg3 rfl (j := 0) rfl rfl) rfl ?_
  refine a_rd (i := 4) hok rfl (by kernel_rfl) rfl (r_move rfl) rfl ?_
  refine a_rd (i := 5) hok rfl (by kernel_rfl) rfl (r_nilc rfl) rfl ?_
  refine a_rd (i := 6) hok rfl (by kernel_rfl) rfl (r_faddr (fo := 0) Tryd.underlying61 rfl rfl Tryd.sizeOf22 rfl) rfl ?_
  refine a_rd (i := 7) hok rfl (by kernel_rfl) rfl (r_cload Tryd.isAgg22 rfl (j := 0) rfl rfl) rfl ?_
  refine a_rd (i := 8) hok rfl (by kernel_rfl) rfl (r_len Tryd.underlying22 rfl) rfl ?_
  refine a_rd (i := 9) hok rfl (by kernel_rfl) rfl (r_geq rfl rfl) rfl ?_
  refine a_fin hok (by kernel_rfl) ?_
  refine n_then ?_
  refine ref_cond rfl (fun hb1 => ?_) (fun hb1 => ?_)
  · refine ref_seq (ref_region ?_)
    refine as1 rfl rfl ?_
    refine l_nil (n_then (ref_ret (r_then ?_)))
    exact fin1 (.inl rfl) () [0] rfl ⟨rfl, trivial⟩ rfl (rv_tmp rfl)
  refine ref_skip (n_then (ref_seq (ref_region ?_)))
  refine mv1 rfl rfl ?_
  refine s_rd (r_nilc rfl) rfl ?_
  refine s_rd (r_faddr (fo := 1) Tryd.underlying61 rfl rfl Tryd.sizeOf3 rfl) rfl ?_
  refine s_rd (r_cload Tryd.isAgg3 rfl (j := 0) rfl rfl) rfl ?_
  refine s_rd (r_add rfl rfl) rfl ?_
  refine s_rd (r_nilc rfl) rfl ?_
  refine s_rd (r_faddr (fo := 1) Tryd.underlying61 rfl rfl Tryd.sizeOf3 rfl) rfl ?_
  refine s_st0 (s_cstore (out := [slv (rI .i64) s_0.L, iv .i64 (iadd .i64 s_0.At 1)]) Tryd.sizeOf3 rfl (j := 0) rfl (part_at rfl iv_at) rfl rfl rfl) (fun _ => ?_)
  refine l_nil (n_then (ref_seq ?_))
  refine ref_draw [0, 1, 2, 3, 4, 5, 6, 7, 8, 9, 10] rfl (by kernel_rfl) (fun hok => ?_)
  refine a_rd (i := 0) hok rfl (by kernel_rfl) rfl (r_move rfl) rfl ?_
  refine a_rd (i := 1) hok rfl (by kernel_rfl) rfl (r_nilc rfl) rfl ?_
  refine a_rd (i := 2) hok rfl (by kernel_rfl) rfl (r_faddr (fo := 0) Tryd.underlying61 rfl rfl Tryd.sizeOf22 rfl) rfl ?_
  refine a_rd (i := 3) hok rfl (by kernel_rfl) rfl (r_cload Tryd.isAgg22 rfl (j := 0) rfl rfl) rfl ?_
  refine a_rd (i := 4) hok rfl (by kernel_rfl) rfl (r_move rfl) rfl ?_
  refine a_rd (i := 5) hok rfl (by kernel_rfl) rfl (r_nilc rfl) rfl ?_
  refine a_rd (i := 6) hok rfl (by kernel_rfl) rfl (r_faddr (fo := 1) Tryd.underlying61 rfl rfl Tryd.sizeOf3 rfl) rfl ?_
  refine a_rd (i := 7) hok rfl (by kernel_rfl) rfl (r_cload Tryd.isAgg3 rfl (j := 0) rfl rfl) rfl ?_
  refine a_rd (i := 8) hok rfl (by kernel_rfl) rfl (r_sub rfl rfl) rfl ?_
  refine pull fun t2 h_t2 => ?_
  refine a_rd (i := 9) hok rfl (by kernel_rfl) rfl (r_index h_t2 Tryd.underlying22 el_3 rfl rfl) rfl ?_
  refine a_rd (i := 10) hok rfl (by kernel_rfl) rfl (r_load el_3 rfl) rfl ?_
  refine a_next hok 11 [] (by kernel_rfl) ?_ trivial
  refine a_st (i := 11) hok rfl rfl (St.ofRd (r_assign rfl)) (by intro _ h; cases h; rfl) (fun _ => ⟨trivial, ⟨trivial, ⟨trivial, ⟨trivial, ⟨trivial, ⟨trivial, ⟨trivial, ⟨trivial, ⟨trivial, ⟨trivial, ⟨trivial, trivial⟩⟩⟩⟩⟩⟩⟩⟩⟩⟩⟩) (fun _ => ?_)
  refine a_fin hok (by kernel_rfl) ?_
  refine n_then (ref_ret ?_)
  exact fin1 (.inl rfl) () [0] rfl ⟨rfl, trivial⟩ rfl (rv_tmp rfl)

/-! deliberation/deliberationkeep.Mod -/
noncomputable def keep_Mod_m (x_0 : Int) (n_1 : Int) : Option (Int) :=
  bif decide (n_1 < 1) then
    some 0
  else
    Option.bind (iremM .i64 x_0 n_1) fun x2 =>
    bif decide (x2 < 0) then
      letM (iadd .i64 x2 n_1) fun x4 =>
      some x4
    else
      some x2

theorem keep_Mod_ok {x_0 : Int} {n_1 : Int} {r : Int} (hm : keep_Mod_m x_0 n_1 = some r) :
    FnOk prog 35 [iv .i64 x_0, iv .i64 n_1] [] (fun (x : Unit) => [iv .i64 r]) (fun (x : Unit) => []) := by
  refine fn_ok (fn := Tryd.f35) (N := 16) (res := fun r x => [iv .i64 r]) (Ω1 := fun r x => []) Tryd.func35 rfl rfl hm rfl (fun E hM => ?_)
  unfold keep_Mod_m
  refine ref_seq (ref_region ?_)
  refine as1 rfl rfl ?_
  refine l_nil (n_then (ref_seq (ref_seq (ref_region ?_))))
  refine mv1 rfl rfl ?_
  refine s_rd (r_lss rfl rfl) rfl ?_
  refine l_nil (n_then ?_)
  refine ref_cond rfl (fun hb1 => ?_) (fun hb1 => ?_)
  · refine ref_seq (ref_region ?_)
    refine as1 rfl rfl ?_
    refine l_nil (n_then (ref_ret (r_then ?_)))
    exact fin1 (.inl rfl) () [] rfl trivial rfl (rv_tmp rfl)
  refine ref_skip (n_then (ref_seq (ref_region ?_)))
  refine mv1 rfl rfl ?_
  refine mv1 rfl rfl ?_
  refine pull fun x2 h_x2 => ?_
  refine s_rd (r_remM h_x2 rfl rfl) rfl ?_
  refine as1 rfl rfl ?_
  refine l_nil (n_then (ref_seq (ref_seq (ref_region ?_))))
  refine mv1 rfl rfl ?_
  refine s_rd (r_lss rfl rfl) rfl ?_
  refine l_nil (n_then ?_)
  refine ref_cond rfl (fun hb3 => ?_) (fun hb3 => ?_)
  · refine ref_region ?_
    refine mv1 rfl rfl ?_
    refine mv1 rfl rfl ?_
    refine s_rd (r_add rfl rfl) rfl ?_
    refine as1 rfl rfl ?_
    refine b_let (f := iv .i64) (t := 0) rfl fun x4 => ?_
    refine l_nil (n_then (ref_seq (ref_region ?_)))
    refine mv1 rfl rfl ?_
    refine as1 rfl rfl ?_
    refine l_nil (n_then (ref_ret ?_))
    exact fin1 (.inl rfl) () [] rfl trivial rfl (rv_tmp rfl)
  refine ref_skip (n_then (ref_seq (ref_region ?_)))
  refine mv1 rfl rfl ?_
  refine as1 rfl rfl ?_
  refine l_nil (n_then (ref_ret ?_))
  exact fin1 (.inl rfl) () [] rfl trivial rfl (rv_tmp rfl)

/-! (*deliberation/deliberationkeep.Src).N -/
noncomputable def keep_Src_N_m (s_0 : T_deliberationkeep_Src) (n_1 : Int) : Option (Int × T_deliberationkeep_Src) :=
  Option.bind (keep_Src_Raw_m s_0) fun t1 =>
  Option.bind (keep_Mod_m t1.1 n_1) fun t2 =>
  some (t2, t1.2)

theorem keep_Src_N_ok {s_0 : T_deliberationkeep_Src} {n_1 : Int} {b_0 : Nat} {r : Int × T_deliberationkeep_Src} (hm : keep_Src_N_m s_0 n_1 = some r) :
    FnOk prog 16 [pv (ptr b_0 0), iv .i64 n_1] [oc b_0 [slv (rI .i64) s_0.L, iv .i64 s_0.At]] (fun (x : Unit) => [iv .i64 r.1]) (fun (x : Unit) => [oc b_0 [slv (rI .i64) r.2.L, iv .i64 r.2.At]]) := by
  refine fn_ok (fn := Tryd.f16) (N := 9) (res := fun r x => [iv .i64 r.1]) (Ω1 := fun r x => [oc b_0 [slv (rI .i64) r.2.L, iv .i64 r.2.At]]) Tryd.func16 rfl rfl hm rfl (fun E hM => ?_)
  unfold keep_Src_N_m
  refine ref_seq (ref_region ?_)
  refine as1 rfl rfl ?_
  refine l_nil (n_then (ref_seq (ref_region ?_)))
  refine mv1 rfl rfl ?_
  refine pull fun t1 h_t1 => ?_
  refine s_st (s_callC [0] [true] (fun (_ : Unit) => [oc b_0 [slv (rI .i64) t1.2.L, iv .i64 t1.2.At]]) (fun (_ : Unit) => []) (fun (_ : Unit) => iv .i64 t1.1) (args := [.tmp 5]) (caps := []) Tryd.call36 rfl (keep_Src_Raw_ok h_t1) ⟨rfl, rfl, trivial⟩ (fun _ => rfl) (fun _ => trivial) (fun _ => rfl) ⟨arg rfl, trivial⟩ (fun _ _ _ _ h => h)) rfl (fun _ => ?_)
  refine mv1 rfl rfl ?_
  refine pull fun t2 h_t2 => ?_
  refine s_st (s_call (ψ := fun (_ : Unit) => iv .i64 t2) (args := [.tmp 6, .tmp 7]) Tryd.call35 rfl (keep_Mod_ok h_t2) ⟨arg rfl, arg rfl, trivial⟩ (fun _ _ _ _ h => h)) rfl (fun _ => ?_)
  refine as1 rfl rfl ?_
  refine l_nil (n_then (ref_ret ?_))
  exact fin1 (.inl rfl) () [0] rfl ⟨rfl, trivial⟩ rfl (rv_tmp rfl)

/-! (*deliberation/deliberationkeep.Src).Range -/
noncomputable def keep_Src_Range_m (s_0 : T_deliberationkeep_Src) (lo_1 : Int) (hi_2 : Int) : Option (Int × T_deliberationkeep_Src) :=
  Option.bind (keep_Src_N_m s_0 (iadd .i64 (isub .i64 hi_2 lo_1) 1)) fun t1 =>
  letM (iadd .i64 lo_1 t1.1) fun t2 =>
  some (t2, t1.2)

theorem keep_Src_Range_ok {s_0 : T_deliberationkeep_Src} {lo_1 : Int} {hi_2 : Int} {b_0 : Nat} {r : Int × T_deliberationkeep_Src} (hm : keep_Src_Range_m s_0 lo_1 hi_2 = some r) :
    FnOk prog 23 [pv (ptr b_0 0), iv .i64 lo_1, iv .i64 hi_2] [oc b_0 [slv (rI .i64) s_0.L, iv .i64 s_0.At]] (fun (x : Unit) => [iv .i64 r.1]) (fun (x : Unit) => [oc b_0 [slv (rI .i64) r.2.L, iv .i64 r.2.At]]) := by
  refine fn_ok (fn := Tryd.f23) (N := 15) (res := fun r x => [iv .i64 r.1]) (Ω1 := fun r x => [oc b_0 [slv (rI .i64) r.2.L, iv .i64 r.2.At]]) Tryd.func23 rfl rfl hm rfl (fun E hM => ?_)
  unfold keep_Src_Range_m
  refine ref_seq (ref_region ?_)
  refine as1 rfl rfl ?_
  refine l_nil (n_then (ref_seq (ref_region ?_)))
  refine mv1 rfl rfl ?_
  refine mv1 rfl rfl ?_
  refine mv1 rfl rfl ?_
  refine mv1 rfl rfl ?_
  refine s_rd (r_sub rfl rfl) rfl ?_
  refine s_rd (r_add rfl rfl) rfl ?_
  refine pull fun t1 h_t1 => ?_
  refine s_st (s_callC [0] [true] (fun (_ : Unit) => [oc b_0 [slv (rI .i64) t1.2.L, iv .i64 t1.2.At]]) (fun (_ : Unit) => []) (fun (_ : Unit) => iv .i64 t1.1) (args := [.tmp 8, .tmp 12]) (caps := []) Tryd.call16 rfl (keep_Src_N_ok h_t1) ⟨rfl, rfl, trivial⟩ (fun _ => rfl) (fun _ => trivial) (fun _ => rfl) ⟨arg rfl, arg rfl, trivial⟩ (fun _ _ _ _ h => h)) rfl (fun _ => ?_)
  refine s_rd (r_add rfl rfl) rfl ?_
  refine as1 rfl rfl ?_
  refine b_let (f := iv .i64) (t := 6) rfl fun t2 => ?_
  refine l_nil (n_then (ref_ret ?_))
  exact fin1 (.inl rfl) () [0] rfl ⟨rfl, trivial⟩ rfl (rv_tmp rfl)

/-! deliberation/deliberationnet.Graph -/
noncomputable def net_Graph_l2 (t2 : Int × T_deliberationkeep_Src) (dense4 : Int × T_deliberationkeep_Src) (s159 : Int × T_deliberationkeep_Src × (List T_api_Pair)) (s186 : Int × T_deliberationkeep_Src × (List T_api_Pair)) : Option (Sum (T_deliberationkeep_Src × (List T_api_Pair)) (Int × T_deliberationkeep_Src × (List T_api_Pair))) :=
  bif decide (s186.1 < t2.1) then
    joinM (fun j190 : Int =>
        Option.bind (keep_Src_N_m s186.2.1 j190) fun t193 =>
        bif t193.1 == 1 then
          Option.bind (appM 16 s186.2.2 [(T_api_Pair.mk s159.1 s186.1)]) fun t195 =>
          letM (iadd .i64 s186.1 1) fun b197 =>
          some (Sum.inr (b197, t193.2, t195))
        else
          letM (iadd .i64 s186.1 1) fun b198 =>
          some (Sum.inr (b198, t193.2, s186.2.2))) fun k192 =>
    bif s159.1 == s186.1 then
      k192 9
    else
      k192 dense4.1
  else
    some (Sum.inl (s186.2.1, s186.2.2))

noncomputable def net_Graph_l1 (t2 : Int × T_deliberationkeep_Src) (dense4 : Int × T_deliberationkeep_Src) (s159 : Int × T_deliberationkeep_Src × (List T_api_Pair)) : Option (Sum (T_deliberationkeep_Src × (List T_api_Pair)) (Int × T_deliberationkeep_Src × (List T_api_Pair))) :=
  bif decide (s159.1 < t2.1) then
    Option.bind (loopC (net_Graph_l2 t2 dense4 s159) (0, s159.2.1, s159.2.2)) fun q199 : T_deliberationkeep_Src × (List T_api_Pair) =>
    letM (iadd .i64 s159.1 1) fun a_201 =>
    some (Sum.inr (a_201, q199.1, q199.2))
  else
    some (Sum.inl (s159.2.1, s159.2.2))

noncomputable def net_Graph_m (s_0 : T_deliberationkeep_Src) (n_1 : Int) : Option (T_api_Graph × T_deliberationkeep_Src) :=
  Option.bind (keep_Src_Range_m s_0 1 n_1) fun t2 =>
  Option.bind (keep_Src_Range_m t2.2 2 5) fun dense4 =>
  Option.bind (loopC (net_Graph_l1 t2 dense4) (0, dense4.2, [])) fun q202 : T_deliberationkeep_Src × (List T_api_Pair) =>
  some ((T_api_Graph.mk t2.1 q202.2), q202.1)

theorem net_Graph_ok {s_0 : T_deliberationkeep_Src} {n_1 : Int} {b_0 : Nat} {r : T_api_Graph × T_deliberationkeep_Src} (hm : net_Graph_m s_0 n_1 = some r) :
    FnOk prog 8 [pv (ptr b_0 0), iv .i64 n_1] [oc b_0 [slv (rI .i64) s_0.L, iv .i64 s_0.At]] (fun (x : Unit) => [ag [iv .i64 r.1.N, slv rT_api_Pair r.1.L]]) (fun (x : Unit) => [oc b_0 [slv (rI .i64) r.2.L, iv .i64 r.2.At]]) := by
  refine fn_ok (fn := Tryd.f8) (N := 45) (res := fun r x => [ag [iv .i64 r.1.N, slv rT_api_Pair r.1.L]]) (Ω1 := fun r x => [oc b_0 [slv (rI .i64) r.2.L, iv .i64 r.2.At]]) Tryd.func8 rfl rfl hm rfl (fun E hM => ?_)
  unfold net_Graph_m
  refine ref_seq (ref_region ?_)
  refine s_st (s_alloc zt_27) rfl (fun b1 => ?_)
  refine l_nil (n_then (ref_seq (ref_region ?_)))
  refine mv1 rfl rfl ?_
  refine mv1 rfl rfl ?_
  refine pull fun t2 h_t2 => ?_
  refine s_st (s_callC [0] [true] (fun (_ : Unit) => [oc b_0 [slv (rI .i64) t2.2.L, iv .i64 t2.2.At]]) (fun (_ : Unit) => []) (fun (_ : Unit) => iv .i64 t2.1) (args := [.tmp 10, .const (.int .i64 (1)), .tmp 11]) (caps := []) Tryd.call23 rfl (keep_Src_Range_ok h_t2) ⟨rfl, rfl, trivial⟩ (fun _ => rfl) (fun _ => trivial) (fun _ => rfl) ⟨arg rfl, arg rfl, arg rfl, trivial⟩ (fun _ _ _ _ h => h)) rfl (fun _ => ?_)
  refine s_rd (r_build (ps := [(0, .tmp 12)]) (rs := [(0, [iv .i64 t2.1])]) st_27 zs_27 ⟨rfl, (part_at rfl iv_at), trivial⟩ rfl rfl) rfl ?_
  refine s_st (s_alloc zt_27) rfl (fun b3 => ?_)
  refine s_st0 (s_cstore (out := [iv .i64 t2.1, pv (.slice none 0 0)]) Tryd.sizeOf27 rfl (j := 2) rfl (part_agO (ψs := [iv .i64 t2.1, pv (.slice none 0 0)]) rfl ⟨.inl iv_at, .inl (pv_at rfl), trivial⟩) rfl rfl rfl) (fun _ => ?_)
  refine l_nil ?_
  refine b_of (nrm [oc b_0 [slv (rI .i64) t2.2.L, iv .i64 t2.2.At], oc b1 [iv .i64 0, pv (.slice none 0 0)], oc b3 [iv .i64 t2.1, pv (.slice none 0 0)]] rfl) ?_
  refine n_then (ref_seq (ref_region ?_))
  refine mv1 rfl rfl ?_
  refine pull fun dense4 h_dense4 => ?_
  refine s_st (s_callC [0] [true] (fun (_ : Unit) => [oc b_0 [slv (rI .i64) dense4.2.L, iv .i64 dense4.2.At]]) (fun (_ : Unit) => []) (fun (_ : Unit) => iv .i64 dense4.1) (args := [.tmp 14, .const (.int .i64 (2)), .const (.int .i64 (5))]) (caps := []) Tryd.call23 rfl (keep_Src_Range_ok h_dense4) ⟨rfl, rfl, trivial⟩ (fun _ => rfl) (fun _ => trivial) (fun _ => rfl) ⟨arg rfl, arg rfl, arg rfl, trivial⟩ (fun _ _ _ _ h => h)) rfl (fun _ => ?_)
  refine as1 rfl rfl ?_
  refine l_nil (n_then (ref_seq (ref_seq (ref_region ?_))))
  refine as1 rfl rfl ?_
  refine l_nil (n_then ?_)
  refine b_of (own_nil rT_api_Pair) ?_
  refine ref_loopB (f := (net_Graph_l1 t2 dense4)) (Γl := (fun (s159 : Int × T_deliberationkeep_Src × (List T_api_Pair)) (x160 : (Value × List Nat)) => [(0, pv (ptr b_0 0)), (4, pv (ptr b1 0)), (5, pv (ptr b3 0)), (6, iv .i64 dense4.1), (7, iv .i64 s159.1)])) (Ωl := (fun (s159 : Int × T_deliberationkeep_Src × (List T_api_Pair)) (x160 : (Value × List Nat)) => [oc b_0 [slv (rI .i64) s159.2.1.L, iv .i64 s159.2.1.At], oc b1 [iv .i64 0, pv (.slice none 0 0)], oc b3 [iv .i64 t2.1, pv x160.1], oa rT_api_Pair x160.1 x160.2 s159.2.2])) (Γb := (fun (q202 : T_deliberationkeep_Src × (List T_api_Pair)) (y203 : (Value × List Nat)) => [(0, pv (ptr b_0 0)), (4, pv (ptr b1 0)), (5, pv (ptr b3 0))])) (Ωb := (fun (q202 : T_deliberationkeep_Src × (List T_api_Pair)) (y203 : (Value × List Nat)) => [oc b_0 [slv (rI .i64) q202.1.L, iv .i64 q202.1.At], oc b1 [iv .i64 0, pv (.slice none 0 0)], oc b3 [iv .i64 t2.1, pv y203.1], oa rT_api_Pair y203.1 y203.2 q202.2])) (0, dense4.2, []) ((.slice none 0 0), []) (weak [0, 1, 2, 3] ⟨rfl, rfl, rfl, rfl, rfl, trivial⟩ ⟨rfl, rfl, rfl, rfl, trivial⟩) (fun s159 x160 => ?_) (fun q202 y203 => ?_)
  · unfold net_Graph_l1
    refine ref_seq (ref_seq (ref_region ?_))
    refine mv1 rfl rfl ?_
    refine s_rd (r_faddr (fo := 0) Tryd.underlying27 rfl rfl Tryd.sizeOf3 rfl) rfl ?_
    refine s_rd (r_cload Tryd.isAgg3 rfl (j := 2) rfl rfl) rfl ?_
    refine s_rd (r_lss rfl rfl) rfl ?_
    refine l_nil (n_then ?_)
    refine ref_cond rfl (fun hb161 => ?_) (fun hb161 => ?_)
    · refine ref_skip (n_then (ref_seq (ref_block (ref_seq (ref_region ?_)))))
      refine as1 rfl rfl ?_
      refine l_nil (n_then ?_)
      refine ref_loopB (f := (net_Graph_l2 t2 dense4 s159)) (Γl := (fun (s186 : Int × T_deliberationkeep_Src × (List T_api_Pair)) (x187 : (Value × List Nat)) => [(0, pv (ptr b_0 0)), (4, pv (ptr b1 0)), (5, pv (ptr b3 0)), (6, iv .i64 dense4.1), (7, iv .i64 s159.1), (8, iv .i64 s186.1)])) (Ωl := (fun (s186 : Int × T_deliberationkeep_Src × (List T_api_Pair)) (x187 : (Value × List Nat)) => [oc b_0 [slv (rI .i64) s186.2.1.L, iv .i64 s186.2.1.At], oc b1 [iv .i64 0, pv (.slice none 0 0)], oc b3 [iv .i64 t2.1, pv x187.1], oa rT_api_Pair x187.1 x187.2 s186.2.2])) (Γb := (fun (q199 : T_deliberationkeep_Src × (List T_api_Pair)) (y200 : (Value × List Nat)) => [(0, pv (ptr b_0 0)), (4, pv (ptr b1 0)), (5, pv (ptr b3 0)), (6, iv .i64 dense4.1), (7, iv .i64 s159.1)])) (Ωb := (fun (q199 : T_deliberationkeep_Src × (List T_api_Pair)) (y200 : (Value × List Nat)) => [oc b_0 [slv (rI .i64) q199.1.L, iv .i64 q199.1.At], oc b1 [iv .i64 0, pv (.slice none 0 0)], oc b3 [iv .i64 t2.1, pv y200.1], oa rT_api_Pair y200.1 y200.2 q199.2])) (0, s159.2.1, s159.2.2) x160 (weak [0, 1, 2, 3] ⟨rfl, rfl, rfl, rfl, rfl, rfl, trivial⟩ ⟨rfl, rfl, rfl, rfl, trivial⟩) (fun s186 x187 => ?_) (fun q199 y200 => ?_)
      · unfold net_Graph_l2
        refine ref_seq (ref_seq (ref_region ?_))
        refine mv1 rfl rfl ?_
        refine s_rd (r_faddr (fo := 0) Tryd.underlying27 rfl rfl Tryd.sizeOf3 rfl) rfl ?_
        refine s_rd (r_cload Tryd.isAgg3 rfl (j := 2) rfl rfl) rfl ?_
        refine s_rd (r_lss rfl rfl) rfl ?_
        refine l_nil (n_then ?_)
        refine ref_cond rfl (fun hb188 => ?_) (fun hb188 => ?_)
        · refine ref_skip (n_then (ref_seq (ref_block (ref_seq (ref_region ?_)))))
          refine mv1 rfl rfl ?_
          refine as1 rfl rfl ?_
          refine l_nil (n_then (ref_seq ?_))
          refine ref_join (fun (j190 : Int) (x191 : Unit) => [(0, pv (ptr b_0 0)), (4, pv (ptr b1 0)), (5, pv (ptr b3 0)), (6, iv .i64 dense4.1), (7, iv .i64 s159.1), (8, iv .i64 s186.1), (9, iv .i64 j190)]) (fun (j190 : Int) (x191 : Unit) => [oc b_0 [slv (rI .i64) s186.2.1.L, iv .i64 s186.2.1.At], oc b1 [iv .i64 0, pv (.slice none 0 0)], oc b3 [iv .i64 t2.1, pv x187.1], oa rT_api_Pair x187.1 x187.2 s186.2.2]) (fun k192 hk192 => ?_) (fun j190 x191 => ?_)
          · refine ref_seq (ref_region ?_)
            refine mv1 rfl rfl ?_
            refine mv1 rfl rfl ?_
            refine s_rd (r_eql rfl rfl) rfl ?_
            refine l_nil (n_then ?_)
            refine ref_cond rfl (fun hb189 => ?_) (fun hb189 => ?_)
            · refine ref_region ?_
              refine as1 rfl rfl ?_
              refine l_nil ?_
              exact b_to (hk192 9 ()) (weak [0, 1, 2, 3] ⟨rfl, rfl, rfl, rfl, rfl, rfl, rfl, trivial⟩ ⟨rfl, rfl, rfl, rfl, trivial⟩)
            refine ref_skip ?_
            exact b_to (hk192 dense4.1 ()) (weak [0, 1, 2, 3] ⟨rfl, rfl, rfl, rfl, rfl, rfl, rfl, trivial⟩ ⟨rfl, rfl, rfl, rfl, trivial⟩)
          refine n_then (ref_seq (ref_region ?_))
          refine mv1 rfl rfl ?_
          refine mv1 rfl rfl ?_
          refine pull fun t193 h_t193 => ?_
          refine s_st (s_callC [0] [true] (fun (_ : Unit) => [oc b_0 [slv (rI .i64) t193.2.L, iv .i64 t193.2.At]]) (fun (_ : Unit) => []) (fun (_ : Unit) => iv .i64 t193.1) (args := [.tmp 32, .tmp 33]) (caps := []) Tryd.call16 rfl (keep_Src_N_ok h_t193) ⟨rfl, rfl, trivial⟩ (fun _ => rfl) (fun _ => trivial) (fun _ => rfl) ⟨arg rfl, arg rfl, trivial⟩ (fun _ _ _ _ h => h)) rfl (fun _ => ?_)
          refine s_rd (r_eql rfl rfl) rfl ?_
          refine l_nil (n_then ?_)
          refine ref_cond rfl (fun hb194 => ?_) (fun hb194 => ?_)
          · refine ref_region ?_
            refine s_rd (r_faddr (fo := 1) Tryd.underlying27 rfl rfl Tryd.sizeOf25 rfl) rfl ?_
            refine s_rd (r_cload Tryd.isAgg25 rfl (j := 2) rfl rfl) rfl ?_
            refine mv1 rfl rfl ?_
            refine mv1 rfl rfl ?_
            refine s_rd (r_build (ps := [(0, .tmp 38), (1, .tmp 39)]) (rs := [(0, [iv .i64 s159.1]), (1, [iv .i64 s186.1])]) st_63 zs_63 ⟨rfl, (part_at rfl iv_at), ⟨rfl, (part_at rfl iv_at), trivial⟩⟩ rfl rfl) rfl ?_
            refine s_st (s_bslice (xs := [.tmp 40]) (ds := [(T_api_Pair.mk s159.1 s186.1)]) Tryd.underlying25 el_63 rfl (Nat.le_of_ble_eq_true rfl) ⟨(part_agO (ψs := [iv .i64 s159.1, iv .i64 s186.1]) rfl ⟨.inl iv_at, .inl iv_at, trivial⟩), trivial⟩) rfl (fun _ => ?_)
            refine pull fun t195 h_t195 => ?_
            refine s_st (s_append h_t195 Tryd.underlying25 el_63 rfl (j := 3) rfl rfl) rfl (fun o196 => ?_)
            refine s_rd (r_faddr (fo := 1) Tryd.underlying27 rfl rfl Tryd.sizeOf25 rfl) rfl ?_
            refine s_st0 (s_cstore (out := [iv .i64 t2.1, pv o196.1]) Tryd.sizeOf25 rfl (j := 2) rfl (part_own rfl (j := 3) rfl) rfl rfl rfl) (fun _ => ?_)
            refine l_nil ?_
            refine b_of (nrm [oc b_0 [slv (rI .i64) t193.2.L, iv .i64 t193.2.At], oc b1 [iv .i64 0, pv (.slice none 0 0)], oc b3 [iv .i64 t2.1, pv o196.1], oa rT_api_Pair o196.1 o196.2 t195] rfl) ?_
            refine n_block (n_then (ref_region ?_))
            refine mv1 rfl rfl ?_
            refine s_rd (r_add rfl rfl) rfl ?_
            refine as1 rfl rfl ?_
            refine b_let (f := iv .i64) (t := 8) rfl fun b197 => ?_
            refine l_nil ?_
            exact goB o196 (weak [0, 1, 2, 3] ⟨rfl, rfl, rfl, rfl, rfl, rfl, trivial⟩ ⟨rfl, rfl, rfl, rfl, trivial⟩)
          refine ref_skip (n_block (n_then (ref_region ?_)))
          refine mv1 rfl rfl ?_
          refine s_rd (r_add rfl rfl) rfl ?_
          refine as1 rfl rfl ?_
          refine b_let (f := iv .i64) (t := 8) rfl fun b198 => ?_
          refine l_nil ?_
          exact goB x187 (weak [0, 1, 2, 3] ⟨rfl, rfl, rfl, rfl, rfl, rfl, trivial⟩ ⟨rfl, rfl, rfl, rfl, trivial⟩)
        refine ref_exit (x_then ?_)
        exact brkB x187 (weak [0, 1, 2, 3] ⟨rfl, rfl, rfl, rfl, rfl, trivial⟩ ⟨rfl, rfl, rfl, rfl, trivial⟩)
      refine n_block (n_then (ref_region ?_))
      refine mv1 rfl rfl ?_
      refine s_rd (r_add rfl rfl) rfl ?_
      refine as1 rfl rfl ?_
      refine b_let (f := iv .i64) (t := 7) rfl fun a_201 => ?_
      refine l_nil ?_
      exact goB y200 (weak [0, 1, 2, 3] ⟨rfl, rfl, rfl, rfl, rfl, trivial⟩ ⟨rfl, rfl, rfl, rfl, trivial⟩)
    refine ref_exit (x_then ?_)
    exact brkB x160 (weak [0, 1, 2, 3] ⟨rfl, rfl, rfl, trivial⟩ ⟨rfl, rfl, rfl, rfl, trivial⟩)
  refine n_then (ref_seq (ref_region ?_))
  refine s_rd (r_cloadS Tryd.isAgg27 Tryd.sizeOf27 rfl (j := 2) rfl rfl rfl) rfl ?_
  refine s_st0 (s_cstore (out := [iv .i64 t2.1, pv y203.1]) Tryd.sizeOf27 rfl (j := 1) rfl (part_agO (ψs := [iv .i64 t2.1, pv y203.1]) rfl ⟨.inl iv_at, .inr ⟨_, _, _, _, _, 3, rfl, rfl⟩, trivial⟩) rfl rfl rfl) (fun _ => ?_)
  refine l_nil (n_then (ref_ret ?_))
  refine b_of (frzGL [(44, ag [iv .i64 t2.1, slv rT_api_Pair q202.2])] [(1, b1, [iv .i64 t2.1, slv rT_api_Pair q202.2]), (2, b3, [iv .i64 t2.1, slv rT_api_Pair q202.2])] (j := 3) rfl ⟨⟨_, rfl, .inr ⟨_, _, rfl, rfl, ⟨.inl rfl, .inr ⟨rfl, rfl⟩, trivial⟩⟩⟩, trivial⟩ ⟨⟨_, rfl, ⟨.inl rfl, .inr ⟨rfl, rfl⟩, trivial⟩⟩, ⟨_, rfl, ⟨.inl rfl, .inr ⟨rfl, rfl⟩, trivial⟩⟩, trivial⟩) ?_
  refine b_of (nrm [oc b_0 [slv (rI .i64) q202.1.L, iv .i64 q202.1.At], oc b1 [iv .i64 t2.1, slv rT_api_Pair q202.2], oc b3 [iv .i64 t2.1, slv rT_api_Pair q202.2], dead] rfl) ?_
  exact fin1 (.inl rfl) () [0] rfl ⟨rfl, trivial⟩ rfl (rv_cell rfl (j := 1) rfl Tryd.isAgg27 Tryd.sizeOf27 rfl rfl)

/-! deliberation/deliberationlaw23.odds -/
noncomputable def law23_odds_l1 (g_1 : T_api_Graph) (s80 : Int × Int × T_deliberationkeep_Src × (List T_api_Fraction) × (List T_api_Fraction)) : Option (Sum (T_deliberationkeep_Src × (List T_api_Fraction) × (List T_api_Fraction)) (Int × Int × T_deliberationkeep_Src × (List T_api_Fraction) × (List T_api_Fraction))) :=
  bif decide (s80.2.1 < (iadd .i64 g_1.N (g_1.L.length : Int))) then
    joinM (fun j96 : T_deliberationkeep_Src × Int × T_api_Fraction =>
        bif decide (s80.2.1 < g_1.N) then
          Option.bind (appM 16 s80.2.2.2.1 [j96.2.2]) fun t100 =>
          letM (iadd .i64 s80.2.1 1) fun i104 =>
          some (Sum.inr (j96.2.1, i104, j96.1, t100, s80.2.2.2.2))
        else
          Option.bind (appM 16 s80.2.2.2.2 [j96.2.2]) fun t102 =>
          letM (iadd .i64 s80.2.1 1) fun i105 =>
          some (Sum.inr (j96.2.1, i105, j96.1, s80.2.2.2.1, t102))) fun k98 =>
    Option.bind (keep_Src_N_m s80.2.2.1 4) fun t84 =>
    bif t84.1 == 0 then
      Option.bind (keep_Src_Range_m t84.2 1 3) fun t86 =>
      k98 (t86.2, s80.1, (T_api_Fraction.mk 0 t86.1))
    else
      joinM (fun j88 : Bool =>
          bif j88 then
            bif decide (s80.1 > 0) then
              Option.bind (keep_Src_Range_m t84.2 2 5) fun t93 =>
              Option.bind (keep_Src_Range_m t93.2 1 (isub .i64 t93.1 1)) fun t94 =>
              letM (isub .i64 s80.1 1) fun n95 =>
              k98 (t94.2, n95, (T_api_Fraction.mk t94.1 t93.1))
            else
              k98 (t84.2, s80.1, (T_api_Fraction.mk 1 1))
          else
            k98 (t84.2, s80.1, (T_api_Fraction.mk 1 1))) fun k90 =>
      bif t84.1 == 1 then
        k90 (t84.1 == 1)
      else
        k90 (t84.1 == 2)
  else
    some (Sum.inl (s80.2.2.1, s80.2.2.2.1, s80.2.2.2.2))

noncomputable def law23_odds_m (s_0 : T_deliberationkeep_Src) (g_1 : T_api_Graph) (n_2 : Int) : Option (T_api_Odds × T_deliberationkeep_Src) :=
  Option.bind (loopC (law23_odds_l1 g_1) (n_2, 0, s_0, [], [])) fun q106 : T_deliberationkeep_Src × (List T_api_Fraction) × (List T_api_Fraction) =>
  some ((T_api_Odds.mk q106.2.1 q106.2.2), q106.1)

theorem law23_odds_ok {s_0 : T_deliberationkeep_Src} {g_1 : T_api_Graph} {n_2 : Int} {b_0 : Nat} {r : T_api_Odds × T_deliberationkeep_Src} (hm : law23_odds_m s_0 g_1 n_2 = some r) :
    FnOk prog 9 [pv (ptr b_0 0), ag [iv .i64 g_1.N, slv rT_api_Pair g_1.L], iv .i64 n_2] [oc b_0 [slv (rI .i64) s_0.L, iv .i64 s_0.At]] (fun (x : Unit) => [ag [slv rT_api_Fraction r.1.Nodes, slv rT_api_Fraction r.1.Attacks]]) (fun (x : Unit) => [oc b_0 [slv (rI .i64) r.2.L, iv .i64 r.2.At]]) := by
  refine fn_ok (fn := Tryd.f9) (N := 61) (res := fun r x => [ag [slv rT_api_Fraction r.1.Nodes, slv rT_api_Fraction r.1.Attacks]]) (Ω1 := fun r x => [oc b_0 [slv (rI .i64) r.2.L, iv .i64 r.2.At]]) Tryd.func9 rfl rfl hm rfl (fun E hM => ?_)
  unfold law23_odds_m
  refine ref_seq (ref_region ?_)
  refine s_st (s_box (part_agO (ψs := [iv .i64 g_1.N, slv rT_api_Pair g_1.L]) rfl ⟨.inl iv_at, .inl slv_at, trivial⟩)) rfl (fun b1 => ?_)
  refine s_st (s_alloc zt_31) rfl (fun b2 => ?_)
  refine l_nil (n_then (ref_seq (ref_region ?_)))
  refine s_st (s_alloc zt_31) rfl (fun b3 => ?_)
  refine l_nil (n_then (ref_seq (ref_seq (ref_region ?_))))
  refine as1 rfl rfl ?_
  refine l_nil (n_then ?_)
  refine b_of (own_nil rT_api_Fraction) ?_
  refine b_of (own_nil rT_api_Fraction) ?_
  refine ref_loopB (f := (law23_odds_l1 g_1)) (Γl := (fun (s80 : Int × Int × T_deliberationkeep_Src × (List T_api_Fraction) × (List T_api_Fraction)) (x81 : (Value × List Nat) × (Value × List Nat)) => [(0, pv (ptr b_0 0)), (2, iv .i64 s80.1), (4, pv (ptr b1 0)), (6, pv (ptr b2 0)), (7, pv (ptr b3 0)), (8, iv .i64 s80.2.1)])) (Ωl := (fun (s80 : Int × Int × T_deliberationkeep_Src × (List T_api_Fraction) × (List T_api_Fraction)) (x81 : (Value × List Nat) × (Value × List Nat)) => [oc b_0 [slv (rI .i64) s80.2.2.1.L, iv .i64 s80.2.2.1.At], oc b1 [iv .i64 g_1.N, slv rT_api_Pair g_1.L], oc b2 [pv (.slice none 0 0), pv (.slice none 0 0)], oc b3 [pv x81.1.1, pv x81.2.1], oa rT_api_Fraction x81.1.1 x81.1.2 s80.2.2.2.1, oa rT_api_Fraction x81.2.1 x81.2.2 s80.2.2.2.2])) (Γb := (fun (q106 : T_deliberationkeep_Src × (List T_api_Fraction) × (List T_api_Fraction)) (y107 : (Value × List Nat) × (Value × List Nat)) => [(0, pv (ptr b_0 0)), (6, pv (ptr b2 0)), (7, pv (ptr b3 0))])) (Ωb := (fun (q106 : T_deliberationkeep_Src × (List T_api_Fraction) × (List T_api_Fraction)) (y107 : (Value × List Nat) × (Value × List Nat)) => [oc b_0 [slv (rI .i64) q106.1.L, iv .i64 q106.1.At], oc b2 [pv (.slice none 0 0), pv (.slice none 0 0)], oc b3 [pv y107.1.1, pv y107.2.1], oa rT_api_Fraction y107.1.1 y107.1.2 q106.2.1, oa rT_api_Fraction y107.2.1 y107.2.2 q106.2.2])) (n_2, 0, s_0, [], []) (((.slice none 0 0), []), ((.slice none 0 0), [])) (weak [0, 1, 2, 3, 5, 4] ⟨rfl, rfl, rfl, rfl, rfl, rfl, trivial⟩ ⟨rfl, rfl, rfl, rfl, rfl, rfl, trivial⟩) (fun s80 x81 => ?_) (fun q106 y107 => ?_)
  · unfold law23_odds_l1
    refine ref_seq (ref_seq (ref_region ?_))
    refine mv1 rfl rfl ?_
    refine s_rd (r_faddr (fo := 0) Tryd.underlying27 rfl rfl Tryd.sizeOf3 rfl) rfl ?_
    refine s_rd (r_cload Tryd.isAgg3 rfl (j := 1) rfl rfl) rfl ?_
    refine s_rd (r_faddr (fo := 1) Tryd.underlying27 rfl rfl Tryd.sizeOf25 rfl) rfl ?_
    refine s_rd (r_cload Tryd.isAgg25 rfl (j := 1) rfl rfl) rfl ?_
    refine s_rd (r_len Tryd.underlying25 rfl) rfl ?_
    refine s_rd (r_add rfl rfl) rfl ?_
    refine s_rd (r_lss rfl rfl) rfl ?_
    refine l_nil (n_then ?_)
    refine ref_cond rfl (fun hb82 => ?_) (fun hb82 => ?_)
    · refine ref_skip (n_then (ref_seq (ref_block (ref_seq (ref_region ?_)))))
      refine s_rd (r_build (ps := [(0, .const (.int .i64 (1))), (1, .const (.int .i64 (1)))]) (rs := [(0, [iv .i64 1]), (1, [iv .i64 1])]) st_36 zs_36 ⟨rfl, (part_at rfl iv_at), ⟨rfl, (part_at rfl iv_at), trivial⟩⟩ rfl rfl) rfl ?_
      refine s_st (s_alloc zt_36) rfl (fun b83 => ?_)
      refine s_st0 (s_cstore (out := [iv .i64 1, iv .i64 1]) Tryd.sizeOf36 rfl (j := 6) rfl (part_agO (ψs := [iv .i64 1, iv .i64 1]) rfl ⟨.inl iv_at, .inl iv_at, trivial⟩) rfl rfl rfl) (fun _ => ?_)
      refine l_nil ?_
      refine b_of (nrm [oc b_0 [slv (rI .i64) s80.2.2.1.L, iv .i64 s80.2.2.1.At], oc b1 [iv .i64 g_1.N, slv rT_api_Pair g_1.L], oc b2 [pv (.slice none 0 0), pv (.slice none 0 0)], oc b3 [pv x81.1.1, pv x81.2.1], oa rT_api_Fraction x81.1.1 x81.1.2 s80.2.2.2.1, oa rT_api_Fraction x81.2.1 x81.2.2 s80.2.2.2.2, oc b83 [iv .i64 1, iv .i64 1]] rfl) ?_
      refine n_then (ref_seq ?_)
      refine ref_join (fun (j96 : T_deliberationkeep_Src × Int × T_api_Fraction) (x97 : Unit) => [(0, pv (ptr b_0 0)), (2, iv .i64 j96.2.1), (4, pv (ptr b1 0)), (6, pv (ptr b2 0)), (7, pv (ptr b3 0)), (8, iv .i64 s80.2.1), (9, pv (ptr b83 0))]) (fun (j96 : T_deliberationkeep_Src × Int × T_api_Fraction) (x97 : Unit) => [oc b_0 [slv (rI .i64) j96.1.L, iv .i64 j96.1.At], oc b1 [iv .i64 g_1.N, slv rT_api_Pair g_1.L], oc b2 [pv (.slice none 0 0), pv (.slice none 0 0)], oc b3 [pv x81.1.1, pv x81.2.1], oa rT_api_Fraction x81.1.1 x81.1.2 s80.2.2.2.1, oa rT_api_Fraction x81.2.1 x81.2.2 s80.2.2.2.2, oc b83 [iv .i64 j96.2.2.Num, iv .i64 j96.2.2.Den]]) (fun k98 hk98 => ?_) (fun j96 x97 => ?_)
      · refine ref_seq (ref_region ?_)
        refine mv1 rfl rfl ?_
        refine pull fun t84 h_t84 => ?_
        refine s_st (s_callC [0] [true] (fun (_ : Unit) => [oc b_0 [slv (rI .i64) t84.2.L, iv .i64 t84.2.At]]) (fun (_ : Unit) => []) (fun (_ : Unit) => iv .i64 t84.1) (args := [.tmp 21, .const (.int .i64 (4))]) (caps := []) Tryd.call16 rfl (keep_Src_N_ok h_t84) ⟨rfl, rfl, trivial⟩ (fun _ => rfl) (fun _ => trivial) (fun _ => rfl) ⟨arg rfl, arg rfl, trivial⟩ (fun _ _ _ _ h => h)) rfl (fun _ => ?_)
        refine l_nil (n_then (ref_block (ref_seq (ref_region ?_))))
        refine s_rd (r_eql rfl rfl) rfl ?_
        refine as1 rfl rfl ?_
        refine l_nil (n_then ?_)
        refine ref_cond rfl (fun hb85 => ?_) (fun hb85 => ?_)
        · refine ref_region ?_
          refine mv1 rfl rfl ?_
          refine pull fun t86 h_t86 => ?_
          refine s_st (s_callC [0] [true] (fun (_ : Unit) => [oc b_0 [slv (rI .i64) t86.2.L, iv .i64 t86.2.At]]) (fun (_ : Unit) => []) (fun (_ : Unit) => iv .i64 t86.1) (args := [.tmp 25, .const (.int .i64 (1)), .const (.int .i64 (3))]) (caps := []) Tryd.call23 rfl (keep_Src_Range_ok h_t86) ⟨rfl, rfl, trivial⟩ (fun _ => rfl) (fun _ => trivial) (fun _ => rfl) ⟨arg rfl, arg rfl, arg rfl, trivial⟩ (fun _ _ _ _ h => h)) rfl (fun _ => ?_)
          refine s_rd (r_build (ps := [(0, .const (.int .i64 (0))), (1, .tmp 26)]) (rs := [(0, [iv .i64 0]), (1, [iv .i64 t86.1])]) st_36 zs_36 ⟨rfl, (part_at rfl iv_at), ⟨rfl, (part_at rfl iv_at), trivial⟩⟩ rfl rfl) rfl ?_
          refine s_st0 (s_cstore (out := [iv .i64 0, iv .i64 t86.1]) Tryd.sizeOf36 rfl (j := 6) rfl (part_agO (ψs := [iv .i64 0, iv .i64 t86.1]) rfl ⟨.inl iv_at, .inl iv_at, trivial⟩) rfl rfl rfl) (fun _ => ?_)
          refine l_nil (n_block ?_)
          exact b_to (hk98 (t86.2, s80.1, (T_api_Fraction.mk 0 t86.1)) ()) (weak [0, 1, 2, 3, 4, 5, 6] ⟨rfl, rfl, rfl, rfl, rfl, rfl, rfl, trivial⟩ ⟨rfl, rfl, rfl, rfl, rfl, rfl, rfl, trivial⟩)
        refine ref_seq ?_
        refine ref_join (fun (j88 : Bool) (x89 : Unit) => [(0, pv (ptr b_0 0)), (2, iv .i64 s80.1), (4, pv (ptr b1 0)), (6, pv (ptr b2 0)), (7, pv (ptr b3 0)), (8, iv .i64 s80.2.1), (9, pv (ptr b83 0)), (28, bv j88)]) (fun (j88 : Bool) (x89 : Unit) => [oc b_0 [slv (rI .i64) t84.2.L, iv .i64 t84.2.At], oc b1 [iv .i64 g_1.N, slv rT_api_Pair g_1.L], oc b2 [pv (.slice none 0 0), pv (.slice none 0 0)], oc b3 [pv x81.1.1, pv x81.2.1], oa rT_api_Fraction x81.1.1 x81.1.2 s80.2.2.2.1, oa rT_api_Fraction x81.2.1 x81.2.2 s80.2.2.2.2, oc b83 [iv .i64 1, iv .i64 1]]) (fun k90 hk90 => ?_) (fun j88 x89 => ?_)
        · refine ref_seq (ref_region ?_)
          refine s_rd (r_eql rfl rfl) rfl ?_
          refine as1 rfl rfl ?_
          refine l_nil (n_then ?_)
          refine ref_cond rfl (fun hb87 => ?_) (fun hb87 => ?_)
          · refine ref_skip ?_
            exact b_to (hk90 (t84.1 == 1) ()) (weak [0, 1, 2, 3, 4, 5, 6] ⟨rfl, rfl, rfl, rfl, rfl, rfl, rfl, rfl, trivial⟩ ⟨rfl, rfl, rfl, rfl, rfl, rfl, rfl, trivial⟩)
          refine ref_region ?_
          refine s_rd (r_eql rfl rfl) rfl ?_
          refine as1 rfl rfl ?_
          refine l_nil ?_
          exact b_to (hk90 (t84.1 == 2) ()) (weak [0, 1, 2, 3, 4, 5, 6] ⟨rfl, rfl, rfl, rfl, rfl, rfl, rfl, rfl, trivial⟩ ⟨rfl, rfl, rfl, rfl, rfl, rfl, rfl, trivial⟩)
        refine n_then ?_
        refine ref_cond rfl (fun hb91 => ?_) (fun hb91 => ?_)
        · refine ref_seq (ref_region ?_)
          refine mv1 rfl rfl ?_
          refine s_rd (r_gtr rfl rfl) rfl ?_
          refine l_nil (n_then ?_)
          refine ref_cond rfl (fun hb92 => ?_) (fun hb92 => ?_)
          · refine ref_seq (ref_region ?_)
            refine mv1 rfl rfl ?_
            refine pull fun t93 h_t93 => ?_
            refine s_st (s_callC [0] [true] (fun (_ : Unit) => [oc b_0 [slv (rI .i64) t93.2.L, iv .i64 t93.2.At]]) (fun (_ : Unit) => []) (fun (_ : Unit) => iv .i64 t93.1) (args := [.tmp 33, .const (.int .i64 (2)), .const (.int .i64 (5))]) (caps := []) Tryd.call23 rfl (keep_Src_Range_ok h_t93) ⟨rfl, rfl, trivial⟩ (fun _ => rfl) (fun _ => trivial) (fun _ => rfl) ⟨arg rfl, arg rfl, arg rfl, trivial⟩ (fun _ _ _ _ h => h)) rfl (fun _ => ?_)
            refine s_rd (r_faddr (fo := 1) Tryd.underlying36 rfl rfl Tryd.sizeOf3 rfl) rfl ?_
            refine s_st0 (s_cstore (out := [iv .i64 1, iv .i64 t93.1]) Tryd.sizeOf3 rfl (j := 6) rfl (part_at rfl iv_at) rfl rfl rfl) (fun _ => ?_)
            refine l_nil (n_then (ref_seq (ref_region ?_)))
            refine mv1 rfl rfl ?_
            refine s_rd (r_faddr (fo := 1) Tryd.underlying36 rfl rfl Tryd.sizeOf3 rfl) rfl ?_
            refine s_rd (r_cload Tryd.isAgg3 rfl (j := 6) rfl rfl) rfl ?_
            refine s_rd (r_sub rfl rfl) rfl ?_
            refine pull fun t94 h_t94 => ?_
            refine s_st (s_callC [0] [true] (fun (_ : Unit) => [oc b_0 [slv (rI .i64) t94.2.L, iv .i64 t94.2.At]]) (fun (_ : Unit) => []) (fun (_ : Unit) => iv .i64 t94.1) (args := [.tmp 36, .const (.int .i64 (1)), .tmp 39]) (caps := []) Tryd.call23 rfl (keep_Src_Range_ok h_t94) ⟨rfl, rfl, trivial⟩ (fun _ => rfl) (fun _ => trivial) (fun _ => rfl) ⟨arg rfl, arg rfl, arg rfl, trivial⟩ (fun _ _ _ _ h => h)) rfl (fun _ => ?_)
            refine s_rd (r_faddr (fo := 0) Tryd.underlying36 rfl rfl Tryd.sizeOf3 rfl) rfl ?_
            refine s_st0 (s_cstore (out := [iv .i64 t94.1, iv .i64 t93.1]) Tryd.sizeOf3 rfl (j := 6) rfl (part_at rfl iv_at) rfl rfl rfl) (fun _ => ?_)
            refine l_nil ?_
            refine b_of (nrm [oc b_0 [slv (rI .i64) t94.2.L, iv .i64 t94.2.At], oc b1 [iv .i64 g_1.N, slv rT_api_Pair g_1.L], oc b2 [pv (.slice none 0 0), pv (.slice none 0 0)], oc b3 [pv x81.1.1, pv x81.2.1], oa rT_api_Fraction x81.1.1 x81.1.2 s80.2.2.2.1, oa rT_api_Fraction x81.2.1 x81.2.2 s80.2.2.2.2, oc b83 [iv .i64 t94.1, iv .i64 t93.1]] rfl) ?_
            refine n_then (ref_region ?_)
            refine mv1 rfl rfl ?_
            refine s_rd (r_sub rfl rfl) rfl ?_
            refine as1 rfl rfl ?_
            refine b_let (f := iv .i64) (t := 2) rfl fun n95 => ?_
            refine l_nil (n_block ?_)
            exact b_to (hk98 (t94.2, n95, (T_api_Fraction.mk t94.1 t93.1)) ()) (weak [0, 1, 2, 3, 4, 5, 6] ⟨rfl, rfl, rfl, rfl, rfl, rfl, rfl, trivial⟩ ⟨rfl, rfl, rfl, rfl, rfl, rfl, rfl, trivial⟩)
          refine ref_skip (n_block ?_)
          exact b_to (hk98 (t84.2, s80.1, (T_api_Fraction.mk 1 1)) ()) (weak [0, 1, 2, 3, 4, 5, 6] ⟨rfl, rfl, rfl, rfl, rfl, rfl, rfl, trivial⟩ ⟨rfl, rfl, rfl, rfl, rfl, rfl, rfl, trivial⟩)
        refine ref_skip (n_block ?_)
        exact b_to (hk98 (t84.2, s80.1, (T_api_Fraction.mk 1 1)) ()) (weak [0, 1, 2, 3, 4, 5, 6] ⟨rfl, rfl, rfl, rfl, rfl, rfl, rfl, trivial⟩ ⟨rfl, rfl, rfl, rfl, rfl, rfl, rfl, trivial⟩)
      refine n_then (ref_seq (ref_region ?_))
      refine mv1 rfl rfl ?_
      refine s_rd (r_faddr (fo := 0) Tryd.underlying27 rfl rfl Tryd.sizeOf3 rfl) rfl ?_
      refine s_rd (r_cload Tryd.isAgg3 rfl (j := 1) rfl rfl) rfl ?_
      refine s_rd (r_lss rfl rfl) rfl ?_
      refine l_nil (n_then ?_)
      refine ref_cond rfl (fun hb99 => ?_) (fun hb99 => ?_)
      · refine ref_region ?_
        refine s_rd (r_faddr (fo := 0) Tryd.underlying31 rfl rfl Tryd.sizeOf29 rfl) rfl ?_
        refine s_rd (r_cload Tryd.isAgg29 rfl (j := 3) rfl rfl) rfl ?_
        refine s_rd (r_cloadS Tryd.isAgg36 Tryd.sizeOf36 rfl (j := 6) rfl rfl rfl) rfl ?_
        refine s_st (s_bslice (xs := [.tmp 50]) (ds := [j96.2.2]) Tryd.underlying29 el_36 rfl (Nat.le_of_ble_eq_true rfl) ⟨(part_agO (ψs := [iv .i64 j96.2.2.Num, iv .i64 j96.2.2.Den]) rfl ⟨.inl iv_at, .inl iv_at, trivial⟩), trivial⟩) rfl (fun _ => ?_)
        refine pull fun t100 h_t100 => ?_
        refine s_st (s_append h_t100 Tryd.underlying29 el_36 rfl (j := 4) rfl rfl) rfl (fun o101 => ?_)
        refine s_rd (r_faddr (fo := 0) Tryd.underlying31 rfl rfl Tryd.sizeOf29 rfl) rfl ?_
        refine s_st0 (s_cstore (out := [pv o101.1, pv x81.2.1]) Tryd.sizeOf29 rfl (j := 3) rfl (part_own rfl (j := 4) rfl) rfl rfl rfl) (fun _ => ?_)
        refine l_nil (n_block (n_then (ref_region ?_)))
        refine mv1 rfl rfl ?_
        refine s_rd (r_add rfl rfl) rfl ?_
        refine as1 rfl rfl ?_
        refine b_let (f := iv .i64) (t := 8) rfl fun i104 => ?_
        refine l_nil ?_
        exact goB (o101, x81.2) (weak [0, 1, 2, 3, 4, 5] ⟨rfl, rfl, rfl, rfl, rfl, rfl, trivial⟩ ⟨rfl, rfl, rfl, rfl, rfl, rfl, trivial⟩)
      refine ref_region ?_
      refine s_rd (r_faddr (fo := 1) Tryd.underlying31 rfl rfl Tryd.sizeOf29 rfl) rfl ?_
      refine s_rd (r_cload Tryd.isAgg29 rfl (j := 3) rfl rfl) rfl ?_
      refine s_rd (r_cloadS Tryd.isAgg36 Tryd.sizeOf36 rfl (j := 6) rfl rfl rfl) rfl ?_
      refine s_st (s_bslice (xs := [.tmp 56]) (ds := [j96.2.2]) Tryd.underlying29 el_36 rfl (Nat.le_of_ble_eq_true rfl) ⟨(part_agO (ψs := [iv .i64 j96.2.2.Num, iv .i64 j96.2.2.Den]) rfl ⟨.inl iv_at, .inl iv_at, trivial⟩), trivial⟩) rfl (fun _ => ?_)
      refine pull fun t102 h_t102 => ?_
      refine s_st (s_append h_t102 Tryd.underlying29 el_36 rfl (j := 5) rfl rfl) rfl (fun o103 => ?_)
      refine s_rd (r_faddr (fo := 1) Tryd.underlying31 rfl rfl Tryd.sizeOf29 rfl) rfl ?_
      refine s_st0 (s_cstore (out := [pv x81.1.1, pv o103.1]) Tryd.sizeOf29 rfl (j := 3) rfl (part_own rfl (j := 5) rfl) rfl rfl rfl) (fun _ => ?_)
      refine l_nil (n_block (n_then (ref_region ?_)))
      refine mv1 rfl rfl ?_
      refine s_rd (r_add rfl rfl) rfl ?_
      refine as1 rfl rfl ?_
      refine b_let (f := iv .i64) (t := 8) rfl fun i105 => ?_
      refine l_nil ?_
      exact goB (x81.1, o103) (weak [0, 1, 2, 3, 4, 5] ⟨rfl, rfl, rfl, rfl, rfl, rfl, trivial⟩ ⟨rfl, rfl, rfl, rfl, rfl, rfl, trivial⟩)
    refine ref_exit (x_then ?_)
    exact brkB (x81.1, x81.2) (weak [0, 2, 3, 4, 5] ⟨rfl, rfl, rfl, trivial⟩ ⟨rfl, rfl, rfl, rfl, rfl, trivial⟩)
  refine n_then (ref_seq (ref_region ?_))
  refine s_rd (r_cloadS Tryd.isAgg31 Tryd.sizeOf31 rfl (j := 2) rfl rfl rfl) rfl ?_
  refine s_st0 (s_cstore (out := [pv y107.1.1, pv y107.2.1]) Tryd.sizeOf31 rfl (j := 1) rfl (part_agO (ψs := [pv y107.1.1, pv y107.2.1]) rfl ⟨.inr ⟨_, _, _, _, _, 3, rfl, rfl⟩, .inr ⟨_, _, _, _, _, 4, rfl, rfl⟩, trivial⟩) rfl rfl rfl) (fun _ => ?_)
  refine l_nil (n_then (ref_ret ?_))
  refine b_of (frzGL [(60, ag [slv rT_api_Fraction q106.2.1, pv y107.2.1])] [(1, b2, [slv rT_api_Fraction q106.2.1, pv y107.2.1]), (2, b3, [slv rT_api_Fraction q106.2.1, pv y107.2.1])] (j := 3) rfl ⟨⟨_, rfl, .inr ⟨_, _, rfl, rfl, ⟨.inr ⟨rfl, rfl⟩, .inl rfl, trivial⟩⟩⟩, trivial⟩ ⟨⟨_, rfl, ⟨.inr ⟨rfl, rfl⟩, .inl rfl, trivial⟩⟩, ⟨_, rfl, ⟨.inr ⟨rfl, rfl⟩, .inl rfl, trivial⟩⟩, trivial⟩) ?_
  refine b_of (nrm [oc b_0 [slv (rI .i64) q106.1.L, iv .i64 q106.1.At], oc b2 [slv rT_api_Fraction q106.2.1, pv y107.2.1], oc b3 [slv rT_api_Fraction q106.2.1, pv y107.2.1], dead, oa rT_api_Fraction y107.2.1 y107.2.2 q106.2.2] rfl) ?_
  refine b_of (frzGL [(60, ag [slv rT_api_Fraction q106.2.1, slv rT_api_Fraction q106.2.2])] [(1, b2, [slv rT_api_Fraction q106.2.1, slv rT_api_Fraction q106.2.2]), (2, b3, [slv rT_api_Fraction q106.2.1, slv rT_api_Fraction q106.2.2])] (j := 4) rfl ⟨⟨_, rfl, .inr ⟨_, _, rfl, rfl, ⟨.inl rfl, .inr ⟨rfl, rfl⟩, trivial⟩⟩⟩, trivial⟩ ⟨⟨_, rfl, ⟨.inl rfl, .inr ⟨rfl, rfl⟩, trivial⟩⟩, ⟨_, rfl, ⟨.inl rfl, .inr ⟨rfl, rfl⟩, trivial⟩⟩, trivial⟩) ?_
  refine b_of (nrm [oc b_0 [slv (rI .i64) q106.1.L, iv .i64 q106.1.At], oc b2 [slv rT_api_Fraction q106.2.1, slv rT_api_Fraction q106.2.2], oc b3 [slv rT_api_Fraction q106.2.1, slv rT_api_Fraction q106.2.2], dead, dead] rfl) ?_
  exact fin1 (.inl rfl) () [0] rfl ⟨rfl, trivial⟩ rfl (rv_cell rfl (j := 1) rfl Tryd.isAgg31 Tryd.sizeOf31 rfl rfl)

/-! cmp.isNaN[int] -/
noncomputable def cmp_isNaN_int_m (x_0 : Int) : Option (Bool) :=
  some (x_0 != x_0)

theorem cmp_isNaN_int_ok {x_0 : Int} {r : Bool} (hm : cmp_isNaN_int_m x_0 = some r) :
    FnOk prog 90 [iv .i64 x_0] [] (fun (x : Unit) => [bv r]) (fun (x : Unit) => []) := by
  refine fn_ok (fn := Tryd.f90) (N := 6) (res := fun r x => [bv r]) (Ω1 := fun r x => []) Tryd.func90 rfl rfl hm rfl (fun E hM => ?_)
  unfold cmp_isNaN_int_m
  refine ref_seq (ref_region ?_)
  refine as1 rfl rfl ?_
  refine l_nil (n_then (ref_seq (ref_region ?_)))
  refine mv1 rfl rfl ?_
  refine mv1 rfl rfl ?_
  refine s_rd (r_neq rfl rfl) rfl ?_
  refine as1 rfl rfl ?_
  refine l_nil (n_then (ref_ret ?_))
  exact fin1 (.inl rfl) () [] rfl trivial rfl (rv_tmp rfl)

/-! cmp.Compare[int] -/
noncomputable def cmp_Compare_int_m (x_0 : Int) (y_1 : Int) : Option (Int) :=
  Option.bind (cmp_isNaN_int_m x_0) fun xNaN1 =>
  Option.bind (cmp_isNaN_int_m y_1) fun yNaN2 =>
  bif xNaN1 then
    bif yNaN2 then
      some 0
    else
      some (-1)
  else
    bif yNaN2 then
      some 1
    else
      bif decide (x_0 < y_1) then
        some (-1)
      else
        bif decide (x_0 > y_1) then
          some 1
        else
          some 0

theorem cmp_Compare_int_ok {x_0 : Int} {y_1 : Int} {r : Int} (hm : cmp_Compare_int_m x_0 y_1 = some r) :
    FnOk prog 85 [iv .i64 x_0, iv .i64 y_1] [] (fun (x : Unit) => [iv .i64 r]) (fun (x : Unit) => []) := by
  refine fn_ok (fn := Tryd.f85) (N := 20) (res := fun r x => [iv .i64 r]) (Ω1 := fun r x => []) Tryd.func85 rfl rfl hm rfl (fun E hM => ?_)
  unfold cmp_Compare_int_m
  refine ref_seq (ref_region ?_)
  refine as1 rfl rfl ?_
  refine l_nil (n_then (ref_seq (ref_region ?_)))
  refine mv1 rfl rfl ?_
  refine pull fun xNaN1 h_xNaN1 => ?_
  refine s_st (s_call (ψ := fun (_ : Unit) => bv xNaN1) (args := [.tmp 7]) Tryd.call90 rfl (cmp_isNaN_int_ok h_xNaN1) ⟨arg rfl, trivial⟩ (fun _ _ _ _ h => h)) rfl (fun _ => ?_)
  refine as1 rfl rfl ?_
  refine l_nil (n_then (ref_seq (ref_region ?_)))
  refine mv1 rfl rfl ?_
  refine pull fun yNaN2 h_yNaN2 => ?_
  refine s_st (s_call (ψ := fun (_ : Unit) => bv yNaN2) (args := [.tmp 9]) Tryd.call90 rfl (cmp_isNaN_int_ok h_yNaN2) ⟨arg rfl, trivial⟩ (fun _ _ _ _ h => h)) rfl (fun _ => ?_)
  refine as1 rfl rfl ?_
  refine l_nil (n_then (ref_seq (ref_seq (ref_region ?_))))
  refine mv1 rfl rfl ?_
  refine l_nil (n_then ?_)
  refine ref_cond rfl (fun hb3 => ?_) (fun hb3 => ?_)
  · refine ref_seq (ref_seq (ref_region ?_))
    refine mv1 rfl rfl ?_
    refine l_nil (n_then ?_)
    refine ref_cond rfl (fun hb4 => ?_) (fun hb4 => ?_)
    · refine ref_seq (ref_region ?_)
      refine as1 rfl rfl ?_
      refine l_nil (n_then (ref_ret (r_then (r_then ?_))))
      exact fin1 (.inl rfl) () [] rfl trivial rfl (rv_tmp rfl)
    refine ref_skip (n_then (ref_seq (ref_region ?_)))
    refine as1 rfl rfl ?_
    refine l_nil (n_then (ref_ret (r_then ?_)))
    exact fin1 (.inl rfl) () [] rfl trivial rfl (rv_tmp rfl)
  refine ref_skip (n_then (ref_seq (ref_seq (ref_region ?_))))
  refine mv1 rfl rfl ?_
  refine l_nil (n_then ?_)
  refine ref_cond rfl (fun hb5 => ?_) (fun hb5 => ?_)
  · refine ref_seq (ref_region ?_)
    refine as1 rfl rfl ?_
    refine l_nil (n_then (ref_ret (r_then ?_)))
    exact fin1 (.inl rfl) () [] rfl trivial rfl (rv_tmp rfl)
  refine ref_skip (n_then (ref_seq (ref_seq (ref_region ?_))))
  refine mv1 rfl rfl ?_
  refine mv1 rfl rfl ?_
  refine s_rd (r_lss rfl rfl) rfl ?_
  refine l_nil (n_then ?_)
  refine ref_cond rfl (fun hb6 => ?_) (fun hb6 => ?_)
  · refine ref_seq (ref_region ?_)
    refine as1 rfl rfl ?_
    refine l_nil (n_then (ref_ret (r_then ?_)))
    exact fin1 (.inl rfl) () [] rfl trivial rfl (rv_tmp rfl)
  refine ref_skip (n_then (ref_seq (ref_seq (ref_region ?_))))
  refine mv1 rfl rfl ?_
  refine mv1 rfl rfl ?_
  refine s_rd (r_gtr rfl rfl) rfl ?_
  refine l_nil (n_then ?_)
  refine ref_cond rfl (fun hb7 => ?_) (fun hb7 => ?_)
  · refine ref_seq (ref_region ?_)
    refine as1 rfl rfl ?_
    refine l_nil (n_then (ref_ret (r_then ?_)))
    exact fin1 (.inl rfl) () [] rfl trivial rfl (rv_tmp rfl)
  refine ref_skip (n_then (ref_seq (ref_region ?_)))
  refine as1 rfl rfl ?_
  refine l_nil (n_then (ref_ret ?_))
  exact fin1 (.inl rfl) () [] rfl trivial rfl (rv_tmp rfl)

/-! cmp.Or[int] -/
noncomputable def cmp_Or_int_l1 (vals_0 : (List Int)) (s6 : Int) : Option (Sum ((Sum (Int) (Unit))) (Int)) :=
  bif decide (s6 < (vals_0.length : Int)) then
    Option.bind (idxM vals_0 s6) fun val9 =>
    bif val9 != 0 then
      some (Sum.inl (Sum.inl val9))
    else
      some (Sum.inr (iadd .i64 s6 1))
  else
    some (Sum.inl (Sum.inr ()))

noncomputable def cmp_Or_int_m (vals_0 : (List Int)) : Option (Int) :=
  Option.bind (loopC (cmp_Or_int_l1 vals_0) 0) (sumK (fun a : Int => some a) fun q11 : Unit =>
    some 0)

theorem cmp_Or_int_ok {vals_0 : (List Int)} {r : Int} (hm : cmp_Or_int_m vals_0 = some r) :
    FnOk prog 84 [slv (rI .i64) vals_0] [] (fun (x : Unit) => [iv .i64 r]) (fun (x : Unit) => []) := by
  refine fn_ok (fn := Tryd.f84) (N := 18) (res := fun r x => [iv .i64 r]) (Ω1 := fun r x => []) Tryd.func84 rfl rfl hm rfl (fun E hM => ?_)
  unfold cmp_Or_int_m
  refine ref_seq (ref_region ?_)
  refine as1 rfl rfl ?_
  refine l_nil (n_then (ref_seq (ref_region ?_)))
  refine as1 rfl rfl ?_
  refine l_nil (n_then (ref_seq (ref_seq (ref_region ?_))))
  refine mv1 rfl rfl ?_
  refine s_rd (r_len Tryd.underlying22 rfl) rfl ?_
  refine mv1 rfl rfl ?_
  refine l_nil (n_then ?_)
  refine ref_loopX (f := (cmp_Or_int_l1 vals_0)) (Γl := (fun (s6 : Int) (x7 : Unit) => [(3, iv .i64 0), (6, slv (rI .i64) vals_0), (7, iv .i64 (vals_0.length : Int)), (8, iv .i64 s6)])) (Ωl := (fun (s6 : Int) (x7 : Unit) => [])) (Γb := (fun (q11 : Unit) (y12 : Unit) => [(3, iv .i64 0)])) (Ωb := (fun (q11 : Unit) (y12 : Unit) => [])) (kr := (fun a : Int => some a)) 0 () (weak [] ⟨rfl, rfl, rfl, rfl, trivial⟩ trivial) (fun s6 x7 => ?_) (fun q11 y12 => ?_)
  · unfold cmp_Or_int_l1
    refine ref_seq (ref_region ?_)
    refine s_rd (r_lss rfl rfl) rfl ?_
    refine l_nil (n_then (ref_seq ?_))
    refine ref_cond rfl (fun hb8 => ?_) (fun hb8 => ?_)
    · refine ref_skip (n_then (ref_seq (ref_block (ref_seq (ref_region ?_)))))
      refine pull fun val9 h_val9 => ?_
      refine s_rd (r_index h_val9 Tryd.underlying22 el_3 rfl rfl) rfl ?_
      refine s_rd (r_load el_3 rfl) rfl ?_
      refine as1 rfl rfl ?_
      refine l_nil (n_then (ref_seq (ref_region ?_)))
      refine mv1 rfl rfl ?_
      refine mv1 rfl rfl ?_
      refine s_rd (r_neq rfl rfl) rfl ?_
      refine l_nil (n_then ?_)
      refine ref_cond rfl (fun hb10 => ?_) (fun hb10 => ?_)
      · refine ref_seq (ref_region ?_)
        refine mv1 rfl rfl ?_
        refine as1 rfl rfl ?_
        refine l_nil (n_then (ref_ret (r_block (r_then ?_))))
        refine retX ?_
        refine r_block (r_then ?_)
        exact fin1 (.inl rfl) () [] rfl trivial rfl (rv_tmp rfl)
      refine ref_skip (n_block (n_then (ref_region ?_)))
      refine s_rd (r_add rfl rfl) rfl ?_
      refine mv1 rfl rfl ?_
      refine l_nil ?_
      exact goX () (weak [] ⟨rfl, rfl, rfl, rfl, trivial⟩ trivial)
    refine ref_exit (x_then ?_)
    exact brkX () (weak [] ⟨rfl, trivial⟩ trivial)
  refine n_then (ref_seq (ref_region ?_))
  refine mv1 rfl rfl ?_
  refine as1 rfl rfl ?_
  refine l_nil (n_then (ref_ret ?_))
  exact fin1 (.inl rfl) () [] rfl trivial rfl (rv_tmp rfl)

/-! deliberation/graph.compare -/
noncomputable def graph_compare_m (a__0 : T_api_Pair) (b_1 : T_api_Pair) : Option (Int) :=
  Option.bind (cmp_Compare_int_m a__0.From b_1.From) fun t3 =>
  Option.bind (cmp_Compare_int_m a__0.To b_1.To) fun t4 =>
  Option.bind (cmp_Or_int_m [t3, t4]) fun t5 =>
  some t5

theorem graph_compare_ok {a__0 : T_api_Pair} {b_1 : T_api_Pair} {r : Int} (hm : graph_compare_m a__0 b_1 = some r) :
    FnOk prog 65 [ag [iv .i64 a__0.From, iv .i64 a__0.To], ag [iv .i64 b_1.From, iv .i64 b_1.To]] [] (fun (x : Unit) => [iv .i64 r]) (fun (x : Unit) => []) := by
  refine fn_ok (fn := Tryd.f65) (N := 17) (res := fun r x => [iv .i64 r]) (Ω1 := fun r x => []) Tryd.func65 rfl rfl hm rfl (fun E hM => ?_)
  unfold graph_compare_m
  refine ref_seq (ref_region ?_)
  refine s_st (s_box (part_agO (ψs := [iv .i64 a__0.From, iv .i64 a__0.To]) rfl ⟨.inl iv_at, .inl iv_at, trivial⟩)) rfl (fun b1 => ?_)
  refine s_st (s_box (part_agO (ψs := [iv .i64 b_1.From, iv .i64 b_1.To]) rfl ⟨.inl iv_at, .inl iv_at, trivial⟩)) rfl (fun b2 => ?_)
  refine as1 rfl rfl ?_
  refine l_nil (n_then (ref_seq ?_))
  refine ref_draw [0, 1, 2, 3, 5, 6, 7, 8] rfl (by kernel_rfl) (fun hok => ?_)
  refine a_rd (i := 0) hok rfl (by kernel_rfl) rfl (r_faddr (fo := 0) Tryd.underlying63 rfl rfl Tryd.sizeOf3 rfl) rfl ?_
  refine a_rd (i := 1) hok rfl (by kernel_rfl) rfl (r_cload Tryd.isAgg3 rfl (j := 0) rfl rfl) rfl ?_
  refine a_rd (i := 2) hok rfl (by kernel_rfl) rfl (r_faddr (fo := 0) Tryd.underlying63 rfl rfl Tryd.sizeOf3 rfl) rfl ?_
  refine a_rd (i := 3) hok rfl (by kernel_rfl) rfl (r_cload Tryd.isAgg3 rfl (j := 1) rfl rfl) rfl ?_
  refine a_rd (i := 5) hok rfl (by kernel_rfl) rfl (r_faddr (fo := 1) Tryd.underlying63 rfl rfl Tryd.sizeOf3 rfl) rfl ?_
  refine a_rd (i := 6) hok rfl (by kernel_rfl) rfl (r_cload Tryd.isAgg3 rfl (j := 0) rfl rfl) rfl ?_
  refine a_rd (i := 7) hok rfl (by kernel_rfl) rfl (r_faddr (fo := 1) Tryd.underlying63 rfl rfl Tryd.sizeOf3 rfl) rfl ?_
  refine a_rd (i := 8) hok rfl (by kernel_rfl) rfl (r_cload Tryd.isAgg3 rfl (j := 1) rfl rfl) rfl ?_
  refine pull fun t3 h_t3 => ?_
  refine a_next hok 4 [] (by kernel_rfl) ?_ trivial
  refine a_st (i := 4) hok rfl rfl (s_call (ψ := fun (_ : Unit) => iv .i64 t3) (args := [.tmp 6, .tmp 8]) Tryd.call85 rfl (cmp_Compare_int_ok h_t3) ⟨arg rfl, arg rfl, trivial⟩ (fun _ _ _ _ h => h)) (by intro _ h; cases h; rfl) (fun _ => ⟨⟨⟨rfl, rfl⟩, trivial⟩, ⟨trivial, ⟨⟨⟨rfl, rfl⟩, trivial⟩, ⟨trivial, ⟨trivial, ⟨trivial, ⟨trivial, ⟨trivial, trivial⟩⟩⟩⟩⟩⟩⟩⟩) (fun _ => ?_)
  refine pull fun t4 h_t4 => ?_
  refine a_next hok 9 [] (by kernel_rfl) ?_ trivial
  refine a_st (i := 9) hok rfl rfl (s_call (ψ := fun (_ : Unit) => iv .i64 t4) (args := [.tmp 11, .tmp 13]) Tryd.call85 rfl (cmp_Compare_int_ok h_t4) ⟨arg rfl, arg rfl, trivial⟩ (fun _ _ _ _ h => h)) (by intro _ h; cases h; rfl) (fun _ => ⟨trivial, ⟨trivial, ⟨trivial, ⟨trivial, ⟨⟨⟨rfl, rfl⟩, trivial⟩, ⟨trivial, ⟨⟨⟨rfl, rfl⟩, trivial⟩, ⟨trivial, trivial⟩⟩⟩⟩⟩⟩⟩⟩) (fun _ => ?_)
  refine a_next hok 10 [] (by kernel_rfl) ?_ trivial
  refine a_st (i := 10) hok rfl rfl (s_bslice (xs := [.tmp 9, .tmp 14]) (ds := [t3, t4]) Tryd.underlying22 el_3 rfl (Nat.le_of_ble_eq_true rfl) ⟨(part_at rfl iv_at), ⟨(part_at rfl iv_at), trivial⟩⟩) (by intro _ h; cases h; rfl) (fun _ => ⟨⟨⟨rfl, rfl⟩, trivial⟩, ⟨trivial, ⟨⟨⟨rfl, rfl⟩, trivial⟩, ⟨trivial, ⟨⟨⟨rfl, rfl⟩, trivial⟩, ⟨trivial, ⟨⟨⟨rfl, rfl⟩, trivial⟩, ⟨trivial, trivial⟩⟩⟩⟩⟩⟩⟩⟩) (fun _ => ?_)
  refine pull fun t5 h_t5 => ?_
  refine a_next hok 11 [] (by kernel_rfl) ?_ trivial
  refine a_st (i := 11) hok rfl rfl (s_call (ψ := fun (_ : Unit) => iv .i64 t5) (args := [.tmp 15]) Tryd.call84 rfl (cmp_Or_int_ok h_t5) ⟨arg rfl, trivial⟩ (fun _ _ _ _ h => h)) (by intro _ h; cases h; rfl) (fun _ => ⟨⟨⟨rfl, rfl⟩, trivial⟩, ⟨trivial, ⟨⟨⟨rfl, rfl⟩, trivial⟩, ⟨trivial, ⟨⟨⟨rfl, rfl⟩, trivial⟩, ⟨trivial, ⟨⟨⟨rfl, rfl⟩, trivial⟩, ⟨trivial, trivial⟩⟩⟩⟩⟩⟩⟩⟩) (fun _ => ?_)
  refine a_next hok 12 [] (by kernel_rfl) ?_ trivial
  refine a_st (i := 12) hok rfl rfl (St.ofRd (r_assign rfl)) (by intro _ h; cases h; rfl) (fun _ => ⟨trivial, ⟨trivial, ⟨trivial, ⟨trivial, ⟨trivial, ⟨trivial, ⟨trivial, ⟨trivial, trivial⟩⟩⟩⟩⟩⟩⟩⟩) (fun _ => ?_)
  refine a_fin hok (by kernel_rfl) ?_
  refine b_of (nrm [oc b1 [iv .i64 a__0.From, iv .i64 a__0.To], oc b2 [iv .i64 b_1.From, iv .i64 b_1.To]] rfl) ?_
  refine n_then (ref_ret ?_)
  exact fin1 (.inl rfl) () [] rfl trivial rfl (rv_tmp rfl)

/-! deliberation/graph.Validate -/
noncomputable def graph_Validate_l1 (g_0 : T_api_Graph) (s12 : Int) : Option (Sum ((Sum (Int) (Unit))) (Int)) :=
  bif decide (s12 < (g_0.L.length : Int)) then
    Option.bind (idxM g_0.L s12) fun t15 =>
    bif decide ((imin t15.From t15.To) < 0) then
      some (Sum.inl (Sum.inl 1))
    else
      bif decide ((imax t15.From t15.To) ≥ g_0.N) then
        some (Sum.inl (Sum.inl 1))
      else
        bif decide (s12 > 0) then
          Option.bind (idxM g_0.L (isub .i64 s12 1)) fun t18 =>
          Option.bind (graph_compare_m t18 t15) fun t19 =>
          bif decide (t19 ≥ 0) then
            some (Sum.inl (Sum.inl 8))
          else
            some (Sum.inr (iadd .i64 s12 1))
        else
          some (Sum.inr (iadd .i64 s12 1))
  else
    some (Sum.inl (Sum.inr ()))

noncomputable def graph_Validate_m (g_0 : T_api_Graph) : Option (Int) :=
  bif decide (g_0.N < 0) then
    some 1
  else
    bif decide (g_0.N > 40) then
      some 1
    else
      Option.bind (loopC (graph_Validate_l1 g_0) 0) (sumK (fun a : Int => some a) fun q21 : Unit =>
        some 0)

theorem graph_Validate_ok {g_0 : T_api_Graph} {r : Int} (hm : graph_Validate_m g_0 = some r) :
    FnOk prog 40 [ag [iv .i64 g_0.N, slv rT_api_Pair g_0.L]] [] (fun (x : Unit) => [iv .i64 r]) (fun (x : Unit) => []) := by
  refine fn_ok (fn := Tryd.f40) (N := 51) (res := fun r x => [iv .i64 r]) (Ω1 := fun r x => []) Tryd.func40 rfl rfl hm rfl (fun E hM => ?_)
  unfold graph_Validate_m
  refine ref_seq (ref_region ?_)
  refine s_st (s_box (part_agO (ψs := [iv .i64 g_0.N, slv rT_api_Pair g_0.L]) rfl ⟨.inl iv_at, .inl slv_at, trivial⟩)) rfl (fun b1 => ?_)
  refine as1 rfl rfl ?_
  refine l_nil (n_then (ref_seq (ref_seq (ref_region ?_))))
  refine s_rd (r_faddr (fo := 0) Tryd.underlying27 rfl rfl Tryd.sizeOf3 rfl) rfl ?_
  refine s_rd (r_cload Tryd.isAgg3 rfl (j := 0) rfl rfl) rfl ?_
  refine s_rd (r_lss rfl rfl) rfl ?_
  refine mv1 rfl rfl ?_
  refine b_split (t := 8) rfl (fun _ => ?_) (fun _ => ?_)
  · refine s_off rfl rfl rfl rfl rfl ?_
    refine s_off rfl rfl rfl rfl rfl ?_
    refine s_off rfl rfl rfl rfl rfl ?_
    refine s_rd (r_pickT rfl rfl) rfl ?_
    refine l_nil (n_then ?_)
    refine ref_condT rfl rfl ?_
    refine ref_seq (ref_region ?_)
    refine as1 rfl rfl ?_
    refine l_nil (n_then (ref_ret (r_then ?_)))
    exact fin1 (.inl rfl) () [] rfl trivial rfl (rv_tmp rfl)
  refine s_on rfl rfl rfl ?_
  refine s_rd (r_faddr (fo := 0) Tryd.underlying27 rfl rfl Tryd.sizeOf3 rfl) rfl ?_
  refine s_on rfl rfl rfl ?_
  refine s_rd (r_cload Tryd.isAgg3 rfl (j := 0) rfl rfl) rfl ?_
  refine s_on rfl rfl rfl ?_
  refine s_rd (r_gtr rfl rfl) rfl ?_
  refine s_rd (r_pickF rfl rfl) rfl ?_
  refine l_nil (n_then ?_)
  refine ref_cond rfl (fun hb2 => ?_) (fun hb2 => ?_)
  · refine ref_seq (ref_region ?_)
    refine as1 rfl rfl ?_
    refine l_nil (n_then (ref_ret (r_then ?_)))
    exact fin1 (.inl rfl) () [] rfl trivial rfl (rv_tmp rfl)
  refine ref_skip (n_then (ref_seq (ref_seq (ref_region ?_))))
  refine s_rd (r_faddr (fo := 1) Tryd.underlying27 rfl rfl Tryd.sizeOf25 rfl) rfl ?_
  refine s_rd (r_cload Tryd.isAgg25 rfl (j := 0) rfl rfl) rfl ?_
  refine s_rd (r_len Tryd.underlying25 rfl) rfl ?_
  refine mv1 rfl rfl ?_
  refine l_nil (n_then ?_)
  refine ref_loopX (f := (graph_Validate_l1 g_0)) (Γl := (fun (s12 : Int) (x13 : Unit) => [(1, pv (ptr b1 0)), (14, slv rT_api_Pair g_0.L), (15, iv .i64 (g_0.L.length : Int)), (16, iv .i64 s12)])) (Ωl := (fun (s12 : Int) (x13 : Unit) => [oc b1 [iv .i64 g_0.N, slv rT_api_Pair g_0.L]])) (Γb := (fun (q21 : Unit) (y22 : Unit) => [])) (Ωb := (fun (q21 : Unit) (y22 : Unit) => [])) (kr := (fun a : Int => some a)) 0 () (weak [0] ⟨rfl, rfl, rfl, rfl, trivial⟩ ⟨rfl, trivial⟩) (fun s12 x13 => ?_) (fun q21 y22 => ?_)
  · unfold graph_Validate_l1
    refine ref_seq (ref_region ?_)
    refine s_rd (r_lss rfl rfl) rfl ?_
    refine l_nil (n_then (ref_seq ?_))
    refine ref_cond rfl (fun hb14 => ?_) (fun hb14 => ?_)
    · refine ref_skip (n_then (ref_seq (ref_block (ref_seq (ref_region ?_)))))
      refine mv1 rfl rfl ?_
      refine pull fun t15 h_t15 => ?_
      refine s_rd (r_index h_t15 Tryd.underlying25 el_63 rfl rfl) rfl ?_
      refine s_rd (r_load el_63 rfl) rfl ?_
      refine s_st (s_alloc zt_63) rfl (fun b16 => ?_)
      refine as1 rfl rfl ?_
      refine s_st0 (s_cstore (out := [iv .i64 t15.From, iv .i64 t15.To]) Tryd.sizeOf63 rfl (j := 1) rfl (part_agO (ψs := [iv .i64 t15.From, iv .i64 t15.To]) rfl ⟨.inl iv_at, .inl iv_at, trivial⟩) rfl rfl rfl) (fun _ => ?_)
      refine l_nil (n_then (ref_seq (ref_seq (ref_region ?_))))
      refine s_rd (r_faddr (fo := 0) Tryd.underlying63 rfl rfl Tryd.sizeOf3 rfl) rfl ?_
      refine s_rd (r_cload Tryd.isAgg3 rfl (j := 1) rfl rfl) rfl ?_
      refine s_rd (r_faddr (fo := 1) Tryd.underlying63 rfl rfl Tryd.sizeOf3 rfl) rfl ?_
      refine s_rd (r_cload Tryd.isAgg3 rfl (j := 1) rfl rfl) rfl ?_
      refine s_rd (r_min rfl rfl) rfl ?_
      refine s_rd (r_lss rfl rfl) rfl ?_
      refine mv1 rfl rfl ?_
      refine b_split (t := 27) rfl (fun _ => ?_) (fun _ => ?_)
      · refine s_off rfl rfl rfl rfl rfl ?_
        refine s_off rfl rfl rfl rfl rfl ?_
        refine s_off rfl rfl rfl rfl rfl ?_
        refine s_off rfl rfl rfl rfl rfl ?_
        refine s_off rfl rfl rfl rfl rfl ?_
        refine s_off rfl rfl rfl rfl rfl ?_
        refine s_off rfl rfl rfl rfl rfl ?_
        refine s_off rfl rfl rfl rfl rfl ?_
        refine s_rd (r_pickT rfl rfl) rfl ?_
        refine l_nil (n_then ?_)
        refine ref_condT rfl rfl ?_
        refine ref_seq (ref_region ?_)
        refine as1 rfl rfl ?_
        refine l_nil (n_then (ref_ret (r_then (r_block (r_then ?_)))))
        refine retX ?_
        refine r_block (r_then ?_)
        exact fin1 (.inl rfl) () [] rfl trivial rfl (rv_tmp rfl)
      refine s_on rfl rfl rfl ?_
      refine s_rd (r_faddr (fo := 0) Tryd.underlying63 rfl rfl Tryd.sizeOf3 rfl) rfl ?_
      refine s_on rfl rfl rfl ?_
      refine s_rd (r_cload Tryd.isAgg3 rfl (j := 1) rfl rfl) rfl ?_
      refine s_on rfl rfl rfl ?_
      refine s_rd (r_faddr (fo := 1) Tryd.underlying63 rfl rfl Tryd.sizeOf3 rfl) rfl ?_
      refine s_on rfl rfl rfl ?_
      refine s_rd (r_cload Tryd.isAgg3 rfl (j := 1) rfl rfl) rfl ?_
      refine s_on rfl rfl rfl ?_
      refine s_rd (r_max rfl rfl) rfl ?_
      refine s_on rfl rfl rfl ?_
      refine s_rd (r_faddr (fo := 0) Tryd.underlying27 rfl rfl Tryd.sizeOf3 rfl) rfl ?_
      refine s_on rfl rfl rfl ?_
      refine s_rd (r_cload Tryd.isAgg3 rfl (j := 0) rfl rfl) rfl ?_
      refine s_on rfl rfl rfl ?_
      refine s_rd (r_geq rfl rfl) rfl ?_
      refine s_rd (r_pickF rfl rfl) rfl ?_
      refine l_nil (n_then ?_)
      refine ref_cond rfl (fun hb17 => ?_) (fun hb17 => ?_)
      · refine ref_seq (ref_region ?_)
        refine as1 rfl rfl ?_
        refine l_nil (n_then (ref_ret (r_then (r_block (r_then ?_)))))
        refine retX ?_
        refine r_block (r_then ?_)
        exact fin1 (.inl rfl) () [] rfl trivial rfl (rv_tmp rfl)
      refine ref_skip (n_then (ref_seq ?_))
      refine ref_draw [0, 1, 2, 3, 4, 5, 6, 7, 8, 9, 11, 12] rfl (by kernel_rfl) (fun hok => ?_)
      refine a_rd (i := 0) hok rfl (by kernel_rfl) rfl (r_move rfl) rfl ?_
      refine a_rd (i := 1) hok rfl (by kernel_rfl) rfl (r_gtr rfl rfl) rfl ?_
      refine a_rd (i := 2) hok rfl (by kernel_rfl) rfl (r_move rfl) rfl ?_
      refine b_split (t := 39) rfl (fun _ => ?_) (fun _ => ?_)
      · refine a_rdOn (i := 3) hok rfl rfl rfl rfl (by kernel_rfl) rfl (r_faddr (fo := 1) Tryd.underlying27 rfl rfl Tryd.sizeOf25 rfl) rfl ?_
        refine a_rdOn (i := 4) hok rfl rfl rfl rfl (by kernel_rfl) rfl (r_cload Tryd.isAgg25 rfl (j := 0) rfl rfl) rfl ?_
        refine a_rdOn (i := 5) hok rfl rfl rfl rfl (by kernel_rfl) rfl (r_move rfl) rfl ?_
        refine a_rdOn (i := 6) hok rfl rfl rfl rfl (by kernel_rfl) rfl (r_sub rfl rfl) rfl ?_
        refine pull fun t18 h_t18 => ?_
        refine a_rdOn (i := 7) hok rfl rfl rfl rfl (by kernel_rfl) rfl (r_index h_t18 Tryd.underlying25 el_63 rfl rfl) rfl ?_
        refine a_rdOn (i := 8) hok rfl rfl rfl rfl (by kernel_rfl) rfl (r_load el_63 rfl) rfl ?_
        refine a_rdOn (i := 9) hok rfl rfl rfl rfl (by kernel_rfl) rfl (r_cloadS Tryd.isAgg63 Tryd.sizeOf63 rfl (j := 1) rfl rfl rfl) rfl ?_
        refine pull fun t19 h_t19 => ?_
        refine a_next hok 10 [] (by kernel_rfl) ?_ trivial
        refine a_stOn (i := 10) hok rfl rfl rfl rfl rfl (s_call (ψ := fun (_ : Unit) => iv .i64 t19) (args := [.tmp 45, .tmp 46]) Tryd.call65 rfl (graph_compare_ok h_t19) ⟨arg rfl, arg rfl, trivial⟩ (fun _ _ _ _ h => h)) (by intro _ h; cases h; rfl) (fun _ => ⟨trivial, ⟨trivial, ⟨trivial, ⟨trivial, ⟨trivial, ⟨⟨⟨rfl, rfl⟩, trivial⟩, ⟨trivial, ⟨trivial, ⟨trivial, ⟨trivial, trivial⟩⟩⟩⟩⟩⟩⟩⟩⟩⟩) (fun _ => ?_)
        refine a_rdOn (i := 11) hok rfl rfl rfl rfl (by kernel_rfl) rfl (r_geq rfl rfl) rfl ?_
        refine a_rd (i := 12) hok rfl (by kernel_rfl) rfl (r_pickT rfl rfl) rfl ?_
        refine a_fin hok (by kernel_rfl) ?_
        refine b_of (nrm [oc b1 [iv .i64 g_0.N, slv rT_api_Pair g_0.L], oc b16 [iv .i64 t15.From, iv .i64 t15.To]] rfl) ?_
        refine n_then ?_
        refine ref_cond rfl (fun hb20 => ?_) (fun hb20 => ?_)
        · refine ref_seq (ref_region ?_)
          refine as1 rfl rfl ?_
          refine l_nil (n_then (ref_ret (r_block (r_then ?_))))
          refine retX ?_
          refine r_block (r_then ?_)
          exact fin1 (.inl rfl) () [] rfl trivial rfl (rv_tmp rfl)
        refine ref_skip (n_block (n_then (ref_region ?_)))
        refine s_rd (r_add rfl rfl) rfl ?_
        refine mv1 rfl rfl ?_
        refine l_nil ?_
        exact goX () (weak [0] ⟨rfl, rfl, rfl, rfl, trivial⟩ ⟨rfl, trivial⟩)
      refine a_off (i := 3) hok rfl rfl rfl rfl rfl (by kernel_rfl) rfl rfl ?_
      refine a_off (i := 4) hok rfl rfl rfl rfl rfl (by kernel_rfl) rfl rfl ?_
      refine a_off (i := 5) hok rfl rfl rfl rfl rfl (by kernel_rfl) rfl rfl ?_
      refine a_off (i := 6) hok rfl rfl rfl rfl rfl (by kernel_rfl) rfl rfl ?_
      refine a_off (i := 7) hok rfl rfl rfl rfl rfl (by kernel_rfl) rfl rfl ?_
      refine a_off (i := 8) hok rfl rfl rfl rfl rfl (by kernel_rfl) rfl rfl ?_
      refine a_off (i := 9) hok rfl rfl rfl rfl rfl (by kernel_rfl) rfl rfl ?_
      refine a_next hok 10 [] (by kernel_rfl) ?_ trivial
      refine a_stOff (i := 10) hok rfl rfl rfl rfl rfl rfl (by intro _ h; cases h; rfl) ⟨trivial, ⟨trivial, ⟨trivial, ⟨trivial, ⟨trivial, ⟨trivial, ⟨trivial, ⟨trivial, ⟨trivial, ⟨trivial, trivial⟩⟩⟩⟩⟩⟩⟩⟩⟩⟩ ?_
      refine a_off (i := 11) hok rfl rfl rfl rfl rfl (by kernel_rfl) rfl rfl ?_
      refine a_rd (i := 12) hok rfl (by kernel_rfl) rfl (r_pickF rfl rfl) rfl ?_
      refine a_fin hok (by kernel_rfl) ?_
      refine n_then ?_
      refine ref_condF rfl rfl ?_
      refine ref_skip (n_block (n_then (ref_region ?_)))
      refine s_rd (r_add rfl rfl) rfl ?_
      refine mv1 rfl rfl ?_
      refine l_nil ?_
      exact goX () (weak [0] ⟨rfl, rfl, rfl, rfl, trivial⟩ ⟨rfl, trivial⟩)
    refine ref_exit (x_then ?_)
    exact brkX () (weak [] trivial trivial)
  refine n_then (ref_seq (ref_region ?_))
  refine as1 rfl rfl ?_
  refine l_nil (n_then (ref_ret ?_))
  exact fin1 (.inl rfl) () [] rfl trivial rfl (rv_tmp rfl)

/-! deliberation/chance.proper$1 -/
noncomputable def chance_proper_1_m (f_0 : T_api_Fraction) : Option (Bool) :=
  bif decide (f_0.Den < 1) then
    some true
  else
    bif decide (f_0.Den > 12) then
      some true
    else
      bif decide (f_0.Num < 0) then
        some true
      else
        letM (decide (f_0.Num > f_0.Den)) fun t2 =>
        some t2

theorem chance_proper_1_ok {f_0 : T_api_Fraction} {r : Bool} (hm : chance_proper_1_m f_0 = some r) :
    FnOk prog 87 [ag [iv .i64 f_0.Num, iv .i64 f_0.Den]] [] (fun (x : Unit) => [bv r]) (fun (x : Unit) => []) := by
  refine fn_ok (fn := Tryd.f87) (N := 23) (res := fun r x => [bv r]) (Ω1 := fun r x => []) Tryd.func87 rfl rfl hm rfl (fun E hM => ?_)
  unfold chance_proper_1_m
  refine ref_seq (ref_region ?_)
  refine s_st (s_box (part_agO (ψs := [iv .i64 f_0.Num, iv .i64 f_0.Den]) rfl ⟨.inl iv_at, .inl iv_at, trivial⟩)) rfl (fun b1 => ?_)
  refine as1 rfl rfl ?_
  refine l_nil (n_then (ref_seq (ref_region ?_)))
  refine s_rd (r_faddr (fo := 1) Tryd.underlying36 rfl rfl Tryd.sizeOf3 rfl) rfl ?_
  refine s_rd (r_cload Tryd.isAgg3 rfl (j := 0) rfl rfl) rfl ?_
  refine s_rd (r_lss rfl rfl) rfl ?_
  refine mv1 rfl rfl ?_
  refine b_split (t := 6) rfl (fun _ => ?_) (fun _ => ?_)
  · refine s_off rfl rfl rfl rfl rfl ?_
    refine s_off rfl rfl rfl rfl rfl ?_
    refine s_off rfl rfl rfl rfl rfl ?_
    refine s_rd (r_pickT rfl rfl) rfl ?_
    refine mv1 rfl rfl ?_
    refine s_off rfl rfl rfl rfl rfl ?_
    refine s_off rfl rfl rfl rfl rfl ?_
    refine s_off rfl rfl rfl rfl rfl ?_
    refine s_rd (r_pickT rfl rfl) rfl ?_
    refine mv1 rfl rfl ?_
    refine s_off rfl rfl rfl rfl rfl ?_
    refine s_off rfl rfl rfl rfl rfl ?_
    refine s_off rfl rfl rfl rfl rfl ?_
    refine s_off rfl rfl rfl rfl rfl ?_
    refine s_off rfl rfl rfl rfl rfl ?_
    refine s_rd (r_pickT rfl rfl) rfl ?_
    refine as1 rfl rfl ?_
    refine l_nil (n_then (ref_ret ?_))
    exact fin1 (.inl rfl) () [] rfl trivial rfl (rv_tmp rfl)
  refine s_on rfl rfl rfl ?_
  refine s_rd (r_faddr (fo := 1) Tryd.underlying36 rfl rfl Tryd.sizeOf3 rfl) rfl ?_
  refine s_on rfl rfl rfl ?_
  refine s_rd (r_cload Tryd.isAgg3 rfl (j := 0) rfl rfl) rfl ?_
  refine s_on rfl rfl rfl ?_
  refine s_rd (r_gtr rfl rfl) rfl ?_
  refine s_rd (r_pickF rfl rfl) rfl ?_
  refine mv1 rfl rfl ?_
  refine b_split (t := 11) rfl (fun _ => ?_) (fun _ => ?_)
  · refine s_off rfl rfl rfl rfl rfl ?_
    refine s_off rfl rfl rfl rfl rfl ?_
    refine s_off rfl rfl rfl rfl rfl ?_
    refine s_rd (r_pickT rfl rfl) rfl ?_
    refine mv1 rfl rfl ?_
    refine s_off rfl rfl rfl rfl rfl ?_
    refine s_off rfl rfl rfl rfl rfl ?_
    refine s_off rfl rfl rfl rfl rfl ?_
    refine s_off rfl rfl rfl rfl rfl ?_
    refine s_off rfl rfl rfl rfl rfl ?_
    refine s_rd (r_pickT rfl rfl) rfl ?_
    refine as1 rfl rfl ?_
    refine l_nil (n_then (ref_ret ?_))
    exact fin1 (.inl rfl) () [] rfl trivial rfl (rv_tmp rfl)
  refine s_on rfl rfl rfl ?_
  refine s_rd (r_faddr (fo := 0) Tryd.underlying36 rfl rfl Tryd.sizeOf3 rfl) rfl ?_
  refine s_on rfl rfl rfl ?_
  refine s_rd (r_cload Tryd.isAgg3 rfl (j := 0) rfl rfl) rfl ?_
  refine s_on rfl rfl rfl ?_
  refine s_rd (r_lss rfl rfl) rfl ?_
  refine s_rd (r_pickF rfl rfl) rfl ?_
  refine mv1 rfl rfl ?_
  refine b_split (t := 16) rfl (fun _ => ?_) (fun _ => ?_)
  · refine s_off rfl rfl rfl rfl rfl ?_
    refine s_off rfl rfl rfl rfl rfl ?_
    refine s_off rfl rfl rfl rfl rfl ?_
    refine s_off rfl rfl rfl rfl rfl ?_
    refine s_off rfl rfl rfl rfl rfl ?_
    refine s_rd (r_pickT rfl rfl) rfl ?_
    refine as1 rfl rfl ?_
    refine l_nil (n_then (ref_ret ?_))
    exact fin1 (.inl rfl) () [] rfl trivial rfl (rv_tmp rfl)
  refine s_on rfl rfl rfl ?_
  refine s_rd (r_faddr (fo := 0) Tryd.underlying36 rfl rfl Tryd.sizeOf3 rfl) rfl ?_
  refine s_on rfl rfl rfl ?_
  refine s_rd (r_cload Tryd.isAgg3 rfl (j := 0) rfl rfl) rfl ?_
  refine s_on rfl rfl rfl ?_
  refine s_rd (r_faddr (fo := 1) Tryd.underlying36 rfl rfl Tryd.sizeOf3 rfl) rfl ?_
  refine s_on rfl rfl rfl ?_
  refine s_rd (r_cload Tryd.isAgg3 rfl (j := 0) rfl rfl) rfl ?_
  refine s_on rfl rfl rfl ?_
  refine s_rd (r_gtr rfl rfl) rfl ?_
  refine s_rd (r_pickF rfl rfl) rfl ?_
  refine as1 rfl rfl ?_
  refine b_let (f := bv) (t := 2) rfl fun t2 => ?_
  refine l_nil (n_then (ref_ret ?_))
  exact fin1 (.inl rfl) () [] rfl trivial rfl (rv_tmp rfl)

/-! slices.IndexFunc[[]deliberation/api.Fraction,deliberation/api.Fraction] -/
noncomputable def slices_IndexFunc_api_Fraction_api_Fraction_l1 (s_0 : (List T_api_Fraction)) (s7 : Int) : Option (Sum ((Sum (Int) (Unit))) (Int)) :=
  bif decide (s7 < (s_0.length : Int)) then
    Option.bind (idxM s_0 s7) fun t10 =>
    Option.bind (chance_proper_1_m t10) fun t11 =>
    bif t11 then
      some (Sum.inl (Sum.inl s7))
    else
      some (Sum.inr (iadd .i64 s7 1))
  else
    some (Sum.inl (Sum.inr ()))

noncomputable def slices_IndexFunc_api_Fraction_api_Fraction_m (s_0 : (List T_api_Fraction)) : Option (Int) :=
  Option.bind (loopC (slices_IndexFunc_api_Fraction_api_Fraction_l1 s_0) 0) (sumK (fun a : Int => some a) fun q13 : Unit =>
    some (-1))

theorem slices_IndexFunc_api_Fraction_api_Fraction_ok {s_0 : (List T_api_Fraction)} {r : Int} (hm : slices_IndexFunc_api_Fraction_api_Fraction_m s_0 = some r) :
    FnOk prog 91 [slv rT_api_Fraction s_0, pv (.func (.func 87) #[] #[])] [] (fun (x : Unit) => [iv .i64 r]) (fun (x : Unit) => []) := by
  refine fn_ok (fn := Tryd.f91) (N := 19) (res := fun r x => [iv .i64 r]) (Ω1 := fun r x => []) Tryd.func91 rfl rfl hm rfl (fun E hM => ?_)
  unfold slices_IndexFunc_api_Fraction_api_Fraction_m
  refine ref_seq (ref_region ?_)
  refine as1 rfl rfl ?_
  refine l_nil (n_then (ref_seq (ref_seq (ref_region ?_))))
  refine mv1 rfl rfl ?_
  refine s_rd (r_len Tryd.underlying29 rfl) rfl ?_
  refine mv1 rfl rfl ?_
  refine l_nil (n_then ?_)
  refine ref_loopX (f := (slices_IndexFunc_api_Fraction_api_Fraction_l1 s_0)) (Γl := (fun (s7 : Int) (x8 : Unit) => [(0, slv rT_api_Fraction s_0), (1, pv (.func (.func 87) #[] #[])), (7, iv .i64 (s_0.length : Int)), (8, iv .i64 s7)])) (Ωl := (fun (s7 : Int) (x8 : Unit) => [])) (Γb := (fun (q13 : Unit) (y14 : Unit) => [(1, pv (.func (.func 87) #[] #[]))])) (Ωb := (fun (q13 : Unit) (y14 : Unit) => [])) (kr := (fun a : Int => some a)) 0 () (weak [] ⟨rfl, rfl, rfl, rfl, trivial⟩ trivial) (fun s7 x8 => ?_) (fun q13 y14 => ?_)
  · unfold slices_IndexFunc_api_Fraction_api_Fraction_l1
    refine ref_seq (ref_region ?_)
    refine s_rd (r_lss rfl rfl) rfl ?_
    refine l_nil (n_then (ref_seq ?_))
    refine ref_cond rfl (fun hb9 => ?_) (fun hb9 => ?_)
    · refine ref_skip (n_then (ref_seq (ref_block (ref_seq (ref_region ?_)))))
      refine mv1 rfl rfl ?_
      refine as1 rfl rfl ?_
      refine l_nil (n_then (ref_seq (ref_region ?_)))
      refine mv1 rfl rfl ?_
      refine mv1 rfl rfl ?_
      refine mv1 rfl rfl ?_
      refine pull fun t10 h_t10 => ?_
      refine s_rd (r_index h_t10 Tryd.underlying29 el_36 rfl rfl) rfl ?_
      refine s_rd (r_load el_36 rfl) rfl ?_
      refine pull fun t11 h_t11 => ?_
      refine s_st (s_call (ψ := fun (_ : Unit) => bv t11) (args := [.tmp 15]) Tryd.call87 rfl (chance_proper_1_ok h_t11) ⟨arg rfl, trivial⟩ (fun _ _ _ _ h => h)) rfl (fun _ => ?_)
      refine l_nil (n_then ?_)
      refine ref_cond rfl (fun hb12 => ?_) (fun hb12 => ?_)
      · refine ref_seq (ref_region ?_)
        refine mv1 rfl rfl ?_
        refine as1 rfl rfl ?_
        refine l_nil (n_then (ref_ret (r_block (r_then ?_))))
        refine retX ?_
        refine r_block (r_then ?_)
        exact fin1 (.inl rfl) () [] rfl trivial rfl (rv_tmp rfl)
      refine ref_skip (n_block (n_then (ref_region ?_)))
      refine s_rd (r_add rfl rfl) rfl ?_
      refine mv1 rfl rfl ?_
      refine l_nil ?_
      exact goX () (weak [] ⟨rfl, rfl, rfl, rfl, trivial⟩ trivial)
    refine ref_exit (x_then ?_)
    exact brkX () (weak [] ⟨rfl, trivial⟩ trivial)
  refine n_then (ref_seq (ref_region ?_))
  refine as1 rfl rfl ?_
  refine l_nil (n_then (ref_ret ?_))
  exact fin1 (.inl rfl) () [] rfl trivial rfl (rv_tmp rfl)

/-! slices.ContainsFunc[[]deliberation/api.Fraction,deliberation/api.Fraction] -/
noncomputable def slices_ContainsFunc_api_Fraction_api_Fraction_m (s_0 : (List T_api_Fraction)) : Option (Bool) :=
  Option.bind (slices_IndexFunc_api_Fraction_api_Fraction_m s_0) fun t1 =>
  letM (decide (t1 ≥ 0)) fun t2 =>
  some t2

theorem slices_ContainsFunc_api_Fraction_api_Fraction_ok {s_0 : (List T_api_Fraction)} {r : Bool} (hm : slices_ContainsFunc_api_Fraction_api_Fraction_m s_0 = some r) :
    FnOk prog 86 [slv rT_api_Fraction s_0, pv (.func (.func 87) #[] #[])] [] (fun (x : Unit) => [bv r]) (fun (x : Unit) => []) := by
  refine fn_ok (fn := Tryd.f86) (N := 9) (res := fun r x => [bv r]) (Ω1 := fun r x => []) Tryd.func86 rfl rfl hm rfl (fun E hM => ?_)
  unfold slices_ContainsFunc_api_Fraction_api_Fraction_m
  refine ref_seq (ref_region ?_)
  refine as1 rfl rfl ?_
  refine l_nil (n_then (ref_seq (ref_region ?_)))
  refine mv1 rfl rfl ?_
  refine mv1 rfl rfl ?_
  refine pull fun t1 h_t1 => ?_
  refine s_st (s_call (ψ := fun (_ : Unit) => iv .i64 t1) (args := [.tmp 5, .tmp 6]) Tryd.call91 rfl (slices_IndexFunc_api_Fraction_api_Fraction_ok h_t1) ⟨arg rfl, arg rfl, trivial⟩ (fun _ _ _ _ h => h)) rfl (fun _ => ?_)
  refine s_rd (r_geq rfl rfl) rfl ?_
  refine as1 rfl rfl ?_
  refine b_let (f := bv) (t := 4) rfl fun t2 => ?_
  refine l_nil (n_then (ref_ret ?_))
  exact fin1 (.inl rfl) () [] rfl trivial rfl (rv_tmp rfl)

/-! deliberation/chance.proper -/
noncomputable def chance_proper_m (l_0 : (List T_api_Fraction)) : Option (Bool) :=
  Option.bind (slices_ContainsFunc_api_Fraction_api_Fraction_m l_0) fun t1 =>
  some (!t1)

theorem chance_proper_ok {l_0 : (List T_api_Fraction)} {r : Bool} (hm : chance_proper_m l_0 = some r) :
    FnOk prog 66 [slv rT_api_Fraction l_0] [] (fun (x : Unit) => [bv r]) (fun (x : Unit) => []) := by
  refine fn_ok (fn := Tryd.f66) (N := 6) (res := fun r x => [bv r]) (Ω1 := fun r x => []) Tryd.func66 rfl rfl hm rfl (fun E hM => ?_)
  unfold chance_proper_m
  refine ref_seq (ref_region ?_)
  refine as1 rfl rfl ?_
  refine l_nil (n_then (ref_seq (ref_region ?_)))
  refine mv1 rfl rfl ?_
  refine pull fun t1 h_t1 => ?_
  refine s_st (s_call (ψ := fun (_ : Unit) => bv t1) (args := [.tmp 3, .func 87]) Tryd.call86 rfl (slices_ContainsFunc_api_Fraction_api_Fraction_ok h_t1) ⟨arg rfl, arg rfl, trivial⟩ (fun _ _ _ _ h => h)) rfl (fun _ => ?_)
  refine s_rd (r_not rfl) rfl ?_
  refine as1 rfl rfl ?_
  refine l_nil (n_then (ref_ret ?_))
  exact fin1 (.inl rfl) () [] rfl trivial rfl (rv_tmp rfl)

/-! deliberation/chance.fits -/
noncomputable def chance_fits_m (g_0 : T_api_Graph) (o_1 : T_api_Odds) : Option (Bool) :=
  bif (o_1.Nodes.length : Int) == g_0.N then
    bif (o_1.Attacks.length : Int) == (g_0.L.length : Int) then
      Option.bind (chance_proper_m o_1.Nodes) fun t3 =>
      bif t3 then
        Option.bind (chance_proper_m o_1.Attacks) fun t4 =>
        some t4
      else
        some false
    else
      some false
  else
    some false

theorem chance_fits_ok {g_0 : T_api_Graph} {o_1 : T_api_Odds} {r : Bool} (hm : chance_fits_m g_0 o_1 = some r) :
    FnOk prog 41 [ag [iv .i64 g_0.N, slv rT_api_Pair g_0.L], ag [slv rT_api_Fraction o_1.Nodes, slv rT_api_Fraction o_1.Attacks]] [] (fun (x : Unit) => [bv r]) (fun (x : Unit) => []) := by
  refine fn_ok (fn := Tryd.f41) (N := 30) (res := fun r x => [bv r]) (Ω1 := fun r x => []) Tryd.func41 rfl rfl hm rfl (fun E hM => ?_)
  unfold chance_fits_m
  refine ref_seq (ref_region ?_)
  refine s_st (s_box (part_agO (ψs := [iv .i64 g_0.N, slv rT_api_Pair g_0.L]) rfl ⟨.inl iv_at, .inl slv_at, trivial⟩)) rfl (fun b1 => ?_)
  refine s_st (s_box (part_agO (ψs := [slv rT_api_Fraction o_1.Nodes, slv rT_api_Fraction o_1.Attacks]) rfl ⟨.inl slv_at, .inl slv_at, trivial⟩)) rfl (fun b2 => ?_)
  refine as1 rfl rfl ?_
  refine l_nil (n_then (ref_seq (ref_region ?_)))
  refine s_rd (r_faddr (fo := 0) Tryd.underlying31 rfl rfl Tryd.sizeOf29 rfl) rfl ?_
  refine s_rd (r_cload Tryd.isAgg29 rfl (j := 1) rfl rfl) rfl ?_
  refine s_rd (r_len Tryd.underlying29 rfl) rfl ?_
  refine s_rd (r_faddr (fo := 0) Tryd.underlying27 rfl rfl Tryd.sizeOf3 rfl) rfl ?_
  refine s_rd (r_cload Tryd.isAgg3 rfl (j := 0) rfl rfl) rfl ?_
  refine s_rd (r_eql rfl rfl) rfl ?_
  refine mv1 rfl rfl ?_
  refine b_split (t := 11) rfl (fun _ => ?_) (fun _ => ?_)
  · refine s_on rfl rfl rfl ?_
    refine s_rd (r_faddr (fo := 1) Tryd.underlying31 rfl rfl Tryd.sizeOf29 rfl) rfl ?_
    refine s_on rfl rfl rfl ?_
    refine s_rd (r_cload Tryd.isAgg29 rfl (j := 1) rfl rfl) rfl ?_
    refine s_on rfl rfl rfl ?_
    refine s_rd (r_len Tryd.underlying29 rfl) rfl ?_
    refine s_on rfl rfl rfl ?_
    refine s_rd (r_faddr (fo := 1) Tryd.underlying27 rfl rfl Tryd.sizeOf25 rfl) rfl ?_
    refine s_on rfl rfl rfl ?_
    refine s_rd (r_cload Tryd.isAgg25 rfl (j := 0) rfl rfl) rfl ?_
    refine s_on rfl rfl rfl ?_
    refine s_rd (r_len Tryd.underlying25 rfl) rfl ?_
    refine s_on rfl rfl rfl ?_
    refine s_rd (r_eql rfl rfl) rfl ?_
    refine s_rd (r_pickT rfl rfl) rfl ?_
    refine mv1 rfl rfl ?_
    refine b_split (t := 20) rfl (fun _ => ?_) (fun _ => ?_)
    · refine s_on rfl rfl rfl ?_
      refine s_rd (r_faddr (fo := 0) Tryd.underlying31 rfl rfl Tryd.sizeOf29 rfl) rfl ?_
      refine s_on rfl rfl rfl ?_
      refine s_rd (r_cload Tryd.isAgg29 rfl (j := 1) rfl rfl) rfl ?_
      refine s_on rfl rfl rfl ?_
      refine pull fun t3 h_t3 => ?_
      refine s_st (s_call (ψ := fun (_ : Unit) => bv t3) (args := [.tmp 22]) Tryd.call66 rfl (chance_proper_ok h_t3) ⟨arg rfl, trivial⟩ (fun _ _ _ _ h => h)) rfl (fun _ => ?_)
      refine s_rd (r_pickT rfl rfl) rfl ?_
      refine mv1 rfl rfl ?_
      refine b_split (t := 25) rfl (fun _ => ?_) (fun _ => ?_)
      · refine s_on rfl rfl rfl ?_
        refine s_rd (r_faddr (fo := 1) Tryd.underlying31 rfl rfl Tryd.sizeOf29 rfl) rfl ?_
        refine s_on rfl rfl rfl ?_
        refine s_rd (r_cload Tryd.isAgg29 rfl (j := 1) rfl rfl) rfl ?_
        refine s_on rfl rfl rfl ?_
        refine pull fun t4 h_t4 => ?_
        refine s_st (s_call (ψ := fun (_ : Unit) => bv t4) (args := [.tmp 27]) Tryd.call66 rfl (chance_proper_ok h_t4) ⟨arg rfl, trivial⟩ (fun _ _ _ _ h => h)) rfl (fun _ => ?_)
        refine s_rd (r_pickT rfl rfl) rfl ?_
        refine as1 rfl rfl ?_
        refine l_nil ?_
        refine b_of (nrm [oc b1 [iv .i64 g_0.N, slv rT_api_Pair g_0.L], oc b2 [slv rT_api_Fraction o_1.Nodes, slv rT_api_Fraction o_1.Attacks]] rfl) ?_
        refine n_then (ref_ret ?_)
        exact fin1 (.inl rfl) () [] rfl trivial rfl (rv_tmp rfl)
      refine s_off rfl rfl rfl rfl rfl ?_
      refine s_off rfl rfl rfl rfl rfl ?_
      refine s_off rfl rfl rfl rfl rfl ?_
      refine s_rd (r_pickF rfl rfl) rfl ?_
      refine as1 rfl rfl ?_
      refine l_nil (n_then (ref_ret ?_))
      exact fin1 (.inl rfl) () [] rfl trivial rfl (rv_tmp rfl)
    refine s_off rfl rfl rfl rfl rfl ?_
    refine s_off rfl rfl rfl rfl rfl ?_
    refine s_off rfl rfl rfl rfl rfl ?_
    refine s_rd (r_pickF rfl rfl) rfl ?_
    refine mv1 rfl rfl ?_
    refine s_off rfl rfl rfl rfl rfl ?_
    refine s_off rfl rfl rfl rfl rfl ?_
    refine s_off rfl rfl rfl rfl rfl ?_
    refine s_rd (r_pickF rfl rfl) rfl ?_
    refine as1 rfl rfl ?_
    refine l_nil (n_then (ref_ret ?_))
    exact fin1 (.inl rfl) () [] rfl trivial rfl (rv_tmp rfl)
  refine s_off rfl rfl rfl rfl rfl ?_
  refine s_off rfl rfl rfl rfl rfl ?_
  refine s_off rfl rfl rfl rfl rfl ?_
  refine s_off rfl rfl rfl rfl rfl ?_
  refine s_off rfl rfl rfl rfl rfl ?_
  refine s_off rfl rfl rfl rfl rfl ?_
  refine s_off rfl rfl rfl rfl rfl ?_
  refine s_rd (r_pickF rfl rfl) rfl ?_
  refine mv1 rfl rfl ?_
  refine s_off rfl rfl rfl rfl rfl ?_
  refine s_off rfl rfl rfl rfl rfl ?_
  refine s_off rfl rfl rfl rfl rfl ?_
  refine s_rd (r_pickF rfl rfl) rfl ?_
  refine mv1 rfl rfl ?_
  refine s_off rfl rfl rfl rfl rfl ?_
  refine s_off rfl rfl rfl rfl rfl ?_
  refine s_off rfl rfl rfl rfl rfl ?_
  refine s_rd (r_pickF rfl rfl) rfl ?_
  refine as1 rfl rfl ?_
  refine l_nil (n_then (ref_ret ?_))
  exact fin1 (.inl rfl) () [] rfl trivial rfl (rv_tmp rfl)

/-! deliberation/chance.Certain$1 -/
noncomputable def chance_Certain_1_m (f_0 : T_api_Fraction) : Option (Bool) :=
  letM (f_0.Num == f_0.Den) fun t2 =>
  some t2

theorem chance_Certain_1_ok {f_0 : T_api_Fraction} {r : Bool} (hm : chance_Certain_1_m f_0 = some r) :
    FnOk prog 42 [ag [iv .i64 f_0.Num, iv .i64 f_0.Den]] [] (fun (x : Unit) => [bv r]) (fun (x : Unit) => []) := by
  refine fn_ok (fn := Tryd.f42) (N := 8) (res := fun r x => [bv r]) (Ω1 := fun r x => []) Tryd.func42 rfl rfl hm rfl (fun E hM => ?_)
  unfold chance_Certain_1_m
  refine ref_seq (ref_region ?_)
  refine s_st (s_box (part_agO (ψs := [iv .i64 f_0.Num, iv .i64 f_0.Den]) rfl ⟨.inl iv_at, .inl iv_at, trivial⟩)) rfl (fun b1 => ?_)
  refine as1 rfl rfl ?_
  refine l_nil (n_then (ref_seq (ref_region ?_)))
  refine s_rd (r_faddr (fo := 0) Tryd.underlying36 rfl rfl Tryd.sizeOf3 rfl) rfl ?_
  refine s_rd (r_cload Tryd.isAgg3 rfl (j := 0) rfl rfl) rfl ?_
  refine s_rd (r_faddr (fo := 1) Tryd.underlying36 rfl rfl Tryd.sizeOf3 rfl) rfl ?_
  refine s_rd (r_cload Tryd.isAgg3 rfl (j := 0) rfl rfl) rfl ?_
  refine s_rd (r_eql rfl rfl) rfl ?_
  refine as1 rfl rfl ?_
  refine b_let (f := bv) (t := 2) rfl fun t2 => ?_
  refine l_nil (n_then (ref_ret ?_))
  exact fin1 (.inl rfl) () [] rfl trivial rfl (rv_tmp rfl)

/-! deliberation/chance.Certain -/
noncomputable def chance_Certain_l1 (o_1 : T_api_Odds) (s27 : Int × (List Int)) : Option (Sum ((List Int)) (Int × (List Int))) :=
  bif decide (s27.1 < (o_1.Nodes.length : Int)) then
    Option.bind (idxM o_1.Nodes s27.1) fun t30 =>
    Option.bind (chance_Certain_1_m t30) fun t32 =>
    bif t32 then
      Option.bind (appM 8 s27.2 [s27.1]) fun nodes34 =>
      some (Sum.inr (iadd .i64 s27.1 1, nodes34))
    else
      some (Sum.inr (iadd .i64 s27.1 1, s27.2))
  else
    some (Sum.inl s27.2)

noncomputable def chance_Certain_l2 (g_0 : T_api_Graph) (o_1 : T_api_Odds) (s89 : Int × (List T_api_Pair)) : Option (Sum ((List T_api_Pair)) (Int × (List T_api_Pair))) :=
  bif decide (s89.1 < (g_0.L.length : Int)) then
    Option.bind (idxM g_0.L s89.1) fun t92 =>
    joinM (fun j100 : Bool =>
        bif j100 then
          Option.bind (appM 16 s89.2 [t92]) fun t104 =>
          some (Sum.inr (iadd .i64 s89.1 1, t104))
        else
          some (Sum.inr (iadd .i64 s89.1 1, s89.2))) fun k102 =>
    Option.bind (idxM o_1.Attacks s89.1) fun t94 =>
    Option.bind (chance_Certain_1_m t94) fun t95 =>
    bif t95 then
      Option.bind (idxM o_1.Nodes t92.From) fun t96 =>
      Option.bind (chance_Certain_1_m t96) fun t97 =>
      bif t97 then
        Option.bind (idxM o_1.Nodes t92.To) fun t98 =>
        Option.bind (chance_Certain_1_m t98) fun t99 =>
        k102 t99
      else
        k102 false
    else
      k102 false
  else
    some (Sum.inl s89.2)

noncomputable def chance_Certain_m (g_0 : T_api_Graph) (o_1 : T_api_Odds) : Option (T_api_Graph × List Int × Int) :=
  Option.bind (graph_Validate_m g_0) fun e4 =>
  bif e4 != 0 then
    some ((T_api_Graph.mk 0 []), [], e4)
  else
    Option.bind (chance_fits_m g_0 o_1) fun t6 =>
    bif !t6 then
      some ((T_api_Graph.mk 0 []), [], 1)
    else
      Option.bind (loopC (chance_Certain_l1 o_1) (0, [])) fun q36 : (List Int) =>
      Option.bind (loopC (chance_Certain_l2 g_0 o_1) (0, [])) fun q106 : (List T_api_Pair) =>
      some ((T_api_Graph.mk g_0.N q106), q36, 0)

theorem chance_Certain_ok {g_0 : T_api_Graph} {o_1 : T_api_Odds} {r : T_api_Graph × List Int × Int} (hm : chance_Certain_m g_0 o_1 = some r) :
    FnOk prog 20 [ag [iv .i64 g_0.N, slv rT_api_Pair g_0.L], ag [slv rT_api_Fraction o_1.Nodes, slv rT_api_Fraction o_1.Attacks]] [] (fun (x : (Value × List Nat)) => [ag [iv .i64 r.1.N, slv rT_api_Pair r.1.L], pv x.1, iv .i64 r.2.2]) (fun (x : (Value × List Nat)) => [oa (rI .i64) x.1 x.2 r.2.1]) := by
  refine fn_ok (X := (Value × List Nat)) (fn := Tryd.f20) (N := 89) (res := fun r x => [ag [iv .i64 r.1.N, slv rT_api_Pair r.1.L], pv x.1, iv .i64 r.2.2]) (Ω1 := fun r x => [oa (rI .i64) x.1 x.2 r.2.1]) Tryd.func20 rfl rfl hm rfl (fun E hM => ?_)
  unfold chance_Certain_m
  refine ref_seq (ref_region ?_)
  refine s_st (s_box (part_agO (ψs := [iv .i64 g_0.N, slv rT_api_Pair g_0.L]) rfl ⟨.inl iv_at, .inl slv_at, trivial⟩)) rfl (fun b1 => ?_)
  refine s_st (s_box (part_agO (ψs := [slv rT_api_Fraction o_1.Nodes, slv rT_api_Fraction o_1.Attacks]) rfl ⟨.inl slv_at, .inl slv_at, trivial⟩)) rfl (fun b2 => ?_)
  refine s_st (s_alloc zt_27) rfl (fun b3 => ?_)
  refine as1 rfl rfl ?_
  refine as1 rfl rfl ?_
  refine l_nil (n_then (ref_seq (ref_seq (ref_region ?_))))
  refine s_rd (r_cloadS Tryd.isAgg27 Tryd.sizeOf27 rfl (j := 0) rfl rfl rfl) rfl ?_
  refine pull fun e4 h_e4 => ?_
  refine s_st (s_call (ψ := fun (_ : Unit) => iv .i64 e4) (args := [.tmp 15]) Tryd.call40 rfl (graph_Validate_ok h_e4) ⟨arg rfl, trivial⟩ (fun _ _ _ _ h => h)) rfl (fun _ => ?_)
  refine as1 rfl rfl ?_
  refine l_nil ?_
  refine b_of (nrm [oc b1 [iv .i64 g_0.N, slv rT_api_Pair g_0.L], oc b2 [slv rT_api_Fraction o_1.Nodes, slv rT_api_Fraction o_1.Attacks], oc b3 [iv .i64 0, pv (.slice none 0 0)]] rfl) ?_
  refine n_then (ref_seq (ref_region ?_))
  refine mv1 rfl rfl ?_
  refine s_rd (r_neq rfl rfl) rfl ?_
  refine l_nil (n_then ?_)
  refine ref_cond rfl (fun hb5 => ?_) (fun hb5 => ?_)
  · refine ref_seq (ref_region ?_)
    refine s_rd (r_build (ps := []) (rs := []) st_27 zs_27 trivial rfl rfl) rfl ?_
    refine mv1 rfl rfl ?_
    refine s_st0 (s_cstore (out := [iv .i64 0, pv (.slice none 0 0)]) Tryd.sizeOf27 rfl (j := 2) rfl (part_agO (ψs := [iv .i64 0, pv (.slice none 0 0)]) rfl ⟨.inl iv_at, .inl (pv_at rfl), trivial⟩) rfl rfl rfl) (fun _ => ?_)
    refine as1 rfl rfl ?_
    refine as1 rfl rfl ?_
    refine l_nil (n_then (ref_ret (r_then ?_)))
    refine b_of (own_nil (rI .i64)) ?_
    refine b_of (ocW 2 [iv .i64 0, slv rT_api_Pair []] rfl ⟨imp_rfl, nil_sl, trivial⟩) ?_
    exact fin3 (.inl rfl) ((.slice none 0 0), []) [3] rfl ⟨rfl, trivial⟩ rfl (rv_cell rfl (j := 2) rfl Tryd.isAgg27 Tryd.sizeOf27 rfl rfl) (rv_tmp rfl) (rv_tmp rfl)
  refine ref_skip (n_then (ref_seq (ref_seq (ref_region ?_))))
  refine s_rd (r_cloadS Tryd.isAgg27 Tryd.sizeOf27 rfl (j := 0) rfl rfl rfl) rfl ?_
  refine s_rd (r_cloadS Tryd.isAgg31 Tryd.sizeOf31 rfl (j := 1) rfl rfl rfl) rfl ?_
  refine pull fun t6 h_t6 => ?_
  refine s_st (s_call (ψ := fun (_ : Unit) => bv t6) (args := [.tmp 21, .tmp 22]) Tryd.call41 rfl (chance_fits_ok h_t6) ⟨arg rfl, arg rfl, trivial⟩ (fun _ _ _ _ h => h)) rfl (fun _ => ?_)
  refine s_rd (r_not rfl) rfl ?_
  refine l_nil (n_then ?_)
  refine ref_cond rfl (fun hb7 => ?_) (fun hb7 => ?_)
  · refine ref_seq (ref_region ?_)
    refine s_rd (r_build (ps := []) (rs := []) st_27 zs_27 trivial rfl rfl) rfl ?_
    refine s_st0 (s_cstore (out := [iv .i64 0, pv (.slice none 0 0)]) Tryd.sizeOf27 rfl (j := 2) rfl (part_agO (ψs := [iv .i64 0, pv (.slice none 0 0)]) rfl ⟨.inl iv_at, .inl (pv_at rfl), trivial⟩) rfl rfl rfl) (fun _ => ?_)
    refine as1 rfl rfl ?_
    refine as1 rfl rfl ?_
    refine l_nil (n_then (ref_ret (r_then ?_)))
    refine b_of (own_nil (rI .i64)) ?_
    refine b_of (ocW 2 [iv .i64 0, slv rT_api_Pair []] rfl ⟨imp_rfl, nil_sl, trivial⟩) ?_
    exact fin3 (.inl rfl) ((.slice none 0 0), []) [3] rfl ⟨rfl, trivial⟩ rfl (rv_cell rfl (j := 2) rfl Tryd.isAgg27 Tryd.sizeOf27 rfl rfl) (rv_tmp rfl) (rv_tmp rfl)
  refine ref_skip (n_then (ref_seq (ref_region ?_)))
  refine as1 rfl rfl ?_
  refine l_nil (n_then (ref_seq (ref_region ?_)))
  refine s_rd (r_faddr (fo := 0) Tryd.underlying27 rfl rfl Tryd.sizeOf3 rfl) rfl ?_
  refine s_rd (r_cload Tryd.isAgg3 rfl (j := 0) rfl rfl) rfl ?_
  refine s_rd (r_build (ps := [(0, .tmp 27)]) (rs := [(0, [iv .i64 g_0.N])]) st_27 zs_27 ⟨rfl, (part_at rfl iv_at), trivial⟩ rfl rfl) rfl ?_
  refine s_st (s_alloc zt_27) rfl (fun b8 => ?_)
  refine s_st0 (s_cstore (out := [iv .i64 g_0.N, pv (.slice none 0 0)]) Tryd.sizeOf27 rfl (j := 3) rfl (part_agO (ψs := [iv .i64 g_0.N, pv (.slice none 0 0)]) rfl ⟨.inl iv_at, .inl (pv_at rfl), trivial⟩) rfl rfl rfl) (fun _ => ?_)
  refine l_nil (n_then (ref_seq (ref_region ?_)))
  refine as1 rfl rfl ?_
  refine l_nil (n_then (ref_seq (ref_seq (ref_region ?_))))
  refine s_rd (r_faddr (fo := 0) Tryd.underlying31 rfl rfl Tryd.sizeOf29 rfl) rfl ?_
  refine s_rd (r_cload Tryd.isAgg29 rfl (j := 1) rfl rfl) rfl ?_
  refine s_rd (r_len Tryd.underlying29 rfl) rfl ?_
  refine mv1 rfl rfl ?_
  refine l_nil (n_then ?_)
  refine b_of (own_nil (rI .i64)) ?_
  refine ref_loopB (f := (chance_Certain_l1 o_1)) (Γl := (fun (s27 : Int × (List Int)) (x28 : (Value × List Nat)) => [(2, pv (ptr b1 0)), (3, pv (ptr b2 0)), (4, pv (ptr b3 0)), (8, pv (.func (.func 42) #[] #[])), (9, pv (ptr b8 0)), (10, pv x28.1), (30, slv rT_api_Fraction o_1.Nodes), (31, iv .i64 (o_1.Nodes.length : Int)), (32, iv .i64 s27.1)])) (Ωl := (fun (s27 : Int × (List Int)) (x28 : (Value × List Nat)) => [oc b1 [iv .i64 g_0.N, slv rT_api_Pair g_0.L], oc b2 [slv rT_api_Fraction o_1.Nodes, slv rT_api_Fraction o_1.Attacks], oc b3 [iv .i64 0, pv (.slice none 0 0)], oc b8 [iv .i64 g_0.N, pv (.slice none 0 0)], oa (rI .i64) x28.1 x28.2 s27.2])) (Γb := (fun (q36 : (List Int)) (y37 : (Value × List Nat)) => [(2, pv (ptr b1 0)), (3, pv (ptr b2 0)), (4, pv (ptr b3 0)), (8, pv (.func (.func 42) #[] #[])), (9, pv (ptr b8 0)), (10, pv y37.1)])) (Ωb := (fun (q36 : (List Int)) (y37 : (Value × List Nat)) => [oc b1 [iv .i64 g_0.N, slv rT_api_Pair g_0.L], oc b2 [slv rT_api_Fraction o_1.Nodes, slv rT_api_Fraction o_1.Attacks], oc b3 [iv .i64 0, pv (.slice none 0 0)], oc b8 [iv .i64 g_0.N, pv (.slice none 0 0)], oa (rI .i64) y37.1 y37.2 q36])) (0, []) ((.slice none 0 0), []) (weak [0, 1, 2, 3, 4] ⟨rfl, rfl, rfl, rfl, rfl, rfl, rfl, rfl, rfl, trivial⟩ ⟨rfl, rfl, rfl, rfl, rfl, trivial⟩) (fun s27 x28 => ?_) (fun q36 y37 => ?_)
  · unfold chance_Certain_l1
    refine ref_seq (ref_region ?_)
    refine s_rd (r_lss rfl rfl) rfl ?_
    refine l_nil (n_then (ref_seq ?_))
    refine ref_cond rfl (fun hb29 => ?_) (fun hb29 => ?_)
    · refine ref_skip (n_then (ref_seq (ref_block (ref_seq (ref_region ?_)))))
      refine mv1 rfl rfl ?_
      refine pull fun t30 h_t30 => ?_
      refine s_rd (r_index h_t30 Tryd.underlying29 el_36 rfl rfl) rfl ?_
      refine s_rd (r_load el_36 rfl) rfl ?_
      refine s_st (s_alloc zt_36) rfl (fun b31 => ?_)
      refine as1 rfl rfl ?_
      refine s_st0 (s_cstore (out := [iv .i64 t30.Num, iv .i64 t30.Den]) Tryd.sizeOf36 rfl (j := 5) rfl (part_agO (ψs := [iv .i64 t30.Num, iv .i64 t30.Den]) rfl ⟨.inl iv_at, .inl iv_at, trivial⟩) rfl rfl rfl) (fun _ => ?_)
      refine l_nil ?_
      refine b_of (nrm [oc b1 [iv .i64 g_0.N, slv rT_api_Pair g_0.L], oc b2 [slv rT_api_Fraction o_1.Nodes, slv rT_api_Fraction o_1.Attacks], oc b3 [iv .i64 0, pv (.slice none 0 0)], oc b8 [iv .i64 g_0.N, pv (.slice none 0 0)], oa (rI .i64) x28.1 x28.2 s27.2, oc b31 [iv .i64 t30.Num, iv .i64 t30.Den]] rfl) ?_
      refine n_then (ref_seq (ref_region ?_))
      refine mv1 rfl rfl ?_
      refine s_rd (r_cloadS Tryd.isAgg36 Tryd.sizeOf36 rfl (j := 5) rfl rfl rfl) rfl ?_
      refine pull fun t32 h_t32 => ?_
      refine s_st (s_call (ψ := fun (_ : Unit) => bv t32) (args := [.tmp 38]) Tryd.call42 rfl (chance_Certain_1_ok h_t32) ⟨arg rfl, trivial⟩ (fun _ _ _ _ h => h)) rfl (fun _ => ?_)
      refine l_nil (n_then ?_)
      refine ref_cond rfl (fun hb33 => ?_) (fun hb33 => ?_)
      · refine ref_region ?_
        refine mv1 rfl rfl ?_
        refine mv1 rfl rfl ?_
        refine s_st (s_bslice (xs := [.tmp 41]) (ds := [s27.1]) Tryd.underlying22 el_3 rfl (Nat.le_of_ble_eq_true rfl) ⟨(part_at rfl iv_at), trivial⟩) rfl (fun _ => ?_)
        refine pull fun nodes34 h_nodes34 => ?_
        refine s_st (s_append h_nodes34 Tryd.underlying22 el_3 rfl (j := 4) rfl rfl) rfl (fun o35 => ?_)
        refine as1 rfl rfl ?_
        refine l_nil (n_block (n_then (ref_region ?_)))
        refine s_rd (r_add rfl rfl) rfl ?_
        refine mv1 rfl rfl ?_
        refine l_nil ?_
        exact goB o35 (weak [0, 1, 2, 3, 4] ⟨rfl, rfl, rfl, rfl, rfl, rfl, rfl, rfl, rfl, trivial⟩ ⟨rfl, rfl, rfl, rfl, rfl, trivial⟩)
      refine ref_skip (n_block (n_then (ref_region ?_)))
      refine s_rd (r_add rfl rfl) rfl ?_
      refine mv1 rfl rfl ?_
      refine l_nil ?_
      exact goB x28 (weak [0, 1, 2, 3, 4] ⟨rfl, rfl, rfl, rfl, rfl, rfl, rfl, rfl, rfl, trivial⟩ ⟨rfl, rfl, rfl, rfl, rfl, trivial⟩)
    refine ref_exit (x_then ?_)
    exact brkB x28 (weak [0, 1, 2, 3, 4] ⟨rfl, rfl, rfl, rfl, rfl, rfl, trivial⟩ ⟨rfl, rfl, rfl, rfl, rfl, trivial⟩)
  refine n_then (ref_seq (ref_seq (ref_region ?_)))
  refine s_rd (r_faddr (fo := 1) Tryd.underlying27 rfl rfl Tryd.sizeOf25 rfl) rfl ?_
  refine s_rd (r_cload Tryd.isAgg25 rfl (j := 0) rfl rfl) rfl ?_
  refine s_rd (r_len Tryd.underlying25 rfl) rfl ?_
  refine mv1 rfl rfl ?_
  refine l_nil (n_then ?_)
  refine b_of (own_nil rT_api_Pair) ?_
  refine ref_loopB (f := (chance_Certain_l2 g_0 o_1)) (Γl := (fun (s89 : Int × (List T_api_Pair)) (x90 : (Value × List Nat)) => [(3, pv (ptr b2 0)), (4, pv (ptr b3 0)), (8, pv (.func (.func 42) #[] #[])), (9, pv (ptr b8 0)), (10, pv y37.1), (46, slv rT_api_Pair g_0.L), (47, iv .i64 (g_0.L.length : Int)), (48, iv .i64 s89.1)])) (Ωl := (fun (s89 : Int × (List T_api_Pair)) (x90 : (Value × List Nat)) => [oc b2 [slv rT_api_Fraction o_1.Nodes, slv rT_api_Fraction o_1.Attacks], oc b3 [iv .i64 0, pv (.slice none 0 0)], oc b8 [iv .i64 g_0.N, pv x90.1], oa rT_api_Pair x90.1 x90.2 s89.2, oa (rI .i64) y37.1 y37.2 q36])) (Γb := (fun (q106 : (List T_api_Pair)) (y107 : (Value × List Nat)) => [(4, pv (ptr b3 0)), (9, pv (ptr b8 0)), (10, pv y37.1)])) (Ωb := (fun (q106 : (List T_api_Pair)) (y107 : (Value × List Nat)) => [oc b3 [iv .i64 0, pv (.slice none 0 0)], oc b8 [iv .i64 g_0.N, pv y107.1], oa rT_api_Pair y107.1 y107.2 q106, oa (rI .i64) y37.1 y37.2 q36])) (0, []) ((.slice none 0 0), []) (weak [1, 2, 3, 5, 4] ⟨rfl, rfl, rfl, rfl, rfl, rfl, rfl, rfl, trivial⟩ ⟨rfl, rfl, rfl, rfl, rfl, trivial⟩) (fun s89 x90 => ?_) (fun q106 y107 => ?_)
  · unfold chance_Certain_l2
    refine ref_seq (ref_region ?_)
    refine s_rd (r_lss rfl rfl) rfl ?_
    refine l_nil (n_then (ref_seq ?_))
    refine ref_cond rfl (fun hb91 => ?_) (fun hb91 => ?_)
    · refine ref_skip (n_then (ref_seq (ref_block (ref_seq (ref_region ?_)))))
      refine mv1 rfl rfl ?_
      refine pull fun t92 h_t92 => ?_
      refine s_rd (r_index h_t92 Tryd.underlying25 el_63 rfl rfl) rfl ?_
      refine s_rd (r_load el_63 rfl) rfl ?_
      refine s_st (s_alloc zt_63) rfl (fun b93 => ?_)
      refine as1 rfl rfl ?_
      refine s_st0 (s_cstore (out := [iv .i64 t92.From, iv .i64 t92.To]) Tryd.sizeOf63 rfl (j := 5) rfl (part_agO (ψs := [iv .i64 t92.From, iv .i64 t92.To]) rfl ⟨.inl iv_at, .inl iv_at, trivial⟩) rfl rfl rfl) (fun _ => ?_)
      refine l_nil (n_then (ref_seq ?_))
      refine ref_join (fun (j100 : Bool) (x101 : Unit) => [(3, pv (ptr b2 0)), (4, pv (ptr b3 0)), (8, pv (.func (.func 42) #[] #[])), (9, pv (ptr b8 0)), (10, pv y37.1), (14, pv (ptr b93 0)), (46, slv rT_api_Pair g_0.L), (47, iv .i64 (g_0.L.length : Int)), (48, iv .i64 s89.1), (79, bv j100)]) (fun (j100 : Bool) (x101 : Unit) => [oc b2 [slv rT_api_Fraction o_1.Nodes, slv rT_api_Fraction o_1.Attacks], oc b3 [iv .i64 0, pv (.slice none 0 0)], oc b8 [iv .i64 g_0.N, pv x90.1], oa rT_api_Pair x90.1 x90.2 s89.2, oa (rI .i64) y37.1 y37.2 q36, oc b93 [iv .i64 t92.From, iv .i64 t92.To]]) (fun k102 hk102 => ?_) (fun j100 x101 => ?_)
      · refine ref_region ?_
        refine mv1 rfl rfl ?_
        refine s_rd (r_faddr (fo := 1) Tryd.underlying31 rfl rfl Tryd.sizeOf29 rfl) rfl ?_
        refine s_rd (r_cload Tryd.isAgg29 rfl (j := 0) rfl rfl) rfl ?_
        refine mv1 rfl rfl ?_
        refine pull fun t94 h_t94 => ?_
        refine s_rd (r_index h_t94 Tryd.underlying29 el_36 rfl rfl) rfl ?_
        refine s_rd (r_load el_36 rfl) rfl ?_
        refine pull fun t95 h_t95 => ?_
        refine s_st (s_call (ψ := fun (_ : Unit) => bv t95) (args := [.tmp 58]) Tryd.call42 rfl (chance_Certain_1_ok h_t95) ⟨arg rfl, trivial⟩ (fun _ _ _ _ h => h)) rfl (fun _ => ?_)
        refine mv1 rfl rfl ?_
        refine b_split (t := 60) rfl (fun _ => ?_) (fun _ => ?_)
        · refine s_on rfl rfl rfl ?_
          refine mv1 rfl rfl ?_
          refine s_on rfl rfl rfl ?_
          refine s_rd (r_faddr (fo := 0) Tryd.underlying31 rfl rfl Tryd.sizeOf29 rfl) rfl ?_
          refine s_on rfl rfl rfl ?_
          refine s_rd (r_cload Tryd.isAgg29 rfl (j := 0) rfl rfl) rfl ?_
          refine s_on rfl rfl rfl ?_
          refine s_rd (r_faddr (fo := 0) Tryd.underlying63 rfl rfl Tryd.sizeOf3 rfl) rfl ?_
          refine s_on rfl rfl rfl ?_
          refine s_rd (r_cload Tryd.isAgg3 rfl (j := 5) rfl rfl) rfl ?_
          refine s_on rfl rfl rfl ?_
          refine pull fun t96 h_t96 => ?_
          refine s_rd (r_index h_t96 Tryd.underlying29 el_36 rfl rfl) rfl ?_
          refine s_on rfl rfl rfl ?_
          refine s_rd (r_load el_36 rfl) rfl ?_
          refine s_on rfl rfl rfl ?_
          refine pull fun t97 h_t97 => ?_
          refine s_st (s_call (ψ := fun (_ : Unit) => bv t97) (args := [.tmp 67]) Tryd.call42 rfl (chance_Certain_1_ok h_t97) ⟨arg rfl, trivial⟩ (fun _ _ _ _ h => h)) rfl (fun _ => ?_)
          refine s_rd (r_pickT rfl rfl) rfl ?_
          refine mv1 rfl rfl ?_
          refine b_split (t := 70) rfl (fun _ => ?_) (fun _ => ?_)
          · refine s_on rfl rfl rfl ?_
            refine mv1 rfl rfl ?_
            refine s_on rfl rfl rfl ?_
            refine s_rd (r_faddr (fo := 0) Tryd.underlying31 rfl rfl Tryd.sizeOf29 rfl) rfl ?_
            refine s_on rfl rfl rfl ?_
            refine s_rd (r_cload Tryd.isAgg29 rfl (j := 0) rfl rfl) rfl ?_
            refine s_on rfl rfl rfl ?_
            refine s_rd (r_faddr (fo := 1) Tryd.underlying63 rfl rfl Tryd.sizeOf3 rfl) rfl ?_
            refine s_on rfl rfl rfl ?_
            refine s_rd (r_cload Tryd.isAgg3 rfl (j := 5) rfl rfl) rfl ?_
            refine s_on rfl rfl rfl ?_
            refine pull fun t98 h_t98 => ?_
            refine s_rd (r_index h_t98 Tryd.underlying29 el_36 rfl rfl) rfl ?_
            refine s_on rfl rfl rfl ?_
            refine s_rd (r_load el_36 rfl) rfl ?_
            refine s_on rfl rfl rfl ?_
            refine pull fun t99 h_t99 => ?_
            refine s_st (s_call (ψ := fun (_ : Unit) => bv t99) (args := [.tmp 77]) Tryd.call42 rfl (chance_Certain_1_ok h_t99) ⟨arg rfl, trivial⟩ (fun _ _ _ _ h => h)) rfl (fun _ => ?_)
            refine s_rd (r_pickT rfl rfl) rfl ?_
            refine l_nil ?_
            refine b_of (nrm [oc b2 [slv rT_api_Fraction o_1.Nodes, slv rT_api_Fraction o_1.Attacks], oc b3 [iv .i64 0, pv (.slice none 0 0)], oc b8 [iv .i64 g_0.N, pv x90.1], oa rT_api_Pair x90.1 x90.2 s89.2, oa (rI .i64) y37.1 y37.2 q36, oc b93 [iv .i64 t92.From, iv .i64 t92.To]] rfl) ?_
            exact b_to (hk102 t99 ()) (weak [0, 1, 2, 3, 4, 5] ⟨rfl, rfl, rfl, rfl, rfl, rfl, rfl, rfl, rfl, rfl, trivial⟩ ⟨rfl, rfl, rfl, rfl, rfl, rfl, trivial⟩)
          refine s_off rfl rfl rfl rfl rfl ?_
          refine s_off rfl rfl rfl rfl rfl ?_
          refine s_off rfl rfl rfl rfl rfl ?_
          refine s_off rfl rfl rfl rfl rfl ?_
          refine s_off rfl rfl rfl rfl rfl ?_
          refine s_off rfl rfl rfl rfl rfl ?_
          refine s_off rfl rfl rfl rfl rfl ?_
          refine s_off rfl rfl rfl rfl rfl ?_
          refine s_rd (r_pickF rfl rfl) rfl ?_
          refine l_nil ?_
          refine b_of (nrm [oc b2 [slv rT_api_Fraction o_1.Nodes, slv rT_api_Fraction o_1.Attacks], oc b3 [iv .i64 0, pv (.slice none 0 0)], oc b8 [iv .i64 g_0.N, pv x90.1], oa rT_api_Pair x90.1 x90.2 s89.2, oa (rI .i64) y37.1 y37.2 q36, oc b93 [iv .i64 t92.From, iv .i64 t92.To]] rfl) ?_
          exact b_to (hk102 false ()) (weak [0, 1, 2, 3, 4, 5] ⟨rfl, rfl, rfl, rfl, rfl, rfl, rfl, rfl, rfl, rfl, trivial⟩ ⟨rfl, rfl, rfl, rfl, rfl, rfl, trivial⟩)
        refine s_off rfl rfl rfl rfl rfl ?_
        refine s_off rfl rfl rfl rfl rfl ?_
        refine s_off rfl rfl rfl rfl rfl ?_
        refine s_off rfl rfl rfl rfl rfl ?_
        refine s_off rfl rfl rfl rfl rfl ?_
        refine s_off rfl rfl rfl rfl rfl ?_
        refine s_off rfl rfl rfl rfl rfl ?_
        refine s_off rfl rfl rfl rfl rfl ?_
        refine s_rd (r_pickF rfl rfl) rfl ?_
        refine mv1 rfl rfl ?_
        refine s_off rfl rfl rfl rfl rfl ?_
        refine s_off rfl rfl rfl rfl rfl ?_
        refine s_off rfl rfl rfl rfl rfl ?_
        refine s_off rfl rfl rfl rfl rfl ?_
        refine s_off rfl rfl rfl rfl rfl ?_
        refine s_off rfl rfl rfl rfl rfl ?_
        refine s_off rfl rfl rfl rfl rfl ?_
        refine s_off rfl rfl rfl rfl rfl ?_
        refine s_rd (r_pickF rfl rfl) rfl ?_
        refine l_nil ?_
        exact b_to (hk102 false ()) (weak [0, 1, 2, 3, 4, 5] ⟨rfl, rfl, rfl, rfl, rfl, rfl, rfl, rfl, rfl, rfl, trivial⟩ ⟨rfl, rfl, rfl, rfl, rfl, rfl, trivial⟩)
      refine n_then ?_
      refine ref_cond rfl (fun hb103 => ?_) (fun hb103 => ?_)
      · refine ref_region ?_
        refine s_rd (r_faddr (fo := 1) Tryd.underlying27 rfl rfl Tryd.sizeOf25 rfl) rfl ?_
        refine s_rd (r_cload Tryd.isAgg25 rfl (j := 2) rfl rfl) rfl ?_
        refine s_rd (r_cloadS Tryd.isAgg63 Tryd.sizeOf63 rfl (j := 5) rfl rfl rfl) rfl ?_
        refine s_st (s_bslice (xs := [.tmp 82]) (ds := [t92]) Tryd.underlying25 el_63 rfl (Nat.le_of_ble_eq_true rfl) ⟨(part_agO (ψs := [iv .i64 t92.From, iv .i64 t92.To]) rfl ⟨.inl iv_at, .inl iv_at, trivial⟩), trivial⟩) rfl (fun _ => ?_)
        refine pull fun t104 h_t104 => ?_
        refine s_st (s_append h_t104 Tryd.underlying25 el_63 rfl (j := 3) rfl rfl) rfl (fun o105 => ?_)
        refine s_rd (r_faddr (fo := 1) Tryd.underlying27 rfl rfl Tryd.sizeOf25 rfl) rfl ?_
        refine s_st0 (s_cstore (out := [iv .i64 g_0.N, pv o105.1]) Tryd.sizeOf25 rfl (j := 2) rfl (part_own rfl (j := 3) rfl) rfl rfl rfl) (fun _ => ?_)
        refine l_nil (n_block (n_then (ref_region ?_)))
        refine s_rd (r_add rfl rfl) rfl ?_
        refine mv1 rfl rfl ?_
        refine l_nil ?_
        exact goB o105 (weak [0, 1, 2, 3, 4] ⟨rfl, rfl, rfl, rfl, rfl, rfl, rfl, rfl, trivial⟩ ⟨rfl, rfl, rfl, rfl, rfl, trivial⟩)
      refine ref_skip (n_block (n_then (ref_region ?_)))
      refine s_rd (r_add rfl rfl) rfl ?_
      refine mv1 rfl rfl ?_
      refine l_nil ?_
      exact goB x90 (weak [0, 1, 2, 3, 4] ⟨rfl, rfl, rfl, rfl, rfl, rfl, rfl, rfl, trivial⟩ ⟨rfl, rfl, rfl, rfl, rfl, trivial⟩)
    refine ref_exit (x_then ?_)
    exact brkB x90 (weak [1, 2, 3, 4] ⟨rfl, rfl, rfl, trivial⟩ ⟨rfl, rfl, rfl, rfl, trivial⟩)
  refine n_then (ref_seq (ref_region ?_))
  refine s_rd (r_cloadS Tryd.isAgg27 Tryd.sizeOf27 rfl (j := 1) rfl rfl rfl) rfl ?_
  refine mv1 rfl rfl ?_
  refine s_st0 (s_cstore (out := [iv .i64 g_0.N, pv y107.1]) Tryd.sizeOf27 rfl (j := 0) rfl (part_agO (ψs := [iv .i64 g_0.N, pv y107.1]) rfl ⟨.inl iv_at, .inr ⟨_, _, _, _, _, 2, rfl, rfl⟩, trivial⟩) rfl rfl rfl) (fun _ => ?_)
  refine as1 rfl rfl ?_
  refine as1 rfl rfl ?_
  refine l_nil (n_then (ref_ret ?_))
  refine b_of (frzGL [(87, ag [iv .i64 g_0.N, slv rT_api_Pair q106])] [(0, b3, [iv .i64 g_0.N, slv rT_api_Pair q106]), (1, b8, [iv .i64 g_0.N, slv rT_api_Pair q106])] (j := 2) rfl ⟨⟨_, rfl, .inr ⟨_, _, rfl, rfl, ⟨.inl rfl, .inr ⟨rfl, rfl⟩, trivial⟩⟩⟩, trivial⟩ ⟨⟨_, rfl, ⟨.inl rfl, .inr ⟨rfl, rfl⟩, trivial⟩⟩, ⟨_, rfl, ⟨.inl rfl, .inr ⟨rfl, rfl⟩, trivial⟩⟩, trivial⟩) ?_
  refine b_of (nrm [oc b3 [iv .i64 g_0.N, slv rT_api_Pair q106], oc b8 [iv .i64 g_0.N, slv rT_api_Pair q106], dead, oa (rI .i64) y37.1 y37.2 q36] rfl) ?_
  exact fin3 (.inl rfl) y37 [3] rfl ⟨rfl, trivial⟩ rfl (rv_cell rfl (j := 0) rfl Tryd.isAgg27 Tryd.sizeOf27 rfl rfl) (rv_tmp rfl) (rv_tmp rfl)

/-! deliberation/deliberationkeep.In -/
noncomputable def keep_In_l1 (l_0 : (List Int)) (x_1 : Int) (s6 : Int) : Option (Sum ((Sum (Bool) (Unit))) (Int)) :=
  bif decide (s6 < (l_0.length : Int)) then
    Option.bind (idxM l_0 s6) fun t9 =>
    bif t9 == x_1 then
      some (Sum.inl (Sum.inl true))
    else
      some (Sum.inr (iadd .i64 s6 1))
  else
    some (Sum.inl (Sum.inr ()))

noncomputable def keep_In_m (l_0 : (List Int)) (x_1 : Int) : Option (Bool) :=
  Option.bind (loopC (keep_In_l1 l_0 x_1) 0) (sumK (fun a : Bool => some a) fun q11 : Unit =>
    some false)

theorem keep_In_ok {l_0 : (List Int)} {x_1 : Int} {r : Bool} (hm : keep_In_m l_0 x_1 = some r) :
    FnOk prog 11 [slv (rI .i64) l_0, iv .i64 x_1] [] (fun (x : Unit) => [bv r]) (fun (x : Unit) => []) := by
  refine fn_ok (fn := Tryd.f11) (N := 18) (res := fun r x => [bv r]) (Ω1 := fun r x => []) Tryd.func11 rfl rfl hm rfl (fun E hM => ?_)
  unfold keep_In_m
  refine ref_seq (ref_region ?_)
  refine as1 rfl rfl ?_
  refine l_nil (n_then (ref_seq (ref_seq (ref_region ?_))))
  refine mv1 rfl rfl ?_
  refine s_rd (r_len Tryd.underlying22 rfl) rfl ?_
  refine mv1 rfl rfl ?_
  refine l_nil (n_then ?_)
  refine ref_loopX (f := (keep_In_l1 l_0 x_1)) (Γl := (fun (s6 : Int) (x7 : Unit) => [(0, slv (rI .i64) l_0), (1, iv .i64 x_1), (7, iv .i64 (l_0.length : Int)), (8, iv .i64 s6)])) (Ωl := (fun (s6 : Int) (x7 : Unit) => [])) (Γb := (fun (q11 : Unit) (y12 : Unit) => [])) (Ωb := (fun (q11 : Unit) (y12 : Unit) => [])) (kr := (fun a : Bool => some a)) 0 () (weak [] ⟨rfl, rfl, rfl, rfl, trivial⟩ trivial) (fun s6 x7 => ?_) (fun q11 y12 => ?_)
  · unfold keep_In_l1
    refine ref_seq (ref_region ?_)
    refine s_rd (r_lss rfl rfl) rfl ?_
    refine l_nil (n_then (ref_seq ?_))
    refine ref_cond rfl (fun hb8 => ?_) (fun hb8 => ?_)
    · refine ref_skip (n_then (ref_seq (ref_block (ref_seq (ref_region ?_)))))
      refine mv1 rfl rfl ?_
      refine as1 rfl rfl ?_
      refine l_nil (n_then (ref_seq (ref_region ?_)))
      refine mv1 rfl rfl ?_
      refine mv1 rfl rfl ?_
      refine pull fun t9 h_t9 => ?_
      refine s_rd (r_index h_t9 Tryd.underlying22 el_3 rfl rfl) rfl ?_
      refine s_rd (r_load el_3 rfl) rfl ?_
      refine mv1 rfl rfl ?_
      refine s_rd (r_eql rfl rfl) rfl ?_
      refine l_nil (n_then ?_)
      refine ref_cond rfl (fun hb10 => ?_) (fun hb10 => ?_)
      · refine ref_seq (ref_region ?_)
        refine as1 rfl rfl ?_
        refine l_nil (n_then (ref_ret (r_block (r_then ?_))))
        refine retX ?_
        refine r_block (r_then ?_)
        exact fin1 (.inl rfl) () [] rfl trivial rfl (rv_tmp rfl)
      refine ref_skip (n_block (n_then (ref_region ?_)))
      refine s_rd (r_add rfl rfl) rfl ?_
      refine mv1 rfl rfl ?_
      refine l_nil ?_
      exact goX () (weak [] ⟨rfl, rfl, rfl, rfl, trivial⟩ trivial)
    refine ref_exit (x_then ?_)
    exact brkX () (weak [] trivial trivial)
  refine n_then (ref_seq (ref_region ?_))
  refine as1 rfl rfl ?_
  refine l_nil (n_then (ref_ret ?_))
  exact fin1 (.inl rfl) () [] rfl trivial rfl (rv_tmp rfl)

/-! deliberation/network.Question -/
noncomputable def network_Question_m (q_0 : Int) : Option (Bool) :=
  bif decide (q_0 ≥ 1) then
    letM (decide (q_0 ≤ 4)) fun t1 =>
    some t1
  else
    some false

theorem network_Question_ok {q_0 : Int} {r : Bool} (hm : network_Question_m q_0 = some r) :
    FnOk prog 54 [iv .i64 q_0] [] (fun (x : Unit) => [bv r]) (fun (x : Unit) => []) := by
  refine fn_ok (fn := Tryd.f54) (N := 9) (res := fun r x => [bv r]) (Ω1 := fun r x => []) Tryd.func54 rfl rfl hm rfl (fun E hM => ?_)
  unfold network_Question_m
  refine ref_seq (ref_region ?_)
  refine as1 rfl rfl ?_
  refine l_nil (n_then (ref_seq (ref_region ?_)))
  refine mv1 rfl rfl ?_
  refine s_rd (r_geq rfl rfl) rfl ?_
  refine mv1 rfl rfl ?_
  refine b_split (t := 5) rfl (fun _ => ?_) (fun _ => ?_)
  · refine s_on rfl rfl rfl ?_
    refine mv1 rfl rfl ?_
    refine s_on rfl rfl rfl ?_
    refine s_rd (r_leq rfl rfl) rfl ?_
    refine s_rd (r_pickT rfl rfl) rfl ?_
    refine as1 rfl rfl ?_
    refine b_let (f := bv) (t := 2) rfl fun t1 => ?_
    refine l_nil (n_then (ref_ret ?_))
    exact fin1 (.inl rfl) () [] rfl trivial rfl (rv_tmp rfl)
  refine s_off rfl rfl rfl rfl rfl ?_
  refine s_off rfl rfl rfl rfl rfl ?_
  refine s_rd (r_pickF rfl rfl) rfl ?_
  refine as1 rfl rfl ?_
  refine l_nil (n_then (ref_ret ?_))
  exact fin1 (.inl rfl) () [] rfl trivial rfl (rv_tmp rfl)

/-! deliberation/network.Ascending -/
noncomputable def network_Ascending_l1 (l_0 : (List Int)) (nodes_1 : Int) (s7 : Int) : Option (Sum ((Sum (Bool) (Unit))) (Int)) :=
  bif decide (s7 < (l_0.length : Int)) then
    Option.bind (idxM l_0 s7) fun n10 =>
    bif decide (n10 < 0) then
      some (Sum.inl (Sum.inl false))
    else
      bif decide (n10 ≥ nodes_1) then
        some (Sum.inl (Sum.inl false))
      else
        bif decide (s7 > 0) then
          Option.bind (idxM l_0 (isub .i64 s7 1)) fun t11 =>
          bif decide (n10 ≤ t11) then
            some (Sum.inl (Sum.inl false))
          else
            some (Sum.inr (iadd .i64 s7 1))
        else
          some (Sum.inr (iadd .i64 s7 1))
  else
    some (Sum.inl (Sum.inr ()))

noncomputable def network_Ascending_m (l_0 : (List Int)) (nodes_1 : Int) : Option (Bool) :=
  Option.bind (loopC (network_Ascending_l1 l_0 nodes_1) 0) (sumK (fun a : Bool => some a) fun q13 : Unit =>
    some true)

theorem network_Ascending_ok {l_0 : (List Int)} {nodes_1 : Int} {r : Bool} (hm : network_Ascending_m l_0 nodes_1 = some r) :
    FnOk prog 55 [slv (rI .i64) l_0, iv .i64 nodes_1] [] (fun (x : Unit) => [bv r]) (fun (x : Unit) => []) := by
  refine fn_ok (fn := Tryd.f55) (N := 35) (res := fun r x => [bv r]) (Ω1 := fun r x => []) Tryd.func55 rfl rfl hm rfl (fun E hM => ?_)
  unfold network_Ascending_m
  refine ref_seq (ref_region ?_)
  refine as1 rfl rfl ?_
  refine l_nil (n_then (ref_seq (ref_seq (ref_region ?_))))
  refine mv1 rfl rfl ?_
  refine s_rd (r_len Tryd.underlying22 rfl) rfl ?_
  refine mv1 rfl rfl ?_
  refine l_nil (n_then ?_)
  refine ref_loopX (f := (network_Ascending_l1 l_0 nodes_1)) (Γl := (fun (s7 : Int) (x8 : Unit) => [(0, slv (rI .i64) l_0), (1, iv .i64 nodes_1), (7, slv (rI .i64) l_0), (8, iv .i64 (l_0.length : Int)), (9, iv .i64 s7)])) (Ωl := (fun (s7 : Int) (x8 : Unit) => [])) (Γb := (fun (q13 : Unit) (y14 : Unit) => [])) (Ωb := (fun (q13 : Unit) (y14 : Unit) => [])) (kr := (fun a : Bool => some a)) 0 () (weak [] ⟨rfl, rfl, rfl, rfl, rfl, trivial⟩ trivial) (fun s7 x8 => ?_) (fun q13 y14 => ?_)
  · unfold network_Ascending_l1
    refine ref_seq (ref_region ?_)
    refine s_rd (r_lss rfl rfl) rfl ?_
    refine l_nil (n_then (ref_seq ?_))
    refine ref_cond rfl (fun hb9 => ?_) (fun hb9 => ?_)
    · refine ref_skip (n_then (ref_seq (ref_block (ref_seq (ref_region ?_)))))
      refine mv1 rfl rfl ?_
      refine pull fun n10 h_n10 => ?_
      refine s_rd (r_index h_n10 Tryd.underlying22 el_3 rfl rfl) rfl ?_
      refine s_rd (r_load el_3 rfl) rfl ?_
      refine as1 rfl rfl ?_
      refine as1 rfl rfl ?_
      refine l_nil (n_then (ref_seq (ref_region ?_)))
      refine mv1 rfl rfl ?_
      refine s_rd (r_lss rfl rfl) rfl ?_
      refine mv1 rfl rfl ?_
      refine b_split (t := 16) rfl (fun _ => ?_) (fun _ => ?_)
      · refine s_off rfl rfl rfl rfl rfl ?_
        refine s_off rfl rfl rfl rfl rfl ?_
        refine s_off rfl rfl rfl rfl rfl ?_
        refine s_rd (r_pickT rfl rfl) rfl ?_
        refine mv1 rfl rfl ?_
        refine s_off rfl rfl rfl rfl rfl ?_
        refine s_off rfl rfl rfl rfl rfl ?_
        refine s_off rfl rfl rfl rfl rfl ?_
        refine s_offU rfl rfl rfl ?_
        refine s_offU rfl rfl rfl ?_
        refine s_offU rfl rfl rfl ?_
        refine s_offU rfl rfl rfl ?_
        refine s_offU rfl rfl rfl ?_
        refine s_offU rfl rfl rfl ?_
        refine s_offU rfl rfl rfl ?_
        refine s_off rfl rfl rfl rfl rfl ?_
        refine s_rd (r_pickT rfl rfl) rfl ?_
        refine l_nil (n_then ?_)
        refine ref_condT rfl rfl ?_
        refine ref_seq (ref_region ?_)
        refine as1 rfl rfl ?_
        refine l_nil (n_then (ref_ret (r_block (r_then ?_))))
        refine retX ?_
        refine r_block (r_then ?_)
        exact fin1 (.inl rfl) () [] rfl trivial rfl (rv_tmp rfl)
      refine s_on rfl rfl rfl ?_
      refine mv1 rfl rfl ?_
      refine s_on rfl rfl rfl ?_
      refine mv1 rfl rfl ?_
      refine s_on rfl rfl rfl ?_
      refine s_rd (r_geq rfl rfl) rfl ?_
      refine s_rd (r_pickF rfl rfl) rfl ?_
      refine mv1 rfl rfl ?_
      refine b_split (t := 21) rfl (fun _ => ?_) (fun _ => ?_)
      · refine s_off rfl rfl rfl rfl rfl ?_
        refine s_off rfl rfl rfl rfl rfl ?_
        refine s_off rfl rfl rfl rfl rfl ?_
        refine s_offU rfl rfl rfl ?_
        refine s_offU rfl rfl rfl ?_
        refine s_offU rfl rfl rfl ?_
        refine s_offU rfl rfl rfl ?_
        refine s_offU rfl rfl rfl ?_
        refine s_offU rfl rfl rfl ?_
        refine s_offU rfl rfl rfl ?_
        refine s_off rfl rfl rfl rfl rfl ?_
        refine s_rd (r_pickT rfl rfl) rfl ?_
        refine l_nil (n_then ?_)
        refine ref_condT rfl rfl ?_
        refine ref_seq (ref_region ?_)
        refine as1 rfl rfl ?_
        refine l_nil (n_then (ref_ret (r_block (r_then ?_))))
        refine retX ?_
        refine r_block (r_then ?_)
        exact fin1 (.inl rfl) () [] rfl trivial rfl (rv_tmp rfl)
      refine s_on rfl rfl rfl ?_
      refine mv1 rfl rfl ?_
      refine s_on rfl rfl rfl ?_
      refine s_rd (r_gtr rfl rfl) rfl ?_
      refine s_on rfl rfl rfl ?_
      refine mv1 rfl rfl ?_
      refine b_split (t := 24) rfl (fun _ => ?_) (fun _ => ?_)
      · refine s_on rfl rfl rfl ?_
        refine mv1 rfl rfl ?_
        refine s_on rfl rfl rfl ?_
        refine mv1 rfl rfl ?_
        refine s_on rfl rfl rfl ?_
        refine mv1 rfl rfl ?_
        refine s_on rfl rfl rfl ?_
        refine s_rd (r_sub rfl rfl) rfl ?_
        refine s_on rfl rfl rfl ?_
        refine pull fun t11 h_t11 => ?_
        refine s_rd (r_index h_t11 Tryd.underlying22 el_3 rfl rfl) rfl ?_
        refine s_on rfl rfl rfl ?_
        refine s_rd (r_load el_3 rfl) rfl ?_
        refine s_on rfl rfl rfl ?_
        refine s_rd (r_leq rfl rfl) rfl ?_
        refine s_on rfl rfl rfl ?_
        refine s_rd (r_pickT rfl rfl) rfl ?_
        refine s_rd (r_pickF rfl rfl) rfl ?_
        refine l_nil (n_then ?_)
        refine ref_cond rfl (fun hb12 => ?_) (fun hb12 => ?_)
        · refine ref_seq (ref_region ?_)
          refine as1 rfl rfl ?_
          refine l_nil (n_then (ref_ret (r_block (r_then ?_))))
          refine retX ?_
          refine r_block (r_then ?_)
          exact fin1 (.inl rfl) () [] rfl trivial rfl (rv_tmp rfl)
        refine ref_skip (n_block (n_then (ref_region ?_)))
        refine s_rd (r_add rfl rfl) rfl ?_
        refine mv1 rfl rfl ?_
        refine l_nil ?_
        exact goX () (weak [] ⟨rfl, rfl, rfl, rfl, rfl, trivial⟩ trivial)
      refine s_off rfl rfl rfl rfl rfl ?_
      refine s_off rfl rfl rfl rfl rfl ?_
      refine s_off rfl rfl rfl rfl rfl ?_
      refine s_off rfl rfl rfl rfl rfl ?_
      refine s_off rfl rfl rfl rfl rfl ?_
      refine s_off rfl rfl rfl rfl rfl ?_
      refine s_off rfl rfl rfl rfl rfl ?_
      refine s_on rfl rfl rfl ?_
      refine s_rd (r_pickF rfl rfl) rfl ?_
      refine s_rd (r_pickF rfl rfl) rfl ?_
      refine l_nil (n_then ?_)
      refine ref_condF rfl rfl ?_
      refine ref_skip (n_block (n_then (ref_region ?_)))
      refine s_rd (r_add rfl rfl) rfl ?_
      refine mv1 rfl rfl ?_
      refine l_nil ?_
      exact goX () (weak [] ⟨rfl, rfl, rfl, rfl, rfl, trivial⟩ trivial)
    refine ref_exit (x_then ?_)
    exact brkX () (weak [] trivial trivial)
  refine n_then (ref_seq (ref_region ?_))
  refine as1 rfl rfl ?_
  refine l_nil (n_then (ref_ret ?_))
  exact fin1 (.inl rfl) () [] rfl trivial rfl (rv_tmp rfl)

/-! slices.Grow[[]deliberation/api.Fraction,deliberation/api.Fraction] -/
noncomputable def slices_Grow_api_Fraction_api_Fraction_m (n_1 : Int) : Option (List T_api_Fraction) :=
  bif decide (n_1 < 0) then
    none
  else
    letM (isub .i64 n_1 (isub .i64 0 0)) fun n2 =>
    bif decide (n2 > 0) then
      Option.bind (mkM 16 (T_api_Fraction.mk 0 0) n2) fun t4 =>
      Option.bind (slM t4 0 0) fun s6 =>
      some s6
    else
      some []

theorem slices_Grow_api_Fraction_api_Fraction_ok {n_1 : Int} {r : List T_api_Fraction} (hm : slices_Grow_api_Fraction_api_Fraction_m n_1 = some r) :
    FnOk prog 74 [pv (.slice none 0 0), iv .i64 n_1] [] (fun (x : (Value × List Nat)) => [pv x.1]) (fun (x : (Value × List Nat)) => [oa rT_api_Fraction x.1 x.2 r]) := by
  refine fn_ok (X := (Value × List Nat)) (fn := Tryd.f74) (N := 27) (res := fun r x => [pv x.1]) (Ω1 := fun r x => [oa rT_api_Fraction x.1 x.2 r]) Tryd.func74 rfl rfl hm rfl (fun E hM => ?_)
  unfold slices_Grow_api_Fraction_api_Fraction_m
  refine ref_seq (ref_region ?_)
  refine as1 rfl rfl ?_
  refine l_nil (n_then (ref_seq (ref_seq (ref_region ?_))))
  refine mv1 rfl rfl ?_
  refine s_rd (r_lss rfl rfl) rfl ?_
  refine l_nil (n_then ?_)
  refine ref_cond rfl (fun hb1 => ?_) (fun hb1 => ?_)
  · refine ref_region ?_
    exact pnone
  refine ref_skip (n_then (ref_seq (ref_seq (ref_region ?_))))
  refine mv1 rfl rfl ?_
  refine mv1 rfl rfl ?_
  refine s_rd (r_capN Tryd.underlying29 rfl) rfl ?_
  refine mv1 rfl rfl ?_
  refine s_rd (r_lenN Tryd.underlying29 rfl) rfl ?_
  refine s_rd (r_sub rfl rfl) rfl ?_
  refine s_rd (r_sub rfl rfl) rfl ?_
  refine as1 rfl rfl ?_
  refine b_let (f := iv .i64) (t := 1) rfl fun n2 => ?_
  refine l_nil (n_then (ref_seq (ref_region ?_)))
  refine mv1 rfl rfl ?_
  refine s_rd (r_gtr rfl rfl) rfl ?_
  refine l_nil (n_then ?_)
  refine ref_cond rfl (fun hb3 => ?_) (fun hb3 => ?_)
  · refine ref_region ?_
    refine mv1 rfl rfl ?_
    refine mv1 rfl rfl ?_
    refine s_rd (r_capN Tryd.underlying29 rfl) rfl ?_
    refine s_rd (r_sliceN Tryd.underlying29 el_36 rfl rfl) rfl ?_
    refine mv1 rfl rfl ?_
    refine pull fun t4 h_t4 => ?_
    refine s_st (s_appendZ h_t4 (of_decide_eq_true hb3) Tryd.underlying29 Tryd.underlying3 el_36 ze_36 rfl rfl) rfl (fun o5 => ?_)
    refine mv1 rfl rfl ?_
    refine s_rd (r_lenN Tryd.underlying29 rfl) rfl ?_
    refine pull fun s6 h_s6 => ?_
    refine s_st (s_oslice h_s6 Tryd.underlying29 el_36 rfl (j := 0) rfl .dft (.of rfl)) rfl (fun o7 => ?_)
    refine as1 rfl rfl ?_
    refine l_nil (n_then (ref_seq (ref_region ?_)))
    refine mv1 rfl rfl ?_
    refine as1 rfl rfl ?_
    refine l_nil (n_then (ref_ret ?_))
    exact fin1 (.inl rfl) o7 [0] rfl ⟨rfl, trivial⟩ rfl (rv_tmp rfl)
  refine ref_skip (n_then (ref_seq (ref_region ?_)))
  refine mv1 rfl rfl ?_
  refine as1 rfl rfl ?_
  refine l_nil (n_then (ref_ret ?_))
  refine b_of (own_nil rT_api_Fraction) ?_
  exact fin1 (.inl rfl) ((.slice none 0 0), []) [0] rfl ⟨rfl, trivial⟩ rfl (rv_tmp rfl)

/-! slices.Concat[[]deliberation/api.Fraction,deliberation/api.Fraction] -/
noncomputable def slices_Concat_api_Fraction_api_Fraction_l1 (slices_0 : (List (List T_api_Fraction))) (s7 : Int × Int) : Option (Sum (Int) (Int × Int)) :=
  bif decide (s7.2 < (slices_0.length : Int)) then
    Option.bind (idxM slices_0 s7.2) fun s10 =>
    letM (iadd .i64 s7.1 (s10.length : Int)) fun size11 =>
    bif decide (size11 < 0) then
      none
    else
      some (Sum.inr (size11, iadd .i64 s7.2 1))
  else
    some (Sum.inl s7.1)

noncomputable def slices_Concat_api_Fraction_api_Fraction_l2 (slices_0 : (List (List T_api_Fraction))) (s29 : Int × (List T_api_Fraction)) : Option (Sum ((List T_api_Fraction)) (Int × (List T_api_Fraction))) :=
  bif decide (s29.1 < (slices_0.length : Int)) then
    Option.bind (idxM slices_0 s29.1) fun s32 =>
    Option.bind (appM 16 s29.2 s32) fun newslice33 =>
    some (Sum.inr (iadd .i64 s29.1 1, newslice33))
  else
    some (Sum.inl s29.2)

noncomputable def slices_Concat_api_Fraction_api_Fraction_m (slices_0 : (List (List T_api_Fraction))) : Option (List T_api_Fraction) :=
  Option.bind (loopC (slices_Concat_api_Fraction_api_Fraction_l1 slices_0) (0, 0)) fun q13 : Int =>
  Option.bind (slices_Grow_api_Fraction_api_Fraction_m q13) fun newslice15 =>
  Option.bind (loopC (slices_Concat_api_Fraction_api_Fraction_l2 slices_0) (0, newslice15)) fun q35 : (List T_api_Fraction) =>
  some q35

theorem slices_Concat_api_Fraction_api_Fraction_ok {slices_0 : (List (List T_api_Fraction))} {r : List T_api_Fraction} (hm : slices_Concat_api_Fraction_api_Fraction_m slices_0 = some r) :
    FnOk prog 56 [slv (rSl rT_api_Fraction) slices_0] [] (fun (x : (Value × List Nat)) => [pv x.1]) (fun (x : (Value × List Nat)) => [oa rT_api_Fraction x.1 x.2 r]) := by
  refine fn_ok (X := (Value × List Nat)) (fn := Tryd.f56) (N := 36) (res := fun r x => [pv x.1]) (Ω1 := fun r x => [oa rT_api_Fraction x.1 x.2 r]) Tryd.func56 rfl rfl hm rfl (fun E hM => ?_)
  unfold slices_Concat_api_Fraction_api_Fraction_m
  refine ref_seq (ref_region ?_)
  refine as1 rfl rfl ?_
  refine l_nil (n_then (ref_seq (ref_region ?_)))
  refine as1 rfl rfl ?_
  refine l_nil (n_then (ref_seq (ref_seq (ref_region ?_))))
  refine mv1 rfl rfl ?_
  refine s_rd (r_len Tryd.underlying106 rfl) rfl ?_
  refine mv1 rfl rfl ?_
  refine l_nil (n_then ?_)
  refine ref_loopB (f := (slices_Concat_api_Fraction_api_Fraction_l1 slices_0)) (Γl := (fun (s7 : Int × Int) (x8 : Unit) => [(0, slv (rSl rT_api_Fraction) slices_0), (3, iv .i64 s7.1), (9, slv (rSl rT_api_Fraction) slices_0), (10, iv .i64 (slices_0.length : Int)), (11, iv .i64 s7.2)])) (Ωl := (fun (s7 : Int × Int) (x8 : Unit) => [])) (Γb := (fun (q13 : Int) (y14 : Unit) => [(0, slv (rSl rT_api_Fraction) slices_0), (3, iv .i64 q13)])) (Ωb := (fun (q13 : Int) (y14 : Unit) => [])) (0, 0) () (weak [] ⟨rfl, rfl, rfl, rfl, rfl, trivial⟩ trivial) (fun s7 x8 => ?_) (fun q13 y14 => ?_)
  · unfold slices_Concat_api_Fraction_api_Fraction_l1
    refine ref_seq (ref_region ?_)
    refine s_rd (r_lss rfl rfl) rfl ?_
    refine l_nil (n_then (ref_seq ?_))
    refine ref_cond rfl (fun hb9 => ?_) (fun hb9 => ?_)
    · refine ref_skip (n_then (ref_seq (ref_block (ref_seq (ref_region ?_)))))
      refine pull fun s10 h_s10 => ?_
      refine s_rd (r_index h_s10 Tryd.underlying106 el_29 rfl rfl) rfl ?_
      refine s_rd (r_load el_29 rfl) rfl ?_
      refine as1 rfl rfl ?_
      refine l_nil (n_then (ref_seq (ref_region ?_)))
      refine mv1 rfl rfl ?_
      refine mv1 rfl rfl ?_
      refine s_rd (r_len Tryd.underlying29 rfl) rfl ?_
      refine s_rd (r_add rfl rfl) rfl ?_
      refine as1 rfl rfl ?_
      refine b_let (f := iv .i64) (t := 3) rfl fun size11 => ?_
      refine l_nil (n_then (ref_seq (ref_region ?_)))
      refine mv1 rfl rfl ?_
      refine s_rd (r_lss rfl rfl) rfl ?_
      refine l_nil (n_then ?_)
      refine ref_cond rfl (fun hb12 => ?_) (fun hb12 => ?_)
      · refine ref_region ?_
        exact pnone
      refine ref_skip (n_block (n_then (ref_region ?_)))
      refine s_rd (r_add rfl rfl) rfl ?_
      refine mv1 rfl rfl ?_
      refine l_nil ?_
      exact goB () (weak [] ⟨rfl, rfl, rfl, rfl, rfl, trivial⟩ trivial)
    refine ref_exit (x_then ?_)
    exact brkB () (weak [] ⟨rfl, rfl, trivial⟩ trivial)
  refine n_then (ref_seq (ref_region ?_))
  refine mv1 rfl rfl ?_
  refine pull fun newslice15 h_newslice15 => ?_
  refine s_st (s_call (ψ := fun (x16 : (Value × List Nat)) => pv x16.1) (args := [.const (.slice none 0 0), .tmp 23]) Tryd.call74 rfl (slices_Grow_api_Fraction_api_Fraction_ok h_newslice15) ⟨arg rfl, arg rfl, trivial⟩ (fun _ _ _ _ h => h)) rfl (fun x16 => ?_)
  refine as1 rfl rfl ?_
  refine l_nil (n_then (ref_seq (ref_seq (ref_region ?_))))
  refine mv1 rfl rfl ?_
  refine s_rd (r_len Tryd.underlying106 rfl) rfl ?_
  refine mv1 rfl rfl ?_
  refine l_nil (n_then ?_)
  refine ref_loopB (f := (slices_Concat_api_Fraction_api_Fraction_l2 slices_0)) (Γl := (fun (s29 : Int × (List T_api_Fraction)) (x30 : (Value × List Nat)) => [(6, pv x30.1), (25, slv (rSl rT_api_Fraction) slices_0), (26, iv .i64 (slices_0.length : Int)), (27, iv .i64 s29.1)])) (Ωl := (fun (s29 : Int × (List T_api_Fraction)) (x30 : (Value × List Nat)) => [oa rT_api_Fraction x30.1 x30.2 s29.2])) (Γb := (fun (q35 : (List T_api_Fraction)) (y36 : (Value × List Nat)) => [(6, pv y36.1)])) (Ωb := (fun (q35 : (List T_api_Fraction)) (y36 : (Value × List Nat)) => [oa rT_api_Fraction y36.1 y36.2 q35])) (0, newslice15) x16 (weak [0] ⟨rfl, rfl, rfl, rfl, trivial⟩ ⟨rfl, trivial⟩) (fun s29 x30 => ?_) (fun q35 y36 => ?_)
  · unfold slices_Concat_api_Fraction_api_Fraction_l2
    refine ref_seq (ref_region ?_)
    refine s_rd (r_lss rfl rfl) rfl ?_
    refine l_nil (n_then (ref_seq ?_))
    refine ref_cond rfl (fun hb31 => ?_) (fun hb31 => ?_)
    · refine ref_skip (n_then (ref_seq (ref_block (ref_seq (ref_region ?_)))))
      refine pull fun s32 h_s32 => ?_
      refine s_rd (r_index h_s32 Tryd.underlying106 el_29 rfl rfl) rfl ?_
      refine s_rd (r_load el_29 rfl) rfl ?_
      refine as1 rfl rfl ?_
      refine l_nil (n_then (ref_region ?_))
      refine mv1 rfl rfl ?_
      refine mv1 rfl rfl ?_
      refine pull fun newslice33 h_newslice33 => ?_
      refine s_st (s_append h_newslice33 Tryd.underlying29 el_36 rfl (j := 0) rfl rfl) rfl (fun o34 => ?_)
      refine as1 rfl rfl ?_
      refine l_nil (n_block (n_then (ref_region ?_)))
      refine s_rd (r_add rfl rfl) rfl ?_
      refine mv1 rfl rfl ?_
      refine l_nil ?_
      exact goB o34 (weak [0] ⟨rfl, rfl, rfl, rfl, trivial⟩ ⟨rfl, trivial⟩)
    refine ref_exit (x_then ?_)
    exact brkB x30 (weak [0] ⟨rfl, trivial⟩ ⟨rfl, trivial⟩)
  refine n_then (ref_seq (ref_region ?_))
  refine mv1 rfl rfl ?_
  refine as1 rfl rfl ?_
  refine l_nil (n_then (ref_ret ?_))
  exact fin1 (.inl rfl) y36 [0] rfl ⟨rfl, trivial⟩ rfl (rv_tmp rfl)

/-! deliberation/chance.certain -/
noncomputable def chance_certain_m (f_0 : T_api_Fraction) : Option (Bool) :=
  bif f_0.Num == 0 then
    some true
  else
    letM (f_0.Num == f_0.Den) fun t2 =>
    some t2

theorem chance_certain_ok {f_0 : T_api_Fraction} {r : Bool} (hm : chance_certain_m f_0 = some r) :
    FnOk prog 57 [ag [iv .i64 f_0.Num, iv .i64 f_0.Den]] [] (fun (x : Unit) => [bv r]) (fun (x : Unit) => []) := by
  refine fn_ok (fn := Tryd.f57) (N := 13) (res := fun r x => [bv r]) (Ω1 := fun r x => []) Tryd.func57 rfl rfl hm rfl (fun E hM => ?_)
  unfold chance_certain_m
  refine ref_seq (ref_region ?_)
  refine s_st (s_box (part_agO (ψs := [iv .i64 f_0.Num, iv .i64 f_0.Den]) rfl ⟨.inl iv_at, .inl iv_at, trivial⟩)) rfl (fun b1 => ?_)
  refine as1 rfl rfl ?_
  refine l_nil (n_then (ref_seq (ref_region ?_)))
  refine s_rd (r_faddr (fo := 0) Tryd.underlying36 rfl rfl Tryd.sizeOf3 rfl) rfl ?_
  refine s_rd (r_cload Tryd.isAgg3 rfl (j := 0) rfl rfl) rfl ?_
  refine s_rd (r_eql rfl rfl) rfl ?_
  refine mv1 rfl rfl ?_
  refine b_split (t := 6) rfl (fun _ => ?_) (fun _ => ?_)
  · refine s_off rfl rfl rfl rfl rfl ?_
    refine s_off rfl rfl rfl rfl rfl ?_
    refine s_off rfl rfl rfl rfl rfl ?_
    refine s_off rfl rfl rfl rfl rfl ?_
    refine s_off rfl rfl rfl rfl rfl ?_
    refine s_rd (r_pickT rfl rfl) rfl ?_
    refine as1 rfl rfl ?_
    refine l_nil (n_then (ref_ret ?_))
    exact fin1 (.inl rfl) () [] rfl trivial rfl (rv_tmp rfl)
  refine s_on rfl rfl rfl ?_
  refine s_rd (r_faddr (fo := 0) Tryd.underlying36 rfl rfl Tryd.sizeOf3 rfl) rfl ?_
  refine s_on rfl rfl rfl ?_
  refine s_rd (r_cload Tryd.isAgg3 rfl (j := 0) rfl rfl) rfl ?_
  refine s_on rfl rfl rfl ?_
  refine s_rd (r_faddr (fo := 1) Tryd.underlying36 rfl rfl Tryd.sizeOf3 rfl) rfl ?_
  refine s_on rfl rfl rfl ?_
  refine s_rd (r_cload Tryd.isAgg3 rfl (j := 0) rfl rfl) rfl ?_
  refine s_on rfl rfl rfl ?_
  refine s_rd (r_eql rfl rfl) rfl ?_
  refine s_rd (r_pickF rfl rfl) rfl ?_
  refine as1 rfl rfl ?_
  refine b_let (f := bv) (t := 2) rfl fun t2 => ?_
  refine l_nil (n_then (ref_ret ?_))
  exact fin1 (.inl rfl) () [] rfl trivial rfl (rv_tmp rfl)

/-! deliberation/chance.arguments -/
noncomputable def chance_arguments_l1 (t11 : List T_api_Fraction) (s20 : Int × Int) : Option (Sum (Int) (Int × Int)) :=
  bif decide (s20.2 < (t11.length : Int)) then
    Option.bind (idxM t11 s20.2) fun t23 =>
    Option.bind (chance_certain_m t23) fun t25 =>
    bif !t25 then
      letM (iadd .i64 s20.1 1) fun free27 =>
      some (Sum.inr (free27, iadd .i64 s20.2 1))
    else
      some (Sum.inr (s20.1, iadd .i64 s20.2 1))
  else
    some (Sum.inl s20.1)

noncomputable def chance_arguments_m (g_0 : T_api_Graph) (o_1 : T_api_Odds) (set__2 : (List Int)) (question_3 : Int) : Option (Int) :=
  Option.bind (graph_Validate_m g_0) fun e3 =>
  bif e3 != 0 then
    some e3
  else
    Option.bind (chance_fits_m g_0 o_1) fun t5 =>
    bif !t5 then
      some 1
    else
      Option.bind (network_Question_m question_3) fun t7 =>
      bif !t7 then
        some 4
      else
        Option.bind (network_Ascending_m set__2 g_0.N) fun t9 =>
        bif !t9 then
          some 1
        else
          Option.bind (slices_Concat_api_Fraction_api_Fraction_m [o_1.Nodes, o_1.Attacks]) fun t11 =>
          Option.bind (loopC (chance_arguments_l1 t11) (0, 0)) fun q28 : Int =>
          bif decide (g_0.N > 10) then
            some 2
          else
            bif decide (q28 > 10) then
              some 2
            else
              some 0

theorem chance_arguments_ok {g_0 : T_api_Graph} {o_1 : T_api_Odds} {set__2 : (List Int)} {question_3 : Int} {r : Int} (hm : chance_arguments_m g_0 o_1 set__2 question_3 = some r) :
    FnOk prog 30 [ag [iv .i64 g_0.N, slv rT_api_Pair g_0.L], ag [slv rT_api_Fraction o_1.Nodes, slv rT_api_Fraction o_1.Attacks], slv (rI .i64) set__2, iv .i64 question_3] [] (fun (x : Unit) => [iv .i64 r]) (fun (x : Unit) => []) := by
  refine fn_ok (fn := Tryd.f30) (N := 57) (res := fun r x => [iv .i64 r]) (Ω1 := fun r x => []) Tryd.func30 rfl rfl hm rfl (fun E hM => ?_)
  unfold chance_arguments_m
  refine ref_seq (ref_region ?_)
  refine s_st (s_box (part_agO (ψs := [iv .i64 g_0.N, slv rT_api_Pair g_0.L]) rfl ⟨.inl iv_at, .inl slv_at, trivial⟩)) rfl (fun b1 => ?_)
  refine s_st (s_box (part_agO (ψs := [slv rT_api_Fraction o_1.Nodes, slv rT_api_Fraction o_1.Attacks]) rfl ⟨.inl slv_at, .inl slv_at, trivial⟩)) rfl (fun b2 => ?_)
  refine as1 rfl rfl ?_
  refine l_nil (n_then (ref_seq (ref_seq (ref_region ?_))))
  refine s_rd (r_cloadS Tryd.isAgg27 Tryd.sizeOf27 rfl (j := 0) rfl rfl rfl) rfl ?_
  refine pull fun e3 h_e3 => ?_
  refine s_st (s_call (ψ := fun (_ : Unit) => iv .i64 e3) (args := [.tmp 13]) Tryd.call40 rfl (graph_Validate_ok h_e3) ⟨arg rfl, trivial⟩ (fun _ _ _ _ h => h)) rfl (fun _ => ?_)
  refine as1 rfl rfl ?_
  refine l_nil (n_then (ref_seq (ref_region ?_)))
  refine mv1 rfl rfl ?_
  refine s_rd (r_neq rfl rfl) rfl ?_
  refine l_nil (n_then ?_)
  refine ref_cond rfl (fun hb4 => ?_) (fun hb4 => ?_)
  · refine ref_seq (ref_region ?_)
    refine mv1 rfl rfl ?_
    refine as1 rfl rfl ?_
    refine l_nil (n_then (ref_ret (r_then ?_)))
    exact fin1 (.inl rfl) () [] rfl trivial rfl (rv_tmp rfl)
  refine ref_skip (n_then (ref_seq (ref_block (ref_seq (ref_region ?_)))))
  refine s_rd (r_cloadS Tryd.isAgg27 Tryd.sizeOf27 rfl (j := 0) rfl rfl rfl) rfl ?_
  refine s_rd (r_cloadS Tryd.isAgg31 Tryd.sizeOf31 rfl (j := 1) rfl rfl rfl) rfl ?_
  refine pull fun t5 h_t5 => ?_
  refine s_st (s_call (ψ := fun (_ : Unit) => bv t5) (args := [.tmp 19, .tmp 20]) Tryd.call41 rfl (chance_fits_ok h_t5) ⟨arg rfl, arg rfl, trivial⟩ (fun _ _ _ _ h => h)) rfl (fun _ => ?_)
  refine s_rd (r_not rfl) rfl ?_
  refine as1 rfl rfl ?_
  refine l_nil ?_
  refine b_of (nrm [oc b1 [iv .i64 g_0.N, slv rT_api_Pair g_0.L], oc b2 [slv rT_api_Fraction o_1.Nodes, slv rT_api_Fraction o_1.Attacks]] rfl) ?_
  refine n_then ?_
  refine ref_cond rfl (fun hb6 => ?_) (fun hb6 => ?_)
  · refine ref_seq (ref_region ?_)
    refine as1 rfl rfl ?_
    refine l_nil (n_then (ref_ret (r_block (r_then ?_))))
    exact fin1 (.inl rfl) () [] rfl trivial rfl (rv_tmp rfl)
  refine ref_seq (ref_region ?_)
  refine mv1 rfl rfl ?_
  refine pull fun t7 h_t7 => ?_
  refine s_st (s_call (ψ := fun (_ : Unit) => bv t7) (args := [.tmp 24]) Tryd.call54 rfl (network_Question_ok h_t7) ⟨arg rfl, trivial⟩ (fun _ _ _ _ h => h)) rfl (fun _ => ?_)
  refine s_rd (r_not rfl) rfl ?_
  refine as1 rfl rfl ?_
  refine l_nil (n_then ?_)
  refine ref_cond rfl (fun hb8 => ?_) (fun hb8 => ?_)
  · refine ref_seq (ref_region ?_)
    refine as1 rfl rfl ?_
    refine l_nil (n_then (ref_ret (r_block (r_then ?_))))
    exact fin1 (.inl rfl) () [] rfl trivial rfl (rv_tmp rfl)
  refine ref_seq (ref_region ?_)
  refine mv1 rfl rfl ?_
  refine s_rd (r_faddr (fo := 0) Tryd.underlying27 rfl rfl Tryd.sizeOf3 rfl) rfl ?_
  refine s_rd (r_cload Tryd.isAgg3 rfl (j := 0) rfl rfl) rfl ?_
  refine pull fun t9 h_t9 => ?_
  refine s_st (s_call (ψ := fun (_ : Unit) => bv t9) (args := [.tmp 28, .tmp 30]) Tryd.call55 rfl (network_Ascending_ok h_t9) ⟨arg rfl, arg rfl, trivial⟩ (fun _ _ _ _ h => h)) rfl (fun _ => ?_)
  refine s_rd (r_not rfl) rfl ?_
  refine as1 rfl rfl ?_
  refine l_nil (n_then ?_)
  refine ref_cond rfl (fun hb10 => ?_) (fun hb10 => ?_)
  · refine ref_seq (ref_region ?_)
    refine as1 rfl rfl ?_
    refine l_nil (n_then (ref_ret (r_block (r_then ?_))))
    exact fin1 (.inl rfl) () [] rfl trivial rfl (rv_tmp rfl)
  refine ref_skip (n_block (n_then (ref_seq (ref_region ?_))))
  refine as1 rfl rfl ?_
  refine l_nil (n_then (ref_seq (ref_seq (ref_region ?_))))
  refine s_rd (r_faddr (fo := 0) Tryd.underlying31 rfl rfl Tryd.sizeOf29 rfl) rfl ?_
  refine s_rd (r_cload Tryd.isAgg29 rfl (j := 1) rfl rfl) rfl ?_
  refine s_rd (r_faddr (fo := 1) Tryd.underlying31 rfl rfl Tryd.sizeOf29 rfl) rfl ?_
  refine s_rd (r_cload Tryd.isAgg29 rfl (j := 1) rfl rfl) rfl ?_
  refine s_st (s_bslice (xs := [.tmp 34, .tmp 36]) (ds := [o_1.Nodes, o_1.Attacks]) Tryd.underlying106 el_29 rfl (Nat.le_of_ble_eq_true rfl) ⟨(part_at rfl slv_at), ⟨(part_at rfl slv_at), trivial⟩⟩) rfl (fun _ => ?_)
  refine pull fun t11 h_t11 => ?_
  refine s_st (s_call (ψ := fun (x12 : (Value × List Nat)) => pv x12.1) (args := [.tmp 37]) Tryd.call56 rfl (slices_Concat_api_Fraction_api_Fraction_ok h_t11) ⟨arg rfl, trivial⟩ (fun _ _ _ _ h => h)) rfl (fun x12 => ?_)
  refine s_rd (r_olen Tryd.underlying29 rfl (j := 2) rfl) rfl ?_
  refine mv1 rfl rfl ?_
  refine l_nil ?_
  refine b_of (nrm [oc b1 [iv .i64 g_0.N, slv rT_api_Pair g_0.L], oc b2 [slv rT_api_Fraction o_1.Nodes, slv rT_api_Fraction o_1.Attacks], oa rT_api_Fraction x12.1 x12.2 t11] rfl) ?_
  refine n_then ?_
  refine ref_loopB (f := (chance_arguments_l1 t11)) (Γl := (fun (s20 : Int × Int) (x21 : Unit) => [(4, pv (ptr b1 0)), (10, iv .i64 s20.1), (38, pv x12.1), (39, iv .i64 (t11.length : Int)), (40, iv .i64 s20.2)])) (Ωl := (fun (s20 : Int × Int) (x21 : Unit) => [oc b1 [iv .i64 g_0.N, slv rT_api_Pair g_0.L], oa rT_api_Fraction x12.1 x12.2 t11])) (Γb := (fun (q28 : Int) (y29 : Unit) => [(4, pv (ptr b1 0)), (10, iv .i64 q28)])) (Ωb := (fun (q28 : Int) (y29 : Unit) => [oc b1 [iv .i64 g_0.N, slv rT_api_Pair g_0.L]])) (0, 0) () (weak [0, 2] ⟨rfl, rfl, rfl, rfl, rfl, trivial⟩ ⟨rfl, rfl, trivial⟩) (fun s20 x21 => ?_) (fun q28 y29 => ?_)
  · unfold chance_arguments_l1
    refine ref_seq (ref_region ?_)
    refine s_rd (r_lss rfl rfl) rfl ?_
    refine l_nil (n_then (ref_seq ?_))
    refine ref_cond rfl (fun hb22 => ?_) (fun hb22 => ?_)
    · refine ref_skip (n_then (ref_seq (ref_block (ref_seq (ref_region ?_)))))
      refine pull fun t23 h_t23 => ?_
      refine s_rd (r_oindex h_t23 Tryd.underlying29 el_36 rfl (j := 1) rfl rfl) rfl ?_
      refine s_rd (r_oload h_t23 el_36 rfl (j := 1) rfl) rfl ?_
      refine s_st (s_alloc zt_36) rfl (fun b24 => ?_)
      refine s_st0 (s_cstore (out := [iv .i64 t23.Num, iv .i64 t23.Den]) Tryd.sizeOf36 rfl (j := 2) rfl (part_agO (ψs := [iv .i64 t23.Num, iv .i64 t23.Den]) rfl ⟨.inl iv_at, .inl iv_at, trivial⟩) rfl rfl rfl) (fun _ => ?_)
      refine l_nil (n_then (ref_seq (ref_region ?_)))
      refine s_rd (r_cloadS Tryd.isAgg36 Tryd.sizeOf36 rfl (j := 2) rfl rfl rfl) rfl ?_
      refine pull fun t25 h_t25 => ?_
      refine s_st (s_call (ψ := fun (_ : Unit) => bv t25) (args := [.tmp 44]) Tryd.call57 rfl (chance_certain_ok h_t25) ⟨arg rfl, trivial⟩ (fun _ _ _ _ h => h)) rfl (fun _ => ?_)
      refine s_rd (r_not rfl) rfl ?_
      refine l_nil (n_then ?_)
      refine ref_cond rfl (fun hb26 => ?_) (fun hb26 => ?_)
      · refine ref_region ?_
        refine mv1 rfl rfl ?_
        refine s_rd (r_add rfl rfl) rfl ?_
        refine as1 rfl rfl ?_
        refine b_let (f := iv .i64) (t := 10) rfl fun free27 => ?_
        refine l_nil (n_block (n_then (ref_region ?_)))
        refine s_rd (r_add rfl rfl) rfl ?_
        refine mv1 rfl rfl ?_
        refine l_nil ?_
        exact goB () (weak [0, 1] ⟨rfl, rfl, rfl, rfl, rfl, trivial⟩ ⟨rfl, rfl, trivial⟩)
      refine ref_skip (n_block (n_then (ref_region ?_)))
      refine s_rd (r_add rfl rfl) rfl ?_
      refine mv1 rfl rfl ?_
      refine l_nil ?_
      exact goB () (weak [0, 1] ⟨rfl, rfl, rfl, rfl, rfl, trivial⟩ ⟨rfl, rfl, trivial⟩)
    refine ref_exit (x_then ?_)
    exact brkB () (weak [0] ⟨rfl, rfl, trivial⟩ ⟨rfl, trivial⟩)
  refine n_then (ref_seq (ref_seq (ref_region ?_)))
  refine s_rd (r_faddr (fo := 0) Tryd.underlying27 rfl rfl Tryd.sizeOf3 rfl) rfl ?_
  refine s_rd (r_cload Tryd.isAgg3 rfl (j := 0) rfl rfl) rfl ?_
  refine s_rd (r_gtr rfl rfl) rfl ?_
  refine mv1 rfl rfl ?_
  refine b_split (t := 53) rfl (fun _ => ?_) (fun _ => ?_)
  · refine s_off rfl rfl rfl rfl rfl ?_
    refine s_off rfl rfl rfl rfl rfl ?_
    refine s_rd (r_pickT rfl rfl) rfl ?_
    refine l_nil (n_then ?_)
    refine ref_condT rfl rfl ?_
    refine ref_seq (ref_region ?_)
    refine as1 rfl rfl ?_
    refine l_nil (n_then (ref_ret (r_then ?_)))
    exact fin1 (.inl rfl) () [] rfl trivial rfl (rv_tmp rfl)
  refine s_on rfl rfl rfl ?_
  refine mv1 rfl rfl ?_
  refine s_on rfl rfl rfl ?_
  refine s_rd (r_gtr rfl rfl) rfl ?_
  refine s_rd (r_pickF rfl rfl) rfl ?_
  refine l_nil (n_then ?_)
  refine ref_cond rfl (fun hb30 => ?_) (fun hb30 => ?_)
  · refine ref_seq (ref_region ?_)
    refine as1 rfl rfl ?_
    refine l_nil (n_then (ref_ret (r_then ?_)))
    exact fin1 (.inl rfl) () [] rfl trivial rfl (rv_tmp rfl)
  refine ref_skip (n_then (ref_seq (ref_region ?_)))
  refine as1 rfl rfl ?_
  refine l_nil (n_then (ref_ret ?_))
  exact fin1 (.inl rfl) () [] rfl trivial rfl (rv_tmp rfl)

/-! (deliberation/network.Set).With -/
noncomputable def network_Set_With_m (s_0 : Int) (node_1 : Int) : Option (Int) :=
  Option.bind (ishlM .u64 1 (IntKind.wrap .u64 node_1)) fun t1 =>
  letM (ior .u64 s_0 t1) fun t2 =>
  some t2

theorem network_Set_With_ok {s_0 : Int} {node_1 : Int} {r : Int} (hm : network_Set_With_m s_0 node_1 = some r) :
    FnOk prog 61 [iv .u64 s_0, iv .i64 node_1] [] (fun (x : Unit) => [iv .u64 r]) (fun (x : Unit) => []) := by
  refine fn_ok (fn := Tryd.f61) (N := 10) (res := fun r x => [iv .u64 r]) (Ω1 := fun r x => []) Tryd.func61 rfl rfl hm rfl (fun E hM => ?_)
  unfold network_Set_With_m
  refine ref_seq (ref_region ?_)
  refine as1 rfl rfl ?_
  refine l_nil (n_then (ref_seq (ref_region ?_)))
  refine mv1 rfl rfl ?_
  refine mv1 rfl rfl ?_
  refine s_rd (r_conv (k' := .u64) rfl rfl rfl) rfl ?_
  refine pull fun t1 h_t1 => ?_
  refine s_rd (r_shlM h_t1 rfl rfl) rfl ?_
  refine s_rd (r_or rfl rfl) rfl ?_
  refine as1 rfl rfl ?_
  refine b_let (f := iv .u64) (t := 4) rfl fun t2 => ?_
  refine l_nil (n_then (ref_ret ?_))
  exact fin1 (.inl rfl) () [] rfl trivial rfl (rv_tmp rfl)

/-! deliberation/network.Of -/
noncomputable def network_Of_l1 (l_0 : (List Int)) (s6 : Int × Int) : Option (Sum (Int) (Int × Int)) :=
  bif decide (s6.2 < (l_0.length : Int)) then
    Option.bind (idxM l_0 s6.2) fun n9 =>
    Option.bind (network_Set_With_m s6.1 n9) fun s10 =>
    some (Sum.inr (s10, iadd .i64 s6.2 1))
  else
    some (Sum.inl s6.1)

noncomputable def network_Of_m (l_0 : (List Int)) : Option (Int) :=
  Option.bind (loopC (network_Of_l1 l_0) (0, 0)) fun q11 : Int =>
  some q11

theorem network_Of_ok {l_0 : (List Int)} {r : Int} (hm : network_Of_m l_0 = some r) :
    FnOk prog 33 [slv (rI .i64) l_0] [] (fun (x : Unit) => [iv .u64 r]) (fun (x : Unit) => []) := by
  refine fn_ok (fn := Tryd.f33) (N := 17) (res := fun r x => [iv .u64 r]) (Ω1 := fun r x => []) Tryd.func33 rfl rfl hm rfl (fun E hM => ?_)
  unfold network_Of_m
  refine ref_seq (ref_region ?_)
  refine as1 rfl rfl ?_
  refine l_nil (n_then (ref_seq (ref_region ?_)))
  refine as1 rfl rfl ?_
  refine l_nil (n_then (ref_seq (ref_seq (ref_region ?_))))
  refine mv1 rfl rfl ?_
  refine s_rd (r_len Tryd.underlying22 rfl) rfl ?_
  refine mv1 rfl rfl ?_
  refine l_nil (n_then ?_)
  refine ref_loopB (f := (network_Of_l1 l_0)) (Γl := (fun (s6 : Int × Int) (x7 : Unit) => [(3, iv .u64 s6.1), (6, slv (rI .i64) l_0), (7, iv .i64 (l_0.length : Int)), (8, iv .i64 s6.2)])) (Ωl := (fun (s6 : Int × Int) (x7 : Unit) => [])) (Γb := (fun (q11 : Int) (y12 : Unit) => [(3, iv .u64 q11)])) (Ωb := (fun (q11 : Int) (y12 : Unit) => [])) (0, 0) () (weak [] ⟨rfl, rfl, rfl, rfl, trivial⟩ trivial) (fun s6 x7 => ?_) (fun q11 y12 => ?_)
  · unfold network_Of_l1
    refine ref_seq (ref_region ?_)
    refine s_rd (r_lss rfl rfl) rfl ?_
    refine l_nil (n_then (ref_seq ?_))
    refine ref_cond rfl (fun hb8 => ?_) (fun hb8 => ?_)
    · refine ref_skip (n_then (ref_seq (ref_block (ref_seq (ref_region ?_)))))
      refine pull fun n9 h_n9 => ?_
      refine s_rd (r_index h_n9 Tryd.underlying22 el_3 rfl rfl) rfl ?_
      refine s_rd (r_load el_3 rfl) rfl ?_
      refine as1 rfl rfl ?_
      refine l_nil (n_then (ref_region ?_))
      refine mv1 rfl rfl ?_
      refine mv1 rfl rfl ?_
      refine pull fun s10 h_s10 => ?_
      refine s_st (s_call (ψ := fun (_ : Unit) => iv .u64 s10) (args := [.tmp 12, .tmp 13]) Tryd.call61 rfl (network_Set_With_ok h_s10) ⟨arg rfl, arg rfl, trivial⟩ (fun _ _ _ _ h => h)) rfl (fun _ => ?_)
      refine as1 rfl rfl ?_
      refine l_nil (n_block (n_then (ref_region ?_)))
      refine s_rd (r_add rfl rfl) rfl ?_
      refine mv1 rfl rfl ?_
      refine l_nil ?_
      exact goB () (weak [] ⟨rfl, rfl, rfl, rfl, trivial⟩ trivial)
    refine ref_exit (x_then ?_)
    exact brkB () (weak [] ⟨rfl, trivial⟩ trivial)
  refine n_then (ref_seq (ref_region ?_))
  refine mv1 rfl rfl ?_
  refine as1 rfl rfl ?_
  refine l_nil (n_then (ref_ret ?_))
  exact fin1 (.inl rfl) () [] rfl trivial rfl (rv_tmp rfl)

/-! deliberation/network.New -/
noncomputable def network_New_l1 (g_0 : T_api_Graph) (s17 : Int × Int) : Option (Sum (Int) (Int × Int)) :=
  bif decide (s17.1 < g_0.N) then
    Option.bind (network_Set_With_m s17.2 s17.1) fun t20 =>
    some (Sum.inr (iadd .i64 s17.1 1, t20))
  else
    some (Sum.inl s17.2)

noncomputable def network_New_l2 (g_0 : T_api_Graph) (s45 : Int × (List Int) × (List Int)) : Option (Sum ((List Int) × (List Int)) (Int × (List Int) × (List Int))) :=
  bif decide (s45.1 < (g_0.L.length : Int)) then
    Option.bind (idxM g_0.L s45.1) fun t48 =>
    Option.bind (idxM s45.2.1 t48.To) fun t50 =>
    Option.bind (network_Set_With_m t50 t48.From) fun t51 =>
    Option.bind (idxM s45.2.1 t48.To) fun t52 =>
    Option.bind (idxM s45.2.2 t48.From) fun t53 =>
    Option.bind (network_Set_With_m t53 t48.To) fun t54 =>
    Option.bind (idxM s45.2.2 t48.From) fun t55 =>
    some (Sum.inr (iadd .i64 s45.1 1, s45.2.1.set (Int.toNat t48.To) t51, s45.2.2.set (Int.toNat t48.From) t54))
  else
    some (Sum.inl (s45.2.1, s45.2.2))

noncomputable def network_New_m (g_0 : T_api_Graph) : Option (T_network_Net) :=
  Option.bind (mkM 8 0 g_0.N) fun t4 =>
  Option.bind (mkM 8 0 g_0.N) fun t6 =>
  Option.bind (loopC (network_New_l1 g_0) (0, 0)) fun q21 : Int =>
  Option.bind (loopC (network_New_l2 g_0) (0, t4, t6)) fun q56 : (List Int) × (List Int) =>
  some (T_network_Net.mk q21 q56.1 q56.2)

theorem network_New_ok {g_0 : T_api_Graph} {r : T_network_Net} (hm : network_New_m g_0 = some r) :
    FnOk prog 81 [ag [iv .i64 g_0.N, slv rT_api_Pair g_0.L]] [] (fun (x : Unit) => [ag [iv .u64 r.All, slv (rI .u64) r.By, slv (rI .u64) r.Out]]) (fun (x : Unit) => []) := by
  refine fn_ok (fn := Tryd.f81) (N := 62) (res := fun r x => [ag [iv .u64 r.All, slv (rI .u64) r.By, slv (rI .u64) r.Out]]) (Ω1 := fun r x => []) Tryd.func81 rfl rfl hm rfl (fun E hM => ?_)
  unfold network_New_m
  refine ref_seq (ref_region ?_)
  refine s_st (s_box (part_agO (ψs := [iv .i64 g_0.N, slv rT_api_Pair g_0.L]) rfl ⟨.inl iv_at, .inl slv_at, trivial⟩)) rfl (fun b1 => ?_)
  refine s_st (s_alloc zt_74) rfl (fun b2 => ?_)
  refine l_nil (n_then (ref_seq ?_))
  refine pull fun t4 h_t4 => ?_
  refine pull fun t6 h_t6 => ?_
  refine ref_drawI 3 [⟨[], [], [], [], [], fun us u => pv (ptr b1 0), fun us u => []⟩, ⟨[0], [], [], [0], [], fun us u => iv .i64 g_0.N, fun us u => []⟩, ⟨[0, 1], [], [2], [2], [], fun us u => pv u.V.1, fun us u => [oa (rI .u64) u.V.1 u.V.2 t4]⟩, ⟨[], [], [], [], [], fun us u => pv (ptr b1 0), fun us u => []⟩, ⟨[3], [], [], [0], [], fun us u => iv .i64 g_0.N, fun us u => []⟩, ⟨[3, 4], [], [3], [3], [], fun us u => pv u.V.1, fun us u => [oa (rI .u64) u.V.1 u.V.2 t6]⟩, ⟨[0, 1, 2, 3, 4, 5], [2, 5], [], [2, 3], [], fun us u => ag [iv .u64 0, pv (us.getD 0 .none).V.1, pv (us.getD 1 .none).V.1], fun us u => []⟩, ⟨[], [], [4], [4], [], fun us u => pv (ptr u.Nn 0), fun us u => [oc u.Nn [iv .u64 0, pv (.slice none 0 0), pv (.slice none 0 0)]]⟩, ⟨[0, 1, 2, 3, 4, 5, 6, 7], [2, 5, 7], [4], [2, 3, 4], [4], fun us u => pv undef, fun us u => [oc (us.getD 2 .none).Nn [iv .u64 0, pv (us.getD 0 .none).V.1, pv (us.getD 1 .none).V.1]]⟩] (fun χ3 => [(1, pv (ptr b1 0)), (2, pv (ptr b2 0)), (3, pv (ptr (χ3 7).Nn 0))]) (fun χ3 => [oc b1 [iv .i64 g_0.N, slv rT_api_Pair g_0.L], oc b2 [iv .u64 0, pv (.slice none 0 0), pv (.slice none 0 0)], oa (rI .u64) (χ3 2).V.1 (χ3 2).V.2 t4, oa (rI .u64) (χ3 5).V.1 (χ3 5).V.2 t6, oc (χ3 7).Nn [iv .u64 0, pv (χ3 2).V.1, pv (χ3 5).V.1]]) rfl (by kernel_rfl) ⟨fun χ3 Ω _ => St.toR (r_faddr (fo := 0) Tryd.underlying27 rfl rfl Tryd.sizeOf3 rfl) (fun _ => rfl) (fun _ => rfl), (by intro _ h; cases h; rfl), ⟨fun χ3 Ω ⟨h0, _⟩ => St.toR (r_cload Tryd.isAgg3 rfl (j := 0) h0 rfl) (fun _ => rfl) (fun _ => rfl), (by intro _ h; cases h; rfl), ⟨fun χ3 Ω ⟨h2, _⟩ => St.to XU.V XU.hV (St.placeL (os := fun _ => [_]) [2] (s_make h_t4 Tryd.underlying72 el_67 ze_67 rfl rfl) (fun _ => rfl) (fun _ => ⟨h2, rfl, trivial⟩)) (fun _ => rfl) (fun _ => rfl), (by intro _ h; cases h; rfl), ⟨fun χ3 Ω _ => St.toR (r_faddr (fo := 0) Tryd.underlying27 rfl rfl Tryd.sizeOf3 rfl) (fun _ => rfl) (fun _ => rfl), (by intro _ h; cases h; rfl), ⟨fun χ3 Ω ⟨h0, _⟩ => St.toR (r_cload Tryd.isAgg3 rfl (j := 0) h0 rfl) (fun _ => rfl) (fun _ => rfl), (by intro _ h; cases h; rfl), ⟨fun χ3 Ω ⟨h3, _⟩ => St.to XU.V XU.hV (St.placeL (os := fun _ => [_]) [3] (s_make h_t6 Tryd.underlying72 el_67 ze_67 rfl rfl) (fun _ => rfl) (fun _ => ⟨h3, rfl, trivial⟩)) (fun _ => rfl) (fun _ => rfl), (by intro _ h; cases h; rfl), ⟨fun χ3 Ω ⟨h2, h3, _⟩ => St.toR (r_build (ps := [(1, .tmp 9), (2, .tmp 12)]) (rs := [(1, [pv (χ3 2).V.1]), (2, [pv (χ3 5).V.1])]) st_74 zs_74 ⟨rfl, (part_own rfl (j := 2) h2), ⟨rfl, (part_own rfl (j := 3) h3), trivial⟩⟩ rfl rfl) (fun _ => rfl) (fun _ => rfl), (by intro _ h; cases h; rfl), ⟨fun χ3 Ω ⟨h4, _⟩ => St.to XU.Nn XU.hN (St.placeL (os := fun _ => [_]) [4] (s_alloc zt_74) (fun _ => rfl) (fun _ => ⟨h4, rfl, trivial⟩)) (fun _ => rfl) (fun _ => rfl), (by intro _ h; cases h; rfl), ⟨fun χ3 Ω ⟨h2, h3, h4, _⟩ => St.to XU.U XU.hU (s_cstore (out := [iv .u64 0, pv (χ3 2).V.1, pv (χ3 5).V.1]) Tryd.sizeOf74 rfl (j := 4) h4 (part_agO (ψs := [iv .u64 0, pv (χ3 2).V.1, pv (χ3 5).V.1]) rfl ⟨.inl iv_at, .inr ⟨_, _, _, _, _, 2, rfl, h2⟩, .inr ⟨_, _, _, _, _, 3, rfl, h3⟩, trivial⟩) rfl rfl rfl) (fun _ => rfl) (fun _ => rfl), (by intro _ h; cases h), trivial⟩⟩⟩⟩⟩⟩⟩⟩⟩ (fun _ => ⟨rfl, rfl, rfl, trivial⟩) (fun _ => rfl) (fun χ3 => ?_)
  refine n_then (ref_seq (ref_seq (ref_region ?_)))
  refine s_rd (r_faddr (fo := 0) Tryd.underlying27 rfl rfl Tryd.sizeOf3 rfl) rfl ?_
  refine s_rd (r_cload Tryd.isAgg3 rfl (j := 0) rfl rfl) rfl ?_
  refine mv1 rfl rfl ?_
  refine l_nil (n_then ?_)
  refine ref_loopB (f := (network_New_l1 g_0)) (Γl := (fun (s17 : Int × Int) (x18 : Unit) => [(1, pv (ptr b1 0)), (2, pv (ptr b2 0)), (3, pv (ptr (χ3 7).Nn 0)), (15, iv .i64 g_0.N), (16, iv .i64 s17.1)])) (Ωl := (fun (s17 : Int × Int) (x18 : Unit) => [oc b1 [iv .i64 g_0.N, slv rT_api_Pair g_0.L], oc b2 [iv .u64 0, pv (.slice none 0 0), pv (.slice none 0 0)], oc (χ3 7).Nn [iv .u64 s17.2, pv (χ3 2).V.1, pv (χ3 5).V.1], oa (rI .u64) (χ3 2).V.1 (χ3 2).V.2 t4, oa (rI .u64) (χ3 5).V.1 (χ3 5).V.2 t6])) (Γb := (fun (q21 : Int) (y22 : Unit) => [(1, pv (ptr b1 0)), (2, pv (ptr b2 0)), (3, pv (ptr (χ3 7).Nn 0))])) (Ωb := (fun (q21 : Int) (y22 : Unit) => [oc b1 [iv .i64 g_0.N, slv rT_api_Pair g_0.L], oc b2 [iv .u64 0, pv (.slice none 0 0), pv (.slice none 0 0)], oc (χ3 7).Nn [iv .u64 q21, pv (χ3 2).V.1, pv (χ3 5).V.1], oa (rI .u64) (χ3 2).V.1 (χ3 2).V.2 t4, oa (rI .u64) (χ3 5).V.1 (χ3 5).V.2 t6])) (0, 0) () (weak [0, 1, 4, 2, 3] ⟨rfl, rfl, rfl, rfl, rfl, trivial⟩ ⟨rfl, rfl, rfl, rfl, rfl, trivial⟩) (fun s17 x18 => ?_) (fun q21 y22 => ?_)
  · unfold network_New_l1
    refine ref_seq (ref_region ?_)
    refine s_rd (r_lss rfl rfl) rfl ?_
    refine l_nil (n_then (ref_seq ?_))
    refine ref_cond rfl (fun hb19 => ?_) (fun hb19 => ?_)
    · refine ref_skip (n_then (ref_seq (ref_block (ref_seq (ref_region ?_)))))
      refine mv1 rfl rfl ?_
      refine as1 rfl rfl ?_
      refine l_nil (n_then (ref_region ?_))
      refine s_rd (r_faddr (fo := 0) Tryd.underlying74 rfl rfl Tryd.sizeOf67 rfl) rfl ?_
      refine s_rd (r_cload Tryd.isAgg67 rfl (j := 2) rfl rfl) rfl ?_
      refine mv1 rfl rfl ?_
      refine pull fun t20 h_t20 => ?_
      refine s_st (s_call (ψ := fun (_ : Unit) => iv .u64 t20) (args := [.tmp 20, .tmp 21]) Tryd.call61 rfl (network_Set_With_ok h_t20) ⟨arg rfl, arg rfl, trivial⟩ (fun _ _ _ _ h => h)) rfl (fun _ => ?_)
      refine s_rd (r_faddr (fo := 0) Tryd.underlying74 rfl rfl Tryd.sizeOf67 rfl) rfl ?_
      refine s_st0 (s_cstore (out := [iv .u64 t20, pv (χ3 2).V.1, pv (χ3 5).V.1]) Tryd.sizeOf67 rfl (j := 2) rfl (part_at rfl iv_at) rfl rfl rfl) (fun _ => ?_)
      refine l_nil (n_block (n_then (ref_region ?_)))
      refine s_rd (r_add rfl rfl) rfl ?_
      refine mv1 rfl rfl ?_
      refine l_nil ?_
      exact goB () (weak [0, 1, 2, 3, 4] ⟨rfl, rfl, rfl, rfl, rfl, trivial⟩ ⟨rfl, rfl, rfl, rfl, rfl, trivial⟩)
    refine ref_exit (x_then ?_)
    exact brkB () (weak [0, 1, 2, 3, 4] ⟨rfl, rfl, rfl, trivial⟩ ⟨rfl, rfl, rfl, rfl, rfl, trivial⟩)
  refine n_then (ref_seq (ref_seq (ref_region ?_)))
  refine s_rd (r_faddr (fo := 1) Tryd.underlying27 rfl rfl Tryd.sizeOf25 rfl) rfl ?_
  refine s_rd (r_cload Tryd.isAgg25 rfl (j := 0) rfl rfl) rfl ?_
  refine s_rd (r_len Tryd.underlying25 rfl) rfl ?_
  refine mv1 rfl rfl ?_
  refine l_nil (n_then ?_)
  refine ref_loopB (f := (network_New_l2 g_0)) (Γl := (fun (s45 : Int × (List Int) × (List Int)) (x46 : Unit) => [(2, pv (ptr b2 0)), (3, pv (ptr (χ3 7).Nn 0)), (26, slv rT_api_Pair g_0.L), (27, iv .i64 (g_0.L.length : Int)), (28, iv .i64 s45.1)])) (Ωl := (fun (s45 : Int × (List Int) × (List Int)) (x46 : Unit) => [oc b2 [iv .u64 0, pv (.slice none 0 0), pv (.slice none 0 0)], oc (χ3 7).Nn [iv .u64 q21, pv (χ3 2).V.1, pv (χ3 5).V.1], oa (rI .u64) (χ3 2).V.1 (χ3 2).V.2 s45.2.1, oa (rI .u64) (χ3 5).V.1 (χ3 5).V.2 s45.2.2])) (Γb := (fun (q56 : (List Int) × (List Int)) (y57 : Unit) => [(2, pv (ptr b2 0)), (3, pv (ptr (χ3 7).Nn 0))])) (Ωb := (fun (q56 : (List Int) × (List Int)) (y57 : Unit) => [oc b2 [iv .u64 0, pv (.slice none 0 0), pv (.slice none 0 0)], oc (χ3 7).Nn [iv .u64 q21, pv (χ3 2).V.1, pv (χ3 5).V.1], oa (rI .u64) (χ3 2).V.1 (χ3 2).V.2 q56.1, oa (rI .u64) (χ3 5).V.1 (χ3 5).V.2 q56.2])) (0, t4, t6) () (weak [1, 2, 3, 4] ⟨rfl, rfl, rfl, rfl, rfl, trivial⟩ ⟨rfl, rfl, rfl, rfl, trivial⟩) (fun s45 x46 => ?_) (fun q56 y57 => ?_)
  · unfold network_New_l2
    refine ref_seq (ref_region ?_)
    refine s_rd (r_lss rfl rfl) rfl ?_
    refine l_nil (n_then (ref_seq ?_))
    refine ref_cond rfl (fun hb47 => ?_) (fun hb47 => ?_)
    · refine ref_skip (n_then (ref_seq (ref_block (ref_seq (ref_region ?_)))))
      refine pull fun t48 h_t48 => ?_
      refine s_rd (r_index h_t48 Tryd.underlying25 el_63 rfl rfl) rfl ?_
      refine s_rd (r_load el_63 rfl) rfl ?_
      refine s_st (s_alloc zt_63) rfl (fun b49 => ?_)
      refine s_st0 (s_cstore (out := [iv .i64 t48.From, iv .i64 t48.To]) Tryd.sizeOf63 rfl (j := 4) rfl (part_agO (ψs := [iv .i64 t48.From, iv .i64 t48.To]) rfl ⟨.inl iv_at, .inl iv_at, trivial⟩) rfl rfl rfl) (fun _ => ?_)
      refine l_nil (n_then (ref_seq ?_))
      refine ref_draw [0, 1, 2, 3, 4, 5, 6, 7, 8, 9, 10, 11, 13] rfl (by kernel_rfl) (fun hok => ?_)
      refine a_rd (i := 0) hok rfl (by kernel_rfl) rfl (r_faddr (fo := 1) Tryd.underlying74 rfl rfl Tryd.sizeOf72 rfl) rfl ?_
      refine a_rd (i := 1) hok rfl (by kernel_rfl) rfl (r_cload Tryd.isAgg72 rfl (j := 1) rfl rfl) rfl ?_
      refine a_rd (i := 2) hok rfl (by kernel_rfl) rfl (r_faddr (fo := 1) Tryd.underlying63 rfl rfl Tryd.sizeOf3 rfl) rfl ?_
      refine a_rd (i := 3) hok rfl (by kernel_rfl) rfl (r_cload Tryd.isAgg3 rfl (j := 4) rfl rfl) rfl ?_
      refine a_rd (i := 4) hok rfl (by kernel_rfl) rfl (r_faddr (fo := 1) Tryd.underlying74 rfl rfl Tryd.sizeOf72 rfl) rfl ?_
      refine a_rd (i := 5) hok rfl (by kernel_rfl) rfl (r_cload Tryd.isAgg72 rfl (j := 1) rfl rfl) rfl ?_
      refine a_rd (i := 6) hok rfl (by kernel_rfl) rfl (r_faddr (fo := 1) Tryd.underlying63 rfl rfl Tryd.sizeOf3 rfl) rfl ?_
      refine a_rd (i := 7) hok rfl (by kernel_rfl) rfl (r_cload Tryd.isAgg3 rfl (j := 4) rfl rfl) rfl ?_
      refine pull fun t50 h_t50 => ?_
      refine a_rd (i := 8) hok rfl (by kernel_rfl) rfl (r_oindex h_t50 Tryd.underlying72 el_67 rfl (j := 2) rfl rfl) rfl ?_
      refine a_rd (i := 9) hok rfl (by kernel_rfl) rfl (r_oload h_t50 el_67 rfl (j := 2) rfl) rfl ?_
      refine a_rd (i := 10) hok rfl (by kernel_rfl) rfl (r_faddr (fo := 0) Tryd.underlying63 rfl rfl Tryd.sizeOf3 rfl) rfl ?_
      refine a_rd (i := 11) hok rfl (by kernel_rfl) rfl (r_cload Tryd.isAgg3 rfl (j := 4) rfl rfl) rfl ?_
      refine pull fun t51 h_t51 => ?_
      refine a_next hok 12 [] (by kernel_rfl) ?_ trivial
      refine a_st (i := 12) hok rfl rfl (s_call (ψ := fun (_ : Unit) => iv .u64 t51) (args := [.tmp 41, .tmp 43]) Tryd.call61 rfl (network_Set_With_ok h_t51) ⟨arg rfl, arg rfl, trivial⟩ (fun _ _ _ _ h => h)) (by intro _ h; cases h; rfl) (fun _ => ⟨trivial, ⟨trivial, ⟨trivial, ⟨trivial, ⟨⟨⟨rfl, rfl⟩, trivial⟩, ⟨trivial, ⟨⟨⟨rfl, rfl⟩, trivial⟩, ⟨trivial, ⟨⟨⟨rfl, rfl⟩, trivial⟩, ⟨trivial, ⟨⟨⟨rfl, rfl⟩, trivial⟩, ⟨trivial, trivial⟩⟩⟩⟩⟩⟩⟩⟩⟩⟩⟩⟩) (fun _ => ?_)
      refine pull fun t52 h_t52 => ?_
      refine a_rd (i := 13) hok rfl (by kernel_rfl) rfl (r_oindex h_t52 Tryd.underlying72 el_67 rfl (j := 2) rfl rfl) rfl ?_
      refine a_next hok 14 [] (by kernel_rfl) ?_ trivial
      refine a_st (i := 14) hok rfl rfl (s_ostore (u := t51) h_t52 el_67 rfl (j := 2) rfl (part_at rfl iv_at)) (by intro _ h; cases h) (fun _ => ⟨trivial, ⟨trivial, ⟨trivial, ⟨trivial, ⟨trivial, ⟨trivial, ⟨trivial, ⟨trivial, ⟨trivial, ⟨trivial, ⟨trivial, ⟨trivial, ⟨trivial, trivial⟩⟩⟩⟩⟩⟩⟩⟩⟩⟩⟩⟩⟩) (fun _ => ?_)
      refine a_fin hok (by kernel_rfl) ?_
      refine b_of (nrm [oc b2 [iv .u64 0, pv (.slice none 0 0), pv (.slice none 0 0)], oc (χ3 7).Nn [iv .u64 q21, pv (χ3 2).V.1, pv (χ3 5).V.1], oa (rI .u64) (χ3 2).V.1 (χ3 2).V.2 (s45.2.1.set (Int.toNat t48.To) t51), oa (rI .u64) (χ3 5).V.1 (χ3 5).V.2 s45.2.2, oc b49 [iv .i64 t48.From, iv .i64 t48.To]] rfl) ?_
      refine n_then ?_
      refine ref_draw [0, 1, 2, 3, 4, 5, 6, 7, 8, 9, 10, 11, 13] rfl (by kernel_rfl) (fun hok => ?_)
      refine a_rd (i := 0) hok rfl (by kernel_rfl) rfl (r_faddr (fo := 2) Tryd.underlying74 rfl rfl Tryd.sizeOf72 rfl) rfl ?_
      refine a_rd (i := 1) hok rfl (by kernel_rfl) rfl (r_cload Tryd.isAgg72 rfl (j := 1) rfl rfl) rfl ?_
      refine a_rd (i := 2) hok rfl (by kernel_rfl) rfl (r_faddr (fo := 0) Tryd.underlying63 rfl rfl Tryd.sizeOf3 rfl) rfl ?_
      refine a_rd (i := 3) hok rfl (by kernel_rfl) rfl (r_cload Tryd.isAgg3 rfl (j := 4) rfl rfl) rfl ?_
      refine a_rd (i := 4) hok rfl (by kernel_rfl) rfl (r_faddr (fo := 2) Tryd.underlying74 rfl rfl Tryd.sizeOf72 rfl) rfl ?_
      refine a_rd (i := 5) hok rfl (by kernel_rfl) rfl (r_cload Tryd.isAgg72 rfl (j := 1) rfl rfl) rfl ?_
      refine a_rd (i := 6) hok rfl (by kernel_rfl) rfl (r_faddr (fo := 0) Tryd.underlying63 rfl rfl Tryd.sizeOf3 rfl) rfl ?_
      refine a_rd (i := 7) hok rfl (by kernel_rfl) rfl (r_cload Tryd.isAgg3 rfl (j := 4) rfl rfl) rfl ?_
      refine pull fun t53 h_t53 => ?_
      refine a_rd (i := 8) hok rfl (by kernel_rfl) rfl (r_oindex h_t53 Tryd.underlying72 el_67 rfl (j := 3) rfl rfl) rfl ?_
      refine a_rd (i := 9) hok rfl (by kernel_rfl) rfl (r_oload h_t53 el_67 rfl (j := 3) rfl) rfl ?_
      refine a_rd (i := 10) hok rfl (by kernel_rfl) rfl (r_faddr (fo := 1) Tryd.underlying63 rfl rfl Tryd.sizeOf3 rfl) rfl ?_
      refine a_rd (i := 11) hok rfl (by kernel_rfl) rfl (r_cload Tryd.isAgg3 rfl (j := 4) rfl rfl) rfl ?_
      refine pull fun t54 h_t54 => ?_
      refine a_next hok 12 [] (by kernel_rfl) ?_ trivial
      refine a_st (i := 12) hok rfl rfl (s_call (ψ := fun (_ : Unit) => iv .u64 t54) (args := [.tmp 55, .tmp 57]) Tryd.call61 rfl (network_Set_With_ok h_t54) ⟨arg rfl, arg rfl, trivial⟩ (fun _ _ _ _ h => h)) (by intro _ h; cases h; rfl) (fun _ => ⟨trivial, ⟨trivial, ⟨trivial, ⟨trivial, ⟨⟨⟨rfl, rfl⟩, trivial⟩, ⟨trivial, ⟨⟨⟨rfl, rfl⟩, trivial⟩, ⟨trivial, ⟨⟨⟨rfl, rfl⟩, trivial⟩, ⟨trivial, ⟨⟨⟨rfl, rfl⟩, trivial⟩, ⟨trivial, trivial⟩⟩⟩⟩⟩⟩⟩⟩⟩⟩⟩⟩) (fun _ => ?_)
      refine pull fun t55 h_t55 => ?_
      refine a_rd (i := 13) hok rfl (by kernel_rfl) rfl (r_oindex h_t55 Tryd.underlying72 el_67 rfl (j := 3) rfl rfl) rfl ?_
      refine a_next hok 14 [] (by kernel_rfl) ?_ trivial
      refine a_st (i := 14) hok rfl rfl (s_ostore (u := t54) h_t55 el_67 rfl (j := 3) rfl (part_at rfl iv_at)) (by intro _ h; cases h) (fun _ => ⟨trivial, ⟨trivial, ⟨trivial, ⟨trivial, ⟨trivial, ⟨trivial, ⟨trivial, ⟨trivial, ⟨trivial, ⟨trivial, ⟨trivial, ⟨trivial, ⟨trivial, trivial⟩⟩⟩⟩⟩⟩⟩⟩⟩⟩⟩⟩⟩) (fun _ => ?_)
      refine a_fin hok (by kernel_rfl) ?_
      refine n_block (n_then (ref_region ?_))
      refine s_rd (r_add rfl rfl) rfl ?_
      refine mv1 rfl rfl ?_
      refine l_nil ?_
      exact goB () (weak [0, 1, 2, 3] ⟨rfl, rfl, rfl, rfl, rfl, trivial⟩ ⟨rfl, rfl, rfl, rfl, trivial⟩)
    refine ref_exit (x_then ?_)
    exact brkB () (weak [0, 1, 2, 3] ⟨rfl, rfl, trivial⟩ ⟨rfl, rfl, rfl, rfl, trivial⟩)
  refine n_then (ref_seq (ref_region ?_))
  refine s_rd (r_cloadS Tryd.isAgg74 Tryd.sizeOf74 rfl (j := 1) rfl rfl rfl) rfl ?_
  refine s_st0 (s_cstore (out := [iv .u64 q21, pv (χ3 2).V.1, pv (χ3 5).V.1]) Tryd.sizeOf74 rfl (j := 0) rfl (part_agO (ψs := [iv .u64 q21, pv (χ3 2).V.1, pv (χ3 5).V.1]) rfl ⟨.inl iv_at, .inr ⟨_, _, _, _, _, 2, rfl, rfl⟩, .inr ⟨_, _, _, _, _, 3, rfl, rfl⟩, trivial⟩) rfl rfl rfl) (fun _ => ?_)
  refine l_nil (n_then (ref_ret ?_))
  refine b_of (frzGL [(61, ag [iv .u64 q21, slv (rI .u64) q56.1, pv (χ3 5).V.1])] [(0, b2, [iv .u64 q21, slv (rI .u64) q56.1, pv (χ3 5).V.1]), (1, (χ3 7).Nn, [iv .u64 q21, slv (rI .u64) q56.1, pv (χ3 5).V.1])] (j := 2) rfl ⟨⟨_, rfl, .inr ⟨_, _, rfl, rfl, ⟨.inl rfl, .inr ⟨rfl, rfl⟩, .inl rfl, trivial⟩⟩⟩, trivial⟩ ⟨⟨_, rfl, ⟨.inl rfl, .inr ⟨rfl, rfl⟩, .inl rfl, trivial⟩⟩, ⟨_, rfl, ⟨.inl rfl, .inr ⟨rfl, rfl⟩, .inl rfl, trivial⟩⟩, trivial⟩) ?_
  refine b_of (nrm [oc b2 [iv .u64 q21, slv (rI .u64) q56.1, pv (χ3 5).V.1], oc (χ3 7).Nn [iv .u64 q21, slv (rI .u64) q56.1, pv (χ3 5).V.1], dead, oa (rI .u64) (χ3 5).V.1 (χ3 5).V.2 q56.2] rfl) ?_
  refine b_of (frzGL [(61, ag [iv .u64 q21, slv (rI .u64) q56.1, slv (rI .u64) q56.2])] [(0, b2, [iv .u64 q21, slv (rI .u64) q56.1, slv (rI .u64) q56.2]), (1, (χ3 7).Nn, [iv .u64 q21, slv (rI .u64) q56.1, slv (rI .u64) q56.2])] (j := 3) rfl ⟨⟨_, rfl, .inr ⟨_, _, rfl, rfl, ⟨.inl rfl, .inl rfl, .inr ⟨rfl, rfl⟩, trivial⟩⟩⟩, trivial⟩ ⟨⟨_, rfl, ⟨.inl rfl, .inl rfl, .inr ⟨rfl, rfl⟩, trivial⟩⟩, ⟨_, rfl, ⟨.inl rfl, .inl rfl, .inr ⟨rfl, rfl⟩, trivial⟩⟩, trivial⟩) ?_
  refine b_of (nrm [oc b2 [iv .u64 q21, slv (rI .u64) q56.1, slv (rI .u64) q56.2], oc (χ3 7).Nn [iv .u64 q21, slv (rI .u64) q56.1, slv (rI .u64) q56.2], dead, dead] rfl) ?_
  exact fin1 (.inl rfl) () [] rfl trivial rfl (rv_cell rfl (j := 0) rfl Tryd.isAgg74 Tryd.sizeOf74 rfl rfl)

/-! (deliberation/network.Set).Has -/
noncomputable def network_Set_Has_m (s_0 : Int) (node_1 : Int) : Option (Bool) :=
  Option.bind (ishrM .u64 s_0 (IntKind.wrap .u64 node_1)) fun t1 =>
  letM ((iand .u64 t1 1) == 1) fun t2 =>
  some t2

theorem network_Set_Has_ok {s_0 : Int} {node_1 : Int} {r : Bool} (hm : network_Set_Has_m s_0 node_1 = some r) :
    FnOk prog 76 [iv .u64 s_0, iv .i64 node_1] [] (fun (x : Unit) => [bv r]) (fun (x : Unit) => []) := by
  refine fn_ok (fn := Tryd.f76) (N := 11) (res := fun r x => [bv r]) (Ω1 := fun r x => []) Tryd.func76 rfl rfl hm rfl (fun E hM => ?_)
  unfold network_Set_Has_m
  refine ref_seq (ref_region ?_)
  refine as1 rfl rfl ?_
  refine l_nil (n_then (ref_seq (ref_region ?_)))
  refine mv1 rfl rfl ?_
  refine mv1 rfl rfl ?_
  refine s_rd (r_conv (k' := .u64) rfl rfl rfl) rfl ?_
  refine pull fun t1 h_t1 => ?_
  refine s_rd (r_shrM h_t1 rfl rfl) rfl ?_
  refine s_rd (r_and rfl rfl) rfl ?_
  refine s_rd (r_eql rfl rfl) rfl ?_
  refine as1 rfl rfl ?_
  refine b_let (f := bv) (t := 4) rfl fun t2 => ?_
  refine l_nil (n_then (ref_ret ?_))
  exact fin1 (.inl rfl) () [] rfl trivial rfl (rv_tmp rfl)

/-! (deliberation/network.Net).Within -/
noncomputable def network_Net_Within_l1 (n_0 : T_network_Net) (s_1 : Int) (s27 : Int × (List Int) × (List Int)) : Option (Sum ((List Int) × (List Int)) (Int × (List Int) × (List Int))) :=
  bif decide (s27.1 < (n_0.By.length : Int)) then
    Option.bind (network_Set_Has_m (iand .u64 n_0.All s_1) s27.1) fun t30 =>
    bif t30 then
      Option.bind (idxM n_0.By s27.1) fun t32 =>
      Option.bind (idxM n_0.Out s27.1) fun t33 =>
      Option.bind (idxM s27.2.1 s27.1) fun t34 =>
      Option.bind (idxM s27.2.2 s27.1) fun t35 =>
      some (Sum.inr (iadd .i64 s27.1 1, s27.2.1.set (Int.toNat s27.1) (iand .u64 t32 s_1), s27.2.2.set (Int.toNat s27.1) (iand .u64 t33 s_1)))
    else
      some (Sum.inr (iadd .i64 s27.1 1, s27.2.1, s27.2.2))
  else
    some (Sum.inl (s27.2.1, s27.2.2))

noncomputable def network_Net_Within_m (n_0 : T_network_Net) (s_1 : Int) : Option (T_network_Net) :=
  Option.bind (mkM 8 0 (n_0.By.length : Int)) fun t4 =>
  Option.bind (mkM 8 0 (n_0.By.length : Int)) fun t6 =>
  Option.bind (loopC (network_Net_Within_l1 n_0 s_1) (0, t4, t6)) fun q36 : (List Int) × (List Int) =>
  some (T_network_Net.mk (iand .u64 n_0.All s_1) q36.1 q36.2)

theorem network_Net_Within_ok {n_0 : T_network_Net} {s_1 : Int} {r : T_network_Net} (hm : network_Net_Within_m n_0 s_1 = some r) :
    FnOk prog 82 [ag [iv .u64 n_0.All, slv (rI .u64) n_0.By, slv (rI .u64) n_0.Out], iv .u64 s_1] [] (fun (x : Unit) => [ag [iv .u64 r.All, slv (rI .u64) r.By, slv (rI .u64) r.Out]]) (fun (x : Unit) => []) := by
  refine fn_ok (fn := Tryd.f82) (N := 54) (res := fun r x => [ag [iv .u64 r.All, slv (rI .u64) r.By, slv (rI .u64) r.Out]]) (Ω1 := fun r x => []) Tryd.func82 rfl rfl hm rfl (fun E hM => ?_)
  unfold network_Net_Within_m
  refine ref_seq (ref_region ?_)
  refine s_st (s_box (part_agO (ψs := [iv .u64 n_0.All, slv (rI .u64) n_0.By, slv (rI .u64) n_0.Out]) rfl ⟨.inl iv_at, .inl slv_at, .inl slv_at, trivial⟩)) rfl (fun b1 => ?_)
  refine s_st (s_alloc zt_74) rfl (fun b2 => ?_)
  refine l_nil (n_then (ref_seq ?_))
  refine pull fun t4 h_t4 => ?_
  refine pull fun t6 h_t6 => ?_
  refine ref_drawI 3 [⟨[], [], [], [], [], fun us u => pv (ptr b1 0), fun us u => []⟩, ⟨[0], [], [], [0], [], fun us u => iv .u64 n_0.All, fun us u => []⟩, ⟨[], [], [], [], [], fun us u => iv .u64 s_1, fun us u => []⟩, ⟨[0, 1, 2], [], [], [], [], fun us u => iv .u64 (iand .u64 n_0.All s_1), fun us u => []⟩, ⟨[], [], [], [], [], fun us u => pv (ptr b1 1), fun us u => []⟩, ⟨[4], [], [], [0], [], fun us u => slv (rI .u64) n_0.By, fun us u => []⟩, ⟨[4, 5], [], [], [], [], fun us u => iv .i64 (n_0.By.length : Int), fun us u => []⟩, ⟨[4, 5, 6], [], [2], [2], [], fun us u => pv u.V.1, fun us u => [oa (rI .u64) u.V.1 u.V.2 t4]⟩, ⟨[], [], [], [], [], fun us u => pv (ptr b1 1), fun us u => []⟩, ⟨[8], [], [], [0], [], fun us u => slv (rI .u64) n_0.By, fun us u => []⟩, ⟨[8, 9], [], [], [], [], fun us u => iv .i64 (n_0.By.length : Int), fun us u => []⟩, ⟨[8, 9, 10], [], [3], [3], [], fun us u => pv u.V.1, fun us u => [oa (rI .u64) u.V.1 u.V.2 t6]⟩, ⟨[0, 1, 2, 3, 4, 5, 6, 7, 8, 9, 10, 11], [7, 11], [], [2, 3], [], fun us u => ag [iv .u64 (iand .u64 n_0.All s_1), pv (us.getD 0 .none).V.1, pv (us.getD 1 .none).V.1], fun us u => []⟩, ⟨[], [], [4], [4], [], fun us u => pv (ptr u.Nn 0), fun us u => [oc u.Nn [iv .u64 0, pv (.slice none 0 0), pv (.slice none 0 0)]]⟩, ⟨[0, 1, 2, 3, 4, 5, 6, 7, 8, 9, 10, 11, 12, 13], [7, 11, 13], [4], [2, 3, 4], [4], fun us u => pv undef, fun us u => [oc (us.getD 2 .none).Nn [iv .u64 (iand .u64 n_0.All s_1), pv (us.getD 0 .none).V.1, pv (us.getD 1 .none).V.1]]⟩] (fun χ3 => [(1, iv .u64 s_1), (2, pv (ptr b1 0)), (4, pv (ptr b2 0)), (5, pv (ptr (χ3 13).Nn 0))]) (fun χ3 => [oc b1 [iv .u64 n_0.All, slv (rI .u64) n_0.By, slv (rI .u64) n_0.Out], oc b2 [iv .u64 0, pv (.slice none 0 0), pv (.slice none 0 0)], oa (rI .u64) (χ3 7).V.1 (χ3 7).V.2 t4, oa (rI .u64) (χ3 11).V.1 (χ3 11).V.2 t6, oc (χ3 13).Nn [iv .u64 (iand .u64 n_0.All s_1), pv (χ3 7).V.1, pv (χ3 11).V.1]]) rfl (by kernel_rfl) ⟨fun χ3 Ω _ => St.toR (r_faddr (fo := 0) Tryd.underlying74 rfl rfl Tryd.sizeOf67 rfl) (fun _ => rfl) (fun _ => rfl), (by intro _ h; cases h; rfl), ⟨fun χ3 Ω ⟨h0, _⟩ => St.toR (r_cload Tryd.isAgg67 rfl (j := 0) h0 rfl) (fun _ => rfl) (fun _ => rfl), (by intro _ h; cases h; rfl), ⟨fun χ3 Ω _ => St.toR (r_move rfl) (fun _ => rfl) (fun _ => rfl), (by intro _ h; cases h; rfl), ⟨fun χ3 Ω _ => St.toR (r_and rfl rfl) (fun _ => rfl) (fun _ => rfl), (by intro _ h; cases h; rfl), ⟨fun χ3 Ω _ => St.toR (r_faddr (fo := 1) Tryd.underlying74 rfl rfl Tryd.sizeOf72 rfl) (fun _ => rfl) (fun _ => rfl), (by intro _ h; cases h; rfl), ⟨fun χ3 Ω ⟨h0, _⟩ => St.toR (r_cload Tryd.isAgg72 rfl (j := 0) h0 rfl) (fun _ => rfl) (fun _ => rfl), (by intro _ h; cases h; rfl), ⟨fun χ3 Ω _ => St.toR (r_len Tryd.underlying72 rfl) (fun _ => rfl) (fun _ => rfl), (by intro _ h; cases h; rfl), ⟨fun χ3 Ω ⟨h2, _⟩ => St.to XU.V XU.hV (St.placeL (os := fun _ => [_]) [2] (s_make h_t4 Tryd.underlying72 el_67 ze_67 rfl rfl) (fun _ => rfl) (fun _ => ⟨h2, rfl, trivial⟩)) (fun _ => rfl) (fun _ => rfl), (by intro _ h; cases h; rfl), ⟨fun χ3 Ω _ => St.toR (r_faddr (fo := 1) Tryd.underlying74 rfl rfl Tryd.sizeOf72 rfl) (fun _ => rfl) (fun _ => rfl), (by intro _ h; cases h; rfl), ⟨fun χ3 Ω ⟨h0, _⟩ => St.toR (r_cload Tryd.isAgg72 rfl (j := 0) h0 rfl) (fun _ => rfl) (fun _ => rfl), (by intro _ h; cases h; rfl), ⟨fun χ3 Ω _ => St.toR (r_len Tryd.underlying72 rfl) (fun _ => rfl) (fun _ => rfl), (by intro _ h; cases h; rfl), ⟨fun χ3 Ω ⟨h3, _⟩ => St.to XU.V XU.hV (St.placeL (os := fun _ => [_]) [3] (s_make h_t6 Tryd.underlying72 el_67 ze_67 rfl rfl) (fun _ => rfl) (fun _ => ⟨h3, rfl, trivial⟩)) (fun _ => rfl) (fun _ => rfl), (by intro _ h; cases h; rfl), ⟨fun χ3 Ω ⟨h2, h3, _⟩ => St.toR (r_build (ps := [(0, .tmp 10), (1, .tmp 14), (2, .tmp 18)]) (rs := [(0, [iv .u64 (iand .u64 n_0.All s_1)]), (1, [pv (χ3 7).V.1]), (2, [pv (χ3 11).V.1])]) st_74 zs_74 ⟨rfl, (part_at rfl iv_at), ⟨rfl, (part_own rfl (j := 2) h2), ⟨rfl, (part_own rfl (j := 3) h3), trivial⟩⟩⟩ rfl rfl) (fun _ => rfl) (fun _ => rfl), (by intro _ h; cases h; rfl), ⟨fun χ3 Ω ⟨h4, _⟩ => St.to XU.Nn XU.hN (St.placeL (os := fun _ => [_]) [4] (s_alloc zt_74) (fun _ => rfl) (fun _ => ⟨h4, rfl, trivial⟩)) (fun _ => rfl) (fun _ => rfl), (by intro _ h; cases h; rfl), ⟨fun χ3 Ω ⟨h2, h3, h4, _⟩ => St.to XU.U XU.hU (s_cstore (out := [iv .u64 (iand .u64 n_0.All s_1), pv (χ3 7).V.1, pv (χ3 11).V.1]) Tryd.sizeOf74 rfl (j := 4) h4 (part_agO (ψs := [iv .u64 (iand .u64 n_0.All s_1), pv (χ3 7).V.1, pv (χ3 11).V.1]) rfl ⟨.inl iv_at, .inr ⟨_, _, _, _, _, 2, rfl, h2⟩, .inr ⟨_, _, _, _, _, 3, rfl, h3⟩, trivial⟩) rfl rfl rfl) (fun _ => rfl) (fun _ => rfl), (by intro _ h; cases h), trivial⟩⟩⟩⟩⟩⟩⟩⟩⟩⟩⟩⟩⟩⟩⟩ (fun _ => ⟨rfl, rfl, rfl, rfl, trivial⟩) (fun _ => rfl) (fun χ3 => ?_)
  refine n_then (ref_seq (ref_seq (ref_region ?_)))
  refine s_rd (r_faddr (fo := 1) Tryd.underlying74 rfl rfl Tryd.sizeOf72 rfl) rfl ?_
  refine s_rd (r_cload Tryd.isAgg72 rfl (j := 0) rfl rfl) rfl ?_
  refine s_rd (r_len Tryd.underlying72 rfl) rfl ?_
  refine mv1 rfl rfl ?_
  refine l_nil (n_then ?_)
  refine ref_loopB (f := (network_Net_Within_l1 n_0 s_1)) (Γl := (fun (s27 : Int × (List Int) × (List Int)) (x28 : Unit) => [(1, iv .u64 s_1), (2, pv (ptr b1 0)), (4, pv (ptr b2 0)), (5, pv (ptr (χ3 13).Nn 0)), (22, iv .i64 (n_0.By.length : Int)), (23, iv .i64 s27.1)])) (Ωl := (fun (s27 : Int × (List Int) × (List Int)) (x28 : Unit) => [oc b1 [iv .u64 n_0.All, slv (rI .u64) n_0.By, slv (rI .u64) n_0.Out], oc b2 [iv .u64 0, pv (.slice none 0 0), pv (.slice none 0 0)], oc (χ3 13).Nn [iv .u64 (iand .u64 n_0.All s_1), pv (χ3 7).V.1, pv (χ3 11).V.1], oa (rI .u64) (χ3 7).V.1 (χ3 7).V.2 s27.2.1, oa (rI .u64) (χ3 11).V.1 (χ3 11).V.2 s27.2.2])) (Γb := (fun (q36 : (List Int) × (List Int)) (y37 : Unit) => [(4, pv (ptr b2 0)), (5, pv (ptr (χ3 13).Nn 0))])) (Ωb := (fun (q36 : (List Int) × (List Int)) (y37 : Unit) => [oc b2 [iv .u64 0, pv (.slice none 0 0), pv (.slice none 0 0)], oc (χ3 13).Nn [iv .u64 (iand .u64 n_0.All s_1), pv (χ3 7).V.1, pv (χ3 11).V.1], oa (rI .u64) (χ3 7).V.1 (χ3 7).V.2 q36.1, oa (rI .u64) (χ3 11).V.1 (χ3 11).V.2 q36.2])) (0, t4, t6) () (weak [0, 1, 4, 2, 3] ⟨rfl, rfl, rfl, rfl, rfl, rfl, trivial⟩ ⟨rfl, rfl, rfl, rfl, rfl, trivial⟩) (fun s27 x28 => ?_) (fun q36 y37 => ?_)
  · unfold network_Net_Within_l1
    refine ref_seq (ref_region ?_)
    refine s_rd (r_lss rfl rfl) rfl ?_
    refine l_nil (n_then (ref_seq ?_))
    refine ref_cond rfl (fun hb29 => ?_) (fun hb29 => ?_)
    · refine ref_skip (n_then (ref_seq (ref_block (ref_seq (ref_region ?_)))))
      refine mv1 rfl rfl ?_
      refine as1 rfl rfl ?_
      refine l_nil (n_then (ref_seq (ref_region ?_)))
      refine s_rd (r_faddr (fo := 0) Tryd.underlying74 rfl rfl Tryd.sizeOf67 rfl) rfl ?_
      refine s_rd (r_cload Tryd.isAgg67 rfl (j := 2) rfl rfl) rfl ?_
      refine mv1 rfl rfl ?_
      refine pull fun t30 h_t30 => ?_
      refine s_st (s_call (ψ := fun (_ : Unit) => bv t30) (args := [.tmp 27, .tmp 28]) Tryd.call76 rfl (network_Set_Has_ok h_t30) ⟨arg rfl, arg rfl, trivial⟩ (fun _ _ _ _ h => h)) rfl (fun _ => ?_)
      refine l_nil (n_then ?_)
      refine ref_cond rfl (fun hb31 => ?_) (fun hb31 => ?_)
      · refine ref_draw [0, 1, 2, 3, 4, 5, 6, 7, 8, 9, 10, 11, 12, 13, 14, 15, 16, 17, 18, 19, 20, 22] rfl (by kernel_rfl) (fun hok => ?_)
        refine a_rd (i := 0) hok rfl (by kernel_rfl) rfl (r_faddr (fo := 1) Tryd.underlying74 rfl rfl Tryd.sizeOf72 rfl) rfl ?_
        refine a_rd (i := 1) hok rfl (by kernel_rfl) rfl (r_cload Tryd.isAgg72 rfl (j := 2) rfl rfl) rfl ?_
        refine a_rd (i := 2) hok rfl (by kernel_rfl) rfl (r_move rfl) rfl ?_
        refine a_rd (i := 3) hok rfl (by kernel_rfl) rfl (r_faddr (fo := 2) Tryd.underlying74 rfl rfl Tryd.sizeOf72 rfl) rfl ?_
        refine a_rd (i := 4) hok rfl (by kernel_rfl) rfl (r_cload Tryd.isAgg72 rfl (j := 2) rfl rfl) rfl ?_
        refine a_rd (i := 5) hok rfl (by kernel_rfl) rfl (r_move rfl) rfl ?_
        refine a_rd (i := 6) hok rfl (by kernel_rfl) rfl (r_faddr (fo := 1) Tryd.underlying74 rfl rfl Tryd.sizeOf72 rfl) rfl ?_
        refine a_rd (i := 7) hok rfl (by kernel_rfl) rfl (r_cload Tryd.isAgg72 rfl (j := 0) rfl rfl) rfl ?_
        refine a_rd (i := 8) hok rfl (by kernel_rfl) rfl (r_move rfl) rfl ?_
        refine pull fun t32 h_t32 => ?_
        refine a_rd (i := 9) hok rfl (by kernel_rfl) rfl (r_index h_t32 Tryd.underlying72 el_67 rfl rfl) rfl ?_
        refine a_rd (i := 10) hok rfl (by kernel_rfl) rfl (r_load el_67 rfl) rfl ?_
        refine a_rd (i := 11) hok rfl (by kernel_rfl) rfl (r_move rfl) rfl ?_
        refine a_rd (i := 12) hok rfl (by kernel_rfl) rfl (r_and rfl rfl) rfl ?_
        refine a_rd (i := 13) hok rfl (by kernel_rfl) rfl (r_faddr (fo := 2) Tryd.underlying74 rfl rfl Tryd.sizeOf72 rfl) rfl ?_
        refine a_rd (i := 14) hok rfl (by kernel_rfl) rfl (r_cload Tryd.isAgg72 rfl (j := 0) rfl rfl) rfl ?_
        refine a_rd (i := 15) hok rfl (by kernel_rfl) rfl (r_move rfl) rfl ?_
        refine pull fun t33 h_t33 => ?_
        refine a_rd (i := 16) hok rfl (by kernel_rfl) rfl (r_index h_t33 Tryd.underlying72 el_67 rfl rfl) rfl ?_
        refine a_rd (i := 17) hok rfl (by kernel_rfl) rfl (r_load el_67 rfl) rfl ?_
        refine a_rd (i := 18) hok rfl (by kernel_rfl) rfl (r_move rfl) rfl ?_
        refine a_rd (i := 19) hok rfl (by kernel_rfl) rfl (r_and rfl rfl) rfl ?_
        refine pull fun t34 h_t34 => ?_
        refine a_rd (i := 20) hok rfl (by kernel_rfl) rfl (r_oindex h_t34 Tryd.underlying72 el_67 rfl (j := 3) rfl rfl) rfl ?_
        refine a_next hok 21 [] (by kernel_rfl) ?_ trivial
        refine a_st (i := 21) hok rfl rfl (s_ostore (u := iand .u64 t32 s_1) h_t34 el_67 rfl (j := 3) rfl (part_at rfl iv_at)) (by intro _ h; cases h) (fun _ => ⟨trivial, ⟨trivial, ⟨trivial, ⟨trivial, ⟨trivial, ⟨trivial, ⟨⟨⟨rfl, rfl⟩, trivial⟩, ⟨trivial, ⟨trivial, ⟨trivial, ⟨trivial, ⟨trivial, ⟨trivial, ⟨trivial, ⟨trivial, ⟨trivial, ⟨⟨⟨rfl, rfl⟩, trivial⟩, ⟨trivial, ⟨trivial, ⟨trivial, ⟨trivial, trivial⟩⟩⟩⟩⟩⟩⟩⟩⟩⟩⟩⟩⟩⟩⟩⟩⟩⟩⟩⟩⟩) (fun _ => ?_)
        refine pull fun t35 h_t35 => ?_
        refine a_rd (i := 22) hok rfl (by kernel_rfl) rfl (r_oindex h_t35 Tryd.underlying72 el_67 rfl (j := 4) rfl rfl) rfl ?_
        refine a_next hok 23 [] (by kernel_rfl) ?_ trivial
        refine a_st (i := 23) hok rfl rfl (s_ostore (u := iand .u64 t33 s_1) h_t35 el_67 rfl (j := 4) rfl (part_at rfl iv_at)) (by intro _ h; cases h) (fun _ => ⟨trivial, ⟨trivial, ⟨trivial, ⟨trivial, ⟨trivial, ⟨trivial, ⟨trivial, ⟨trivial, ⟨trivial, ⟨trivial, ⟨trivial, ⟨trivial, ⟨trivial, ⟨trivial, ⟨trivial, ⟨trivial, ⟨trivial, ⟨trivial, ⟨trivial, ⟨trivial, ⟨trivial, ⟨trivial, trivial⟩⟩⟩⟩⟩⟩⟩⟩⟩⟩⟩⟩⟩⟩⟩⟩⟩⟩⟩⟩⟩⟩) (fun _ => ?_)
        refine a_fin hok (by kernel_rfl) ?_
        refine n_block (n_then (ref_region ?_))
        refine s_rd (r_add rfl rfl) rfl ?_
        refine mv1 rfl rfl ?_
        refine l_nil ?_
        exact goB () (weak [0, 1, 2, 3, 4] ⟨rfl, rfl, rfl, rfl, rfl, rfl, trivial⟩ ⟨rfl, rfl, rfl, rfl, rfl, trivial⟩)
      refine ref_skip (n_block (n_then (ref_region ?_)))
      refine s_rd (r_add rfl rfl) rfl ?_
      refine mv1 rfl rfl ?_
      refine l_nil ?_
      exact goB () (weak [0, 1, 2, 3, 4] ⟨rfl, rfl, rfl, rfl, rfl, rfl, trivial⟩ ⟨rfl, rfl, rfl, rfl, rfl, trivial⟩)
    refine ref_exit (x_then ?_)
    exact brkB () (weak [1, 2, 3, 4] ⟨rfl, rfl, trivial⟩ ⟨rfl, rfl, rfl, rfl, trivial⟩)
  refine n_then (ref_seq (ref_region ?_))
  refine s_rd (r_cloadS Tryd.isAgg74 Tryd.sizeOf74 rfl (j := 1) rfl rfl rfl) rfl ?_
  refine s_st0 (s_cstore (out := [iv .u64 (iand .u64 n_0.All s_1), pv (χ3 7).V.1, pv (χ3 11).V.1]) Tryd.sizeOf74 rfl (j := 0) rfl (part_agO (ψs := [iv .u64 (iand .u64 n_0.All s_1), pv (χ3 7).V.1, pv (χ3 11).V.1]) rfl ⟨.inl iv_at, .inr ⟨_, _, _, _, _, 2, rfl, rfl⟩, .inr ⟨_, _, _, _, _, 3, rfl, rfl⟩, trivial⟩) rfl rfl rfl) (fun _ => ?_)
  refine l_nil (n_then (ref_ret ?_))
  refine b_of (frzGL [(53, ag [iv .u64 (iand .u64 n_0.All s_1), slv (rI .u64) q36.1, pv (χ3 11).V.1])] [(0, b2, [iv .u64 (iand .u64 n_0.All s_1), slv (rI .u64) q36.1, pv (χ3 11).V.1]), (1, (χ3 13).Nn, [iv .u64 (iand .u64 n_0.All s_1), slv (rI .u64) q36.1, pv (χ3 11).V.1])] (j := 2) rfl ⟨⟨_, rfl, .inr ⟨_, _, rfl, rfl, ⟨.inl rfl, .inr ⟨rfl, rfl⟩, .inl rfl, trivial⟩⟩⟩, trivial⟩ ⟨⟨_, rfl, ⟨.inl rfl, .inr ⟨rfl, rfl⟩, .inl rfl, trivial⟩⟩, ⟨_, rfl, ⟨.inl rfl, .inr ⟨rfl, rfl⟩, .inl rfl, trivial⟩⟩, trivial⟩) ?_
  refine b_of (nrm [oc b2 [iv .u64 (iand .u64 n_0.All s_1), slv (rI .u64) q36.1, pv (χ3 11).V.1], oc (χ3 13).Nn [iv .u64 (iand .u64 n_0.All s_1), slv (rI .u64) q36.1, pv (χ3 11).V.1], dead, oa (rI .u64) (χ3 11).V.1 (χ3 11).V.2 q36.2] rfl) ?_
  refine b_of (frzGL [(53, ag [iv .u64 (iand .u64 n_0.All s_1), slv (rI .u64) q36.1, slv (rI .u64) q36.2])] [(0, b2, [iv .u64 (iand .u64 n_0.All s_1), slv (rI .u64) q36.1, slv (rI .u64) q36.2]), (1, (χ3 13).Nn, [iv .u64 (iand .u64 n_0.All s_1), slv (rI .u64) q36.1, slv (rI .u64) q36.2])] (j := 3) rfl ⟨⟨_, rfl, .inr ⟨_, _, rfl, rfl, ⟨.inl rfl, .inl rfl, .inr ⟨rfl, rfl⟩, trivial⟩⟩⟩, trivial⟩ ⟨⟨_, rfl, ⟨.inl rfl, .inl rfl, .inr ⟨rfl, rfl⟩, trivial⟩⟩, ⟨_, rfl, ⟨.inl rfl, .inl rfl, .inr ⟨rfl, rfl⟩, trivial⟩⟩, trivial⟩) ?_
  refine b_of (nrm [oc b2 [iv .u64 (iand .u64 n_0.All s_1), slv (rI .u64) q36.1, slv (rI .u64) q36.2], oc (χ3 13).Nn [iv .u64 (iand .u64 n_0.All s_1), slv (rI .u64) q36.1, slv (rI .u64) q36.2], dead, dead] rfl) ?_
  exact fin1 (.inl rfl) () [] rfl trivial rfl (rv_cell rfl (j := 0) rfl Tryd.isAgg74 Tryd.sizeOf74 rfl rfl)

/-! deliberation/chance.world -/
noncomputable def chance_world_l1 (g_0 : T_api_Graph) (has_1 : (List Bool)) (s10 : Int × Int) : Option (Sum (Int) (Int × Int)) :=
  bif decide (s10.2 < g_0.N) then
    Option.bind (idxM has_1 s10.2) fun t13 =>
    bif t13 then
      Option.bind (network_Set_With_m s10.1 s10.2) fun nodes15 =>
      some (Sum.inr (nodes15, iadd .i64 s10.2 1))
    else
      some (Sum.inr (s10.1, iadd .i64 s10.2 1))
  else
    some (Sum.inl s10.1)

noncomputable def chance_world_l2 (g_0 : T_api_Graph) (has_1 : (List Bool)) (s45 : Int × (List T_api_Pair)) : Option (Sum ((List T_api_Pair)) (Int × (List T_api_Pair))) :=
  bif decide (s45.1 < (g_0.L.length : Int)) then
    Option.bind (idxM g_0.L s45.1) fun t48 =>
    Option.bind (idxM has_1 (iadd .i64 g_0.N s45.1)) fun t50 =>
    bif t50 then
      Option.bind (appM 16 s45.2 [t48]) fun t52 =>
      some (Sum.inr (iadd .i64 s45.1 1, t52))
    else
      some (Sum.inr (iadd .i64 s45.1 1, s45.2))
  else
    some (Sum.inl s45.2)

noncomputable def chance_world_m (g_0 : T_api_Graph) (has_1 : (List Bool)) : Option (T_network_Net) :=
  Option.bind (loopC (chance_world_l1 g_0 has_1) (0, 0)) fun q16 : Int =>
  Option.bind (loopC (chance_world_l2 g_0 has_1) (0, [])) fun q54 : (List T_api_Pair) =>
  Option.bind (network_New_m (T_api_Graph.mk g_0.N q54)) fun t56 =>
  Option.bind (network_Net_Within_m t56 q16) fun t57 =>
  some t57

theorem chance_world_ok {g_0 : T_api_Graph} {has_1 : (List Bool)} {h_0 : Value × List Nat} {r : T_network_Net} (hm : chance_world_m g_0 has_1 = some r) :
    FnOk prog 63 [ag [iv .i64 g_0.N, slv rT_api_Pair g_0.L], pv h_0.1] [oa rB h_0.1 h_0.2 has_1] (fun (x : Unit) => [ag [iv .u64 r.All, slv (rI .u64) r.By, slv (rI .u64) r.Out]]) (fun (x : Unit) => [oa rB h_0.1 h_0.2 has_1]) := by
  refine fn_ok (fn := Tryd.f63) (N := 52) (res := fun r x => [ag [iv .u64 r.All, slv (rI .u64) r.By, slv (rI .u64) r.Out]]) (Ω1 := fun r x => [oa rB h_0.1 h_0.2 has_1]) Tryd.func63 rfl rfl hm rfl (fun E hM => ?_)
  unfold chance_world_m
  refine ref_seq (ref_region ?_)
  refine s_st (s_box (part_agO (ψs := [iv .i64 g_0.N, slv rT_api_Pair g_0.L]) rfl ⟨.inl iv_at, .inl slv_at, trivial⟩)) rfl (fun b1 => ?_)
  refine s_st (s_alloc zt_74) rfl (fun b2 => ?_)
  refine l_nil (n_then (ref_seq (ref_region ?_)))
  refine as1 rfl rfl ?_
  refine l_nil (n_then (ref_seq (ref_region ?_)))
  refine s_rd (r_faddr (fo := 0) Tryd.underlying27 rfl rfl Tryd.sizeOf3 rfl) rfl ?_
  refine s_rd (r_cload Tryd.isAgg3 rfl (j := 1) rfl rfl) rfl ?_
  refine s_rd (r_build (ps := [(0, .tmp 11)]) (rs := [(0, [iv .i64 g_0.N])]) st_27 zs_27 ⟨rfl, (part_at rfl iv_at), trivial⟩ rfl rfl) rfl ?_
  refine s_st (s_alloc zt_27) rfl (fun b3 => ?_)
  refine s_st0 (s_cstore (out := [iv .i64 g_0.N, pv (.slice none 0 0)]) Tryd.sizeOf27 rfl (j := 3) rfl (part_agO (ψs := [iv .i64 g_0.N, pv (.slice none 0 0)]) rfl ⟨.inl iv_at, .inl (pv_at rfl), trivial⟩) rfl rfl rfl) (fun _ => ?_)
  refine l_nil ?_
  refine b_of (nrm [oa rB h_0.1 h_0.2 has_1, oc b1 [iv .i64 g_0.N, slv rT_api_Pair g_0.L], oc b2 [iv .u64 0, pv (.slice none 0 0), pv (.slice none 0 0)], oc b3 [iv .i64 g_0.N, pv (.slice none 0 0)]] rfl) ?_
  refine n_then (ref_seq (ref_seq (ref_region ?_)))
  refine s_rd (r_faddr (fo := 0) Tryd.underlying27 rfl rfl Tryd.sizeOf3 rfl) rfl ?_
  refine s_rd (r_cload Tryd.isAgg3 rfl (j := 1) rfl rfl) rfl ?_
  refine mv1 rfl rfl ?_
  refine l_nil (n_then ?_)
  refine ref_loopB (f := (chance_world_l1 g_0 has_1)) (Γl := (fun (s10 : Int × Int) (x11 : Unit) => [(1, pv h_0.1), (2, pv (ptr b1 0)), (4, pv (ptr b2 0)), (5, iv .u64 s10.1), (6, pv (ptr b3 0)), (14, iv .i64 g_0.N), (15, iv .i64 s10.2)])) (Ωl := (fun (s10 : Int × Int) (x11 : Unit) => [oa rB h_0.1 h_0.2 has_1, oc b1 [iv .i64 g_0.N, slv rT_api_Pair g_0.L], oc b2 [iv .u64 0, pv (.slice none 0 0), pv (.slice none 0 0)], oc b3 [iv .i64 g_0.N, pv (.slice none 0 0)]])) (Γb := (fun (q16 : Int) (y17 : Unit) => [(1, pv h_0.1), (2, pv (ptr b1 0)), (4, pv (ptr b2 0)), (5, iv .u64 q16), (6, pv (ptr b3 0))])) (Ωb := (fun (q16 : Int) (y17 : Unit) => [oa rB h_0.1 h_0.2 has_1, oc b1 [iv .i64 g_0.N, slv rT_api_Pair g_0.L], oc b2 [iv .u64 0, pv (.slice none 0 0), pv (.slice none 0 0)], oc b3 [iv .i64 g_0.N, pv (.slice none 0 0)]])) (0, 0) () (weak [0, 1, 2, 3] ⟨rfl, rfl, rfl, rfl, rfl, rfl, rfl, trivial⟩ ⟨rfl, rfl, rfl, rfl, trivial⟩) (fun s10 x11 => ?_) (fun q16 y17 => ?_)
  · unfold chance_world_l1
    refine ref_seq (ref_region ?_)
    refine s_rd (r_lss rfl rfl) rfl ?_
    refine l_nil (n_then (ref_seq ?_))
    refine ref_cond rfl (fun hb12 => ?_) (fun hb12 => ?_)
    · refine ref_skip (n_then (ref_seq (ref_block (ref_seq (ref_region ?_)))))
      refine mv1 rfl rfl ?_
      refine as1 rfl rfl ?_
      refine l_nil (n_then (ref_seq (ref_region ?_)))
      refine mv1 rfl rfl ?_
      refine mv1 rfl rfl ?_
      refine pull fun t13 h_t13 => ?_
      refine s_rd (r_oindex h_t13 Tryd.underlying97 el_4 rfl (j := 0) rfl rfl) rfl ?_
      refine s_rd (r_oload h_t13 el_4 rfl (j := 0) rfl) rfl ?_
      refine l_nil (n_then ?_)
      refine ref_cond rfl (fun hb14 => ?_) (fun hb14 => ?_)
      · refine ref_region ?_
        refine mv1 rfl rfl ?_
        refine mv1 rfl rfl ?_
        refine pull fun nodes15 h_nodes15 => ?_
        refine s_st (s_call (ψ := fun (_ : Unit) => iv .u64 nodes15) (args := [.tmp 22, .tmp 23]) Tryd.call61 rfl (network_Set_With_ok h_nodes15) ⟨arg rfl, arg rfl, trivial⟩ (fun _ _ _ _ h => h)) rfl (fun _ => ?_)
        refine as1 rfl rfl ?_
        refine l_nil (n_block (n_then (ref_region ?_)))
        refine s_rd (r_add rfl rfl) rfl ?_
        refine mv1 rfl rfl ?_
        refine l_nil ?_
        exact goB () (weak [0, 1, 2, 3] ⟨rfl, rfl, rfl, rfl, rfl, rfl, rfl, trivial⟩ ⟨rfl, rfl, rfl, rfl, trivial⟩)
      refine ref_skip (n_block (n_then (ref_region ?_)))
      refine s_rd (r_add rfl rfl) rfl ?_
      refine mv1 rfl rfl ?_
      refine l_nil ?_
      exact goB () (weak [0, 1, 2, 3] ⟨rfl, rfl, rfl, rfl, rfl, rfl, rfl, trivial⟩ ⟨rfl, rfl, rfl, rfl, trivial⟩)
    refine ref_exit (x_then ?_)
    exact brkB () (weak [0, 1, 2, 3] ⟨rfl, rfl, rfl, rfl, rfl, trivial⟩ ⟨rfl, rfl, rfl, rfl, trivial⟩)
  refine n_then (ref_seq (ref_seq (ref_region ?_)))
  refine s_rd (r_faddr (fo := 1) Tryd.underlying27 rfl rfl Tryd.sizeOf25 rfl) rfl ?_
  refine s_rd (r_cload Tryd.isAgg25 rfl (j := 1) rfl rfl) rfl ?_
  refine s_rd (r_len Tryd.underlying25 rfl) rfl ?_
  refine mv1 rfl rfl ?_
  refine l_nil (n_then ?_)
  refine b_of (own_nil rT_api_Pair) ?_
  refine ref_loopB (f := (chance_world_l2 g_0 has_1)) (Γl := (fun (s45 : Int × (List T_api_Pair)) (x46 : (Value × List Nat)) => [(1, pv h_0.1), (2, pv (ptr b1 0)), (4, pv (ptr b2 0)), (5, iv .u64 q16), (6, pv (ptr b3 0)), (27, slv rT_api_Pair g_0.L), (28, iv .i64 (g_0.L.length : Int)), (29, iv .i64 s45.1)])) (Ωl := (fun (s45 : Int × (List T_api_Pair)) (x46 : (Value × List Nat)) => [oa rB h_0.1 h_0.2 has_1, oc b1 [iv .i64 g_0.N, slv rT_api_Pair g_0.L], oc b2 [iv .u64 0, pv (.slice none 0 0), pv (.slice none 0 0)], oc b3 [iv .i64 g_0.N, pv x46.1], oa rT_api_Pair x46.1 x46.2 s45.2])) (Γb := (fun (q54 : (List T_api_Pair)) (y55 : (Value × List Nat)) => [(1, pv h_0.1), (4, pv (ptr b2 0)), (5, iv .u64 q16), (6, pv (ptr b3 0))])) (Ωb := (fun (q54 : (List T_api_Pair)) (y55 : (Value × List Nat)) => [oa rB h_0.1 h_0.2 has_1, oc b2 [iv .u64 0, pv (.slice none 0 0), pv (.slice none 0 0)], oc b3 [iv .i64 g_0.N, pv y55.1], oa rT_api_Pair y55.1 y55.2 q54])) (0, []) ((.slice none 0 0), []) (weak [0, 1, 2, 3, 4] ⟨rfl, rfl, rfl, rfl, rfl, rfl, rfl, rfl, trivial⟩ ⟨rfl, rfl, rfl, rfl, rfl, trivial⟩) (fun s45 x46 => ?_) (fun q54 y55 => ?_)
  · unfold chance_world_l2
    refine ref_seq (ref_region ?_)
    refine s_rd (r_lss rfl rfl) rfl ?_
    refine l_nil (n_then (ref_seq ?_))
    refine ref_cond rfl (fun hb47 => ?_) (fun hb47 => ?_)
    · refine ref_skip (n_then (ref_seq (ref_block (ref_seq (ref_region ?_)))))
      refine mv1 rfl rfl ?_
      refine pull fun t48 h_t48 => ?_
      refine s_rd (r_index h_t48 Tryd.underlying25 el_63 rfl rfl) rfl ?_
      refine s_rd (r_load el_63 rfl) rfl ?_
      refine s_st (s_alloc zt_63) rfl (fun b49 => ?_)
      refine as1 rfl rfl ?_
      refine s_st0 (s_cstore (out := [iv .i64 t48.From, iv .i64 t48.To]) Tryd.sizeOf63 rfl (j := 5) rfl (part_agO (ψs := [iv .i64 t48.From, iv .i64 t48.To]) rfl ⟨.inl iv_at, .inl iv_at, trivial⟩) rfl rfl rfl) (fun _ => ?_)
      refine l_nil (n_then (ref_seq (ref_region ?_)))
      refine mv1 rfl rfl ?_
      refine s_rd (r_faddr (fo := 0) Tryd.underlying27 rfl rfl Tryd.sizeOf3 rfl) rfl ?_
      refine s_rd (r_cload Tryd.isAgg3 rfl (j := 1) rfl rfl) rfl ?_
      refine mv1 rfl rfl ?_
      refine s_rd (r_add rfl rfl) rfl ?_
      refine pull fun t50 h_t50 => ?_
      refine s_rd (r_oindex h_t50 Tryd.underlying97 el_4 rfl (j := 0) rfl rfl) rfl ?_
      refine s_rd (r_oload h_t50 el_4 rfl (j := 0) rfl) rfl ?_
      refine l_nil (n_then ?_)
      refine ref_cond rfl (fun hb51 => ?_) (fun hb51 => ?_)
      · refine ref_region ?_
        refine s_rd (r_faddr (fo := 1) Tryd.underlying27 rfl rfl Tryd.sizeOf25 rfl) rfl ?_
        refine s_rd (r_cload Tryd.isAgg25 rfl (j := 3) rfl rfl) rfl ?_
        refine s_rd (r_cloadS Tryd.isAgg63 Tryd.sizeOf63 rfl (j := 5) rfl rfl rfl) rfl ?_
        refine s_st (s_bslice (xs := [.tmp 43]) (ds := [t48]) Tryd.underlying25 el_63 rfl (Nat.le_of_ble_eq_true rfl) ⟨(part_agO (ψs := [iv .i64 t48.From, iv .i64 t48.To]) rfl ⟨.inl iv_at, .inl iv_at, trivial⟩), trivial⟩) rfl (fun _ => ?_)
        refine pull fun t52 h_t52 => ?_
        refine s_st (s_append h_t52 Tryd.underlying25 el_63 rfl (j := 4) rfl rfl) rfl (fun o53 => ?_)
        refine s_rd (r_faddr (fo := 1) Tryd.underlying27 rfl rfl Tryd.sizeOf25 rfl) rfl ?_
        refine s_st0 (s_cstore (out := [iv .i64 g_0.N, pv o53.1]) Tryd.sizeOf25 rfl (j := 3) rfl (part_own rfl (j := 4) rfl) rfl rfl rfl) (fun _ => ?_)
        refine l_nil ?_
        refine b_of (nrm [oa rB h_0.1 h_0.2 has_1, oc b1 [iv .i64 g_0.N, slv rT_api_Pair g_0.L], oc b2 [iv .u64 0, pv (.slice none 0 0), pv (.slice none 0 0)], oc b3 [iv .i64 g_0.N, pv o53.1], oa rT_api_Pair o53.1 o53.2 t52, oc b49 [iv .i64 t48.From, iv .i64 t48.To]] rfl) ?_
        refine n_block (n_then (ref_region ?_))
        refine s_rd (r_add rfl rfl) rfl ?_
        refine mv1 rfl rfl ?_
        refine l_nil ?_
        exact goB o53 (weak [0, 1, 2, 3, 4] ⟨rfl, rfl, rfl, rfl, rfl, rfl, rfl, rfl, trivial⟩ ⟨rfl, rfl, rfl, rfl, rfl, trivial⟩)
      refine ref_skip (n_block (n_then (ref_region ?_)))
      refine s_rd (r_add rfl rfl) rfl ?_
      refine mv1 rfl rfl ?_
      refine l_nil ?_
      exact goB x46 (weak [0, 1, 2, 3, 4] ⟨rfl, rfl, rfl, rfl, rfl, rfl, rfl, rfl, trivial⟩ ⟨rfl, rfl, rfl, rfl, rfl, trivial⟩)
    refine ref_exit (x_then ?_)
    exact brkB x46 (weak [0, 2, 3, 4] ⟨rfl, rfl, rfl, rfl, trivial⟩ ⟨rfl, rfl, rfl, rfl, trivial⟩)
  refine n_then (ref_seq (ref_region ?_))
  refine s_rd (r_cloadS Tryd.isAgg27 Tryd.sizeOf27 rfl (j := 2) rfl rfl rfl) rfl ?_
  refine b_of (frzGL [(48, ag [iv .i64 g_0.N, slv rT_api_Pair q54])] [(2, b3, [iv .i64 g_0.N, slv rT_api_Pair q54])] (j := 3) rfl ⟨⟨_, rfl, .inr ⟨_, _, rfl, rfl, ⟨.inl rfl, .inr ⟨rfl, rfl⟩, trivial⟩⟩⟩, trivial⟩ ⟨⟨_, rfl, ⟨.inl rfl, .inr ⟨rfl, rfl⟩, trivial⟩⟩, trivial⟩) ?_
  refine pull fun t56 h_t56 => ?_
  refine s_st (s_call (ψ := fun (_ : Unit) => ag [iv .u64 t56.All, slv (rI .u64) t56.By, slv (rI .u64) t56.Out]) (args := [.tmp 48]) Tryd.call81 rfl (network_New_ok h_t56) ⟨arg rfl, trivial⟩ (fun _ _ _ _ h => h)) rfl (fun _ => ?_)
  refine mv1 rfl rfl ?_
  refine pull fun t57 h_t57 => ?_
  refine s_st (s_call (ψ := fun (_ : Unit) => ag [iv .u64 t57.All, slv (rI .u64) t57.By, slv (rI .u64) t57.Out]) (args := [.tmp 49, .tmp 50]) Tryd.call82 rfl (network_Net_Within_ok h_t57) ⟨arg rfl, arg rfl, trivial⟩ (fun _ _ _ _ h => h)) rfl (fun _ => ?_)
  refine s_st0 (s_cstore (out := [iv .u64 t57.All, slv (rI .u64) t57.By, slv (rI .u64) t57.Out]) Tryd.sizeOf74 rfl (j := 1) rfl (part_agO (ψs := [iv .u64 t57.All, slv (rI .u64) t57.By, slv (rI .u64) t57.Out]) rfl ⟨.inl iv_at, .inl slv_at, .inl slv_at, trivial⟩) rfl rfl rfl) (fun _ => ?_)
  refine l_nil (n_then (ref_ret ?_))
  exact fin1 (.inl rfl) () [0] rfl ⟨rfl, trivial⟩ rfl (rv_cell rfl (j := 1) rfl Tryd.isAgg74 Tryd.sizeOf74 rfl rfl)

/-! math/bits.TrailingZeros64 -/
noncomputable def math_bits_TrailingZeros64_m (x_0 : Int) : Option (Int) :=
  bif x_0 == 0 then
    some 64
  else
    Option.bind (idxM tab_0 (ishr .u64 (imul .u64 (iand .u64 x_0 (ineg .u64 x_0)) 285870213051353865) 58)) fun t2 =>
    letM (IntKind.wrap .i64 t2) fun t3 =>
    some t3

theorem math_bits_TrailingZeros64_ok {x_0 : Int} {r : Int} (hm : math_bits_TrailingZeros64_m x_0 = some r) :
    FnOk prog 75 [iv .u64 x_0] [tbO (rI .u8) 0 tab_0] (fun (x : Unit) => [iv .i64 r]) (fun (x : Unit) => [tbO (rI .u8) 0 tab_0]) := by
  refine fn_ok (fn := Tryd.f75) (N := 14) (res := fun r x => [iv .i64 r]) (Ω1 := fun r x => [tbO (rI .u8) 0 tab_0]) Tryd.func75 rfl rfl hm rfl (fun E hM => ?_)
  unfold math_bits_TrailingZeros64_m
  refine ref_seq (ref_region ?_)
  refine as1 rfl rfl ?_
  refine l_nil (n_then (ref_seq (ref_seq (ref_region ?_))))
  refine mv1 rfl rfl ?_
  refine s_rd (r_eql rfl rfl) rfl ?_
  refine l_nil (n_then ?_)
  refine ref_cond rfl (fun hb1 => ?_) (fun hb1 => ?_)
  · refine ref_seq (ref_region ?_)
    refine as1 rfl rfl ?_
    refine l_nil (n_then (ref_ret (r_then ?_)))
    exact fin1 (.inl rfl) () [0] rfl ⟨rfl, trivial⟩ rfl (rv_tmp rfl)
  refine ref_skip (n_then (ref_seq (ref_region ?_)))
  refine mv1 rfl rfl ?_
  refine mv1 rfl rfl ?_
  refine s_rd (r_neg rfl) rfl ?_
  refine s_rd (r_and rfl rfl) rfl ?_
  refine s_rd (r_mul rfl rfl) rfl ?_
  refine s_rd (r_shr rfl rfl (by decide)) rfl ?_
  refine pull fun t2 h_t2 => ?_
  refine s_rd (r_gindex (ρ := (rI .u8)) (sz := 1) h_t2 rfl rfl Tryd.underlying116 Tryd.sizeOf5 (j := 0) rfl rfl) rfl ?_
  refine s_rd (r_load el_5 rfl) rfl ?_
  refine s_rd (r_conv (k' := .i64) rfl rfl rfl) rfl ?_
  refine as1 rfl rfl ?_
  refine b_let (f := iv .i64) (t := 2) rfl fun t3 => ?_
  refine l_nil (n_then (ref_ret ?_))
  exact fin1 (.inl rfl) () [0] rfl ⟨rfl, trivial⟩ rfl (rv_tmp rfl)

/-! (deliberation/network.Set).List -/
noncomputable def network_Set_List_l1  (s15 : Int × (List Int)) : Option (Sum ((List Int)) (Int × (List Int))) :=
  bif s15.1 != 0 then
    Option.bind (math_bits_TrailingZeros64_m s15.1) fun t18 =>
    Option.bind (appM 8 s15.2 [t18]) fun out19 =>
    letM (iand .u64 s15.1 (isub .u64 s15.1 1)) fun s21 =>
    some (Sum.inr (s21, out19))
  else
    some (Sum.inl s15.2)

noncomputable def network_Set_List_m (s_0 : Int) : Option (List Int) :=
  Option.bind (loopC (network_Set_List_l1) (s_0, [])) fun q22 : (List Int) =>
  some q22

theorem network_Set_List_ok {s_0 : Int} {r : List Int} (hm : network_Set_List_m s_0 = some r) :
    FnOk prog 59 [iv .u64 s_0] [tbO (rI .u8) 0 tab_0] (fun (x : (Value × List Nat)) => [pv x.1]) (fun (x : (Value × List Nat)) => [tbO (rI .u8) 0 tab_0, oa (rI .i64) x.1 x.2 r]) := by
  refine fn_ok (X := (Value × List Nat)) (fn := Tryd.f59) (N := 16) (res := fun r x => [pv x.1]) (Ω1 := fun r x => [tbO (rI .u8) 0 tab_0, oa (rI .i64) x.1 x.2 r]) Tryd.func59 rfl rfl hm rfl (fun E hM => ?_)
  unfold network_Set_List_m
  refine ref_seq (ref_region ?_)
  refine as1 rfl rfl ?_
  refine l_nil (n_then (ref_seq (ref_region ?_)))
  refine as1 rfl rfl ?_
  refine l_nil (n_then (ref_seq ?_))
  refine b_of (own_nil (rI .i64)) ?_
  refine ref_loopB (f := (network_Set_List_l1)) (Γl := (fun (s15 : Int × (List Int)) (x16 : (Value × List Nat)) => [(0, iv .u64 s15.1), (3, pv x16.1)])) (Ωl := (fun (s15 : Int × (List Int)) (x16 : (Value × List Nat)) => [tbO (rI .u8) 0 tab_0, oa (rI .i64) x16.1 x16.2 s15.2])) (Γb := (fun (q22 : (List Int)) (y23 : (Value × List Nat)) => [(3, pv y23.1)])) (Ωb := (fun (q22 : (List Int)) (y23 : (Value × List Nat)) => [oa (rI .i64) y23.1 y23.2 q22, tbO (rI .u8) 0 tab_0])) (s_0, []) ((.slice none 0 0), []) (weak [0, 1] ⟨rfl, rfl, trivial⟩ ⟨rfl, rfl, trivial⟩) (fun s15 x16 => ?_) (fun q22 y23 => ?_)
  · unfold network_Set_List_l1
    refine ref_seq (ref_seq (ref_region ?_))
    refine mv1 rfl rfl ?_
    refine s_rd (r_neq rfl rfl) rfl ?_
    refine l_nil (n_then ?_)
    refine ref_cond rfl (fun hb17 => ?_) (fun hb17 => ?_)
    · refine ref_skip (n_then (ref_seq (ref_block (ref_region ?_))))
      refine mv1 rfl rfl ?_
      refine mv1 rfl rfl ?_
      refine pull fun t18 h_t18 => ?_
      refine s_st (s_callC [0] [true] (fun (_ : Unit) => [tbO (rI .u8) 0 tab_0]) (fun (_ : Unit) => []) (fun (_ : Unit) => iv .i64 t18) (args := [.tmp 11]) (caps := []) Tryd.call75 rfl (math_bits_TrailingZeros64_ok h_t18) ⟨rfl, rfl, trivial⟩ (fun _ => rfl) (fun _ => trivial) (fun _ => rfl) ⟨arg rfl, trivial⟩ (fun _ _ _ _ h => h)) rfl (fun _ => ?_)
      refine s_st (s_bslice (xs := [.tmp 12]) (ds := [t18]) Tryd.underlying22 el_3 rfl (Nat.le_of_ble_eq_true rfl) ⟨(part_at rfl iv_at), trivial⟩) rfl (fun _ => ?_)
      refine pull fun out19 h_out19 => ?_
      refine s_st (s_append h_out19 Tryd.underlying22 el_3 rfl (j := 1) rfl rfl) rfl (fun o20 => ?_)
      refine as1 rfl rfl ?_
      refine l_nil (n_block (n_then (ref_region ?_)))
      refine mv1 rfl rfl ?_
      refine mv1 rfl rfl ?_
      refine s_rd (r_sub rfl rfl) rfl ?_
      refine s_rd (r_and rfl rfl) rfl ?_
      refine as1 rfl rfl ?_
      refine b_let (f := iv .u64) (t := 0) rfl fun s21 => ?_
      refine l_nil ?_
      exact goB o20 (weak [0, 1] ⟨rfl, rfl, trivial⟩ ⟨rfl, rfl, trivial⟩)
    refine ref_exit (x_then ?_)
    exact brkB x16 (weak [1, 0] ⟨rfl, trivial⟩ ⟨rfl, rfl, trivial⟩)
  refine n_then (ref_seq (ref_region ?_))
  refine mv1 rfl rfl ?_
  refine as1 rfl rfl ?_
  refine l_nil (n_then (ref_ret ?_))
  exact fin1 (.inl rfl) y23 [1, 0] rfl ⟨rfl, rfl, trivial⟩ rfl (rv_tmp rfl)

/-! (deliberation/network.Net).Hit -/
noncomputable def network_Net_Hit_l1 (n_0 : T_network_Net) (t2 : List Int) (s9 : Int × Int) : Option (Sum (Int) (Int × Int)) :=
  bif decide (s9.2 < (t2.length : Int)) then
    Option.bind (idxM t2 s9.2) fun i12 =>
    Option.bind (idxM n_0.Out i12) fun t13 =>
    letM (ior .u64 s9.1 t13) fun out14 =>
    some (Sum.inr (out14, iadd .i64 s9.2 1))
  else
    some (Sum.inl s9.1)

noncomputable def network_Net_Hit_m (n_0 : T_network_Net) (s_1 : Int) : Option (Int) :=
  Option.bind (network_Set_List_m s_1) fun t2 =>
  Option.bind (loopC (network_Net_Hit_l1 n_0 t2) (0, 0)) fun q15 : Int =>
  some q15

theorem network_Net_Hit_ok {n_0 : T_network_Net} {s_1 : Int} {r : Int} (hm : network_Net_Hit_m n_0 s_1 = some r) :
    FnOk prog 83 [ag [iv .u64 n_0.All, slv (rI .u64) n_0.By, slv (rI .u64) n_0.Out], iv .u64 s_1] [tbO (rI .u8) 0 tab_0] (fun (x : Unit) => [iv .u64 r]) (fun (x : Unit) => [tbO (rI .u8) 0 tab_0]) := by
  refine fn_ok (fn := Tryd.f83) (N := 24) (res := fun r x => [iv .u64 r]) (Ω1 := fun r x => [tbO (rI .u8) 0 tab_0]) Tryd.func83 rfl rfl hm rfl (fun E hM => ?_)
  unfold network_Net_Hit_m
  refine ref_seq (ref_region ?_)
  refine s_st (s_box (part_agO (ψs := [iv .u64 n_0.All, slv (rI .u64) n_0.By, slv (rI .u64) n_0.Out]) rfl ⟨.inl iv_at, .inl slv_at, .inl slv_at, trivial⟩)) rfl (fun b1 => ?_)
  refine as1 rfl rfl ?_
  refine l_nil (n_then (ref_seq (ref_region ?_)))
  refine as1 rfl rfl ?_
  refine l_nil (n_then (ref_seq (ref_seq (ref_region ?_))))
  refine mv1 rfl rfl ?_
  refine pull fun t2 h_t2 => ?_
  refine s_st (s_callC [0] [true] (fun (x3 : (Value × List Nat)) => [tbO (rI .u8) 0 tab_0]) (fun (x3 : (Value × List Nat)) => [oa (rI .i64) x3.1 x3.2 t2]) (fun (x3 : (Value × List Nat)) => pv x3.1) (args := [.tmp 8]) (caps := []) Tryd.call59 rfl (network_Set_List_ok h_t2) ⟨rfl, rfl, trivial⟩ (fun _ => rfl) (fun _ => trivial) (fun _ => rfl) ⟨arg rfl, trivial⟩ (fun _ _ _ _ h => h)) rfl (fun x3 => ?_)
  refine s_rd (r_olen Tryd.underlying22 rfl (j := 2) rfl) rfl ?_
  refine mv1 rfl rfl ?_
  refine l_nil (n_then ?_)
  refine ref_loopB (f := (network_Net_Hit_l1 n_0 t2)) (Γl := (fun (s9 : Int × Int) (x10 : Unit) => [(2, pv (ptr b1 0)), (5, iv .u64 s9.1), (9, pv x3.1), (10, iv .i64 (t2.length : Int)), (11, iv .i64 s9.2)])) (Ωl := (fun (s9 : Int × Int) (x10 : Unit) => [tbO (rI .u8) 0 tab_0, oc b1 [iv .u64 n_0.All, slv (rI .u64) n_0.By, slv (rI .u64) n_0.Out], oa (rI .i64) x3.1 x3.2 t2])) (Γb := (fun (q15 : Int) (y16 : Unit) => [(5, iv .u64 q15)])) (Ωb := (fun (q15 : Int) (y16 : Unit) => [tbO (rI .u8) 0 tab_0])) (0, 0) () (weak [0, 1, 2] ⟨rfl, rfl, rfl, rfl, rfl, trivial⟩ ⟨rfl, rfl, rfl, trivial⟩) (fun s9 x10 => ?_) (fun q15 y16 => ?_)
  · unfold network_Net_Hit_l1
    refine ref_seq (ref_region ?_)
    refine s_rd (r_lss rfl rfl) rfl ?_
    refine l_nil (n_then (ref_seq ?_))
    refine ref_cond rfl (fun hb11 => ?_) (fun hb11 => ?_)
    · refine ref_skip (n_then (ref_seq (ref_block (ref_seq (ref_region ?_)))))
      refine pull fun i12 h_i12 => ?_
      refine s_rd (r_oindex h_i12 Tryd.underlying22 el_3 rfl (j := 2) rfl rfl) rfl ?_
      refine s_rd (r_oload h_i12 el_3 rfl (j := 2) rfl) rfl ?_
      refine as1 rfl rfl ?_
      refine l_nil (n_then (ref_region ?_))
      refine mv1 rfl rfl ?_
      refine s_rd (r_faddr (fo := 2) Tryd.underlying74 rfl rfl Tryd.sizeOf72 rfl) rfl ?_
      refine s_rd (r_cload Tryd.isAgg72 rfl (j := 1) rfl rfl) rfl ?_
      refine mv1 rfl rfl ?_
      refine pull fun t13 h_t13 => ?_
      refine s_rd (r_index h_t13 Tryd.underlying72 el_67 rfl rfl) rfl ?_
      refine s_rd (r_load el_67 rfl) rfl ?_
      refine s_rd (r_or rfl rfl) rfl ?_
      refine as1 rfl rfl ?_
      refine b_let (f := iv .u64) (t := 5) rfl fun out14 => ?_
      refine l_nil (n_block (n_then (ref_region ?_)))
      refine s_rd (r_add rfl rfl) rfl ?_
      refine mv1 rfl rfl ?_
      refine l_nil ?_
      exact goB () (weak [0, 1, 2] ⟨rfl, rfl, rfl, rfl, rfl, trivial⟩ ⟨rfl, rfl, rfl, trivial⟩)
    refine ref_exit (x_then ?_)
    exact brkB () (weak [0] ⟨rfl, trivial⟩ ⟨rfl, trivial⟩)
  refine n_then (ref_seq (ref_region ?_))
  refine mv1 rfl rfl ?_
  refine as1 rfl rfl ?_
  refine l_nil (n_then (ref_ret ?_))
  exact fin1 (.inl rfl) () [0] rfl ⟨rfl, trivial⟩ rfl (rv_tmp rfl)

/-! (deliberation/network.Net).Grounded -/
noncomputable def network_Net_Grounded_l2 (n_0 : T_network_Net) (out52 : Int) (t53 : List Int) (s62 : Int × Int) : Option (Sum (Int) (Int × Int)) :=
  bif decide (s62.2 < (t53.length : Int)) then
    Option.bind (idxM t53 s62.2) fun i65 =>
    Option.bind (idxM n_0.By i65) fun t66 =>
    bif (iandn .u64 t66 out52) == 0 then
      Option.bind (network_Set_With_m s62.1 i65) fun next68 =>
      some (Sum.inr (next68, iadd .i64 s62.2 1))
    else
      some (Sum.inr (s62.1, iadd .i64 s62.2 1))
  else
    some (Sum.inl s62.1)

noncomputable def network_Net_Grounded_l1 (n_0 : T_network_Net) (s50 : Int × (List Int)) : Option (Sum (List Int) (Int × (List Int))) :=
  Option.bind (network_Net_Hit_m n_0 s50.1) fun out52 =>
  Option.bind (network_Set_List_m n_0.All) fun t53 =>
  Option.bind (loopC (network_Net_Grounded_l2 n_0 out52 t53) (s50.1, 0)) fun q69 : Int =>
  bif q69 == s50.1 then
    some (Sum.inl s50.2)
  else
    Option.bind (appM 8 s50.2 [q69]) fun rounds72 =>
    some (Sum.inr (q69, rounds72))

noncomputable def network_Net_Grounded_m (n_0 : T_network_Net) : Option (List Int) :=
  Option.bind (loopC (network_Net_Grounded_l1 n_0) (0, [])) (fun a : List Int => some a)

theorem network_Net_Grounded_ok {n_0 : T_network_Net} {r : List Int} (hm : network_Net_Grounded_m n_0 = some r) :
    FnOk prog 64 [ag [iv .u64 n_0.All, slv (rI .u64) n_0.By, slv (rI .u64) n_0.Out]] [tbO (rI .u8) 0 tab_0] (fun (x : (Value × List Nat)) => [pv x.1]) (fun (x : (Value × List Nat)) => [tbO (rI .u8) 0 tab_0, oa (rI .u64) x.1 x.2 r]) := by
  refine fn_ok (X := (Value × List Nat)) (fn := Tryd.f64) (N := 42) (res := fun r x => [pv x.1]) (Ω1 := fun r x => [tbO (rI .u8) 0 tab_0, oa (rI .u64) x.1 x.2 r]) Tryd.func64 rfl rfl hm rfl (fun E hM => ?_)
  unfold network_Net_Grounded_m
  refine ref_seq (ref_region ?_)
  refine s_st (s_box (part_agO (ψs := [iv .u64 n_0.All, slv (rI .u64) n_0.By, slv (rI .u64) n_0.Out]) rfl ⟨.inl iv_at, .inl slv_at, .inl slv_at, trivial⟩)) rfl (fun b1 => ?_)
  refine as1 rfl rfl ?_
  refine l_nil (n_then (ref_seq (ref_region ?_)))
  refine as1 rfl rfl ?_
  refine l_nil (n_then (ref_seq (ref_region ?_)))
  refine as1 rfl rfl ?_
  refine l_nil (n_then ?_)
  refine b_of (own_nil (rI .u64)) ?_
  refine ref_block (ref_loop (f := (network_Net_Grounded_l1 n_0)) (Γl := (fun (s50 : Int × (List Int)) (x51 : (Value × List Nat)) => [(1, pv (ptr b1 0)), (3, pv x51.1), (4, iv .u64 s50.1)])) (Ωl := (fun (s50 : Int × (List Int)) (x51 : (Value × List Nat)) => [tbO (rI .u8) 0 tab_0, oc b1 [iv .u64 n_0.All, slv (rI .u64) n_0.By, slv (rI .u64) n_0.Out], oa (rI .u64) x51.1 x51.2 s50.2])) (k := (fun a : List Int => some a)) (0, []) ((.slice none 0 0), []) (weak [0, 1, 2] ⟨rfl, rfl, rfl, trivial⟩ ⟨rfl, rfl, rfl, trivial⟩) (fun s50 x51 => ?_))
  · unfold network_Net_Grounded_l1
    refine ref_block (ref_seq (ref_region ?_))
    refine s_rd (r_cloadS Tryd.isAgg74 Tryd.sizeOf74 rfl (j := 1) rfl rfl rfl) rfl ?_
    refine mv1 rfl rfl ?_
    refine pull fun out52 h_out52 => ?_
    refine s_st (s_callC [0] [true] (fun (_ : Unit) => [tbO (rI .u8) 0 tab_0]) (fun (_ : Unit) => []) (fun (_ : Unit) => iv .u64 out52) (args := [.tmp 9, .tmp 10]) (caps := []) Tryd.call83 rfl (network_Net_Hit_ok h_out52) ⟨rfl, rfl, trivial⟩ (fun _ => rfl) (fun _ => trivial) (fun _ => rfl) ⟨arg rfl, arg rfl, trivial⟩ (fun _ _ _ _ h => h)) rfl (fun _ => ?_)
    refine mv1 rfl rfl ?_
    refine as1 rfl rfl ?_
    refine as1 rfl rfl ?_
    refine l_nil (n_then (ref_seq (ref_seq (ref_region ?_))))
    refine s_rd (r_faddr (fo := 0) Tryd.underlying74 rfl rfl Tryd.sizeOf67 rfl) rfl ?_
    refine s_rd (r_cload Tryd.isAgg67 rfl (j := 1) rfl rfl) rfl ?_
    refine pull fun t53 h_t53 => ?_
    refine s_st (s_callC [0] [true] (fun (x54 : (Value × List Nat)) => [tbO (rI .u8) 0 tab_0]) (fun (x54 : (Value × List Nat)) => [oa (rI .i64) x54.1 x54.2 t53]) (fun (x54 : (Value × List Nat)) => pv x54.1) (args := [.tmp 14]) (caps := []) Tryd.call59 rfl (network_Set_List_ok h_t53) ⟨rfl, rfl, trivial⟩ (fun _ => rfl) (fun _ => trivial) (fun _ => rfl) ⟨arg rfl, trivial⟩ (fun _ _ _ _ h => h)) rfl (fun x54 => ?_)
    refine s_rd (r_olen Tryd.underlying22 rfl (j := 3) rfl) rfl ?_
    refine mv1 rfl rfl ?_
    refine l_nil (n_then ?_)
    refine ref_loopB (f := (network_Net_Grounded_l2 n_0 out52 t53)) (Γl := (fun (s62 : Int × Int) (x63 : Unit) => [(1, pv (ptr b1 0)), (3, pv x51.1), (4, iv .u64 s50.1), (5, iv .u64 out52), (6, iv .u64 s62.1), (15, pv x54.1), (16, iv .i64 (t53.length : Int)), (17, iv .i64 s62.2)])) (Ωl := (fun (s62 : Int × Int) (x63 : Unit) => [tbO (rI .u8) 0 tab_0, oc b1 [iv .u64 n_0.All, slv (rI .u64) n_0.By, slv (rI .u64) n_0.Out], oa (rI .u64) x51.1 x51.2 s50.2, oa (rI .i64) x54.1 x54.2 t53])) (Γb := (fun (q69 : Int) (y70 : Unit) => [(1, pv (ptr b1 0)), (3, pv x51.1), (4, iv .u64 s50.1), (6, iv .u64 q69)])) (Ωb := (fun (q69 : Int) (y70 : Unit) => [oc b1 [iv .u64 n_0.All, slv (rI .u64) n_0.By, slv (rI .u64) n_0.Out], oa (rI .u64) x51.1 x51.2 s50.2, tbO (rI .u8) 0 tab_0])) (s50.1, 0) () (weak [0, 1, 2, 3] ⟨rfl, rfl, rfl, rfl, rfl, rfl, rfl, rfl, trivial⟩ ⟨rfl, rfl, rfl, rfl, trivial⟩) (fun s62 x63 => ?_) (fun q69 y70 => ?_)
    · unfold network_Net_Grounded_l2
      refine ref_seq (ref_region ?_)
      refine s_rd (r_lss rfl rfl) rfl ?_
      refine l_nil (n_then (ref_seq ?_))
      refine ref_cond rfl (fun hb64 => ?_) (fun hb64 => ?_)
      · refine ref_skip (n_then (ref_seq (ref_block (ref_seq (ref_region ?_)))))
        refine pull fun i65 h_i65 => ?_
        refine s_rd (r_oindex h_i65 Tryd.underlying22 el_3 rfl (j := 3) rfl rfl) rfl ?_
        refine s_rd (r_oload h_i65 el_3 rfl (j := 3) rfl) rfl ?_
        refine as1 rfl rfl ?_
        refine l_nil (n_then (ref_seq (ref_region ?_)))
        refine s_rd (r_faddr (fo := 1) Tryd.underlying74 rfl rfl Tryd.sizeOf72 rfl) rfl ?_
        refine s_rd (r_cload Tryd.isAgg72 rfl (j := 1) rfl rfl) rfl ?_
        refine mv1 rfl rfl ?_
        refine pull fun t66 h_t66 => ?_
        refine s_rd (r_index h_t66 Tryd.underlying72 el_67 rfl rfl) rfl ?_
        refine s_rd (r_load el_67 rfl) rfl ?_
        refine mv1 rfl rfl ?_
        refine s_rd (r_andn rfl rfl) rfl ?_
        refine s_rd (r_eql rfl rfl) rfl ?_
        refine l_nil (n_then ?_)
        refine ref_cond rfl (fun hb67 => ?_) (fun hb67 => ?_)
        · refine ref_region ?_
          refine mv1 rfl rfl ?_
          refine mv1 rfl rfl ?_
          refine pull fun next68 h_next68 => ?_
          refine s_st (s_call (ψ := fun (_ : Unit) => iv .u64 next68) (args := [.tmp 29, .tmp 30]) Tryd.call61 rfl (network_Set_With_ok h_next68) ⟨arg rfl, arg rfl, trivial⟩ (fun _ _ _ _ h => h)) rfl (fun _ => ?_)
          refine as1 rfl rfl ?_
          refine l_nil ?_
          refine b_of (nrm [tbO (rI .u8) 0 tab_0, oc b1 [iv .u64 n_0.All, slv (rI .u64) n_0.By, slv (rI .u64) n_0.Out], oa (rI .u64) x51.1 x51.2 s50.2, oa (rI .i64) x54.1 x54.2 t53] rfl) ?_
          refine n_block (n_then (ref_region ?_))
          refine s_rd (r_add rfl rfl) rfl ?_
          refine mv1 rfl rfl ?_
          refine l_nil ?_
          exact goB () (weak [0, 1, 2, 3] ⟨rfl, rfl, rfl, rfl, rfl, rfl, rfl, rfl, trivial⟩ ⟨rfl, rfl, rfl, rfl, trivial⟩)
        refine ref_skip (n_block (n_then (ref_region ?_)))
        refine s_rd (r_add rfl rfl) rfl ?_
        refine mv1 rfl rfl ?_
        refine l_nil ?_
        exact goB () (weak [0, 1, 2, 3] ⟨rfl, rfl, rfl, rfl, rfl, rfl, rfl, rfl, trivial⟩ ⟨rfl, rfl, rfl, rfl, trivial⟩)
      refine ref_exit (x_then ?_)
      exact brkB () (weak [1, 2, 0] ⟨rfl, rfl, rfl, rfl, trivial⟩ ⟨rfl, rfl, rfl, trivial⟩)
    refine n_then (ref_seq (ref_seq (ref_region ?_)))
    refine mv1 rfl rfl ?_
    refine mv1 rfl rfl ?_
    refine s_rd (r_eql rfl rfl) rfl ?_
    refine l_nil (n_then ?_)
    refine ref_cond rfl (fun hb71 => ?_) (fun hb71 => ?_)
    · refine ref_seq (ref_region ?_)
      refine mv1 rfl rfl ?_
      refine as1 rfl rfl ?_
      refine l_nil (n_then (ref_ret (r_then (r_block ?_))))
      refine r_loop ?_
      refine r_block ?_
      exact fin1 (.inl rfl) x51 [2, 1] rfl ⟨rfl, rfl, trivial⟩ rfl (rv_tmp rfl)
    refine ref_skip (n_then (ref_region ?_))
    refine mv1 rfl rfl ?_
    refine mv1 rfl rfl ?_
    refine s_st (s_bslice (xs := [.tmp 38]) (ds := [q69]) Tryd.underlying72 el_67 rfl (Nat.le_of_ble_eq_true rfl) ⟨(part_at rfl iv_at), trivial⟩) rfl (fun _ => ?_)
    refine pull fun rounds72 h_rounds72 => ?_
    refine s_st (s_append h_rounds72 Tryd.underlying72 el_67 rfl (j := 1) rfl rfl) rfl (fun o73 => ?_)
    refine mv1 rfl rfl ?_
    refine as1 rfl rfl ?_
    refine as1 rfl rfl ?_
    refine l_nil (n_block ?_)
    exact n_loop o73 (weak [2, 0, 1] ⟨rfl, rfl, rfl, trivial⟩ ⟨rfl, rfl, rfl, trivial⟩)

/-! (deliberation/network.Net).In -/
noncomputable def network_Net_In_m (n_0 : T_network_Net) : Option (Int) :=
  Option.bind (network_Net_Grounded_m n_0) fun l2 =>
  bif (l2.length : Int) == 0 then
    some 0
  else
    Option.bind (idxM l2 (isub .i64 (l2.length : Int) 1)) fun t5 =>
    some t5

theorem network_Net_In_ok {n_0 : T_network_Net} {r : Int} (hm : network_Net_In_m n_0 = some r) :
    FnOk prog 39 [ag [iv .u64 n_0.All, slv (rI .u64) n_0.By, slv (rI .u64) n_0.Out]] [tbO (rI .u8) 0 tab_0] (fun (x : Unit) => [iv .u64 r]) (fun (x : Unit) => [tbO (rI .u8) 0 tab_0]) := by
  refine fn_ok (fn := Tryd.f39) (N := 15) (res := fun r x => [iv .u64 r]) (Ω1 := fun r x => [tbO (rI .u8) 0 tab_0]) Tryd.func39 rfl rfl hm rfl (fun E hM => ?_)
  unfold network_Net_In_m
  refine ref_seq (ref_region ?_)
  refine s_st (s_box (part_agO (ψs := [iv .u64 n_0.All, slv (rI .u64) n_0.By, slv (rI .u64) n_0.Out]) rfl ⟨.inl iv_at, .inl slv_at, .inl slv_at, trivial⟩)) rfl (fun b1 => ?_)
  refine as1 rfl rfl ?_
  refine l_nil (n_then (ref_seq (ref_region ?_)))
  refine s_rd (r_cloadS Tryd.isAgg74 Tryd.sizeOf74 rfl (j := 1) rfl rfl rfl) rfl ?_
  refine pull fun l2 h_l2 => ?_
  refine s_st (s_callC [0] [true] (fun (x3 : (Value × List Nat)) => [tbO (rI .u8) 0 tab_0]) (fun (x3 : (Value × List Nat)) => [oa (rI .u64) x3.1 x3.2 l2]) (fun (x3 : (Value × List Nat)) => pv x3.1) (args := [.tmp 4]) (caps := []) Tryd.call64 rfl (network_Net_Grounded_ok h_l2) ⟨rfl, rfl, trivial⟩ (fun _ => rfl) (fun _ => trivial) (fun _ => rfl) ⟨arg rfl, trivial⟩ (fun _ _ _ _ h => h)) rfl (fun x3 => ?_)
  refine as1 rfl rfl ?_
  refine l_nil (n_then (ref_seq (ref_seq (ref_region ?_))))
  refine mv1 rfl rfl ?_
  refine s_rd (r_olen Tryd.underlying72 rfl (j := 2) rfl) rfl ?_
  refine s_rd (r_eql rfl rfl) rfl ?_
  refine l_nil (n_then ?_)
  refine ref_cond rfl (fun hb4 => ?_) (fun hb4 => ?_)
  · refine ref_seq (ref_region ?_)
    refine as1 rfl rfl ?_
    refine l_nil (n_then (ref_ret (r_then ?_)))
    exact fin1 (.inl rfl) () [0] rfl ⟨rfl, trivial⟩ rfl (rv_tmp rfl)
  refine ref_skip (n_then (ref_seq (ref_region ?_)))
  refine mv1 rfl rfl ?_
  refine mv1 rfl rfl ?_
  refine s_rd (r_olen Tryd.underlying72 rfl (j := 2) rfl) rfl ?_
  refine s_rd (r_sub rfl rfl) rfl ?_
  refine pull fun t5 h_t5 => ?_
  refine s_rd (r_oindex h_t5 Tryd.underlying72 el_67 rfl (j := 2) rfl rfl) rfl ?_
  refine s_rd (r_oload h_t5 el_67 rfl (j := 2) rfl) rfl ?_
  refine as1 rfl rfl ?_
  refine l_nil (n_then (ref_ret ?_))
  exact fin1 (.inl rfl) () [0] rfl ⟨rfl, trivial⟩ rfl (rv_tmp rfl)

/-! (deliberation/network.Net).Free -/
noncomputable def network_Net_Free_m (n_0 : T_network_Net) (s_1 : Int) : Option (Bool) :=
  Option.bind (network_Net_Hit_m n_0 s_1) fun t2 =>
  letM ((iand .u64 t2 s_1) == 0) fun t3 =>
  some t3

theorem network_Net_Free_ok {n_0 : T_network_Net} {s_1 : Int} {r : Bool} (hm : network_Net_Free_m n_0 s_1 = some r) :
    FnOk prog 88 [ag [iv .u64 n_0.All, slv (rI .u64) n_0.By, slv (rI .u64) n_0.Out], iv .u64 s_1] [tbO (rI .u8) 0 tab_0] (fun (x : Unit) => [bv r]) (fun (x : Unit) => [tbO (rI .u8) 0 tab_0]) := by
  refine fn_ok (fn := Tryd.f88) (N := 11) (res := fun r x => [bv r]) (Ω1 := fun r x => [tbO (rI .u8) 0 tab_0]) Tryd.func88 rfl rfl hm rfl (fun E hM => ?_)
  unfold network_Net_Free_m
  refine ref_seq (ref_region ?_)
  refine s_st (s_box (part_agO (ψs := [iv .u64 n_0.All, slv (rI .u64) n_0.By, slv (rI .u64) n_0.Out]) rfl ⟨.inl iv_at, .inl slv_at, .inl slv_at, trivial⟩)) rfl (fun b1 => ?_)
  refine as1 rfl rfl ?_
  refine l_nil (n_then (ref_seq (ref_region ?_)))
  refine s_rd (r_cloadS Tryd.isAgg74 Tryd.sizeOf74 rfl (j := 1) rfl rfl rfl) rfl ?_
  refine mv1 rfl rfl ?_
  refine pull fun t2 h_t2 => ?_
  refine s_st (s_callC [0] [true] (fun (_ : Unit) => [tbO (rI .u8) 0 tab_0]) (fun (_ : Unit) => []) (fun (_ : Unit) => iv .u64 t2) (args := [.tmp 5, .tmp 6]) (caps := []) Tryd.call83 rfl (network_Net_Hit_ok h_t2) ⟨rfl, rfl, trivial⟩ (fun _ => rfl) (fun _ => trivial) (fun _ => rfl) ⟨arg rfl, arg rfl, trivial⟩ (fun _ _ _ _ h => h)) rfl (fun _ => ?_)
  refine mv1 rfl rfl ?_
  refine s_rd (r_and rfl rfl) rfl ?_
  refine s_rd (r_eql rfl rfl) rfl ?_
  refine as1 rfl rfl ?_
  refine b_let (f := bv) (t := 4) rfl fun t3 => ?_
  refine l_nil (n_then (ref_ret ?_))
  exact fin1 (.inl rfl) () [0] rfl ⟨rfl, trivial⟩ rfl (rv_tmp rfl)

/-! (deliberation/network.Net).Attackers -/
noncomputable def network_Net_Attackers_l1 (n_0 : T_network_Net) (t2 : List Int) (s9 : Int × Int) : Option (Sum (Int) (Int × Int)) :=
  bif decide (s9.2 < (t2.length : Int)) then
    Option.bind (idxM t2 s9.2) fun i12 =>
    Option.bind (idxM n_0.By i12) fun t13 =>
    letM (ior .u64 s9.1 t13) fun out14 =>
    some (Sum.inr (out14, iadd .i64 s9.2 1))
  else
    some (Sum.inl s9.1)

noncomputable def network_Net_Attackers_m (n_0 : T_network_Net) (s_1 : Int) : Option (Int) :=
  Option.bind (network_Set_List_m s_1) fun t2 =>
  Option.bind (loopC (network_Net_Attackers_l1 n_0 t2) (0, 0)) fun q15 : Int =>
  some q15

theorem network_Net_Attackers_ok {n_0 : T_network_Net} {s_1 : Int} {r : Int} (hm : network_Net_Attackers_m n_0 s_1 = some r) :
    FnOk prog 89 [ag [iv .u64 n_0.All, slv (rI .u64) n_0.By, slv (rI .u64) n_0.Out], iv .u64 s_1] [tbO (rI .u8) 0 tab_0] (fun (x : Unit) => [iv .u64 r]) (fun (x : Unit) => [tbO (rI .u8) 0 tab_0]) := by
  refine fn_ok (fn := Tryd.f89) (N := 24) (res := fun r x => [iv .u64 r]) (Ω1 := fun r x => [tbO (rI .u8) 0 tab_0]) Tryd.func89 rfl rfl hm rfl (fun E hM => ?_)
  unfold network_Net_Attackers_m
  refine ref_seq (ref_region ?_)
  refine s_st (s_box (part_agO (ψs := [iv .u64 n_0.All, slv (rI .u64) n_0.By, slv (rI .u64) n_0.Out]) rfl ⟨.inl iv_at, .inl slv_at, .inl slv_at, trivial⟩)) rfl (fun b1 => ?_)
  refine as1 rfl rfl ?_
  refine l_nil (n_then (ref_seq (ref_region ?_)))
  refine as1 rfl rfl ?_
  refine l_nil (n_then (ref_seq (ref_seq (ref_region ?_))))
  refine mv1 rfl rfl ?_
  refine pull fun t2 h_t2 => ?_
  refine s_st (s_callC [0] [true] (fun (x3 : (Value × List Nat)) => [tbO (rI .u8) 0 tab_0]) (fun (x3 : (Value × List Nat)) => [oa (rI .i64) x3.1 x3.2 t2]) (fun (x3 : (Value × List Nat)) => pv x3.1) (args := [.tmp 8]) (caps := []) Tryd.call59 rfl (network_Set_List_ok h_t2) ⟨rfl, rfl, trivial⟩ (fun _ => rfl) (fun _ => trivial) (fun _ => rfl) ⟨arg rfl, trivial⟩ (fun _ _ _ _ h => h)) rfl (fun x3 => ?_)
  refine s_rd (r_olen Tryd.underlying22 rfl (j := 2) rfl) rfl ?_
  refine mv1 rfl rfl ?_
  refine l_nil (n_then ?_)
  refine ref_loopB (f := (network_Net_Attackers_l1 n_0 t2)) (Γl := (fun (s9 : Int × Int) (x10 : Unit) => [(2, pv (ptr b1 0)), (5, iv .u64 s9.1), (9, pv x3.1), (10, iv .i64 (t2.length : Int)), (11, iv .i64 s9.2)])) (Ωl := (fun (s9 : Int × Int) (x10 : Unit) => [tbO (rI .u8) 0 tab_0, oc b1 [iv .u64 n_0.All, slv (rI .u64) n_0.By, slv (rI .u64) n_0.Out], oa (rI .i64) x3.1 x3.2 t2])) (Γb := (fun (q15 : Int) (y16 : Unit) => [(5, iv .u64 q15)])) (Ωb := (fun (q15 : Int) (y16 : Unit) => [tbO (rI .u8) 0 tab_0])) (0, 0) () (weak [0, 1, 2] ⟨rfl, rfl, rfl, rfl, rfl, trivial⟩ ⟨rfl, rfl, rfl, trivial⟩) (fun s9 x10 => ?_) (fun q15 y16 => ?_)
  · unfold network_Net_Attackers_l1
    refine ref_seq (ref_region ?_)
    refine s_rd (r_lss rfl rfl) rfl ?_
    refine l_nil (n_then (ref_seq ?_))
    refine ref_cond rfl (fun hb11 => ?_) (fun hb11 => ?_)
    · refine ref_skip (n_then (ref_seq (ref_block (ref_seq (ref_region ?_)))))
      refine pull fun i12 h_i12 => ?_
      refine s_rd (r_oindex h_i12 Tryd.underlying22 el_3 rfl (j := 2) rfl rfl) rfl ?_
      refine s_rd (r_oload h_i12 el_3 rfl (j := 2) rfl) rfl ?_
      refine as1 rfl rfl ?_
      refine l_nil (n_then (ref_region ?_))
      refine mv1 rfl rfl ?_
      refine s_rd (r_faddr (fo := 1) Tryd.underlying74 rfl rfl Tryd.sizeOf72 rfl) rfl ?_
      refine s_rd (r_cload Tryd.isAgg72 rfl (j := 1) rfl rfl) rfl ?_
      refine mv1 rfl rfl ?_
      refine pull fun t13 h_t13 => ?_
      refine s_rd (r_index h_t13 Tryd.underlying72 el_67 rfl rfl) rfl ?_
      refine s_rd (r_load el_67 rfl) rfl ?_
      refine s_rd (r_or rfl rfl) rfl ?_
      refine as1 rfl rfl ?_
      refine b_let (f := iv .u64) (t := 5) rfl fun out14 => ?_
      refine l_nil (n_block (n_then (ref_region ?_)))
      refine s_rd (r_add rfl rfl) rfl ?_
      refine mv1 rfl rfl ?_
      refine l_nil ?_
      exact goB () (weak [0, 1, 2] ⟨rfl, rfl, rfl, rfl, rfl, trivial⟩ ⟨rfl, rfl, rfl, trivial⟩)
    refine ref_exit (x_then ?_)
    exact brkB () (weak [0] ⟨rfl, trivial⟩ ⟨rfl, trivial⟩)
  refine n_then (ref_seq (ref_region ?_))
  refine mv1 rfl rfl ?_
  refine as1 rfl rfl ?_
  refine l_nil (n_then (ref_ret ?_))
  exact fin1 (.inl rfl) () [0] rfl ⟨rfl, trivial⟩ rfl (rv_tmp rfl)

/-! (deliberation/network.Net).Admissible -/
noncomputable def network_Net_Admissible_m (n_0 : T_network_Net) (s_1 : Int) : Option (Bool) :=
  Option.bind (network_Net_Free_m n_0 s_1) fun t2 =>
  bif t2 then
    Option.bind (network_Net_Attackers_m n_0 s_1) fun t3 =>
    Option.bind (network_Net_Hit_m n_0 s_1) fun t4 =>
    some ((iandn .u64 t3 t4) == 0)
  else
    some false

theorem network_Net_Admissible_ok {n_0 : T_network_Net} {s_1 : Int} {r : Bool} (hm : network_Net_Admissible_m n_0 s_1 = some r) :
    FnOk prog 79 [ag [iv .u64 n_0.All, slv (rI .u64) n_0.By, slv (rI .u64) n_0.Out], iv .u64 s_1] [tbO (rI .u8) 0 tab_0] (fun (x : Unit) => [bv r]) (fun (x : Unit) => [tbO (rI .u8) 0 tab_0]) := by
  refine fn_ok (fn := Tryd.f79) (N := 18) (res := fun r x => [bv r]) (Ω1 := fun r x => [tbO (rI .u8) 0 tab_0]) Tryd.func79 rfl rfl hm rfl (fun E hM => ?_)
  unfold network_Net_Admissible_m
  refine ref_seq (ref_region ?_)
  refine s_st (s_box (part_agO (ψs := [iv .u64 n_0.All, slv (rI .u64) n_0.By, slv (rI .u64) n_0.Out]) rfl ⟨.inl iv_at, .inl slv_at, .inl slv_at, trivial⟩)) rfl (fun b1 => ?_)
  refine as1 rfl rfl ?_
  refine l_nil (n_then (ref_seq ?_))
  refine ref_draw [0, 1, 3, 4, 5, 7, 8, 10, 11, 12] rfl (by kernel_rfl) (fun hok => ?_)
  refine a_rd (i := 0) hok rfl (by kernel_rfl) rfl (r_cloadS Tryd.isAgg74 Tryd.sizeOf74 rfl (j := 1) rfl rfl rfl) rfl ?_
  refine a_rd (i := 1) hok rfl (by kernel_rfl) rfl (r_move rfl) rfl ?_
  refine pull fun t2 h_t2 => ?_
  refine a_next hok 2 [] (by kernel_rfl) ?_ trivial
  refine a_st (i := 2) hok rfl rfl (s_callC [0] [true] (fun (_ : Unit) => [tbO (rI .u8) 0 tab_0]) (fun (_ : Unit) => []) (fun (_ : Unit) => bv t2) (args := [.tmp 5, .tmp 6]) (caps := []) Tryd.call88 rfl (network_Net_Free_ok h_t2) ⟨rfl, rfl, trivial⟩ (fun _ => rfl) (fun _ => trivial) (fun _ => rfl) ⟨arg rfl, arg rfl, trivial⟩ (fun _ _ _ _ h => h)) (by intro _ h; cases h; rfl) (fun _ => ⟨trivial, ⟨trivial, trivial⟩⟩) (fun _ => ?_)
  refine a_rd (i := 3) hok rfl (by kernel_rfl) rfl (r_move rfl) rfl ?_
  refine b_split (t := 8) rfl (fun _ => ?_) (fun _ => ?_)
  · refine a_rdOn (i := 4) hok rfl rfl rfl rfl (by kernel_rfl) rfl (r_cloadS Tryd.isAgg74 Tryd.sizeOf74 rfl (j := 1) rfl rfl rfl) rfl ?_
    refine a_rdOn (i := 5) hok rfl rfl rfl rfl (by kernel_rfl) rfl (r_move rfl) rfl ?_
    refine a_rdOn (i := 7) hok rfl rfl rfl rfl (by kernel_rfl) rfl (r_cloadS Tryd.isAgg74 Tryd.sizeOf74 rfl (j := 1) rfl rfl rfl) rfl ?_
    refine a_rdOn (i := 8) hok rfl rfl rfl rfl (by kernel_rfl) rfl (r_move rfl) rfl ?_
    refine pull fun t3 h_t3 => ?_
    refine a_next hok 6 [] (by kernel_rfl) ?_ trivial
    refine a_stOn (i := 6) hok rfl rfl rfl rfl rfl (s_callC [0] [true] (fun (_ : Unit) => [tbO (rI .u8) 0 tab_0]) (fun (_ : Unit) => []) (fun (_ : Unit) => iv .u64 t3) (args := [.tmp 9, .tmp 10]) (caps := []) Tryd.call89 rfl (network_Net_Attackers_ok h_t3) ⟨rfl, rfl, trivial⟩ (fun _ => rfl) (fun _ => trivial) (fun _ => rfl) ⟨arg rfl, arg rfl, trivial⟩ (fun _ _ _ _ h => h)) (by intro _ h; cases h; rfl) (fun _ => ⟨trivial, ⟨⟨⟨rfl, rfl⟩, trivial⟩, ⟨trivial, ⟨trivial, ⟨trivial, ⟨trivial, ⟨⟨⟨rfl, rfl⟩, trivial⟩, trivial⟩⟩⟩⟩⟩⟩⟩) (fun _ => ?_)
    refine pull fun t4 h_t4 => ?_
    refine a_next hok 9 [] (by kernel_rfl) ?_ trivial
    refine a_stOn (i := 9) hok rfl rfl rfl rfl rfl (s_callC [0] [true] (fun (_ : Unit) => [tbO (rI .u8) 0 tab_0]) (fun (_ : Unit) => []) (fun (_ : Unit) => iv .u64 t4) (args := [.tmp 12, .tmp 13]) (caps := []) Tryd.call83 rfl (network_Net_Hit_ok h_t4) ⟨rfl, rfl, trivial⟩ (fun _ => rfl) (fun _ => trivial) (fun _ => rfl) ⟨arg rfl, arg rfl, trivial⟩ (fun _ _ _ _ h => h)) (by intro _ h; cases h; rfl) (fun _ => ⟨trivial, ⟨trivial, ⟨trivial, ⟨⟨⟨rfl, rfl⟩, trivial⟩, ⟨trivial, ⟨trivial, ⟨⟨⟨rfl, rfl⟩, trivial⟩, trivial⟩⟩⟩⟩⟩⟩⟩) (fun _ => ?_)
    refine a_rdOn (i := 10) hok rfl rfl rfl rfl (by kernel_rfl) rfl (r_andn rfl rfl) rfl ?_
    refine a_rdOn (i := 11) hok rfl rfl rfl rfl (by kernel_rfl) rfl (r_eql rfl rfl) rfl ?_
    refine a_rd (i := 12) hok rfl (by kernel_rfl) rfl (r_pickT rfl rfl) rfl ?_
    refine a_next hok 13 [] (by kernel_rfl) ?_ trivial
    refine a_st (i := 13) hok rfl rfl (St.ofRd (r_assign rfl)) (by intro _ h; cases h; rfl) (fun _ => ⟨trivial, ⟨trivial, ⟨trivial, ⟨trivial, ⟨trivial, ⟨trivial, ⟨trivial, ⟨trivial, ⟨trivial, ⟨trivial, trivial⟩⟩⟩⟩⟩⟩⟩⟩⟩⟩) (fun _ => ?_)
    refine a_fin hok (by kernel_rfl) ?_
    refine b_of (nrm [tbO (rI .u8) 0 tab_0, oc b1 [iv .u64 n_0.All, slv (rI .u64) n_0.By, slv (rI .u64) n_0.Out]] rfl) ?_
    refine n_then (ref_ret ?_)
    exact fin1 (.inl rfl) () [0] rfl ⟨rfl, trivial⟩ rfl (rv_tmp rfl)
  refine a_off (i := 4) hok rfl rfl rfl rfl rfl (by kernel_rfl) rfl rfl ?_
  refine a_off (i := 5) hok rfl rfl rfl rfl rfl (by kernel_rfl) rfl rfl ?_
  refine a_off (i := 7) hok rfl rfl rfl rfl rfl (by kernel_rfl) rfl rfl ?_
  refine a_off (i := 8) hok rfl rfl rfl rfl rfl (by kernel_rfl) rfl rfl ?_
  refine a_next hok 6 [] (by kernel_rfl) ?_ trivial
  refine a_stOff (i := 6) hok rfl rfl rfl rfl rfl rfl (by intro _ h; cases h; rfl) ⟨trivial, ⟨trivial, ⟨trivial, ⟨trivial, ⟨trivial, ⟨trivial, ⟨⟨⟨rfl, rfl⟩, trivial⟩, trivial⟩⟩⟩⟩⟩⟩⟩ ?_
  refine a_next hok 9 [] (by kernel_rfl) ?_ trivial
  refine a_stOff (i := 9) hok rfl rfl rfl rfl rfl rfl (by intro _ h; cases h; rfl) ⟨trivial, ⟨trivial, ⟨trivial, ⟨trivial, ⟨trivial, ⟨trivial, ⟨⟨⟨rfl, rfl⟩, trivial⟩, trivial⟩⟩⟩⟩⟩⟩⟩ ?_
  refine a_off (i := 10) hok rfl rfl rfl rfl rfl (by kernel_rfl) rfl rfl ?_
  refine a_off (i := 11) hok rfl rfl rfl rfl rfl (by kernel_rfl) rfl rfl ?_
  refine a_rd (i := 12) hok rfl (by kernel_rfl) rfl (r_pickF rfl rfl) rfl ?_
  refine a_next hok 13 [] (by kernel_rfl) ?_ trivial
  refine a_st (i := 13) hok rfl rfl (St.ofRd (r_assign rfl)) (by intro _ h; cases h; rfl) (fun _ => ⟨trivial, ⟨trivial, ⟨trivial, ⟨trivial, ⟨trivial, ⟨trivial, ⟨trivial, ⟨trivial, ⟨trivial, ⟨trivial, trivial⟩⟩⟩⟩⟩⟩⟩⟩⟩⟩) (fun _ => ?_)
  refine a_fin hok (by kernel_rfl) ?_
  refine n_then (ref_ret ?_)
  exact fin1 (.inl rfl) () [0] rfl ⟨rfl, trivial⟩ rfl (rv_tmp rfl)

end Go.Dc
