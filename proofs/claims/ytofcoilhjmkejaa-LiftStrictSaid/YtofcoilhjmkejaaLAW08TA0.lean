/- Part LAW08T.A0 of a proof: lemmas. -/
import Derived.Test.YtofcoilhjmkejaaLAW08TLay
import Derived.Test.YtofcoilhjmkejaaProg
set_option linter.unusedVariables false
set_option maxRecDepth 100000
set_option maxHeartbeats 4000000
namespace Go.Dc
open Go.Proofs
open Go.Proofs.Try (prog)

/-! deliberation/deliberationkeep.New -/
noncomputable def keep_New_m (l_0 : (List Int)) : Option (T_deliberationkeep_Src) :=
  Option.bind (slM l_0 0 (imin (l_0.length : Int) 2000)) fun t1 =>
  some (T_deliberationkeep_Src.mk t1 0)

theorem keep_New_ok {l_0 : (List Int)} {r : T_deliberationkeep_Src} (hm : keep_New_m l_0 = some r) :
    FnOk prog 8 [slv (rI .i64) l_0] [] (fun (x : Nat) => [pv (ptr x 0)]) (fun (x : Nat) => [oc x [slv (rI .i64) r.L, iv .i64 r.At]]) := by
  refine fn_ok (X := Nat) (fn := Try.f8) (N := 10) (res := fun r x => [pv (ptr x 0)]) (Ω1 := fun r x => [oc x [slv (rI .i64) r.L, iv .i64 r.At]]) Try.func8 rfl rfl hm rfl (fun E hM => ?_)
  unfold keep_New_m
  refine ref_seq (ref_region ?_)
  refine as1 rfl rfl ?_
  refine l_nil (n_then (ref_seq (ref_region ?_)))
  refine mv1 rfl rfl ?_
  refine mv1 rfl rfl ?_
  refine s_rd (r_len Try.underlying22 rfl) rfl ?_
  refine s_rd (r_min rfl rfl) rfl ?_
  refine pull fun t1 h_t1 => ?_
  refine s_rd (r_slice h_t1 Try.underlying22 el_3 rfl .dft (.of rfl)) rfl ?_
  refine s_rd (r_build (ps := [(0, .tmp 7)]) (rs := [(0, [slv (rI .i64) t1])]) st_57 zs_57 ⟨rfl, (part_at rfl slv_at), trivial⟩ rfl rfl) rfl ?_
  refine s_st (s_box (part_agO (ψs := [slv (rI .i64) t1, iv .i64 0]) rfl ⟨.inl slv_at, .inl iv_at, trivial⟩)) rfl (fun b2 => ?_)
  refine as1 rfl rfl ?_
  refine l_nil (n_then (ref_ret ?_))
  exact fin1 (.inl rfl) b2 [0] rfl ⟨rfl, trivial⟩ rfl (rv_tmp rfl)

/-! (*deliberation/deliberationkeep.Src).Raw -/
noncomputable def keep_Src_Raw_m (s_0 : T_deliberationkeep_Src) : Option (Int × T_deliberationkeep_Src) :=
  bif decide (s_0.At ≥ (s_0.L.length : Int)) then
    some (0, s_0)
  else
    Option.bind (idxM s_0.L (isub .i64 (iadd .i64 s_0.At 1) 1)) fun t2 =>
    some (t2, (T_deliberationkeep_Src.mk s_0.L (iadd .i64 s_0.At 1)))

theorem keep_Src_Raw_ok {s_0 : T_deliberationkeep_Src} {b_0 : Nat} {r : Int × T_deliberationkeep_Src} (hm : keep_Src_Raw_m s_0 = some r) :
    FnOk prog 27 [pv (ptr b_0 0)] [oc b_0 [slv (rI .i64) s_0.L, iv .i64 s_0.At]] (fun (x : Unit) => [iv .i64 r.1]) (fun (x : Unit) => [oc b_0 [slv (rI .i64) r.2.L, iv .i64 r.2.At]]) := by
  refine fn_ok (fn := Try.f27) (N := 31) (res := fun r x => [iv .i64 r.1]) (Ω1 := fun r x => [oc b_0 [slv (rI .i64) r.2.L, iv .i64 r.2.At]]) Try.func27 rfl rfl hm rfl (fun E hM => ?_)
  unfold keep_Src_Raw_m
  refine ref_seq (ref_region ?_)
  refine as1 rfl rfl ?_
  refine l_nil (n_then (ref_seq (ref_seq ?_)))
  refine ref_draw [0, 1, 2, 3, 4, 5, 6, 7, 8, 9] rfl (by kernel_rfl) (fun hok => ?_)
  refine a_rd (i := 0) hok rfl (by kernel_rfl) rfl (r_move rfl) rfl ?_
  refine a_rd (i := 1) hok rfl (by kernel_rfl) rfl (r_nilc rfl) rfl ?_
  refine a_rd (i := 2) hok rfl (by kernel_rfl) rfl (r_faddr (fo := 1) Try.underlying57 rfl rfl Try.sizeOf3 rfl) rfl ?_
  refine a_rd (i := 3) hok rfl (by kernel_rfl) rfl (r_cload Try.isAgg3 rfl (j := 0) rfl rfl) rfl ?_
  refine a_rd (i := 4) hok rfl (by kernel_rfl) rfl (r_move rfl) rfl ?_
  refine a_rd (i := 5) hok rfl (by kernel_rfl) rfl (r_nilc rfl) rfl ?_
  refine a_rd (i := 6) hok rfl (by kernel_rfl) rfl (r_faddr (fo := 0) Try.underlying57 rfl rfl Try.sizeOf22 rfl) rfl ?_
  refine a_rd (i := 7) hok rfl (by kernel_rfl) rfl (r_cload Try.isAgg22 rfl (j := 0) rfl rfl) rfl ?_
  refine a_rd (i := 8) hok rfl (by kernel_rfl) rfl (r_len Try.underlying22 rfl) rfl ?_
  refine a_rd (i := 9) hok rfl (by kernel_rfl) rfl (r_geq rfl rfl) rfl ?_
  refine a_fin hok (by kernel_rfl) ?_
  refine n_then ?_
  refine ref_cond rfl (fun hb1 => ?_) (fun hb1 => ?_)
  · refine ref_seq (ref_region ?_)
    refine as1 rfl rfl ?_
    refine l_nil (n_then (ref_ret (r_then ?_)))
    exact fin1 (.inl rfl) () [0] rfl ⟨rfl, trivial⟩ rfl (rv_tmp rfl)
  refine ref_skip (n_then (ref_seq (ref_region ?_)))
  refine mv1 rfl rfl ?_
  refine s_rd (r_nilc rfl) rfl ?_
  refine s_rd (r_faddr (fo := 1) Try.underlying57 rfl rfl Try.sizeOf3 rfl) rfl ?_
  refine s_rd (r_cload Try.isAgg3 rfl (j := 0) rfl rfl) rfl ?_
  refine s_rd (r_add rfl rfl) rfl ?_
  refine s_rd (r_nilc rfl) rfl ?_
  refine s_rd (r_faddr (fo := 1) Try.underlying57 rfl rfl Try.sizeOf3 rfl) rfl ?_
  refine s_st0 (s_cstore (out := [slv (rI .i64) s_0.L, iv .i64 (iadd .i64 s_0.At 1)]) Try.sizeOf3 rfl (j := 0) rfl (part_at rfl iv_at) rfl rfl rfl) (fun _ => ?_)
  refine l_nil (n_then (ref_seq ?_))
  refine ref_draw [0, 1, 2, 3, 4, 5, 6, 7, 8, 9, 10] rfl (by kernel_rfl) (fun hok => ?_)
  refine a_rd (i := 0) hok rfl (by kernel_rfl) rfl (r_move rfl) rfl ?_
  refine a_rd (i := 1) hok rfl (by kernel_rfl) rfl (r_nilc rfl) rfl ?_
  refine a_rd (i := 2) hok rfl (by kernel_rfl) rfl (r_faddr (fo := 0) Try.underlying57 rfl rfl Try.sizeOf22 rfl) rfl ?_
  refine a_rd (i := 3) hok rfl (by kernel_rfl) rfl (r_cload Try.isAgg22 rfl (j := 0) rfl rfl) rfl ?_
  refine a_rd (i := 4) hok rfl (by kernel_rfl) rfl (r_move rfl) rfl ?_
  refine a_rd (i := 5) hok rfl (by kernel_rfl) rfl (r_nilc rfl) rfl ?_
  refine a_rd (i := 6) hok rfl (by kernel_rfl) rfl (r_faddr (fo := 1) Try.underlying57 rfl rfl Try.sizeOf3 rfl) rfl ?_
  refine a_rd (i := 7) hok rfl (by kernel_rfl) rfl (r_cload Try.isAgg3 rfl (j := 0) rfl rfl) rfl ?_
  refine a_rd (i := 8) hok rfl (by kernel_rfl) rfl (r_sub rfl rfl) rfl ?_
  refine pull fun t2 h_t2 => ?_
  refine a_rd (i := 9) hok rfl (by kernel_rfl) rfl (r_index h_t2 Try.underlying22 el_3 rfl rfl) rfl ?_
  refine a_rd (i := 10) hok rfl (by kernel_rfl) rfl (r_load el_3 rfl) rfl ?_
  refine a_next hok 11 [] (by kernel_rfl) ?_ trivial
  refine a_st (i := 11) hok rfl rfl (St.ofRd (r_assign rfl)) (by intro _ h; cases h; rfl) (fun _ => ⟨trivial, ⟨trivial, ⟨trivial, ⟨trivial, ⟨trivial, ⟨trivial, ⟨trivial, ⟨trivial, ⟨trivial, ⟨trivial, ⟨trivial, trivial⟩⟩⟩⟩⟩⟩⟩⟩⟩⟩⟩) (fun _ => ?_)
  refine a_fin hok (by kernel_rfl) ?_
  refine n_then (ref_ret ?_)
  exact fin1 (.inl rfl) () [0] rfl ⟨rfl, trivial⟩ rfl (rv_tmp rfl)

/-! deliberation/deliberationkeep.Mod -/
noncomputable def keep_Mod_m (x_0 : Int) (n_1 : Int) : Option (Int) :=
  bif decide (n_1 < 1) then
    some 0
  else
    Option.bind (iremM .i64 x_0 n_1) fun x2 =>
    bif decide (x2 < 0) then
      letM (iadd .i64 x2 n_1) fun x4 =>
      some x4
    else
      some x2

theorem keep_Mod_ok {x_0 : Int} {n_1 : Int} {r : Int} (hm : keep_Mod_m x_0 n_1 = some r) :
    FnOk prog 26 [iv .i64 x_0, iv .i64 n_1] [] (fun (x : Unit) => [iv .i64 r]) (fun (x : Unit) => []) := by
  refine fn_ok (fn := Try.f26) (N := 16) (res := fun r x => [iv .i64 r]) (Ω1 := fun r x => []) Try.func26 rfl rfl hm rfl (fun E hM => ?_)
  unfold keep_Mod_m
  refine ref_seq (ref_region ?_)
  refine as1 rfl rfl ?_
  refine l_nil (n_then (ref_seq (ref_seq (ref_region ?_))))
  refine mv1 rfl rfl ?_
  refine s_rd (r_lss rfl rfl) rfl ?_
  refine l_nil (n_then ?_)
  refine ref_cond rfl (fun hb1 => ?_) (fun hb1 => ?_)
  · refine ref_seq (ref_region ?_)
    refine as1 rfl rfl ?_
    refine l_nil (n_then (ref_ret (r_then ?_)))
    exact fin1 (.inl rfl) () [] rfl trivial rfl (rv_tmp rfl)
  refine ref_skip (n_then (ref_seq (ref_region ?_)))
  refine mv1 rfl rfl ?_
  refine mv1 rfl rfl ?_
  refine pull fun x2 h_x2 => ?_
  refine s_rd (r_remM h_x2 rfl rfl) rfl ?_
  refine as1 rfl rfl ?_
  refine l_nil (n_then (ref_seq (ref_seq (ref_region ?_))))
  refine mv1 rfl rfl ?_
  refine s_rd (r_lss rfl rfl) rfl ?_
  refine l_nil (n_then ?_)
  refine ref_cond rfl (fun hb3 => ?_) (fun hb3 => ?_)
  · refine ref_region ?_
    refine mv1 rfl rfl ?_
    refine mv1 rfl rfl ?_
    refine s_rd (r_add rfl rfl) rfl ?_
    refine as1 rfl rfl ?_
    refine b_let (f := iv .i64) (t := 0) rfl fun x4 => ?_
    refine l_nil (n_then (ref_seq (ref_region ?_)))
    refine mv1 rfl rfl ?_
    refine as1 rfl rfl ?_
    refine l_nil (n_then (ref_ret ?_))
    exact fin1 (.inl rfl) () [] rfl trivial rfl (rv_tmp rfl)
  refine ref_skip (n_then (ref_seq (ref_region ?_)))
  refine mv1 rfl rfl ?_
  refine as1 rfl rfl ?_
  refine l_nil (n_then (ref_ret ?_))
  exact fin1 (.inl rfl) () [] rfl trivial rfl (rv_tmp rfl)

/-! (*deliberation/deliberationkeep.Src).N -/
noncomputable def keep_Src_N_m (s_0 : T_deliberationkeep_Src) (n_1 : Int) : Option (Int × T_deliberationkeep_Src) :=
  Option.bind (keep_Src_Raw_m s_0) fun t1 =>
  Option.bind (keep_Mod_m t1.1 n_1) fun t2 =>
  some (t2, t1.2)

theorem keep_Src_N_ok {s_0 : T_deliberationkeep_Src} {n_1 : Int} {b_0 : Nat} {r : Int × T_deliberationkeep_Src} (hm : keep_Src_N_m s_0 n_1 = some r) :
    FnOk prog 9 [pv (ptr b_0 0), iv .i64 n_1] [oc b_0 [slv (rI .i64) s_0.L, iv .i64 s_0.At]] (fun (x : Unit) => [iv .i64 r.1]) (fun (x : Unit) => [oc b_0 [slv (rI .i64) r.2.L, iv .i64 r.2.At]]) := by
  refine fn_ok (fn := Try.f9) (N := 9) (res := fun r x => [iv .i64 r.1]) (Ω1 := fun r x => [oc b_0 [slv (rI .i64) r.2.L, iv .i64 r.2.At]]) Try.func9 rfl rfl hm rfl (fun E hM => ?_)
  unfold keep_Src_N_m
  refine ref_seq (ref_region ?_)
  refine as1 rfl rfl ?_
  refine l_nil (n_then (ref_seq (ref_region ?_)))
  refine mv1 rfl rfl ?_
  refine pull fun t1 h_t1 => ?_
  refine s_st (s_callC [0] [true] (fun (_ : Unit) => [oc b_0 [slv (rI .i64) t1.2.L, iv .i64 t1.2.At]]) (fun (_ : Unit) => []) (fun (_ : Unit) => iv .i64 t1.1) (args := [.tmp 5]) (caps := []) Try.call27 rfl (keep_Src_Raw_ok h_t1) ⟨rfl, rfl, trivial⟩ (fun _ => rfl) (fun _ => trivial) (fun _ => rfl) ⟨arg rfl, trivial⟩ (fun _ _ _ _ h => h)) rfl (fun _ => ?_)
  refine mv1 rfl rfl ?_
  refine pull fun t2 h_t2 => ?_
  refine s_st (s_call (ψ := fun (_ : Unit) => iv .i64 t2) (args := [.tmp 6, .tmp 7]) Try.call26 rfl (keep_Mod_ok h_t2) ⟨arg rfl, arg rfl, trivial⟩ (fun _ _ _ _ h => h)) rfl (fun _ => ?_)
  refine as1 rfl rfl ?_
  refine l_nil (n_then (ref_ret ?_))
  exact fin1 (.inl rfl) () [0] rfl ⟨rfl, trivial⟩ rfl (rv_tmp rfl)

/-! slices.Min[[]int,int] -/
noncomputable def slices_Min_int_int_l1 (x_0 : (List Int)) (s7 : Int × Int) : Option (Sum (Int) (Int × Int)) :=
  bif decide (s7.2 < (x_0.length : Int)) then
    Option.bind (idxM x_0 s7.2) fun t10 =>
    letM (iadd .i64 s7.2 1) fun i11 =>
    some (Sum.inr (imin s7.1 t10, i11))
  else
    some (Sum.inl s7.1)

noncomputable def slices_Min_int_int_m (x_0 : (List Int)) : Option (Int) :=
  bif decide ((x_0.length : Int) < 1) then
    none
  else
    Option.bind (idxM x_0 0) fun m2 =>
    Option.bind (loopC (slices_Min_int_int_l1 x_0) (m2, 1)) fun q12 : Int =>
    some q12

theorem slices_Min_int_int_ok {x_0 : (List Int)} {r : Int} (hm : slices_Min_int_int_m x_0 = some r) :
    FnOk prog 28 [slv (rI .i64) x_0] [] (fun (x : Unit) => [iv .i64 r]) (fun (x : Unit) => []) := by
  refine fn_ok (fn := Try.f28) (N := 25) (res := fun r x => [iv .i64 r]) (Ω1 := fun r x => []) Try.func28 rfl rfl hm rfl (fun E hM => ?_)
  unfold slices_Min_int_int_m
  refine ref_seq (ref_region ?_)
  refine as1 rfl rfl ?_
  refine l_nil (n_then (ref_seq (ref_seq (ref_region ?_))))
  refine mv1 rfl rfl ?_
  refine s_rd (r_len Try.underlying22 rfl) rfl ?_
  refine s_rd (r_lss rfl rfl) rfl ?_
  refine l_nil (n_then ?_)
  refine ref_cond rfl (fun hb1 => ?_) (fun hb1 => ?_)
  · refine ref_region ?_
    exact pnone
  refine ref_skip (n_then (ref_seq (ref_region ?_)))
  refine mv1 rfl rfl ?_
  refine pull fun m2 h_m2 => ?_
  refine s_rd (r_index h_m2 Try.underlying22 el_3 rfl rfl) rfl ?_
  refine s_rd (r_load el_3 rfl) rfl ?_
  refine as1 rfl rfl ?_
  refine l_nil (n_then (ref_seq (ref_seq (ref_region ?_))))
  refine as1 rfl rfl ?_
  refine l_nil (n_then ?_)
  refine ref_loopB (f := (slices_Min_int_int_l1 x_0)) (Γl := (fun (s7 : Int × Int) (x8 : Unit) => [(0, slv (rI .i64) x_0), (3, iv .i64 s7.1), (4, iv .i64 s7.2)])) (Ωl := (fun (s7 : Int × Int) (x8 : Unit) => [])) (Γb := (fun (q12 : Int) (y13 : Unit) => [(3, iv .i64 q12)])) (Ωb := (fun (q12 : Int) (y13 : Unit) => [])) (m2, 1) () (weak [] ⟨rfl, rfl, rfl, trivial⟩ trivial) (fun s7 x8 => ?_) (fun q12 y13 => ?_)
  · unfold slices_Min_int_int_l1
    refine ref_seq (ref_seq (ref_region ?_))
    refine mv1 rfl rfl ?_
    refine mv1 rfl rfl ?_
    refine s_rd (r_len Try.underlying22 rfl) rfl ?_
    refine s_rd (r_lss rfl rfl) rfl ?_
    refine l_nil (n_then ?_)
    refine ref_cond rfl (fun hb9 => ?_) (fun hb9 => ?_)
    · refine ref_skip (n_then (ref_seq (ref_block (ref_region ?_))))
      refine mv1 rfl rfl ?_
      refine mv1 rfl rfl ?_
      refine mv1 rfl rfl ?_
      refine pull fun t10 h_t10 => ?_
      refine s_rd (r_index h_t10 Try.underlying22 el_3 rfl rfl) rfl ?_
      refine s_rd (r_load el_3 rfl) rfl ?_
      refine s_rd (r_min rfl rfl) rfl ?_
      refine as1 rfl rfl ?_
      refine l_nil (n_block (n_then (ref_region ?_)))
      refine mv1 rfl rfl ?_
      refine s_rd (r_add rfl rfl) rfl ?_
      refine as1 rfl rfl ?_
      refine b_let (f := iv .i64) (t := 4) rfl fun i11 => ?_
      refine l_nil ?_
      exact goB () (weak [] ⟨rfl, rfl, rfl, trivial⟩ trivial)
    refine ref_exit (x_then ?_)
    exact brkB () (weak [] ⟨rfl, trivial⟩ trivial)
  refine n_then (ref_seq (ref_region ?_))
  refine mv1 rfl rfl ?_
  refine as1 rfl rfl ?_
  refine l_nil (n_then (ref_ret ?_))
  exact fin1 (.inl rfl) () [] rfl trivial rfl (rv_tmp rfl)

/-! slices.Max[[]int,int] -/
noncomputable def slices_Max_int_int_l1 (x_0 : (List Int)) (s7 : Int × Int) : Option (Sum (Int) (Int × Int)) :=
  bif decide (s7.2 < (x_0.length : Int)) then
    Option.bind (idxM x_0 s7.2) fun t10 =>
    letM (iadd .i64 s7.2 1) fun i11 =>
    some (Sum.inr (imax s7.1 t10, i11))
  else
    some (Sum.inl s7.1)

noncomputable def slices_Max_int_int_m (x_0 : (List Int)) : Option (Int) :=
  bif decide ((x_0.length : Int) < 1) then
    none
  else
    Option.bind (idxM x_0 0) fun m2 =>
    Option.bind (loopC (slices_Max_int_int_l1 x_0) (m2, 1)) fun q12 : Int =>
    some q12

theorem slices_Max_int_int_ok {x_0 : (List Int)} {r : Int} (hm : slices_Max_int_int_m x_0 = some r) :
    FnOk prog 29 [slv (rI .i64) x_0] [] (fun (x : Unit) => [iv .i64 r]) (fun (x : Unit) => []) := by
  refine fn_ok (fn := Try.f29) (N := 25) (res := fun r x => [iv .i64 r]) (Ω1 := fun r x => []) Try.func29 rfl rfl hm rfl (fun E hM => ?_)
  unfold slices_Max_int_int_m
  refine ref_seq (ref_region ?_)
  refine as1 rfl rfl ?_
  refine l_nil (n_then (ref_seq (ref_seq (ref_region ?_))))
  refine mv1 rfl rfl ?_
  refine s_rd (r_len Try.underlying22 rfl) rfl ?_
  refine s_rd (r_lss rfl rfl) rfl ?_
  refine l_nil (n_then ?_)
  refine ref_cond rfl (fun hb1 => ?_) (fun hb1 => ?_)
  · refine ref_region ?_
    exact pnone
  refine ref_skip (n_then (ref_seq (ref_region ?_)))
  refine mv1 rfl rfl ?_
  refine pull fun m2 h_m2 => ?_
  refine s_rd (r_index h_m2 Try.underlying22 el_3 rfl rfl) rfl ?_
  refine s_rd (r_load el_3 rfl) rfl ?_
  refine as1 rfl rfl ?_
  refine l_nil (n_then (ref_seq (ref_seq (ref_region ?_))))
  refine as1 rfl rfl ?_
  refine l_nil (n_then ?_)
  refine ref_loopB (f := (slices_Max_int_int_l1 x_0)) (Γl := (fun (s7 : Int × Int) (x8 : Unit) => [(0, slv (rI .i64) x_0), (3, iv .i64 s7.1), (4, iv .i64 s7.2)])) (Ωl := (fun (s7 : Int × Int) (x8 : Unit) => [])) (Γb := (fun (q12 : Int) (y13 : Unit) => [(3, iv .i64 q12)])) (Ωb := (fun (q12 : Int) (y13 : Unit) => [])) (m2, 1) () (weak [] ⟨rfl, rfl, rfl, trivial⟩ trivial) (fun s7 x8 => ?_) (fun q12 y13 => ?_)
  · unfold slices_Max_int_int_l1
    refine ref_seq (ref_seq (ref_region ?_))
    refine mv1 rfl rfl ?_
    refine mv1 rfl rfl ?_
    refine s_rd (r_len Try.underlying22 rfl) rfl ?_
    refine s_rd (r_lss rfl rfl) rfl ?_
    refine l_nil (n_then ?_)
    refine ref_cond rfl (fun hb9 => ?_) (fun hb9 => ?_)
    · refine ref_skip (n_then (ref_seq (ref_block (ref_region ?_))))
      refine mv1 rfl rfl ?_
      refine mv1 rfl rfl ?_
      refine mv1 rfl rfl ?_
      refine pull fun t10 h_t10 => ?_
      refine s_rd (r_index h_t10 Try.underlying22 el_3 rfl rfl) rfl ?_
      refine s_rd (r_load el_3 rfl) rfl ?_
      refine s_rd (r_max rfl rfl) rfl ?_
      refine as1 rfl rfl ?_
      refine l_nil (n_block (n_then (ref_region ?_)))
      refine mv1 rfl rfl ?_
      refine s_rd (r_add rfl rfl) rfl ?_
      refine as1 rfl rfl ?_
      refine b_let (f := iv .i64) (t := 4) rfl fun i11 => ?_
      refine l_nil ?_
      exact goB () (weak [] ⟨rfl, rfl, rfl, trivial⟩ trivial)
    refine ref_exit (x_then ?_)
    exact brkB () (weak [] ⟨rfl, trivial⟩ trivial)
  refine n_then (ref_seq (ref_region ?_))
  refine mv1 rfl rfl ?_
  refine as1 rfl rfl ?_
  refine l_nil (n_then (ref_ret ?_))
  exact fin1 (.inl rfl) () [] rfl trivial rfl (rv_tmp rfl)

/-! deliberation/lift.SetLess -/
noncomputable def lift_SetLess_m (a__0 : (List Int)) (b_1 : (List Int)) (lift_2 : Int) : Option (Bool) :=
  joinM (fun j3 : Unit =>
      letM ((b_1.length : Int) == 0) fun t6 =>
      bif t6 then
        some true
      else
        bif lift_2 == 1 then
          Option.bind (slices_Min_int_int_m a__0) fun t9 =>
          Option.bind (slices_Min_int_int_m b_1) fun t10 =>
          letM (decide (t9 < t10)) fun t11 =>
          some t11
        else
          Option.bind (slices_Max_int_int_m a__0) fun t12 =>
          Option.bind (slices_Max_int_int_m b_1) fun t13 =>
          letM (decide (t12 < t13)) fun t14 =>
          some t14) fun k5 =>
  bif lift_2 != 1 then
    bif lift_2 != 2 then
      some false
    else
      bif (a__0.length : Int) == 0 then
        some false
      else
        k5 ()
  else
    bif (a__0.length : Int) == 0 then
      some false
    else
      k5 ()

theorem lift_SetLess_ok {a__0 : (List Int)} {b_1 : (List Int)} {lift_2 : Int} {r : Bool} (hm : lift_SetLess_m a__0 b_1 lift_2 = some r) :
    FnOk prog 10 [slv (rI .i64) a__0, slv (rI .i64) b_1, iv .i64 lift_2] [] (fun (x : Unit) => [bv r]) (fun (x : Unit) => []) := by
  refine fn_ok (fn := Try.f10) (N := 35) (res := fun r x => [bv r]) (Ω1 := fun r x => []) Try.func10 rfl rfl hm rfl (fun E hM => ?_)
  unfold lift_SetLess_m
  refine ref_seq (ref_region ?_)
  refine as1 rfl rfl ?_
  refine l_nil (n_then (ref_seq ?_))
  refine ref_join (fun (j3 : Unit) (x4 : Unit) => [(0, slv (rI .i64) a__0), (1, slv (rI .i64) b_1), (2, iv .i64 lift_2)]) (fun (j3 : Unit) (x4 : Unit) => []) (fun k5 hk5 => ?_) (fun j3 x4 => ?_)
  · refine ref_seq (ref_region ?_)
    refine mv1 rfl rfl ?_
    refine s_rd (r_neq rfl rfl) rfl ?_
    refine mv1 rfl rfl ?_
    refine b_split (t := 9) rfl (fun _ => ?_) (fun _ => ?_)
    · refine s_on rfl rfl rfl ?_
      refine mv1 rfl rfl ?_
      refine s_on rfl rfl rfl ?_
      refine s_rd (r_neq rfl rfl) rfl ?_
      refine s_rd (r_pickT rfl rfl) rfl ?_
      refine mv1 rfl rfl ?_
      refine b_split (t := 13) rfl (fun _ => ?_) (fun _ => ?_)
      · refine s_off rfl rfl rfl rfl rfl ?_
        refine s_off rfl rfl rfl rfl rfl ?_
        refine s_off rfl rfl rfl rfl rfl ?_
        refine s_rd (r_pickT rfl rfl) rfl ?_
        refine l_nil (n_then ?_)
        refine ref_condT rfl rfl ?_
        refine ref_seq (ref_region ?_)
        refine as1 rfl rfl ?_
        refine l_nil (n_then (ref_ret (r_then ?_)))
        exact fin1 (.inl rfl) () [] rfl trivial rfl (rv_tmp rfl)
      refine s_on rfl rfl rfl ?_
      refine mv1 rfl rfl ?_
      refine s_on rfl rfl rfl ?_
      refine s_rd (r_len Try.underlying22 rfl) rfl ?_
      refine s_on rfl rfl rfl ?_
      refine s_rd (r_eql rfl rfl) rfl ?_
      refine s_rd (r_pickF rfl rfl) rfl ?_
      refine l_nil (n_then ?_)
      refine ref_cond rfl (fun hb1 => ?_) (fun hb1 => ?_)
      · refine ref_seq (ref_region ?_)
        refine as1 rfl rfl ?_
        refine l_nil (n_then (ref_ret (r_then ?_)))
        exact fin1 (.inl rfl) () [] rfl trivial rfl (rv_tmp rfl)
      refine ref_skip ?_
      exact b_to (hk5 () ()) (weak [] ⟨rfl, rfl, rfl, trivial⟩ trivial)
    refine s_off rfl rfl rfl rfl rfl ?_
    refine s_off rfl rfl rfl rfl rfl ?_
    refine s_rd (r_pickF rfl rfl) rfl ?_
    refine mv1 rfl rfl ?_
    refine s_on rfl rfl rfl ?_
    refine mv1 rfl rfl ?_
    refine s_on rfl rfl rfl ?_
    refine s_rd (r_len Try.underlying22 rfl) rfl ?_
    refine s_on rfl rfl rfl ?_
    refine s_rd (r_eql rfl rfl) rfl ?_
    refine s_rd (r_pickF rfl rfl) rfl ?_
    refine l_nil (n_then ?_)
    refine ref_cond rfl (fun hb2 => ?_) (fun hb2 => ?_)
    · refine ref_seq (ref_region ?_)
      refine as1 rfl rfl ?_
      refine l_nil (n_then (ref_ret (r_then ?_)))
      exact fin1 (.inl rfl) () [] rfl trivial rfl (rv_tmp rfl)
    refine ref_skip ?_
    exact b_to (hk5 () ()) (weak [] ⟨rfl, rfl, rfl, trivial⟩ trivial)
  refine n_then (ref_seq (ref_block (ref_seq (ref_region ?_))))
  refine mv1 rfl rfl ?_
  refine s_rd (r_len Try.underlying22 rfl) rfl ?_
  refine s_rd (r_eql rfl rfl) rfl ?_
  refine as1 rfl rfl ?_
  refine b_let (f := bv) (t := 18) rfl fun t6 => ?_
  refine l_nil (n_then ?_)
  refine ref_cond rfl (fun hb7 => ?_) (fun hb7 => ?_)
  · refine ref_seq (ref_region ?_)
    refine as1 rfl rfl ?_
    refine l_nil (n_then (ref_ret (r_block (r_then ?_))))
    exact fin1 (.inl rfl) () [] rfl trivial rfl (rv_tmp rfl)
  refine ref_seq (ref_region ?_)
  refine mv1 rfl rfl ?_
  refine s_rd (r_eql rfl rfl) rfl ?_
  refine as1 rfl rfl ?_
  refine l_nil (n_then ?_)
  refine ref_cond rfl (fun hb8 => ?_) (fun hb8 => ?_)
  · refine ref_seq (ref_region ?_)
    refine mv1 rfl rfl ?_
    refine pull fun t9 h_t9 => ?_
    refine s_st (s_call (ψ := fun (_ : Unit) => iv .i64 t9) (args := [.tmp 25]) Try.call28 rfl (slices_Min_int_int_ok h_t9) ⟨arg rfl, trivial⟩ (fun _ _ _ _ h => h)) rfl (fun _ => ?_)
    refine mv1 rfl rfl ?_
    refine pull fun t10 h_t10 => ?_
    refine s_st (s_call (ψ := fun (_ : Unit) => iv .i64 t10) (args := [.tmp 27]) Try.call28 rfl (slices_Min_int_int_ok h_t10) ⟨arg rfl, trivial⟩ (fun _ _ _ _ h => h)) rfl (fun _ => ?_)
    refine s_rd (r_lss rfl rfl) rfl ?_
    refine as1 rfl rfl ?_
    refine b_let (f := bv) (t := 6) rfl fun t11 => ?_
    refine l_nil (n_then (ref_ret (r_block (r_then ?_))))
    exact fin1 (.inl rfl) () [] rfl trivial rfl (rv_tmp rfl)
  refine ref_skip (n_block (n_then (ref_seq (ref_region ?_))))
  refine mv1 rfl rfl ?_
  refine pull fun t12 h_t12 => ?_
  refine s_st (s_call (ψ := fun (_ : Unit) => iv .i64 t12) (args := [.tmp 30]) Try.call29 rfl (slices_Max_int_int_ok h_t12) ⟨arg rfl, trivial⟩ (fun _ _ _ _ h => h)) rfl (fun _ => ?_)
  refine mv1 rfl rfl ?_
  refine pull fun t13 h_t13 => ?_
  refine s_st (s_call (ψ := fun (_ : Unit) => iv .i64 t13) (args := [.tmp 32]) Try.call29 rfl (slices_Max_int_int_ok h_t13) ⟨arg rfl, trivial⟩ (fun _ _ _ _ h => h)) rfl (fun _ => ?_)
  refine s_rd (r_lss rfl rfl) rfl ?_
  refine as1 rfl rfl ?_
  refine b_let (f := bv) (t := 6) rfl fun t14 => ?_
  refine l_nil (n_then (ref_ret ?_))
  exact fin1 (.inl rfl) () [] rfl trivial rfl (rv_tmp rfl)

/-! deliberation/deliberationref08.extremes -/
noncomputable def ref08_extremes_l1 (l_0 : (List Int)) (s8 : Int × Int × Int) : Option (Sum (Int × Int) (Int × Int × Int)) :=
  bif decide (s8.2.2 < (l_0.length : Int)) then
    Option.bind (idxM l_0 s8.2.2) fun t11 =>
    Option.bind (idxM l_0 s8.2.2) fun t12 =>
    letM (iadd .i64 s8.2.2 1) fun i13 =>
    some (Sum.inr (imin s8.1 t11, imax s8.2.1 t12, i13))
  else
    some (Sum.inl (s8.1, s8.2.1))

noncomputable def ref08_extremes_m (l_0 : (List Int)) : Option (Int × Int) :=
  Option.bind (idxM l_0 0) fun lo1 =>
  Option.bind (idxM l_0 0) fun hi2 =>
  Option.bind (loopC (ref08_extremes_l1 l_0) (lo1, hi2, 1)) fun q14 : Int × Int =>
  some (q14.1, q14.2)

theorem ref08_extremes_ok {l_0 : (List Int)} {r : Int × Int} (hm : ref08_extremes_m l_0 = some r) :
    FnOk prog 30 [slv (rI .i64) l_0] [] (fun (x : Unit) => [iv .i64 r.1, iv .i64 r.2]) (fun (x : Unit) => []) := by
  refine fn_ok (fn := Try.f30) (N := 33) (res := fun r x => [iv .i64 r.1, iv .i64 r.2]) (Ω1 := fun r x => []) Try.func30 rfl rfl hm rfl (fun E hM => ?_)
  unfold ref08_extremes_m
  refine ref_seq (ref_region ?_)
  refine as1 rfl rfl ?_
  refine as1 rfl rfl ?_
  refine l_nil (n_then (ref_seq ?_))
  refine ref_draw [0, 1, 2, 3, 4, 5] rfl (by kernel_rfl) (fun hok => ?_)
  refine a_rd (i := 0) hok rfl (by kernel_rfl) rfl (r_move rfl) rfl ?_
  refine pull fun lo1 h_lo1 => ?_
  refine a_rd (i := 1) hok rfl (by kernel_rfl) rfl (r_index h_lo1 Try.underlying22 el_3 rfl rfl) rfl ?_
  refine a_rd (i := 2) hok rfl (by kernel_rfl) rfl (r_load el_3 rfl) rfl ?_
  refine a_rd (i := 3) hok rfl (by kernel_rfl) rfl (r_move rfl) rfl ?_
  refine pull fun hi2 h_hi2 => ?_
  refine a_rd (i := 4) hok rfl (by kernel_rfl) rfl (r_index h_hi2 Try.underlying22 el_3 rfl rfl) rfl ?_
  refine a_rd (i := 5) hok rfl (by kernel_rfl) rfl (r_load el_3 rfl) rfl ?_
  refine a_next hok 6 [] (by kernel_rfl) ?_ trivial
  refine a_st (i := 6) hok rfl rfl (St.ofRd (r_assign rfl)) (by intro _ h; cases h; rfl) (fun _ => ⟨trivial, ⟨trivial, ⟨trivial, ⟨trivial, ⟨trivial, ⟨trivial, trivial⟩⟩⟩⟩⟩⟩) (fun _ => ?_)
  refine a_next hok 7 [] (by kernel_rfl) ?_ trivial
  refine a_st (i := 7) hok rfl rfl (St.ofRd (r_assign rfl)) (by intro _ h; cases h; rfl) (fun _ => ⟨trivial, ⟨trivial, ⟨trivial, ⟨trivial, ⟨trivial, ⟨trivial, trivial⟩⟩⟩⟩⟩⟩) (fun _ => ?_)
  refine a_fin hok (by kernel_rfl) ?_
  refine n_then (ref_seq (ref_seq (ref_region ?_)))
  refine as1 rfl rfl ?_
  refine l_nil (n_then ?_)
  refine ref_loopB (f := (ref08_extremes_l1 l_0)) (Γl := (fun (s8 : Int × Int × Int) (x9 : Unit) => [(0, slv (rI .i64) l_0), (4, iv .i64 s8.1), (5, iv .i64 s8.2.1), (6, iv .i64 s8.2.2)])) (Ωl := (fun (s8 : Int × Int × Int) (x9 : Unit) => [])) (Γb := (fun (q14 : Int × Int) (y15 : Unit) => [(4, iv .i64 q14.1), (5, iv .i64 q14.2)])) (Ωb := (fun (q14 : Int × Int) (y15 : Unit) => [])) (lo1, hi2, 1) () (weak [] ⟨rfl, rfl, rfl, rfl, trivial⟩ trivial) (fun s8 x9 => ?_) (fun q14 y15 => ?_)
  · unfold ref08_extremes_l1
    refine ref_seq (ref_seq (ref_region ?_))
    refine mv1 rfl rfl ?_
    refine mv1 rfl rfl ?_
    refine s_rd (r_len Try.underlying22 rfl) rfl ?_
    refine s_rd (r_lss rfl rfl) rfl ?_
    refine l_nil (n_then ?_)
    refine ref_cond rfl (fun hb10 => ?_) (fun hb10 => ?_)
    · refine ref_skip (n_then (ref_seq (ref_block ?_)))
      refine ref_draw [0, 1, 2, 3, 4, 5, 6, 7, 8, 9, 10, 11] rfl (by kernel_rfl) (fun hok => ?_)
      refine a_rd (i := 0) hok rfl (by kernel_rfl) rfl (r_move rfl) rfl ?_
      refine a_rd (i := 1) hok rfl (by kernel_rfl) rfl (r_move rfl) rfl ?_
      refine a_rd (i := 2) hok rfl (by kernel_rfl) rfl (r_move rfl) rfl ?_
      refine pull fun t11 h_t11 => ?_
      refine a_rd (i := 3) hok rfl (by kernel_rfl) rfl (r_index h_t11 Try.underlying22 el_3 rfl rfl) rfl ?_
      refine a_rd (i := 4) hok rfl (by kernel_rfl) rfl (r_load el_3 rfl) rfl ?_
      refine a_rd (i := 5) hok rfl (by kernel_rfl) rfl (r_min rfl rfl) rfl ?_
      refine a_rd (i := 6) hok rfl (by kernel_rfl) rfl (r_move rfl) rfl ?_
      refine a_rd (i := 7) hok rfl (by kernel_rfl) rfl (r_move rfl) rfl ?_
      refine a_rd (i := 8) hok rfl (by kernel_rfl) rfl (r_move rfl) rfl ?_
      refine pull fun t12 h_t12 => ?_
      refine a_rd (i := 9) hok rfl (by kernel_rfl) rfl (r_index h_t12 Try.underlying22 el_3 rfl rfl) rfl ?_
      refine a_rd (i := 10) hok rfl (by kernel_rfl) rfl (r_load el_3 rfl) rfl ?_
      refine a_rd (i := 11) hok rfl (by kernel_rfl) rfl (r_max rfl rfl) rfl ?_
      refine a_next hok 12 [] (by kernel_rfl) ?_ trivial
      refine a_st (i := 12) hok rfl rfl (St.ofRd (r_assign rfl)) (by intro _ h; cases h; rfl) (fun _ => ⟨trivial, ⟨trivial, ⟨trivial, ⟨trivial, ⟨trivial, ⟨trivial, ⟨trivial, ⟨trivial, ⟨trivial, ⟨trivial, ⟨trivial, ⟨trivial, trivial⟩⟩⟩⟩⟩⟩⟩⟩⟩⟩⟩⟩) (fun _ => ?_)
      refine a_next hok 13 [] (by kernel_rfl) ?_ trivial
      refine a_st (i := 13) hok rfl rfl (St.ofRd (r_assign rfl)) (by intro _ h; cases h; rfl) (fun _ => ⟨trivial, ⟨trivial, ⟨trivial, ⟨trivial, ⟨trivial, ⟨trivial, ⟨trivial, ⟨trivial, ⟨trivial, ⟨trivial, ⟨trivial, ⟨trivial, trivial⟩⟩⟩⟩⟩⟩⟩⟩⟩⟩⟩⟩) (fun _ => ?_)
      refine a_fin hok (by kernel_rfl) ?_
      refine n_block (n_then (ref_region ?_))
      refine mv1 rfl rfl ?_
      refine s_rd (r_add rfl rfl) rfl ?_
      refine as1 rfl rfl ?_
      refine b_let (f := iv .i64) (t := 6) rfl fun i13 => ?_
      refine l_nil ?_
      exact goB () (weak [] ⟨rfl, rfl, rfl, rfl, trivial⟩ trivial)
    refine ref_exit (x_then ?_)
    exact brkB () (weak [] ⟨rfl, rfl, trivial⟩ trivial)
  refine n_then (ref_seq (ref_region ?_))
  refine mv1 rfl rfl ?_
  refine mv1 rfl rfl ?_
  refine as1 rfl rfl ?_
  refine as1 rfl rfl ?_
  refine l_nil (n_then (ref_ret ?_))
  exact fin2 (.inl rfl) () [] rfl trivial rfl (rv_tmp rfl) (rv_tmp rfl)

/-! deliberation/deliberationref08.SetLess -/
noncomputable def ref08_SetLess_m (a__0 : (List Int)) (b_1 : (List Int)) (lift_2 : Int) : Option (Bool) :=
  joinM (fun j3 : Unit =>
      bif (b_1.length : Int) == 0 then
        some true
      else
        Option.bind (ref08_extremes_m a__0) fun t7 =>
        Option.bind (ref08_extremes_m b_1) fun t8 =>
        bif lift_2 == 1 then
          letM (decide (t7.1 < t8.1)) fun t10 =>
          some t10
        else
          letM (decide (t7.2 < t8.2)) fun t11 =>
          some t11) fun k5 =>
  bif lift_2 != 1 then
    bif lift_2 != 2 then
      some false
    else
      bif (a__0.length : Int) == 0 then
        some false
      else
        k5 ()
  else
    bif (a__0.length : Int) == 0 then
      some false
    else
      k5 ()

theorem ref08_SetLess_ok {a__0 : (List Int)} {b_1 : (List Int)} {lift_2 : Int} {r : Bool} (hm : ref08_SetLess_m a__0 b_1 lift_2 = some r) :
    FnOk prog 11 [slv (rI .i64) a__0, slv (rI .i64) b_1, iv .i64 lift_2] [] (fun (x : Unit) => [bv r]) (fun (x : Unit) => []) := by
  refine fn_ok (fn := Try.f11) (N := 43) (res := fun r x => [bv r]) (Ω1 := fun r x => []) Try.func11 rfl rfl hm rfl (fun E hM => ?_)
  unfold ref08_SetLess_m
  refine ref_seq (ref_region ?_)
  refine as1 rfl rfl ?_
  refine l_nil (n_then (ref_seq ?_))
  refine ref_join (fun (j3 : Unit) (x4 : Unit) => [(0, slv (rI .i64) a__0), (1, slv (rI .i64) b_1), (2, iv .i64 lift_2)]) (fun (j3 : Unit) (x4 : Unit) => []) (fun k5 hk5 => ?_) (fun j3 x4 => ?_)
  · refine ref_seq (ref_region ?_)
    refine mv1 rfl rfl ?_
    refine s_rd (r_neq rfl rfl) rfl ?_
    refine mv1 rfl rfl ?_
    refine b_split (t := 13) rfl (fun _ => ?_) (fun _ => ?_)
    · refine s_on rfl rfl rfl ?_
      refine mv1 rfl rfl ?_
      refine s_on rfl rfl rfl ?_
      refine s_rd (r_neq rfl rfl) rfl ?_
      refine s_rd (r_pickT rfl rfl) rfl ?_
      refine mv1 rfl rfl ?_
      refine b_split (t := 17) rfl (fun _ => ?_) (fun _ => ?_)
      · refine s_off rfl rfl rfl rfl rfl ?_
        refine s_off rfl rfl rfl rfl rfl ?_
        refine s_off rfl rfl rfl rfl rfl ?_
        refine s_rd (r_pickT rfl rfl) rfl ?_
        refine l_nil (n_then ?_)
        refine ref_condT rfl rfl ?_
        refine ref_seq (ref_region ?_)
        refine as1 rfl rfl ?_
        refine l_nil (n_then (ref_ret (r_then ?_)))
        exact fin1 (.inl rfl) () [] rfl trivial rfl (rv_tmp rfl)
      refine s_on rfl rfl rfl ?_
      refine mv1 rfl rfl ?_
      refine s_on rfl rfl rfl ?_
      refine s_rd (r_len Try.underlying22 rfl) rfl ?_
      refine s_on rfl rfl rfl ?_
      refine s_rd (r_eql rfl rfl) rfl ?_
      refine s_rd (r_pickF rfl rfl) rfl ?_
      refine l_nil (n_then ?_)
      refine ref_cond rfl (fun hb1 => ?_) (fun hb1 => ?_)
      · refine ref_seq (ref_region ?_)
        refine as1 rfl rfl ?_
        refine l_nil (n_then (ref_ret (r_then ?_)))
        exact fin1 (.inl rfl) () [] rfl trivial rfl (rv_tmp rfl)
      refine ref_skip ?_
      exact b_to (hk5 () ()) (weak [] ⟨rfl, rfl, rfl, trivial⟩ trivial)
    refine s_off rfl rfl rfl rfl rfl ?_
    refine s_off rfl rfl rfl rfl rfl ?_
    refine s_rd (r_pickF rfl rfl) rfl ?_
    refine mv1 rfl rfl ?_
    refine s_on rfl rfl rfl ?_
    refine mv1 rfl rfl ?_
    refine s_on rfl rfl rfl ?_
    refine s_rd (r_len Try.underlying22 rfl) rfl ?_
    refine s_on rfl rfl rfl ?_
    refine s_rd (r_eql rfl rfl) rfl ?_
    refine s_rd (r_pickF rfl rfl) rfl ?_
    refine l_nil (n_then ?_)
    refine ref_cond rfl (fun hb2 => ?_) (fun hb2 => ?_)
    · refine ref_seq (ref_region ?_)
      refine as1 rfl rfl ?_
      refine l_nil (n_then (ref_ret (r_then ?_)))
      exact fin1 (.inl rfl) () [] rfl trivial rfl (rv_tmp rfl)
    refine ref_skip ?_
    exact b_to (hk5 () ()) (weak [] ⟨rfl, rfl, rfl, trivial⟩ trivial)
  refine n_then (ref_seq (ref_seq (ref_region ?_)))
  refine mv1 rfl rfl ?_
  refine s_rd (r_len Try.underlying22 rfl) rfl ?_
  refine s_rd (r_eql rfl rfl) rfl ?_
  refine l_nil (n_then ?_)
  refine ref_cond rfl (fun hb6 => ?_) (fun hb6 => ?_)
  · refine ref_seq (ref_region ?_)
    refine as1 rfl rfl ?_
    refine l_nil (n_then (ref_ret (r_then ?_)))
    exact fin1 (.inl rfl) () [] rfl trivial rfl (rv_tmp rfl)
  refine ref_skip (n_then (ref_seq (ref_region ?_)))
  refine mv1 rfl rfl ?_
  refine pull fun t7 h_t7 => ?_
  refine s_st (s_call (ψ := fun (_ : Unit) => tup [iv .i64 t7.1, iv .i64 t7.2]) (args := [.tmp 26]) Try.call30 rfl (ref08_extremes_ok h_t7) ⟨arg rfl, trivial⟩ (fun _ _ _ _ h => h)) rfl (fun _ => ?_)
  refine mv1 rfl rfl ?_
  refine s_rd (r_extract rfl rfl) rfl ?_
  refine s_rd (r_extract rfl rfl) rfl ?_
  refine as1 rfl rfl ?_
  refine as1 rfl rfl ?_
  refine l_nil (n_then (ref_seq (ref_region ?_)))
  refine mv1 rfl rfl ?_
  refine pull fun t8 h_t8 => ?_
  refine s_st (s_call (ψ := fun (_ : Unit) => tup [iv .i64 t8.1, iv .i64 t8.2]) (args := [.tmp 31]) Try.call30 rfl (ref08_extremes_ok h_t8) ⟨arg rfl, trivial⟩ (fun _ _ _ _ h => h)) rfl (fun _ => ?_)
  refine mv1 rfl rfl ?_
  refine s_rd (r_extract rfl rfl) rfl ?_
  refine s_rd (r_extract rfl rfl) rfl ?_
  refine as1 rfl rfl ?_
  refine as1 rfl rfl ?_
  refine l_nil (n_then (ref_seq (ref_seq (ref_region ?_))))
  refine mv1 rfl rfl ?_
  refine s_rd (r_eql rfl rfl) rfl ?_
  refine l_nil (n_then ?_)
  refine ref_cond rfl (fun hb9 => ?_) (fun hb9 => ?_)
  · refine ref_seq (ref_region ?_)
    refine mv1 rfl rfl ?_
    refine mv1 rfl rfl ?_
    refine s_rd (r_lss rfl rfl) rfl ?_
    refine as1 rfl rfl ?_
    refine b_let (f := bv) (t := 6) rfl fun t10 => ?_
    refine l_nil (n_then (ref_ret (r_then ?_)))
    exact fin1 (.inl rfl) () [] rfl trivial rfl (rv_tmp rfl)
  refine ref_skip (n_then (ref_seq (ref_region ?_)))
  refine mv1 rfl rfl ?_
  refine mv1 rfl rfl ?_
  refine s_rd (r_lss rfl rfl) rfl ?_
  refine as1 rfl rfl ?_
  refine b_let (f := bv) (t := 6) rfl fun t11 => ?_
  refine l_nil (n_then (ref_ret ?_))
  exact fin1 (.inl rfl) () [] rfl trivial rfl (rv_tmp rfl)

/-! deliberation/deliberationref01.ValidName -/
noncomputable def ref01_ValidName_l1 (s_0 : ByteArray) (s21 : Int) : Option (Sum ((Sum (Bool) (Unit))) (Int)) :=
  bif decide (s21 < (s_0.size : Int)) then
    Option.bind (sidxM s_0 s21) fun t24 =>
    bif decide (t24 < 97) then
      Option.bind (sidxM s_0 s21) fun t25 =>
      bif decide (t25 < 48) then
        Option.bind (sidxM s_0 s21) fun t26 =>
        bif t26 != 95 then
          some (Sum.inl (Sum.inl false))
        else
          letM (iadd .i64 s21 1) fun i38 =>
          some (Sum.inr i38)
      else
        Option.bind (sidxM s_0 s21) fun t27 =>
        bif decide (t27 > 57) then
          Option.bind (sidxM s_0 s21) fun t28 =>
          bif t28 != 95 then
            some (Sum.inl (Sum.inl false))
          else
            letM (iadd .i64 s21 1) fun i39 =>
            some (Sum.inr i39)
        else
          letM (iadd .i64 s21 1) fun i40 =>
          some (Sum.inr i40)
    else
      Option.bind (sidxM s_0 s21) fun t29 =>
      bif decide (t29 > 122) then
        Option.bind (sidxM s_0 s21) fun t30 =>
        bif decide (t30 < 48) then
          Option.bind (sidxM s_0 s21) fun t31 =>
          bif t31 != 95 then
            some (Sum.inl (Sum.inl false))
          else
            letM (iadd .i64 s21 1) fun i41 =>
            some (Sum.inr i41)
        else
          Option.bind (sidxM s_0 s21) fun t32 =>
          bif decide (t32 > 57) then
            Option.bind (sidxM s_0 s21) fun t33 =>
            bif t33 != 95 then
              some (Sum.inl (Sum.inl false))
            else
              letM (iadd .i64 s21 1) fun i42 =>
              some (Sum.inr i42)
          else
            letM (iadd .i64 s21 1) fun i43 =>
            some (Sum.inr i43)
      else
        letM (iadd .i64 s21 1) fun i44 =>
        some (Sum.inr i44)
  else
    some (Sum.inl (Sum.inr ()))

noncomputable def ref01_ValidName_m (s_0 : ByteArray) : Option (Bool) :=
  bif decide ((s_0.size : Int) < 1) then
    some false
  else
    bif decide ((s_0.size : Int) > 12) then
      some false
    else
      Option.bind (sidxM s_0 0) fun t1 =>
      bif decide (t1 < 97) then
        some false
      else
        Option.bind (sidxM s_0 0) fun t2 =>
        bif decide (t2 > 122) then
          some false
        else
          Option.bind (loopC (ref01_ValidName_l1 s_0) 0) (sumK (fun a : Bool => some a) fun q45 : Unit =>
            some true)

theorem ref01_ValidName_ok {s_0 : ByteArray} {r : Bool} (hm : ref01_ValidName_m s_0 = some r) :
    FnOk prog 75 [sv s_0] [] (fun (x : Unit) => [bv r]) (fun (x : Unit) => []) := by
  refine fn_ok (fn := Try.f75) (N := 56) (res := fun r x => [bv r]) (Ω1 := fun r x => []) Try.func75 rfl rfl hm rfl (fun E hM => ?_)
  unfold ref01_ValidName_m
  refine ref_seq (ref_region ?_)
  refine as1 rfl rfl ?_
  refine l_nil (n_then (ref_seq (ref_seq (ref_region ?_))))
  refine mv1 rfl rfl ?_
  refine s_rd (r_slen Try.underlying9 rfl) rfl ?_
  refine s_rd (r_lss rfl rfl) rfl ?_
  refine mv1 rfl rfl ?_
  refine b_split (t := 7) rfl (fun _ => ?_) (fun _ => ?_)
  · refine s_off rfl rfl rfl rfl rfl ?_
    refine s_off rfl rfl rfl rfl rfl ?_
    refine s_off rfl rfl rfl rfl rfl ?_
    refine s_rd (r_pickT rfl rfl) rfl ?_
    refine mv1 rfl rfl ?_
    refine s_off rfl rfl rfl rfl rfl ?_
    refine s_off rfl rfl rfl rfl rfl ?_
    refine s_off rfl rfl rfl rfl rfl ?_
    refine s_rd (r_pickT rfl rfl) rfl ?_
    refine mv1 rfl rfl ?_
    refine s_off rfl rfl rfl rfl rfl ?_
    refine s_off rfl rfl rfl rfl rfl ?_
    refine s_off rfl rfl rfl rfl rfl ?_
    refine s_rd (r_pickT rfl rfl) rfl ?_
    refine l_nil (n_then ?_)
    refine ref_condT rfl rfl ?_
    refine ref_seq (ref_region ?_)
    refine as1 rfl rfl ?_
    refine l_nil (n_then (ref_ret (r_then ?_)))
    exact fin1 (.inl rfl) () [] rfl trivial rfl (rv_tmp rfl)
  refine s_on rfl rfl rfl ?_
  refine mv1 rfl rfl ?_
  refine s_on rfl rfl rfl ?_
  refine s_rd (r_slen Try.underlying9 rfl) rfl ?_
  refine s_on rfl rfl rfl ?_
  refine s_rd (r_gtr rfl rfl) rfl ?_
  refine s_rd (r_pickF rfl rfl) rfl ?_
  refine mv1 rfl rfl ?_
  refine b_split (t := 12) rfl (fun _ => ?_) (fun _ => ?_)
  · refine s_off rfl rfl rfl rfl rfl ?_
    refine s_off rfl rfl rfl rfl rfl ?_
    refine s_off rfl rfl rfl rfl rfl ?_
    refine s_rd (r_pickT rfl rfl) rfl ?_
    refine mv1 rfl rfl ?_
    refine s_off rfl rfl rfl rfl rfl ?_
    refine s_off rfl rfl rfl rfl rfl ?_
    refine s_off rfl rfl rfl rfl rfl ?_
    refine s_rd (r_pickT rfl rfl) rfl ?_
    refine l_nil (n_then ?_)
    refine ref_condT rfl rfl ?_
    refine ref_seq (ref_region ?_)
    refine as1 rfl rfl ?_
    refine l_nil (n_then (ref_ret (r_then ?_)))
    exact fin1 (.inl rfl) () [] rfl trivial rfl (rv_tmp rfl)
  refine s_on rfl rfl rfl ?_
  refine mv1 rfl rfl ?_
  refine s_on rfl rfl rfl ?_
  refine pull fun t1 h_t1 => ?_
  refine s_rd (r_sidx h_t1 Try.underlying9 rfl rfl) rfl ?_
  refine s_on rfl rfl rfl ?_
  refine s_rd (r_lss rfl rfl) rfl ?_
  refine s_rd (r_pickF rfl rfl) rfl ?_
  refine mv1 rfl rfl ?_
  refine b_split (t := 17) rfl (fun _ => ?_) (fun _ => ?_)
  · refine s_off rfl rfl rfl rfl rfl ?_
    refine s_off rfl rfl rfl rfl rfl ?_
    refine s_off rfl rfl rfl rfl rfl ?_
    refine s_rd (r_pickT rfl rfl) rfl ?_
    refine l_nil (n_then ?_)
    refine ref_condT rfl rfl ?_
    refine ref_seq (ref_region ?_)
    refine as1 rfl rfl ?_
    refine l_nil (n_then (ref_ret (r_then ?_)))
    exact fin1 (.inl rfl) () [] rfl trivial rfl (rv_tmp rfl)
  refine s_on rfl rfl rfl ?_
  refine mv1 rfl rfl ?_
  refine s_on rfl rfl rfl ?_
  refine pull fun t2 h_t2 => ?_
  refine s_rd (r_sidx h_t2 Try.underlying9 rfl rfl) rfl ?_
  refine s_on rfl rfl rfl ?_
  refine s_rd (r_gtr rfl rfl) rfl ?_
  refine s_rd (r_pickF rfl rfl) rfl ?_
  refine l_nil (n_then ?_)
  refine ref_cond rfl (fun hb3 => ?_) (fun hb3 => ?_)
  · refine ref_seq (ref_region ?_)
    refine as1 rfl rfl ?_
    refine l_nil (n_then (ref_ret (r_then ?_)))
    exact fin1 (.inl rfl) () [] rfl trivial rfl (rv_tmp rfl)
  refine ref_skip (n_then (ref_seq (ref_seq (ref_region ?_))))
  refine as1 rfl rfl ?_
  refine l_nil (n_then ?_)
  refine ref_loopX (f := (ref01_ValidName_l1 s_0)) (Γl := (fun (s21 : Int) (x22 : Unit) => [(0, sv s_0), (3, iv .i64 s21)])) (Ωl := (fun (s21 : Int) (x22 : Unit) => [])) (Γb := (fun (q45 : Unit) (y46 : Unit) => [])) (Ωb := (fun (q45 : Unit) (y46 : Unit) => [])) (kr := (fun a : Bool => some a)) 0 () (weak [] ⟨rfl, rfl, trivial⟩ trivial) (fun s21 x22 => ?_) (fun q45 y46 => ?_)
  · unfold ref01_ValidName_l1
    refine ref_seq (ref_seq (ref_region ?_))
    refine mv1 rfl rfl ?_
    refine mv1 rfl rfl ?_
    refine s_rd (r_slen Try.underlying9 rfl) rfl ?_
    refine s_rd (r_lss rfl rfl) rfl ?_
    refine l_nil (n_then ?_)
    refine ref_cond rfl (fun hb23 => ?_) (fun hb23 => ?_)
    · refine ref_skip (n_then (ref_seq (ref_block (ref_seq (ref_region ?_)))))
      refine mv1 rfl rfl ?_
      refine mv1 rfl rfl ?_
      refine pull fun t24 h_t24 => ?_
      refine s_rd (r_sidx h_t24 Try.underlying9 rfl rfl) rfl ?_
      refine s_rd (r_lss rfl rfl) rfl ?_
      refine mv1 rfl rfl ?_
      refine b_split (t := 32) rfl (fun _ => ?_) (fun _ => ?_)
      · refine s_off rfl rfl rfl rfl rfl ?_
        refine s_off rfl rfl rfl rfl rfl ?_
        refine s_off rfl rfl rfl rfl rfl ?_
        refine s_off rfl rfl rfl rfl rfl ?_
        refine s_rd (r_pickT rfl rfl) rfl ?_
        refine mv1 rfl rfl ?_
        refine s_on rfl rfl rfl ?_
        refine mv1 rfl rfl ?_
        refine s_on rfl rfl rfl ?_
        refine mv1 rfl rfl ?_
        refine s_on rfl rfl rfl ?_
        refine pull fun t25 h_t25 => ?_
        refine s_rd (r_sidx h_t25 Try.underlying9 rfl rfl) rfl ?_
        refine s_on rfl rfl rfl ?_
        refine s_rd (r_lss rfl rfl) rfl ?_
        refine s_on rfl rfl rfl ?_
        refine mv1 rfl rfl ?_
        refine b_split (t := 43) rfl (fun _ => ?_) (fun _ => ?_)
        · refine s_off rfl rfl rfl rfl rfl ?_
          refine s_off rfl rfl rfl rfl rfl ?_
          refine s_off rfl rfl rfl rfl rfl ?_
          refine s_off rfl rfl rfl rfl rfl ?_
          refine s_on rfl rfl rfl ?_
          refine s_rd (r_pickT rfl rfl) rfl ?_
          refine s_rd (r_pickT rfl rfl) rfl ?_
          refine mv1 rfl rfl ?_
          refine s_on rfl rfl rfl ?_
          refine mv1 rfl rfl ?_
          refine s_on rfl rfl rfl ?_
          refine mv1 rfl rfl ?_
          refine s_on rfl rfl rfl ?_
          refine pull fun t26 h_t26 => ?_
          refine s_rd (r_sidx h_t26 Try.underlying9 rfl rfl) rfl ?_
          refine s_on rfl rfl rfl ?_
          refine s_rd (r_neq rfl rfl) rfl ?_
          refine s_rd (r_pickT rfl rfl) rfl ?_
          refine l_nil (n_then ?_)
          refine ref_cond rfl (fun hb34 => ?_) (fun hb34 => ?_)
          · refine ref_seq (ref_region ?_)
            refine as1 rfl rfl ?_
            refine l_nil (n_then (ref_ret (r_block (r_then ?_))))
            refine retX ?_
            refine r_block (r_then ?_)
            exact fin1 (.inl rfl) () [] rfl trivial rfl (rv_tmp rfl)
          refine ref_skip (n_block (n_then (ref_region ?_)))
          refine mv1 rfl rfl ?_
          refine s_rd (r_add rfl rfl) rfl ?_
          refine as1 rfl rfl ?_
          refine b_let (f := iv .i64) (t := 3) rfl fun i38 => ?_
          refine l_nil ?_
          exact goX () (weak [] ⟨rfl, rfl, trivial⟩ trivial)
        refine s_on rfl rfl rfl ?_
        refine mv1 rfl rfl ?_
        refine s_on rfl rfl rfl ?_
        refine mv1 rfl rfl ?_
        refine s_on rfl rfl rfl ?_
        refine pull fun t27 h_t27 => ?_
        refine s_rd (r_sidx h_t27 Try.underlying9 rfl rfl) rfl ?_
        refine s_on rfl rfl rfl ?_
        refine s_rd (r_gtr rfl rfl) rfl ?_
        refine s_on rfl rfl rfl ?_
        refine s_rd (r_pickF rfl rfl) rfl ?_
        refine s_rd (r_pickT rfl rfl) rfl ?_
        refine mv1 rfl rfl ?_
        refine b_split (t := 50) rfl (fun _ => ?_) (fun _ => ?_)
        · refine s_on rfl rfl rfl ?_
          refine mv1 rfl rfl ?_
          refine s_on rfl rfl rfl ?_
          refine mv1 rfl rfl ?_
          refine s_on rfl rfl rfl ?_
          refine pull fun t28 h_t28 => ?_
          refine s_rd (r_sidx h_t28 Try.underlying9 rfl rfl) rfl ?_
          refine s_on rfl rfl rfl ?_
          refine s_rd (r_neq rfl rfl) rfl ?_
          refine s_rd (r_pickT rfl rfl) rfl ?_
          refine l_nil (n_then ?_)
          refine ref_cond rfl (fun hb35 => ?_) (fun hb35 => ?_)
          · refine ref_seq (ref_region ?_)
            refine as1 rfl rfl ?_
            refine l_nil (n_then (ref_ret (r_block (r_then ?_))))
            refine retX ?_
            refine r_block (r_then ?_)
            exact fin1 (.inl rfl) () [] rfl trivial rfl (rv_tmp rfl)
          refine ref_skip (n_block (n_then (ref_region ?_)))
          refine mv1 rfl rfl ?_
          refine s_rd (r_add rfl rfl) rfl ?_
          refine as1 rfl rfl ?_
          refine b_let (f := iv .i64) (t := 3) rfl fun i39 => ?_
          refine l_nil ?_
          exact goX () (weak [] ⟨rfl, rfl, trivial⟩ trivial)
        refine s_off rfl rfl rfl rfl rfl ?_
        refine s_off rfl rfl rfl rfl rfl ?_
        refine s_off rfl rfl rfl rfl rfl ?_
        refine s_off rfl rfl rfl rfl rfl ?_
        refine s_rd (r_pickF rfl rfl) rfl ?_
        refine l_nil (n_then ?_)
        refine ref_condF rfl rfl ?_
        refine ref_skip (n_block (n_then (ref_region ?_)))
        refine mv1 rfl rfl ?_
        refine s_rd (r_add rfl rfl) rfl ?_
        refine as1 rfl rfl ?_
        refine b_let (f := iv .i64) (t := 3) rfl fun i40 => ?_
        refine l_nil ?_
        exact goX () (weak [] ⟨rfl, rfl, trivial⟩ trivial)
      refine s_on rfl rfl rfl ?_
      refine mv1 rfl rfl ?_
      refine s_on rfl rfl rfl ?_
      refine mv1 rfl rfl ?_
      refine s_on rfl rfl rfl ?_
      refine pull fun t29 h_t29 => ?_
      refine s_rd (r_sidx h_t29 Try.underlying9 rfl rfl) rfl ?_
      refine s_on rfl rfl rfl ?_
      refine s_rd (r_gtr rfl rfl) rfl ?_
      refine s_rd (r_pickF rfl rfl) rfl ?_
      refine mv1 rfl rfl ?_
      refine b_split (t := 38) rfl (fun _ => ?_) (fun _ => ?_)
      · refine s_on rfl rfl rfl ?_
        refine mv1 rfl rfl ?_
        refine s_on rfl rfl rfl ?_
        refine mv1 rfl rfl ?_
        refine s_on rfl rfl rfl ?_
        refine pull fun t30 h_t30 => ?_
        refine s_rd (r_sidx h_t30 Try.underlying9 rfl rfl) rfl ?_
        refine s_on rfl rfl rfl ?_
        refine s_rd (r_lss rfl rfl) rfl ?_
        refine s_on rfl rfl rfl ?_
        refine mv1 rfl rfl ?_
        refine b_split (t := 43) rfl (fun _ => ?_) (fun _ => ?_)
        · refine s_off rfl rfl rfl rfl rfl ?_
          refine s_off rfl rfl rfl rfl rfl ?_
          refine s_off rfl rfl rfl rfl rfl ?_
          refine s_off rfl rfl rfl rfl rfl ?_
          refine s_on rfl rfl rfl ?_
          refine s_rd (r_pickT rfl rfl) rfl ?_
          refine s_rd (r_pickT rfl rfl) rfl ?_
          refine mv1 rfl rfl ?_
          refine s_on rfl rfl rfl ?_
          refine mv1 rfl rfl ?_
          refine s_on rfl rfl rfl ?_
          refine mv1 rfl rfl ?_
          refine s_on rfl rfl rfl ?_
          refine pull fun t31 h_t31 => ?_
          refine s_rd (r_sidx h_t31 Try.underlying9 rfl rfl) rfl ?_
          refine s_on rfl rfl rfl ?_
          refine s_rd (r_neq rfl rfl) rfl ?_
          refine s_rd (r_pickT rfl rfl) rfl ?_
          refine l_nil (n_then ?_)
          refine ref_cond rfl (fun hb36 => ?_) (fun hb36 => ?_)
          · refine ref_seq (ref_region ?_)
            refine as1 rfl rfl ?_
            refine l_nil (n_then (ref_ret (r_block (r_then ?_))))
            refine retX ?_
            refine r_block (r_then ?_)
            exact fin1 (.inl rfl) () [] rfl trivial rfl (rv_tmp rfl)
          refine ref_skip (n_block (n_then (ref_region ?_)))
          refine mv1 rfl rfl ?_
          refine s_rd (r_add rfl rfl) rfl ?_
          refine as1 rfl rfl ?_
          refine b_let (f := iv .i64) (t := 3) rfl fun i41 => ?_
          refine l_nil ?_
          exact goX () (weak [] ⟨rfl, rfl, trivial⟩ trivial)
        refine s_on rfl rfl rfl ?_
        refine mv1 rfl rfl ?_
        refine s_on rfl rfl rfl ?_
        refine mv1 rfl rfl ?_
        refine s_on rfl rfl rfl ?_
        refine pull fun t32 h_t32 => ?_
        refine s_rd (r_sidx h_t32 Try.underlying9 rfl rfl) rfl ?_
        refine s_on rfl rfl rfl ?_
        refine s_rd (r_gtr rfl rfl) rfl ?_
        refine s_on rfl rfl rfl ?_
        refine s_rd (r_pickF rfl rfl) rfl ?_
        refine s_rd (r_pickT rfl rfl) rfl ?_
        refine mv1 rfl rfl ?_
        refine b_split (t := 50) rfl (fun _ => ?_) (fun _ => ?_)
        · refine s_on rfl rfl rfl ?_
          refine mv1 rfl rfl ?_
          refine s_on rfl rfl rfl ?_
          refine mv1 rfl rfl ?_
          refine s_on rfl rfl rfl ?_
          refine pull fun t33 h_t33 => ?_
          refine s_rd (r_sidx h_t33 Try.underlying9 rfl rfl) rfl ?_
          refine s_on rfl rfl rfl ?_
          refine s_rd (r_neq rfl rfl) rfl ?_
          refine s_rd (r_pickT rfl rfl) rfl ?_
          refine l_nil (n_then ?_)
          refine ref_cond rfl (fun hb37 => ?_) (fun hb37 => ?_)
          · refine ref_seq (ref_region ?_)
            refine as1 rfl rfl ?_
            refine l_nil (n_then (ref_ret (r_block (r_then ?_))))
            refine retX ?_
            refine r_block (r_then ?_)
            exact fin1 (.inl rfl) () [] rfl trivial rfl (rv_tmp rfl)
          refine ref_skip (n_block (n_then (ref_region ?_)))
          refine mv1 rfl rfl ?_
          refine s_rd (r_add rfl rfl) rfl ?_
          refine as1 rfl rfl ?_
          refine b_let (f := iv .i64) (t := 3) rfl fun i42 => ?_
          refine l_nil ?_
          exact goX () (weak [] ⟨rfl, rfl, trivial⟩ trivial)
        refine s_off rfl rfl rfl rfl rfl ?_
        refine s_off rfl rfl rfl rfl rfl ?_
        refine s_off rfl rfl rfl rfl rfl ?_
        refine s_off rfl rfl rfl rfl rfl ?_
        refine s_rd (r_pickF rfl rfl) rfl ?_
        refine l_nil (n_then ?_)
        refine ref_condF rfl rfl ?_
        refine ref_skip (n_block (n_then (ref_region ?_)))
        refine mv1 rfl rfl ?_
        refine s_rd (r_add rfl rfl) rfl ?_
        refine as1 rfl rfl ?_
        refine b_let (f := iv .i64) (t := 3) rfl fun i43 => ?_
        refine l_nil ?_
        exact goX () (weak [] ⟨rfl, rfl, trivial⟩ trivial)
      refine s_off rfl rfl rfl rfl rfl ?_
      refine s_off rfl rfl rfl rfl rfl ?_
      refine s_off rfl rfl rfl rfl rfl ?_
      refine s_off rfl rfl rfl rfl rfl ?_
      refine s_off rfl rfl rfl rfl rfl ?_
      refine s_offU rfl rfl rfl ?_
      refine s_offU rfl rfl rfl ?_
      refine s_offU rfl rfl rfl ?_
      refine s_offU rfl rfl rfl ?_
      refine s_off rfl rfl rfl rfl rfl ?_
      refine s_rd (r_pickF rfl rfl) rfl ?_
      refine mv1 rfl rfl ?_
      refine s_off rfl rfl rfl rfl rfl ?_
      refine s_off rfl rfl rfl rfl rfl ?_
      refine s_off rfl rfl rfl rfl rfl ?_
      refine s_off rfl rfl rfl rfl rfl ?_
      refine s_rd (r_pickF rfl rfl) rfl ?_
      refine l_nil (n_then ?_)
      refine ref_condF rfl rfl ?_
      refine ref_skip (n_block (n_then (ref_region ?_)))
      refine mv1 rfl rfl ?_
      refine s_rd (r_add rfl rfl) rfl ?_
      refine as1 rfl rfl ?_
      refine b_let (f := iv .i64) (t := 3) rfl fun i44 => ?_
      refine l_nil ?_
      exact goX () (weak [] ⟨rfl, rfl, trivial⟩ trivial)
    refine ref_exit (x_then ?_)
    exact brkX () (weak [] trivial trivial)
  refine n_then (ref_seq (ref_region ?_))
  refine as1 rfl rfl ?_
  refine l_nil (n_then (ref_ret ?_))
  exact fin1 (.inl rfl) () [] rfl trivial rfl (rv_tmp rfl)

/-! deliberation/deliberationref01.Valid -/
noncomputable def ref01_Valid_m (x_0 : T_api_Literal) : Option (Bool) :=
  Option.bind (ref01_ValidName_m x_0.Name) fun t2 =>
  some t2

theorem ref01_Valid_ok {x_0 : T_api_Literal} {r : Bool} (hm : ref01_Valid_m x_0 = some r) :
    FnOk prog 69 [ag [bv x_0.Neg, sv x_0.Name]] [] (fun (x : Unit) => [bv r]) (fun (x : Unit) => []) := by
  refine fn_ok (fn := Try.f69) (N := 6) (res := fun r x => [bv r]) (Ω1 := fun r x => []) Try.func69 rfl rfl hm rfl (fun E hM => ?_)
  unfold ref01_Valid_m
  refine ref_seq (ref_region ?_)
  refine s_st (s_box (part_agO (ψs := [bv x_0.Neg, sv x_0.Name]) rfl ⟨.inl bv_at, .inl sv_at, trivial⟩)) rfl (fun b1 => ?_)
  refine as1 rfl rfl ?_
  refine l_nil (n_then (ref_seq (ref_region ?_)))
  refine s_rd (r_faddr (fo := 1) Try.underlying50 rfl rfl Try.sizeOf9 rfl) rfl ?_
  refine s_rd (r_cload Try.isAgg9 rfl (j := 0) rfl rfl) rfl ?_
  refine pull fun t2 h_t2 => ?_
  refine s_st (s_call (ψ := fun (_ : Unit) => bv t2) (args := [.tmp 4]) Try.call75 rfl (ref01_ValidName_ok h_t2) ⟨arg rfl, trivial⟩ (fun _ _ _ _ h => h)) rfl (fun _ => ?_)
  refine as1 rfl rfl ?_
  refine l_nil (n_then (ref_ret ?_))
  exact fin1 (.inl rfl) () [] rfl trivial rfl (rv_tmp rfl)

/-! deliberation/deliberationref05.rank -/
noncomputable def ref05_rank_m (n_0 : Int) : Option (Bool) :=
  bif decide (n_0 ≥ 0) then
    letM (decide (n_0 ≤ 9)) fun t1 =>
    some t1
  else
    some false

theorem ref05_rank_ok {n_0 : Int} {r : Bool} (hm : ref05_rank_m n_0 = some r) :
    FnOk prog 68 [iv .i64 n_0] [] (fun (x : Unit) => [bv r]) (fun (x : Unit) => []) := by
  refine fn_ok (fn := Try.f68) (N := 9) (res := fun r x => [bv r]) (Ω1 := fun r x => []) Try.func68 rfl rfl hm rfl (fun E hM => ?_)
  unfold ref05_rank_m
  refine ref_seq (ref_region ?_)
  refine as1 rfl rfl ?_
  refine l_nil (n_then (ref_seq (ref_region ?_)))
  refine mv1 rfl rfl ?_
  refine s_rd (r_geq rfl rfl) rfl ?_
  refine mv1 rfl rfl ?_
  refine b_split (t := 5) rfl (fun _ => ?_) (fun _ => ?_)
  · refine s_on rfl rfl rfl ?_
    refine mv1 rfl rfl ?_
    refine s_on rfl rfl rfl ?_
    refine s_rd (r_leq rfl rfl) rfl ?_
    refine s_rd (r_pickT rfl rfl) rfl ?_
    refine as1 rfl rfl ?_
    refine b_let (f := bv) (t := 2) rfl fun t1 => ?_
    refine l_nil (n_then (ref_ret ?_))
    exact fin1 (.inl rfl) () [] rfl trivial rfl (rv_tmp rfl)
  refine s_off rfl rfl rfl rfl rfl ?_
  refine s_off rfl rfl rfl rfl rfl ?_
  refine s_rd (r_pickF rfl rfl) rfl ?_
  refine as1 rfl rfl ?_
  refine l_nil (n_then (ref_ret ?_))
  exact fin1 (.inl rfl) () [] rfl trivial rfl (rv_tmp rfl)

/-! deliberation/deliberationref05.premise -/
noncomputable def ref05_premise_m (p_0 : T_api_Premise) : Option (Int) :=
  bif decide (p_0.Kind < 1) then
    some 4
  else
    bif decide (p_0.Kind > 3) then
      some 4
    else
      Option.bind (ref01_Valid_m p_0.Literal) fun t3 =>
      bif !t3 then
        some 1
      else
        Option.bind (ref05_rank_m p_0.Rank) fun t4 =>
        bif !t4 then
          some 1
        else
          bif p_0.Kind != 2 then
            bif p_0.Rank != 0 then
              some 1
            else
              bif !(p_0.Source.toList == (ByteArray.mk #[]).toList) then
                Option.bind (ref01_ValidName_m p_0.Source) fun t5 =>
                bif !t5 then
                  some 1
                else
                  some 0
              else
                some 0
          else
            bif !(p_0.Source.toList == (ByteArray.mk #[]).toList) then
              Option.bind (ref01_ValidName_m p_0.Source) fun t6 =>
              bif !t6 then
                some 1
              else
                some 0
            else
              some 0

theorem ref05_premise_ok {p_0 : T_api_Premise} {r : Int} (hm : ref05_premise_m p_0 = some r) :
    FnOk prog 64 [ag [bv p_0.Literal.Neg, sv p_0.Literal.Name, iv .i64 p_0.Kind, iv .i64 p_0.Rank, sv p_0.Source]] [] (fun (x : Unit) => [iv .i64 r]) (fun (x : Unit) => []) := by
  refine fn_ok (fn := Try.f64) (N := 42) (res := fun r x => [iv .i64 r]) (Ω1 := fun r x => []) Try.func64 rfl rfl hm rfl (fun E hM => ?_)
  unfold ref05_premise_m
  refine ref_seq (ref_region ?_)
  refine s_st (s_box (part_agO (ψs := [bv p_0.Literal.Neg, sv p_0.Literal.Name, iv .i64 p_0.Kind, iv .i64 p_0.Rank, sv p_0.Source]) rfl ⟨.inl bv_at, .inl sv_at, .inl iv_at, .inl iv_at, .inl sv_at, trivial⟩)) rfl (fun b1 => ?_)
  refine as1 rfl rfl ?_
  refine l_nil (n_then (ref_seq (ref_seq (ref_region ?_))))
  refine s_rd (r_faddr (fo := 2) Try.underlying64 rfl rfl Try.sizeOf3 rfl) rfl ?_
  refine s_rd (r_cload Try.isAgg3 rfl (j := 0) rfl rfl) rfl ?_
  refine s_rd (r_lss rfl rfl) rfl ?_
  refine mv1 rfl rfl ?_
  refine b_split (t := 6) rfl (fun _ => ?_) (fun _ => ?_)
  · refine s_off rfl rfl rfl rfl rfl ?_
    refine s_off rfl rfl rfl rfl rfl ?_
    refine s_off rfl rfl rfl rfl rfl ?_
    refine s_rd (r_pickT rfl rfl) rfl ?_
    refine l_nil (n_then ?_)
    refine ref_condT rfl rfl ?_
    refine ref_seq (ref_region ?_)
    refine as1 rfl rfl ?_
    refine l_nil (n_then (ref_ret (r_then ?_)))
    exact fin1 (.inl rfl) () [] rfl trivial rfl (rv_tmp rfl)
  refine s_on rfl rfl rfl ?_
  refine s_rd (r_faddr (fo := 2) Try.underlying64 rfl rfl Try.sizeOf3 rfl) rfl ?_
  refine s_on rfl rfl rfl ?_
  refine s_rd (r_cload Try.isAgg3 rfl (j := 0) rfl rfl) rfl ?_
  refine s_on rfl rfl rfl ?_
  refine s_rd (r_gtr rfl rfl) rfl ?_
  refine s_rd (r_pickF rfl rfl) rfl ?_
  refine l_nil (n_then ?_)
  refine ref_cond rfl (fun hb2 => ?_) (fun hb2 => ?_)
  · refine ref_seq (ref_region ?_)
    refine as1 rfl rfl ?_
    refine l_nil (n_then (ref_ret (r_then ?_)))
    exact fin1 (.inl rfl) () [] rfl trivial rfl (rv_tmp rfl)
  refine ref_skip (n_then (ref_seq (ref_seq (ref_region ?_))))
  refine s_rd (r_faddr (fo := 0) Try.underlying64 rfl rfl Try.sizeOf50 rfl) rfl ?_
  refine s_rd (r_cloadS Try.isAgg50 Try.sizeOf50 rfl (j := 0) rfl rfl rfl) rfl ?_
  refine pull fun t3 h_t3 => ?_
  refine s_st (s_call (ψ := fun (_ : Unit) => bv t3) (args := [.tmp 12]) Try.call69 rfl (ref01_Valid_ok h_t3) ⟨arg rfl, trivial⟩ (fun _ _ _ _ h => h)) rfl (fun _ => ?_)
  refine s_rd (r_not rfl) rfl ?_
  refine mv1 rfl rfl ?_
  refine b_split (t := 15) rfl (fun _ => ?_) (fun _ => ?_)
  · refine s_off rfl rfl rfl rfl rfl ?_
    refine s_off rfl rfl rfl rfl rfl ?_
    refine s_off rfl rfl rfl rfl rfl ?_
    refine s_off rfl rfl rfl rfl rfl ?_
    refine s_rd (r_pickT rfl rfl) rfl ?_
    refine mv1 rfl rfl ?_
    refine s_off rfl rfl rfl rfl rfl ?_
    refine s_off rfl rfl rfl rfl rfl ?_
    refine s_off rfl rfl rfl rfl rfl ?_
    refine s_off rfl rfl rfl rfl rfl ?_
    refine s_offU rfl rfl rfl ?_
    refine s_offU rfl rfl rfl ?_
    refine s_offU rfl rfl rfl ?_
    refine s_off rfl rfl rfl rfl rfl ?_
    refine s_rd (r_pickT rfl rfl) rfl ?_
    refine mv1 rfl rfl ?_
    refine s_off rfl rfl rfl rfl rfl ?_
    refine s_off rfl rfl rfl rfl rfl ?_
    refine s_off rfl rfl rfl rfl rfl ?_
    refine s_off rfl rfl rfl rfl rfl ?_
    refine s_offU rfl rfl rfl ?_
    refine s_offU rfl rfl rfl ?_
    refine s_offU rfl rfl rfl ?_
    refine s_offU rfl rfl rfl ?_
    refine s_off rfl rfl rfl rfl rfl ?_
    refine s_rd (r_pickT rfl rfl) rfl ?_
    refine l_nil (n_then ?_)
    refine ref_condT rfl rfl ?_
    refine ref_seq (ref_region ?_)
    refine as1 rfl rfl ?_
    refine l_nil (n_then (ref_ret (r_then ?_)))
    exact fin1 (.inl rfl) () [] rfl trivial rfl (rv_tmp rfl)
  refine s_on rfl rfl rfl ?_
  refine s_rd (r_faddr (fo := 3) Try.underlying64 rfl rfl Try.sizeOf3 rfl) rfl ?_
  refine s_on rfl rfl rfl ?_
  refine s_rd (r_cload Try.isAgg3 rfl (j := 0) rfl rfl) rfl ?_
  refine s_on rfl rfl rfl ?_
  refine pull fun t4 h_t4 => ?_
  refine s_st (s_call (ψ := fun (_ : Unit) => bv t4) (args := [.tmp 17]) Try.call68 rfl (ref05_rank_ok h_t4) ⟨arg rfl, trivial⟩ (fun _ _ _ _ h => h)) rfl (fun _ => ?_)
  refine s_on rfl rfl rfl ?_
  refine s_rd (r_not rfl) rfl ?_
  refine s_rd (r_pickF rfl rfl) rfl ?_
  refine mv1 rfl rfl ?_
  refine b_split (t := 21) rfl (fun _ => ?_) (fun _ => ?_)
  · refine s_off rfl rfl rfl rfl rfl ?_
    refine s_off rfl rfl rfl rfl rfl ?_
    refine s_off rfl rfl rfl rfl rfl ?_
    refine s_off rfl rfl rfl rfl rfl ?_
    refine s_offU rfl rfl rfl ?_
    refine s_offU rfl rfl rfl ?_
    refine s_offU rfl rfl rfl ?_
    refine s_off rfl rfl rfl rfl rfl ?_
    refine s_rd (r_pickT rfl rfl) rfl ?_
    refine mv1 rfl rfl ?_
    refine s_off rfl rfl rfl rfl rfl ?_
    refine s_off rfl rfl rfl rfl rfl ?_
    refine s_off rfl rfl rfl rfl rfl ?_
    refine s_off rfl rfl rfl rfl rfl ?_
    refine s_offU rfl rfl rfl ?_
    refine s_offU rfl rfl rfl ?_
    refine s_offU rfl rfl rfl ?_
    refine s_offU rfl rfl rfl ?_
    refine s_off rfl rfl rfl rfl rfl ?_
    refine s_rd (r_pickT rfl rfl) rfl ?_
    refine l_nil (n_then ?_)
    refine ref_condT rfl rfl ?_
    refine ref_seq (ref_region ?_)
    refine as1 rfl rfl ?_
    refine l_nil (n_then (ref_ret (r_then ?_)))
    exact fin1 (.inl rfl) () [] rfl trivial rfl (rv_tmp rfl)
  refine s_on rfl rfl rfl ?_
  refine s_rd (r_faddr (fo := 2) Try.underlying64 rfl rfl Try.sizeOf3 rfl) rfl ?_
  refine s_on rfl rfl rfl ?_
  refine s_rd (r_cload Try.isAgg3 rfl (j := 0) rfl rfl) rfl ?_
  refine s_on rfl rfl rfl ?_
  refine s_rd (r_neq rfl rfl) rfl ?_
  refine s_on rfl rfl rfl ?_
  refine mv1 rfl rfl ?_
  refine b_split (t := 25) rfl (fun _ => ?_) (fun _ => ?_)
  · refine s_on rfl rfl rfl ?_
    refine s_rd (r_faddr (fo := 3) Try.underlying64 rfl rfl Try.sizeOf3 rfl) rfl ?_
    refine s_on rfl rfl rfl ?_
    refine s_rd (r_cload Try.isAgg3 rfl (j := 0) rfl rfl) rfl ?_
    refine s_on rfl rfl rfl ?_
    refine s_rd (r_neq rfl rfl) rfl ?_
    refine s_on rfl rfl rfl ?_
    refine s_rd (r_pickT rfl rfl) rfl ?_
    refine s_rd (r_pickF rfl rfl) rfl ?_
    refine mv1 rfl rfl ?_
    refine b_split (t := 31) rfl (fun _ => ?_) (fun _ => ?_)
    · refine s_off rfl rfl rfl rfl rfl ?_
      refine s_off rfl rfl rfl rfl rfl ?_
      refine s_off rfl rfl rfl rfl rfl ?_
      refine s_off rfl rfl rfl rfl rfl ?_
      refine s_offU rfl rfl rfl ?_
      refine s_offU rfl rfl rfl ?_
      refine s_offU rfl rfl rfl ?_
      refine s_offU rfl rfl rfl ?_
      refine s_off rfl rfl rfl rfl rfl ?_
      refine s_rd (r_pickT rfl rfl) rfl ?_
      refine l_nil (n_then ?_)
      refine ref_condT rfl rfl ?_
      refine ref_seq (ref_region ?_)
      refine as1 rfl rfl ?_
      refine l_nil (n_then (ref_ret (r_then ?_)))
      exact fin1 (.inl rfl) () [] rfl trivial rfl (rv_tmp rfl)
    refine s_on rfl rfl rfl ?_
    refine s_rd (r_faddr (fo := 4) Try.underlying64 rfl rfl Try.sizeOf9 rfl) rfl ?_
    refine s_on rfl rfl rfl ?_
    refine s_rd (r_cload Try.isAgg9 rfl (j := 0) rfl rfl) rfl ?_
    refine s_on rfl rfl rfl ?_
    refine s_rd (r_sneq rfl rfl) rfl ?_
    refine s_on rfl rfl rfl ?_
    refine mv1 rfl rfl ?_
    refine b_split (t := 35) rfl (fun _ => ?_) (fun _ => ?_)
    · refine s_on rfl rfl rfl ?_
      refine s_rd (r_faddr (fo := 4) Try.underlying64 rfl rfl Try.sizeOf9 rfl) rfl ?_
      refine s_on rfl rfl rfl ?_
      refine s_rd (r_cload Try.isAgg9 rfl (j := 0) rfl rfl) rfl ?_
      refine s_on rfl rfl rfl ?_
      refine pull fun t5 h_t5 => ?_
      refine s_st (s_call (ψ := fun (_ : Unit) => bv t5) (args := [.tmp 37]) Try.call75 rfl (ref01_ValidName_ok h_t5) ⟨arg rfl, trivial⟩ (fun _ _ _ _ h => h)) rfl (fun _ => ?_)
      refine s_on rfl rfl rfl ?_
      refine s_rd (r_not rfl) rfl ?_
      refine s_on rfl rfl rfl ?_
      refine s_rd (r_pickT rfl rfl) rfl ?_
      refine s_rd (r_pickF rfl rfl) rfl ?_
      refine l_nil ?_
      refine b_of (nrm [oc b1 [bv p_0.Literal.Neg, sv p_0.Literal.Name, iv .i64 p_0.Kind, iv .i64 p_0.Rank, sv p_0.Source]] rfl) ?_
      refine n_then ?_
      refine ref_cond rfl (fun hb7 => ?_) (fun hb7 => ?_)
      · refine ref_seq (ref_region ?_)
        refine as1 rfl rfl ?_
        refine l_nil (n_then (ref_ret (r_then ?_)))
        exact fin1 (.inl rfl) () [] rfl trivial rfl (rv_tmp rfl)
      refine ref_skip (n_then (ref_seq (ref_region ?_)))
      refine as1 rfl rfl ?_
      refine l_nil (n_then (ref_ret ?_))
      exact fin1 (.inl rfl) () [] rfl trivial rfl (rv_tmp rfl)
    refine s_off rfl rfl rfl rfl rfl ?_
    refine s_off rfl rfl rfl rfl rfl ?_
    refine s_off rfl rfl rfl rfl rfl ?_
    refine s_off rfl rfl rfl rfl rfl ?_
    refine s_on rfl rfl rfl ?_
    refine s_rd (r_pickF rfl rfl) rfl ?_
    refine s_rd (r_pickF rfl rfl) rfl ?_
    refine l_nil (n_then ?_)
    refine ref_condF rfl rfl ?_
    refine ref_skip (n_then (ref_seq (ref_region ?_)))
    refine as1 rfl rfl ?_
    refine l_nil (n_then (ref_ret ?_))
    exact fin1 (.inl rfl) () [] rfl trivial rfl (rv_tmp rfl)
  refine s_off rfl rfl rfl rfl rfl ?_
  refine s_off rfl rfl rfl rfl rfl ?_
  refine s_off rfl rfl rfl rfl rfl ?_
  refine s_on rfl rfl rfl ?_
  refine s_rd (r_pickF rfl rfl) rfl ?_
  refine s_rd (r_pickF rfl rfl) rfl ?_
  refine mv1 rfl rfl ?_
  refine s_on rfl rfl rfl ?_
  refine s_rd (r_faddr (fo := 4) Try.underlying64 rfl rfl Try.sizeOf9 rfl) rfl ?_
  refine s_on rfl rfl rfl ?_
  refine s_rd (r_cload Try.isAgg9 rfl (j := 0) rfl rfl) rfl ?_
  refine s_on rfl rfl rfl ?_
  refine s_rd (r_sneq rfl rfl) rfl ?_
  refine s_on rfl rfl rfl ?_
  refine mv1 rfl rfl ?_
  refine b_split (t := 35) rfl (fun _ => ?_) (fun _ => ?_)
  · refine s_on rfl rfl rfl ?_
    refine s_rd (r_faddr (fo := 4) Try.underlying64 rfl rfl Try.sizeOf9 rfl) rfl ?_
    refine s_on rfl rfl rfl ?_
    refine s_rd (r_cload Try.isAgg9 rfl (j := 0) rfl rfl) rfl ?_
    refine s_on rfl rfl rfl ?_
    refine pull fun t6 h_t6 => ?_
    refine s_st (s_call (ψ := fun (_ : Unit) => bv t6) (args := [.tmp 37]) Try.call75 rfl (ref01_ValidName_ok h_t6) ⟨arg rfl, trivial⟩ (fun _ _ _ _ h => h)) rfl (fun _ => ?_)
    refine s_on rfl rfl rfl ?_
    refine s_rd (r_not rfl) rfl ?_
    refine s_on rfl rfl rfl ?_
    refine s_rd (r_pickT rfl rfl) rfl ?_
    refine s_rd (r_pickF rfl rfl) rfl ?_
    refine l_nil ?_
    refine b_of (nrm [oc b1 [bv p_0.Literal.Neg, sv p_0.Literal.Name, iv .i64 p_0.Kind, iv .i64 p_0.Rank, sv p_0.Source]] rfl) ?_
    refine n_then ?_
    refine ref_cond rfl (fun hb8 => ?_) (fun hb8 => ?_)
    · refine ref_seq (ref_region ?_)
      refine as1 rfl rfl ?_
      refine l_nil (n_then (ref_ret (r_then ?_)))
      exact fin1 (.inl rfl) () [] rfl trivial rfl (rv_tmp rfl)
    refine ref_skip (n_then (ref_seq (ref_region ?_)))
    refine as1 rfl rfl ?_
    refine l_nil (n_then (ref_ret ?_))
    exact fin1 (.inl rfl) () [] rfl trivial rfl (rv_tmp rfl)
  refine s_off rfl rfl rfl rfl rfl ?_
  refine s_off rfl rfl rfl rfl rfl ?_
  refine s_off rfl rfl rfl rfl rfl ?_
  refine s_off rfl rfl rfl rfl rfl ?_
  refine s_on rfl rfl rfl ?_
  refine s_rd (r_pickF rfl rfl) rfl ?_
  refine s_rd (r_pickF rfl rfl) rfl ?_
  refine l_nil (n_then ?_)
  refine ref_condF rfl rfl ?_
  refine ref_skip (n_then (ref_seq (ref_region ?_)))
  refine as1 rfl rfl ?_
  refine l_nil (n_then (ref_ret ?_))
  exact fin1 (.inl rfl) () [] rfl trivial rfl (rv_tmp rfl)

/-! deliberation/deliberationref05.Premise -/
noncomputable def ref05_Premise_l1 (b_0 : T_api_Base) (x_1 : T_api_Literal) (s8 : Int) : Option (Sum ((Sum (Int) (Unit))) (Int)) :=
  bif decide (s8 < (b_0.Premises.length : Int)) then
    Option.bind (idxM b_0.Premises s8) fun t11 =>
    bif decide (t11.Literal = x_1) then
      some (Sum.inl (Sum.inl s8))
    else
      some (Sum.inr (iadd .i64 s8 1))
  else
    some (Sum.inl (Sum.inr ()))

noncomputable def ref05_Premise_m (b_0 : T_api_Base) (x_1 : T_api_Literal) : Option (Int) :=
  Option.bind (loopC (ref05_Premise_l1 b_0 x_1) 0) (sumK (fun a : Int => some a) fun q13 : Unit =>
    some (-1))

theorem ref05_Premise_ok {b_0 : T_api_Base} {x_1 : T_api_Literal} {r : Int} (hm : ref05_Premise_m b_0 x_1 = some r) :
    FnOk prog 65 [ag [slv rT_api_Premise b_0.Premises, slv rT_api_Rule b_0.Rules, slv rT_api_Promotion b_0.Promotions], ag [bv x_1.Neg, sv x_1.Name]] [] (fun (x : Unit) => [iv .i64 r]) (fun (x : Unit) => []) := by
  refine fn_ok (fn := Try.f65) (N := 22) (res := fun r x => [iv .i64 r]) (Ω1 := fun r x => []) Try.func65 rfl rfl hm rfl (fun E hM => ?_)
  unfold ref05_Premise_m
  refine ref_seq (ref_region ?_)
  refine s_st (s_box (part_agO (ψs := [slv rT_api_Premise b_0.Premises, slv rT_api_Rule b_0.Rules, slv rT_api_Promotion b_0.Promotions]) rfl ⟨.inl slv_at, .inl slv_at, .inl slv_at, trivial⟩)) rfl (fun b1 => ?_)
  refine s_st (s_box (part_agO (ψs := [bv x_1.Neg, sv x_1.Name]) rfl ⟨.inl bv_at, .inl sv_at, trivial⟩)) rfl (fun b2 => ?_)
  refine as1 rfl rfl ?_
  refine l_nil (n_then (ref_seq (ref_seq (ref_region ?_))))
  refine as1 rfl rfl ?_
  refine l_nil (n_then ?_)
  refine ref_loopX (f := (ref05_Premise_l1 b_0 x_1)) (Γl := (fun (s8 : Int) (x9 : Unit) => [(2, pv (ptr b1 0)), (3, pv (ptr b2 0)), (5, iv .i64 s8)])) (Ωl := (fun (s8 : Int) (x9 : Unit) => [oc b1 [slv rT_api_Premise b_0.Premises, slv rT_api_Rule b_0.Rules, slv rT_api_Promotion b_0.Promotions], oc b2 [bv x_1.Neg, sv x_1.Name]])) (Γb := (fun (q13 : Unit) (y14 : Unit) => [])) (Ωb := (fun (q13 : Unit) (y14 : Unit) => [])) (kr := (fun a : Int => some a)) 0 () (weak [0, 1] ⟨rfl, rfl, rfl, trivial⟩ ⟨rfl, rfl, trivial⟩) (fun s8 x9 => ?_) (fun q13 y14 => ?_)
  · unfold ref05_Premise_l1
    refine ref_seq (ref_seq (ref_region ?_))
    refine mv1 rfl rfl ?_
    refine s_rd (r_faddr (fo := 0) Try.underlying34 rfl rfl Try.sizeOf30 rfl) rfl ?_
    refine s_rd (r_cload Try.isAgg30 rfl (j := 0) rfl rfl) rfl ?_
    refine s_rd (r_len Try.underlying30 rfl) rfl ?_
    refine s_rd (r_lss rfl rfl) rfl ?_
    refine l_nil (n_then ?_)
    refine ref_cond rfl (fun hb10 => ?_) (fun hb10 => ?_)
    · refine ref_skip (n_then (ref_seq (ref_block (ref_seq ?_))))
      refine ref_draw [0, 1, 2, 3, 4, 5, 6, 7] rfl (by kernel_rfl) (fun hok => ?_)
      refine a_rd (i := 0) hok rfl (by kernel_rfl) rfl (r_faddr (fo := 0) Try.underlying34 rfl rfl Try.sizeOf30 rfl) rfl ?_
      refine a_rd (i := 1) hok rfl (by kernel_rfl) rfl (r_cload Try.isAgg30 rfl (j := 0) rfl rfl) rfl ?_
      refine a_rd (i := 2) hok rfl (by kernel_rfl) rfl (r_move rfl) rfl ?_
      refine pull fun t11 h_t11 => ?_
      refine a_rd (i := 3) hok rfl (by kernel_rfl) rfl (r_index h_t11 Try.underlying30 el_64 rfl rfl) rfl ?_
      refine a_rd (i := 4) hok rfl (by kernel_rfl) rfl (r_fea (fo := 0) (ρ := rT_api_Premise) (y := t11) (ρ' := rT_api_Literal) (z := t11.Literal) Try.underlying64 rfl rfl Try.sizeOf50 rfl rfl rfl) rfl ?_
      refine a_rd (i := 5) hok rfl (by kernel_rfl) rfl (r_load el_50 rfl) rfl ?_
      refine a_rd (i := 6) hok rfl (by kernel_rfl) rfl (r_cloadS Try.isAgg50 Try.sizeOf50 rfl (j := 1) rfl rfl rfl) rfl ?_
      refine a_rd (i := 7) hok rfl (by kernel_rfl) rfl (r_steql (u := t11.Literal) (v := x_1) eq_50 rfl rfl rfl rfl) rfl ?_
      refine a_fin hok (by kernel_rfl) ?_
      refine n_then ?_
      refine ref_cond rfl (fun hb12 => ?_) (fun hb12 => ?_)
      · refine ref_seq (ref_region ?_)
        refine mv1 rfl rfl ?_
        refine as1 rfl rfl ?_
        refine l_nil (n_then (ref_ret (r_block (r_then ?_))))
        refine retX ?_
        refine r_block (r_then ?_)
        exact fin1 (.inl rfl) () [] rfl trivial rfl (rv_tmp rfl)
      refine ref_skip (n_block (n_then (ref_region ?_)))
      refine mv1 rfl rfl ?_
      refine s_rd (r_add rfl rfl) rfl ?_
      refine as1 rfl rfl ?_
      refine l_nil ?_
      exact goX () (weak [0, 1] ⟨rfl, rfl, rfl, trivial⟩ ⟨rfl, rfl, trivial⟩)
    refine ref_exit (x_then ?_)
    exact brkX () (weak [] trivial trivial)
  refine n_then (ref_seq (ref_region ?_))
  refine as1 rfl rfl ?_
  refine l_nil (n_then (ref_ret ?_))
  exact fin1 (.inl rfl) () [] rfl trivial rfl (rv_tmp rfl)

/-! deliberation/deliberationref01.Compare -/
noncomputable def ref01_Compare_m (a__0 : T_api_Literal) (b_1 : T_api_Literal) : Option (Int) :=
  letM (decide (a__0 = b_1)) fun t3 =>
  bif t3 then
    some 0
  else
    bif Op.bytesLess a__0.Name.toList b_1.Name.toList then
      some (-1)
    else
      bif a__0.Name.toList == b_1.Name.toList then
        bif b_1.Neg then
          some (-1)
        else
          some 1
      else
        some 1

theorem ref01_Compare_ok {a__0 : T_api_Literal} {b_1 : T_api_Literal} {r : Int} (hm : ref01_Compare_m a__0 b_1 = some r) :
    FnOk prog 76 [ag [bv a__0.Neg, sv a__0.Name], ag [bv b_1.Neg, sv b_1.Name]] [] (fun (x : Unit) => [iv .i64 r]) (fun (x : Unit) => []) := by
  refine fn_ok (fn := Try.f76) (N := 26) (res := fun r x => [iv .i64 r]) (Ω1 := fun r x => []) Try.func76 rfl rfl hm rfl (fun E hM => ?_)
  unfold ref01_Compare_m
  refine ref_seq (ref_region ?_)
  refine s_st (s_box (part_agO (ψs := [bv a__0.Neg, sv a__0.Name]) rfl ⟨.inl bv_at, .inl sv_at, trivial⟩)) rfl (fun b1 => ?_)
  refine s_st (s_box (part_agO (ψs := [bv b_1.Neg, sv b_1.Name]) rfl ⟨.inl bv_at, .inl sv_at, trivial⟩)) rfl (fun b2 => ?_)
  refine as1 rfl rfl ?_
  refine l_nil (n_then (ref_seq (ref_block (ref_seq (ref_region ?_)))))
  refine s_rd (r_cloadS Try.isAgg50 Try.sizeOf50 rfl (j := 0) rfl rfl rfl) rfl ?_
  refine s_rd (r_cloadS Try.isAgg50 Try.sizeOf50 rfl (j := 1) rfl rfl rfl) rfl ?_
  refine s_rd (r_steql (u := a__0) (v := b_1) eq_50 rfl rfl rfl rfl) rfl ?_
  refine as1 rfl rfl ?_
  refine b_let (f := bv) (t := 5) rfl fun t3 => ?_
  refine l_nil (n_then ?_)
  refine ref_cond rfl (fun hb4 => ?_) (fun hb4 => ?_)
  · refine ref_seq (ref_region ?_)
    refine as1 rfl rfl ?_
    refine l_nil (n_then (ref_ret (r_block (r_then ?_))))
    exact fin1 (.inl rfl) () [] rfl trivial rfl (rv_tmp rfl)
  refine ref_seq (ref_region ?_)
  refine s_rd (r_faddr (fo := 1) Try.underlying50 rfl rfl Try.sizeOf9 rfl) rfl ?_
  refine s_rd (r_cload Try.isAgg9 rfl (j := 0) rfl rfl) rfl ?_
  refine s_rd (r_faddr (fo := 1) Try.underlying50 rfl rfl Try.sizeOf9 rfl) rfl ?_
  refine s_rd (r_cload Try.isAgg9 rfl (j := 1) rfl rfl) rfl ?_
  refine s_rd (r_slss rfl rfl) rfl ?_
  refine mv1 rfl rfl ?_
  refine b_split (t := 15) rfl (fun _ => ?_) (fun _ => ?_)
  · refine s_off rfl rfl rfl rfl rfl ?_
    refine s_off rfl rfl rfl rfl rfl ?_
    refine s_off rfl rfl rfl rfl rfl ?_
    refine s_off rfl rfl rfl rfl rfl ?_
    refine s_off rfl rfl rfl rfl rfl ?_
    refine s_off rfl rfl rfl rfl rfl ?_
    refine s_offU rfl rfl rfl ?_
    refine s_offU rfl rfl rfl ?_
    refine s_off rfl rfl rfl rfl rfl ?_
    refine s_rd (r_pickT rfl rfl) rfl ?_
    refine as1 rfl rfl ?_
    refine l_nil (n_then ?_)
    refine ref_condT rfl rfl ?_
    refine ref_seq (ref_region ?_)
    refine as1 rfl rfl ?_
    refine l_nil (n_then (ref_ret (r_block (r_then ?_))))
    exact fin1 (.inl rfl) () [] rfl trivial rfl (rv_tmp rfl)
  refine s_on rfl rfl rfl ?_
  refine s_rd (r_faddr (fo := 1) Try.underlying50 rfl rfl Try.sizeOf9 rfl) rfl ?_
  refine s_on rfl rfl rfl ?_
  refine s_rd (r_cload Try.isAgg9 rfl (j := 0) rfl rfl) rfl ?_
  refine s_on rfl rfl rfl ?_
  refine s_rd (r_faddr (fo := 1) Try.underlying50 rfl rfl Try.sizeOf9 rfl) rfl ?_
  refine s_on rfl rfl rfl ?_
  refine s_rd (r_cload Try.isAgg9 rfl (j := 1) rfl rfl) rfl ?_
  refine s_on rfl rfl rfl ?_
  refine s_rd (r_seql rfl rfl) rfl ?_
  refine s_on rfl rfl rfl ?_
  refine mv1 rfl rfl ?_
  refine b_split (t := 21) rfl (fun _ => ?_) (fun _ => ?_)
  · refine s_on rfl rfl rfl ?_
    refine s_rd (r_faddr (fo := 0) Try.underlying50 rfl rfl Try.sizeOf4 rfl) rfl ?_
    refine s_on rfl rfl rfl ?_
    refine s_rd (r_cload Try.isAgg4 rfl (j := 1) rfl rfl) rfl ?_
    refine s_on rfl rfl rfl ?_
    refine s_rd (r_pickT rfl rfl) rfl ?_
    refine s_rd (r_pickF rfl rfl) rfl ?_
    refine as1 rfl rfl ?_
    refine l_nil (n_then ?_)
    refine ref_cond rfl (fun hb5 => ?_) (fun hb5 => ?_)
    · refine ref_seq (ref_region ?_)
      refine as1 rfl rfl ?_
      refine l_nil (n_then (ref_ret (r_block (r_then ?_))))
      exact fin1 (.inl rfl) () [] rfl trivial rfl (rv_tmp rfl)
    refine ref_skip (n_block (n_then (ref_seq (ref_region ?_))))
    refine as1 rfl rfl ?_
    refine l_nil (n_then (ref_ret ?_))
    exact fin1 (.inl rfl) () [] rfl trivial rfl (rv_tmp rfl)
  refine s_off rfl rfl rfl rfl rfl ?_
  refine s_off rfl rfl rfl rfl rfl ?_
  refine s_on rfl rfl rfl ?_
  refine s_rd (r_pickF rfl rfl) rfl ?_
  refine s_rd (r_pickF rfl rfl) rfl ?_
  refine as1 rfl rfl ?_
  refine l_nil (n_then ?_)
  refine ref_condF rfl rfl ?_
  refine ref_skip (n_block (n_then (ref_seq (ref_region ?_))))
  refine as1 rfl rfl ?_
  refine l_nil (n_then (ref_ret ?_))
  exact fin1 (.inl rfl) () [] rfl trivial rfl (rv_tmp rfl)

/-! deliberation/deliberationref05.rule -/
noncomputable def ref05_rule_l1 (r__0 : T_api_Rule) (s15 : Bool × Int) : Option (Sum (Bool) (Bool × Int)) :=
  bif decide (s15.2 < (r__0.Body.length : Int)) then
    bif s15.1 then
      Option.bind (idxM r__0.Body s15.2) fun t18 =>
      Option.bind (ref01_Valid_m t18) fun t19 =>
      letM (iadd .i64 s15.2 1) fun i20 =>
      some (Sum.inr (t19, i20))
    else
      letM (iadd .i64 s15.2 1) fun i21 =>
      some (Sum.inr (false, i21))
  else
    some (Sum.inl s15.1)

noncomputable def ref05_rule_l2 (r__0 : T_api_Rule) (s32 : Int) : Option (Sum ((Sum (Int) (Unit))) (Int)) :=
  bif decide (s32 < (r__0.Body.length : Int)) then
    Option.bind (idxM r__0.Body (isub .i64 s32 1)) fun t35 =>
    Option.bind (idxM r__0.Body s32) fun t36 =>
    Option.bind (ref01_Compare_m t35 t36) fun t37 =>
    bif decide (t37 ≥ 0) then
      some (Sum.inl (Sum.inl 8))
    else
      letM (iadd .i64 s32 1) fun i39 =>
      some (Sum.inr i39)
  else
    some (Sum.inl (Sum.inr ()))

noncomputable def ref05_rule_m (r__0 : T_api_Rule) : Option (Int) :=
  bif decide ((r__0.Body.length : Int) > 4) then
    some 2
  else
    joinM (fun j7 : Bool =>
        Option.bind (loopC (ref05_rule_l1 r__0) (j7, 0)) fun q22 : Bool =>
        bif !q22 then
          some 1
        else
          Option.bind (loopC (ref05_rule_l2 r__0) 1) (sumK (fun a : Int => some a) fun q40 : Unit =>
            some 0)) fun k9 =>
    Option.bind (ref01_ValidName_m r__0.Name) fun t3 =>
    bif t3 then
      Option.bind (ref05_rank_m r__0.Rank) fun t4 =>
      bif t4 then
        bif !r__0.Strict then
          Option.bind (ref01_Valid_m r__0.Head) fun t5 =>
          k9 t5
        else
          bif r__0.Rank == 0 then
            Option.bind (ref01_Valid_m r__0.Head) fun t6 =>
            k9 t6
          else
            k9 false
      else
        k9 false
    else
      k9 false

theorem ref05_rule_ok {r__0 : T_api_Rule} {r : Int} (hm : ref05_rule_m r__0 = some r) :
    FnOk prog 66 [ag [sv r__0.Name, bv r__0.Strict, iv .i64 r__0.Rank, slv rT_api_Literal r__0.Body, bv r__0.Head.Neg, sv r__0.Head.Name]] [] (fun (x : Unit) => [iv .i64 r]) (fun (x : Unit) => []) := by
  refine fn_ok (fn := Try.f66) (N := 71) (res := fun r x => [iv .i64 r]) (Ω1 := fun r x => []) Try.func66 rfl rfl hm rfl (fun E hM => ?_)
  unfold ref05_rule_m
  refine ref_seq (ref_region ?_)
  refine s_st (s_box (part_agO (ψs := [sv r__0.Name, bv r__0.Strict, iv .i64 r__0.Rank, slv rT_api_Literal r__0.Body, bv r__0.Head.Neg, sv r__0.Head.Name]) rfl ⟨.inl sv_at, .inl bv_at, .inl iv_at, .inl slv_at, .inl bv_at, .inl sv_at, trivial⟩)) rfl (fun b1 => ?_)
  refine as1 rfl rfl ?_
  refine l_nil (n_then (ref_seq (ref_seq (ref_region ?_))))
  refine s_rd (r_faddr (fo := 3) Try.underlying55 rfl rfl Try.sizeOf53 rfl) rfl ?_
  refine s_rd (r_cload Try.isAgg53 rfl (j := 0) rfl rfl) rfl ?_
  refine s_rd (r_len Try.underlying53 rfl) rfl ?_
  refine s_rd (r_gtr rfl rfl) rfl ?_
  refine l_nil (n_then ?_)
  refine ref_cond rfl (fun hb2 => ?_) (fun hb2 => ?_)
  · refine ref_seq (ref_region ?_)
    refine as1 rfl rfl ?_
    refine l_nil (n_then (ref_ret (r_then ?_)))
    exact fin1 (.inl rfl) () [] rfl trivial rfl (rv_tmp rfl)
  refine ref_skip (n_then (ref_seq ?_))
  refine ref_join (fun (j7 : Bool) (x8 : Unit) => [(1, pv (ptr b1 0)), (3, bv j7)]) (fun (j7 : Bool) (x8 : Unit) => [oc b1 [sv r__0.Name, bv r__0.Strict, iv .i64 r__0.Rank, slv rT_api_Literal r__0.Body, bv r__0.Head.Neg, sv r__0.Head.Name]]) (fun k9 hk9 => ?_) (fun j7 x8 => ?_)
  · refine ref_region ?_
    refine s_rd (r_faddr (fo := 0) Try.underlying55 rfl rfl Try.sizeOf9 rfl) rfl ?_
    refine s_rd (r_cload Try.isAgg9 rfl (j := 0) rfl rfl) rfl ?_
    refine pull fun t3 h_t3 => ?_
    refine s_st (s_call (ψ := fun (_ : Unit) => bv t3) (args := [.tmp 11]) Try.call75 rfl (ref01_ValidName_ok h_t3) ⟨arg rfl, trivial⟩ (fun _ _ _ _ h => h)) rfl (fun _ => ?_)
    refine mv1 rfl rfl ?_
    refine b_split (t := 13) rfl (fun _ => ?_) (fun _ => ?_)
    · refine s_on rfl rfl rfl ?_
      refine s_rd (r_faddr (fo := 2) Try.underlying55 rfl rfl Try.sizeOf3 rfl) rfl ?_
      refine s_on rfl rfl rfl ?_
      refine s_rd (r_cload Try.isAgg3 rfl (j := 0) rfl rfl) rfl ?_
      refine s_on rfl rfl rfl ?_
      refine pull fun t4 h_t4 => ?_
      refine s_st (s_call (ψ := fun (_ : Unit) => bv t4) (args := [.tmp 15]) Try.call68 rfl (ref05_rank_ok h_t4) ⟨arg rfl, trivial⟩ (fun _ _ _ _ h => h)) rfl (fun _ => ?_)
      refine s_rd (r_pickT rfl rfl) rfl ?_
      refine mv1 rfl rfl ?_
      refine b_split (t := 18) rfl (fun _ => ?_) (fun _ => ?_)
      · refine s_on rfl rfl rfl ?_
        refine s_rd (r_faddr (fo := 1) Try.underlying55 rfl rfl Try.sizeOf4 rfl) rfl ?_
        refine s_on rfl rfl rfl ?_
        refine s_rd (r_cload Try.isAgg4 rfl (j := 0) rfl rfl) rfl ?_
        refine s_on rfl rfl rfl ?_
        refine s_rd (r_not rfl) rfl ?_
        refine s_on rfl rfl rfl ?_
        refine mv1 rfl rfl ?_
        refine b_split (t := 22) rfl (fun _ => ?_) (fun _ => ?_)
        · refine s_off rfl rfl rfl rfl rfl ?_
          refine s_off rfl rfl rfl rfl rfl ?_
          refine s_off rfl rfl rfl rfl rfl ?_
          refine s_on rfl rfl rfl ?_
          refine s_rd (r_pickT rfl rfl) rfl ?_
          refine s_rd (r_pickT rfl rfl) rfl ?_
          refine mv1 rfl rfl ?_
          refine s_on rfl rfl rfl ?_
          refine s_rd (r_faddr (fo := 4) Try.underlying55 rfl rfl Try.sizeOf50 rfl) rfl ?_
          refine s_on rfl rfl rfl ?_
          refine s_rd (r_cloadS Try.isAgg50 Try.sizeOf50 rfl (j := 0) rfl rfl rfl) rfl ?_
          refine s_on rfl rfl rfl ?_
          refine pull fun t5 h_t5 => ?_
          refine s_st (s_call (ψ := fun (_ : Unit) => bv t5) (args := [.tmp 30]) Try.call69 rfl (ref01_Valid_ok h_t5) ⟨arg rfl, trivial⟩ (fun _ _ _ _ h => h)) rfl (fun _ => ?_)
          refine s_rd (r_pickT rfl rfl) rfl ?_
          refine as1 rfl rfl ?_
          refine l_nil ?_
          refine b_of (nrm [oc b1 [sv r__0.Name, bv r__0.Strict, iv .i64 r__0.Rank, slv rT_api_Literal r__0.Body, bv r__0.Head.Neg, sv r__0.Head.Name]] rfl) ?_
          exact b_to (hk9 t5 ()) (weak [0] ⟨rfl, rfl, trivial⟩ ⟨rfl, trivial⟩)
        refine s_on rfl rfl rfl ?_
        refine s_rd (r_faddr (fo := 2) Try.underlying55 rfl rfl Try.sizeOf3 rfl) rfl ?_
        refine s_on rfl rfl rfl ?_
        refine s_rd (r_cload Try.isAgg3 rfl (j := 0) rfl rfl) rfl ?_
        refine s_on rfl rfl rfl ?_
        refine s_rd (r_eql rfl rfl) rfl ?_
        refine s_on rfl rfl rfl ?_
        refine s_rd (r_pickF rfl rfl) rfl ?_
        refine s_rd (r_pickT rfl rfl) rfl ?_
        refine mv1 rfl rfl ?_
        refine b_split (t := 28) rfl (fun _ => ?_) (fun _ => ?_)
        · refine s_on rfl rfl rfl ?_
          refine s_rd (r_faddr (fo := 4) Try.underlying55 rfl rfl Try.sizeOf50 rfl) rfl ?_
          refine s_on rfl rfl rfl ?_
          refine s_rd (r_cloadS Try.isAgg50 Try.sizeOf50 rfl (j := 0) rfl rfl rfl) rfl ?_
          refine s_on rfl rfl rfl ?_
          refine pull fun t6 h_t6 => ?_
          refine s_st (s_call (ψ := fun (_ : Unit) => bv t6) (args := [.tmp 30]) Try.call69 rfl (ref01_Valid_ok h_t6) ⟨arg rfl, trivial⟩ (fun _ _ _ _ h => h)) rfl (fun _ => ?_)
          refine s_rd (r_pickT rfl rfl) rfl ?_
          refine as1 rfl rfl ?_
          refine l_nil ?_
          refine b_of (nrm [oc b1 [sv r__0.Name, bv r__0.Strict, iv .i64 r__0.Rank, slv rT_api_Literal r__0.Body, bv r__0.Head.Neg, sv r__0.Head.Name]] rfl) ?_
          exact b_to (hk9 t6 ()) (weak [0] ⟨rfl, rfl, trivial⟩ ⟨rfl, trivial⟩)
        refine s_off rfl rfl rfl rfl rfl ?_
        refine s_off rfl rfl rfl rfl rfl ?_
        refine s_off rfl rfl rfl rfl rfl ?_
        refine s_rd (r_pickF rfl rfl) rfl ?_
        refine as1 rfl rfl ?_
        refine l_nil ?_
        exact b_to (hk9 false ()) (weak [0] ⟨rfl, rfl, trivial⟩ ⟨rfl, trivial⟩)
      refine s_off rfl rfl rfl rfl rfl ?_
      refine s_off rfl rfl rfl rfl rfl ?_
      refine s_off rfl rfl rfl rfl rfl ?_
      refine s_off rfl rfl rfl rfl rfl ?_
      refine s_offU rfl rfl rfl ?_
      refine s_offU rfl rfl rfl ?_
      refine s_offU rfl rfl rfl ?_
      refine s_off rfl rfl rfl rfl rfl ?_
      refine s_rd (r_pickF rfl rfl) rfl ?_
      refine mv1 rfl rfl ?_
      refine s_off rfl rfl rfl rfl rfl ?_
      refine s_off rfl rfl rfl rfl rfl ?_
      refine s_off rfl rfl rfl rfl rfl ?_
      refine s_rd (r_pickF rfl rfl) rfl ?_
      refine as1 rfl rfl ?_
      refine l_nil ?_
      exact b_to (hk9 false ()) (weak [0] ⟨rfl, rfl, trivial⟩ ⟨rfl, trivial⟩)
    refine s_off rfl rfl rfl rfl rfl ?_
    refine s_off rfl rfl rfl rfl rfl ?_
    refine s_off rfl rfl rfl rfl rfl ?_
    refine s_rd (r_pickF rfl rfl) rfl ?_
    refine mv1 rfl rfl ?_
    refine s_off rfl rfl rfl rfl rfl ?_
    refine s_off rfl rfl rfl rfl rfl ?_
    refine s_off rfl rfl rfl rfl rfl ?_
    refine s_off rfl rfl rfl rfl rfl ?_
    refine s_offU rfl rfl rfl ?_
    refine s_offU rfl rfl rfl ?_
    refine s_offU rfl rfl rfl ?_
    refine s_off rfl rfl rfl rfl rfl ?_
    refine s_rd (r_pickF rfl rfl) rfl ?_
    refine mv1 rfl rfl ?_
    refine s_off rfl rfl rfl rfl rfl ?_
    refine s_off rfl rfl rfl rfl rfl ?_
    refine s_off rfl rfl rfl rfl rfl ?_
    refine s_rd (r_pickF rfl rfl) rfl ?_
    refine as1 rfl rfl ?_
    refine l_nil ?_
    exact b_to (hk9 false ()) (weak [0] ⟨rfl, rfl, trivial⟩ ⟨rfl, trivial⟩)
  refine n_then (ref_seq (ref_seq (ref_region ?_)))
  refine as1 rfl rfl ?_
  refine l_nil (n_then ?_)
  refine ref_loopB (f := (ref05_rule_l1 r__0)) (Γl := (fun (s15 : Bool × Int) (x16 : Unit) => [(1, pv (ptr b1 0)), (3, bv s15.1), (4, iv .i64 s15.2)])) (Ωl := (fun (s15 : Bool × Int) (x16 : Unit) => [oc b1 [sv r__0.Name, bv r__0.Strict, iv .i64 r__0.Rank, slv rT_api_Literal r__0.Body, bv r__0.Head.Neg, sv r__0.Head.Name]])) (Γb := (fun (q22 : Bool) (y23 : Unit) => [(1, pv (ptr b1 0)), (3, bv q22)])) (Ωb := (fun (q22 : Bool) (y23 : Unit) => [oc b1 [sv r__0.Name, bv r__0.Strict, iv .i64 r__0.Rank, slv rT_api_Literal r__0.Body, bv r__0.Head.Neg, sv r__0.Head.Name]])) (j7, 0) () (weak [0] ⟨rfl, rfl, rfl, trivial⟩ ⟨rfl, trivial⟩) (fun s15 x16 => ?_) (fun q22 y23 => ?_)
  · unfold ref05_rule_l1
    refine ref_seq (ref_seq (ref_region ?_))
    refine mv1 rfl rfl ?_
    refine s_rd (r_faddr (fo := 3) Try.underlying55 rfl rfl Try.sizeOf53 rfl) rfl ?_
    refine s_rd (r_cload Try.isAgg53 rfl (j := 0) rfl rfl) rfl ?_
    refine s_rd (r_len Try.underlying53 rfl) rfl ?_
    refine s_rd (r_lss rfl rfl) rfl ?_
    refine l_nil (n_then ?_)
    refine ref_cond rfl (fun hb17 => ?_) (fun hb17 => ?_)
    · refine ref_skip (n_then (ref_seq (ref_block (ref_region ?_))))
      refine mv1 rfl rfl ?_
      refine mv1 rfl rfl ?_
      refine b_split (t := 41) rfl (fun _ => ?_) (fun _ => ?_)
      · refine s_on rfl rfl rfl ?_
        refine s_rd (r_faddr (fo := 3) Try.underlying55 rfl rfl Try.sizeOf53 rfl) rfl ?_
        refine s_on rfl rfl rfl ?_
        refine s_rd (r_cload Try.isAgg53 rfl (j := 0) rfl rfl) rfl ?_
        refine s_on rfl rfl rfl ?_
        refine mv1 rfl rfl ?_
        refine s_on rfl rfl rfl ?_
        refine pull fun t18 h_t18 => ?_
        refine s_rd (r_index h_t18 Try.underlying53 el_50 rfl rfl) rfl ?_
        refine s_on rfl rfl rfl ?_
        refine s_rd (r_load el_50 rfl) rfl ?_
        refine s_on rfl rfl rfl ?_
        refine pull fun t19 h_t19 => ?_
        refine s_st (s_call (ψ := fun (_ : Unit) => bv t19) (args := [.tmp 46]) Try.call69 rfl (ref01_Valid_ok h_t19) ⟨arg rfl, trivial⟩ (fun _ _ _ _ h => h)) rfl (fun _ => ?_)
        refine s_rd (r_pickT rfl rfl) rfl ?_
        refine as1 rfl rfl ?_
        refine l_nil (n_block (n_then (ref_region ?_)))
        refine mv1 rfl rfl ?_
        refine s_rd (r_add rfl rfl) rfl ?_
        refine as1 rfl rfl ?_
        refine b_let (f := iv .i64) (t := 4) rfl fun i20 => ?_
        refine l_nil ?_
        exact goB () (weak [0] ⟨rfl, rfl, rfl, trivial⟩ ⟨rfl, trivial⟩)
      refine s_off rfl rfl rfl rfl rfl ?_
      refine s_off rfl rfl rfl rfl rfl ?_
      refine s_off rfl rfl rfl rfl rfl ?_
      refine s_off rfl rfl rfl rfl rfl ?_
      refine s_off rfl rfl rfl rfl rfl ?_
      refine s_off rfl rfl rfl rfl rfl ?_
      refine s_rd (r_pickF rfl rfl) rfl ?_
      refine as1 rfl rfl ?_
      refine l_nil (n_block (n_then (ref_region ?_)))
      refine mv1 rfl rfl ?_
      refine s_rd (r_add rfl rfl) rfl ?_
      refine as1 rfl rfl ?_
      refine b_let (f := iv .i64) (t := 4) rfl fun i21 => ?_
      refine l_nil ?_
      exact goB () (weak [0] ⟨rfl, rfl, rfl, trivial⟩ ⟨rfl, trivial⟩)
    refine ref_exit (x_then ?_)
    exact brkB () (weak [0] ⟨rfl, rfl, trivial⟩ ⟨rfl, trivial⟩)
  refine n_then (ref_seq (ref_seq (ref_region ?_)))
  refine mv1 rfl rfl ?_
  refine s_rd (r_not rfl) rfl ?_
  refine l_nil (n_then ?_)
  refine ref_cond rfl (fun hb24 => ?_) (fun hb24 => ?_)
  · refine ref_seq (ref_region ?_)
    refine as1 rfl rfl ?_
    refine l_nil (n_then (ref_ret (r_then ?_)))
    exact fin1 (.inl rfl) () [] rfl trivial rfl (rv_tmp rfl)
  refine ref_skip (n_then (ref_seq (ref_seq (ref_region ?_))))
  refine as1 rfl rfl ?_
  refine l_nil (n_then ?_)
  refine ref_loopX (f := (ref05_rule_l2 r__0)) (Γl := (fun (s32 : Int) (x33 : Unit) => [(1, pv (ptr b1 0)), (5, iv .i64 s32)])) (Ωl := (fun (s32 : Int) (x33 : Unit) => [oc b1 [sv r__0.Name, bv r__0.Strict, iv .i64 r__0.Rank, slv rT_api_Literal r__0.Body, bv r__0.Head.Neg, sv r__0.Head.Name]])) (Γb := (fun (q40 : Unit) (y41 : Unit) => [])) (Ωb := (fun (q40 : Unit) (y41 : Unit) => [])) (kr := (fun a : Int => some a)) 1 () (weak [0] ⟨rfl, rfl, trivial⟩ ⟨rfl, trivial⟩) (fun s32 x33 => ?_) (fun q40 y41 => ?_)
  · unfold ref05_rule_l2
    refine ref_seq (ref_seq (ref_region ?_))
    refine mv1 rfl rfl ?_
    refine s_rd (r_faddr (fo := 3) Try.underlying55 rfl rfl Try.sizeOf53 rfl) rfl ?_
    refine s_rd (r_cload Try.isAgg53 rfl (j := 0) rfl rfl) rfl ?_
    refine s_rd (r_len Try.underlying53 rfl) rfl ?_
    refine s_rd (r_lss rfl rfl) rfl ?_
    refine l_nil (n_then ?_)
    refine ref_cond rfl (fun hb34 => ?_) (fun hb34 => ?_)
    · refine ref_skip (n_then (ref_seq (ref_block (ref_seq ?_))))
      refine ref_draw [0, 1, 2, 3, 4, 5, 6, 7, 8, 9, 10, 12] rfl (by kernel_rfl) (fun hok => ?_)
      refine a_rd (i := 0) hok rfl (by kernel_rfl) rfl (r_faddr (fo := 3) Try.underlying55 rfl rfl Try.sizeOf53 rfl) rfl ?_
      refine a_rd (i := 1) hok rfl (by kernel_rfl) rfl (r_cload Try.isAgg53 rfl (j := 0) rfl rfl) rfl ?_
      refine a_rd (i := 2) hok rfl (by kernel_rfl) rfl (r_move rfl) rfl ?_
      refine a_rd (i := 3) hok rfl (by kernel_rfl) rfl (r_sub rfl rfl) rfl ?_
      refine pull fun t35 h_t35 => ?_
      refine a_rd (i := 4) hok rfl (by kernel_rfl) rfl (r_index h_t35 Try.underlying53 el_50 rfl rfl) rfl ?_
      refine a_rd (i := 5) hok rfl (by kernel_rfl) rfl (r_load el_50 rfl) rfl ?_
      refine a_rd (i := 6) hok rfl (by kernel_rfl) rfl (r_faddr (fo := 3) Try.underlying55 rfl rfl Try.sizeOf53 rfl) rfl ?_
      refine a_rd (i := 7) hok rfl (by kernel_rfl) rfl (r_cload Try.isAgg53 rfl (j := 0) rfl rfl) rfl ?_
      refine a_rd (i := 8) hok rfl (by kernel_rfl) rfl (r_move rfl) rfl ?_
      refine pull fun t36 h_t36 => ?_
      refine a_rd (i := 9) hok rfl (by kernel_rfl) rfl (r_index h_t36 Try.underlying53 el_50 rfl rfl) rfl ?_
      refine a_rd (i := 10) hok rfl (by kernel_rfl) rfl (r_load el_50 rfl) rfl ?_
      refine pull fun t37 h_t37 => ?_
      refine a_next hok 11 [] (by kernel_rfl) ?_ trivial
      refine a_st (i := 11) hok rfl rfl (s_call (ψ := fun (_ : Unit) => iv .i64 t37) (args := [.tmp 63, .tmp 68]) Try.call76 rfl (ref01_Compare_ok h_t37) ⟨arg rfl, arg rfl, trivial⟩ (fun _ _ _ _ h => h)) (by intro _ h; cases h; rfl) (fun _ => ⟨trivial, ⟨trivial, ⟨trivial, ⟨⟨⟨rfl, rfl⟩, trivial⟩, ⟨trivial, ⟨trivial, ⟨trivial, ⟨trivial, ⟨trivial, ⟨⟨⟨rfl, rfl⟩, trivial⟩, ⟨trivial, trivial⟩⟩⟩⟩⟩⟩⟩⟩⟩⟩⟩) (fun _ => ?_)
      refine a_rd (i := 12) hok rfl (by kernel_rfl) rfl (r_geq rfl rfl) rfl ?_
      refine a_fin hok (by kernel_rfl) ?_
      refine n_then ?_
      refine ref_cond rfl (fun hb38 => ?_) (fun hb38 => ?_)
      · refine ref_seq (ref_region ?_)
        refine as1 rfl rfl ?_
        refine l_nil (n_then (ref_ret (r_block (r_then ?_))))
        refine retX ?_
        refine r_block (r_then ?_)
        exact fin1 (.inl rfl) () [] rfl trivial rfl (rv_tmp rfl)
      refine ref_skip (n_block (n_then (ref_region ?_)))
      refine mv1 rfl rfl ?_
      refine s_rd (r_add rfl rfl) rfl ?_
      refine as1 rfl rfl ?_
      refine b_let (f := iv .i64) (t := 5) rfl fun i39 => ?_
      refine l_nil ?_
      exact goX () (weak [0] ⟨rfl, rfl, trivial⟩ ⟨rfl, trivial⟩)
    refine ref_exit (x_then ?_)
    exact brkX () (weak [] trivial trivial)
  refine n_then (ref_seq (ref_region ?_))
  refine as1 rfl rfl ?_
  refine l_nil (n_then (ref_ret ?_))
  exact fin1 (.inl rfl) () [] rfl trivial rfl (rv_tmp rfl)

/-! deliberation/deliberationref05.Find -/
noncomputable def ref05_Find_l1 (b_0 : T_api_Base) (name_1 : ByteArray) (s7 : Int) : Option (Sum ((Sum (Int) (Unit))) (Int)) :=
  bif decide (s7 < (b_0.Rules.length : Int)) then
    Option.bind (idxM b_0.Rules s7) fun t10 =>
    bif t10.Name.toList == name_1.toList then
      some (Sum.inl (Sum.inl s7))
    else
      some (Sum.inr (iadd .i64 s7 1))
  else
    some (Sum.inl (Sum.inr ()))

noncomputable def ref05_Find_m (b_0 : T_api_Base) (name_1 : ByteArray) : Option (Int) :=
  Option.bind (loopC (ref05_Find_l1 b_0 name_1) 0) (sumK (fun a : Int => some a) fun q12 : Unit =>
    some (-1))

theorem ref05_Find_ok {b_0 : T_api_Base} {name_1 : ByteArray} {r : Int} (hm : ref05_Find_m b_0 name_1 = some r) :
    FnOk prog 67 [ag [slv rT_api_Premise b_0.Premises, slv rT_api_Rule b_0.Rules, slv rT_api_Promotion b_0.Promotions], sv name_1] [] (fun (x : Unit) => [iv .i64 r]) (fun (x : Unit) => []) := by
  refine fn_ok (fn := Try.f67) (N := 22) (res := fun r x => [iv .i64 r]) (Ω1 := fun r x => []) Try.func67 rfl rfl hm rfl (fun E hM => ?_)
  unfold ref05_Find_m
  refine ref_seq (ref_region ?_)
  refine s_st (s_box (part_agO (ψs := [slv rT_api_Premise b_0.Premises, slv rT_api_Rule b_0.Rules, slv rT_api_Promotion b_0.Promotions]) rfl ⟨.inl slv_at, .inl slv_at, .inl slv_at, trivial⟩)) rfl (fun b1 => ?_)
  refine as1 rfl rfl ?_
  refine l_nil (n_then (ref_seq (ref_seq (ref_region ?_))))
  refine as1 rfl rfl ?_
  refine l_nil (n_then ?_)
  refine ref_loopX (f := (ref05_Find_l1 b_0 name_1)) (Γl := (fun (s7 : Int) (x8 : Unit) => [(1, sv name_1), (2, pv (ptr b1 0)), (5, iv .i64 s7)])) (Ωl := (fun (s7 : Int) (x8 : Unit) => [oc b1 [slv rT_api_Premise b_0.Premises, slv rT_api_Rule b_0.Rules, slv rT_api_Promotion b_0.Promotions]])) (Γb := (fun (q12 : Unit) (y13 : Unit) => [])) (Ωb := (fun (q12 : Unit) (y13 : Unit) => [])) (kr := (fun a : Int => some a)) 0 () (weak [0] ⟨rfl, rfl, rfl, trivial⟩ ⟨rfl, trivial⟩) (fun s7 x8 => ?_) (fun q12 y13 => ?_)
  · unfold ref05_Find_l1
    refine ref_seq (ref_seq (ref_region ?_))
    refine mv1 rfl rfl ?_
    refine s_rd (r_faddr (fo := 1) Try.underlying34 rfl rfl Try.sizeOf31 rfl) rfl ?_
    refine s_rd (r_cload Try.isAgg31 rfl (j := 0) rfl rfl) rfl ?_
    refine s_rd (r_len Try.underlying31 rfl) rfl ?_
    refine s_rd (r_lss rfl rfl) rfl ?_
    refine l_nil (n_then ?_)
    refine ref_cond rfl (fun hb9 => ?_) (fun hb9 => ?_)
    · refine ref_skip (n_then (ref_seq (ref_block (ref_seq (ref_region ?_)))))
      refine s_rd (r_faddr (fo := 1) Try.underlying34 rfl rfl Try.sizeOf31 rfl) rfl ?_
      refine s_rd (r_cload Try.isAgg31 rfl (j := 0) rfl rfl) rfl ?_
      refine mv1 rfl rfl ?_
      refine pull fun t10 h_t10 => ?_
      refine s_rd (r_index h_t10 Try.underlying31 el_55 rfl rfl) rfl ?_
      refine s_rd (r_fea (fo := 0) (ρ := rT_api_Rule) (y := t10) (ρ' := rS) (z := t10.Name) Try.underlying55 rfl rfl Try.sizeOf9 rfl rfl rfl) rfl ?_
      refine s_rd (r_load el_9 rfl) rfl ?_
      refine mv1 rfl rfl ?_
      refine s_rd (r_seql rfl rfl) rfl ?_
      refine l_nil (n_then ?_)
      refine ref_cond rfl (fun hb11 => ?_) (fun hb11 => ?_)
      · refine ref_seq (ref_region ?_)
        refine mv1 rfl rfl ?_
        refine as1 rfl rfl ?_
        refine l_nil (n_then (ref_ret (r_block (r_then ?_))))
        refine retX ?_
        refine r_block (r_then ?_)
        exact fin1 (.inl rfl) () [] rfl trivial rfl (rv_tmp rfl)
      refine ref_skip (n_block (n_then (ref_region ?_)))
      refine mv1 rfl rfl ?_
      refine s_rd (r_add rfl rfl) rfl ?_
      refine as1 rfl rfl ?_
      refine l_nil ?_
      exact goX () (weak [0] ⟨rfl, rfl, rfl, trivial⟩ ⟨rfl, trivial⟩)
    refine ref_exit (x_then ?_)
    exact brkX () (weak [] trivial trivial)
  refine n_then (ref_seq (ref_region ?_))
  refine as1 rfl rfl ?_
  refine l_nil (n_then (ref_ret ?_))
  exact fin1 (.inl rfl) () [] rfl trivial rfl (rv_tmp rfl)

/-! deliberation/deliberationref05.Validate -/
noncomputable def ref05_Validate_l1 (b_0 : T_api_Base) (s12 : Int) : Option (Sum ((Sum (Int) (Unit))) (Int)) :=
  bif decide (s12 < (b_0.Premises.length : Int)) then
    Option.bind (idxM b_0.Premises s12) fun t15 =>
    Option.bind (ref05_premise_m t15) fun e16 =>
    bif e16 != 0 then
      some (Sum.inl (Sum.inl e16))
    else
      Option.bind (idxM b_0.Premises s12) fun t18 =>
      Option.bind (ref05_Premise_m b_0 t18.Literal) fun t19 =>
      bif decide (t19 < s12) then
        some (Sum.inl (Sum.inl 5))
      else
        letM (iadd .i64 s12 1) fun i21 =>
        some (Sum.inr i21)
  else
    some (Sum.inl (Sum.inr ()))

noncomputable def ref05_Validate_l2 (b_0 : T_api_Base) (s33 : Int) : Option (Sum ((Sum (Int) (Unit))) (Int)) :=
  bif decide (s33 < (b_0.Rules.length : Int)) then
    Option.bind (idxM b_0.Rules s33) fun t36 =>
    Option.bind (ref05_rule_m t36) fun e37 =>
    bif e37 != 0 then
      some (Sum.inl (Sum.inl e37))
    else
      Option.bind (idxM b_0.Rules s33) fun t39 =>
      Option.bind (ref05_Find_m b_0 t39.Name) fun t40 =>
      bif decide (t40 < s33) then
        some (Sum.inl (Sum.inl 5))
      else
        letM (iadd .i64 s33 1) fun i42 =>
        some (Sum.inr i42)
  else
    some (Sum.inl (Sum.inr ()))

noncomputable def ref05_Validate_l3 (b_0 : T_api_Base) (s57 : Int) : Option (Sum ((Sum (Int) (Unit))) (Int)) :=
  bif decide (s57 < (b_0.Promotions.length : Int)) then
    Option.bind (idxM b_0.Promotions s57) fun t60 =>
    Option.bind (ref05_rank_m t60.Rank) fun t62 =>
    bif !t62 then
      some (Sum.inl (Sum.inl 1))
    else
      Option.bind (ref01_Valid_m t60.If) fun t63 =>
      bif !t63 then
        some (Sum.inl (Sum.inl 1))
      else
        Option.bind (ref05_Find_m b_0 t60.Rule) fun k65 =>
        bif decide (k65 < 0) then
          some (Sum.inl (Sum.inl 6))
        else
          Option.bind (idxM b_0.Rules k65) fun t67 =>
          bif t67.Strict then
            some (Sum.inl (Sum.inl 4))
          else
            letM (iadd .i64 s57 1) fun i69 =>
            some (Sum.inr i69)
  else
    some (Sum.inl (Sum.inr ()))

noncomputable def ref05_Validate_m (b_0 : T_api_Base) : Option (Int) :=
  bif decide ((b_0.Premises.length : Int) > 16) then
    some 2
  else
    bif decide ((b_0.Rules.length : Int) > 24) then
      some 2
    else
      bif decide ((b_0.Promotions.length : Int) > 8) then
        some 2
      else
        Option.bind (loopC (ref05_Validate_l1 b_0) 0) (sumK (fun a : Int => some a) fun q22 : Unit =>
          Option.bind (loopC (ref05_Validate_l2 b_0) 0) (sumK (fun a : Int => some a) fun q43 : Unit =>
            Option.bind (loopC (ref05_Validate_l3 b_0) 0) (sumK (fun a : Int => some a) fun q70 : Unit =>
              some 0)))

theorem ref05_Validate_ok {b_0 : T_api_Base} {r : Int} (hm : ref05_Validate_m b_0 = some r) :
    FnOk prog 46 [ag [slv rT_api_Premise b_0.Premises, slv rT_api_Rule b_0.Rules, slv rT_api_Promotion b_0.Promotions]] [] (fun (x : Unit) => [iv .i64 r]) (fun (x : Unit) => []) := by
  refine fn_ok (fn := Try.f46) (N := 112) (res := fun r x => [iv .i64 r]) (Ω1 := fun r x => []) Try.func46 rfl rfl hm rfl (fun E hM => ?_)
  unfold ref05_Validate_m
  refine ref_seq (ref_region ?_)
  refine s_st (s_box (part_agO (ψs := [slv rT_api_Premise b_0.Premises, slv rT_api_Rule b_0.Rules, slv rT_api_Promotion b_0.Promotions]) rfl ⟨.inl slv_at, .inl slv_at, .inl slv_at, trivial⟩)) rfl (fun b1 => ?_)
  refine as1 rfl rfl ?_
  refine l_nil (n_then (ref_seq (ref_seq (ref_region ?_))))
  refine s_rd (r_faddr (fo := 0) Try.underlying34 rfl rfl Try.sizeOf30 rfl) rfl ?_
  refine s_rd (r_cload Try.isAgg30 rfl (j := 0) rfl rfl) rfl ?_
  refine s_rd (r_len Try.underlying30 rfl) rfl ?_
  refine s_rd (r_gtr rfl rfl) rfl ?_
  refine mv1 rfl rfl ?_
  refine b_split (t := 14) rfl (fun _ => ?_) (fun _ => ?_)
  · refine s_off rfl rfl rfl rfl rfl ?_
    refine s_off rfl rfl rfl rfl rfl ?_
    refine s_off rfl rfl rfl rfl rfl ?_
    refine s_off rfl rfl rfl rfl rfl ?_
    refine s_rd (r_pickT rfl rfl) rfl ?_
    refine mv1 rfl rfl ?_
    refine s_off rfl rfl rfl rfl rfl ?_
    refine s_off rfl rfl rfl rfl rfl ?_
    refine s_off rfl rfl rfl rfl rfl ?_
    refine s_off rfl rfl rfl rfl rfl ?_
    refine s_rd (r_pickT rfl rfl) rfl ?_
    refine l_nil (n_then ?_)
    refine ref_condT rfl rfl ?_
    refine ref_seq (ref_region ?_)
    refine as1 rfl rfl ?_
    refine l_nil (n_then (ref_ret (r_then ?_)))
    exact fin1 (.inl rfl) () [] rfl trivial rfl (rv_tmp rfl)
  refine s_on rfl rfl rfl ?_
  refine s_rd (r_faddr (fo := 1) Try.underlying34 rfl rfl Try.sizeOf31 rfl) rfl ?_
  refine s_on rfl rfl rfl ?_
  refine s_rd (r_cload Try.isAgg31 rfl (j := 0) rfl rfl) rfl ?_
  refine s_on rfl rfl rfl ?_
  refine s_rd (r_len Try.underlying31 rfl) rfl ?_
  refine s_on rfl rfl rfl ?_
  refine s_rd (r_gtr rfl rfl) rfl ?_
  refine s_rd (r_pickF rfl rfl) rfl ?_
  refine mv1 rfl rfl ?_
  refine b_split (t := 20) rfl (fun _ => ?_) (fun _ => ?_)
  · refine s_off rfl rfl rfl rfl rfl ?_
    refine s_off rfl rfl rfl rfl rfl ?_
    refine s_off rfl rfl rfl rfl rfl ?_
    refine s_off rfl rfl rfl rfl rfl ?_
    refine s_rd (r_pickT rfl rfl) rfl ?_
    refine l_nil (n_then ?_)
    refine ref_condT rfl rfl ?_
    refine ref_seq (ref_region ?_)
    refine as1 rfl rfl ?_
    refine l_nil (n_then (ref_ret (r_then ?_)))
    exact fin1 (.inl rfl) () [] rfl trivial rfl (rv_tmp rfl)
  refine s_on rfl rfl rfl ?_
  refine s_rd (r_faddr (fo := 2) Try.underlying34 rfl rfl Try.sizeOf32 rfl) rfl ?_
  refine s_on rfl rfl rfl ?_
  refine s_rd (r_cload Try.isAgg32 rfl (j := 0) rfl rfl) rfl ?_
  refine s_on rfl rfl rfl ?_
  refine s_rd (r_len Try.underlying32 rfl) rfl ?_
  refine s_on rfl rfl rfl ?_
  refine s_rd (r_gtr rfl rfl) rfl ?_
  refine s_rd (r_pickF rfl rfl) rfl ?_
  refine l_nil (n_then ?_)
  refine ref_cond rfl (fun hb2 => ?_) (fun hb2 => ?_)
  · refine ref_seq (ref_region ?_)
    refine as1 rfl rfl ?_
    refine l_nil (n_then (ref_ret (r_then ?_)))
    exact fin1 (.inl rfl) () [] rfl trivial rfl (rv_tmp rfl)
  refine ref_skip (n_then (ref_seq (ref_seq (ref_region ?_))))
  refine as1 rfl rfl ?_
  refine l_nil (n_then ?_)
  refine ref_loopX (f := (ref05_Validate_l1 b_0)) (Γl := (fun (s12 : Int) (x13 : Unit) => [(1, pv (ptr b1 0)), (3, iv .i64 s12)])) (Ωl := (fun (s12 : Int) (x13 : Unit) => [oc b1 [slv rT_api_Premise b_0.Premises, slv rT_api_Rule b_0.Rules, slv rT_api_Promotion b_0.Promotions]])) (Γb := (fun (q22 : Unit) (y23 : Unit) => [(1, pv (ptr b1 0))])) (Ωb := (fun (q22 : Unit) (y23 : Unit) => [oc b1 [slv rT_api_Premise b_0.Premises, slv rT_api_Rule b_0.Rules, slv rT_api_Promotion b_0.Promotions]])) (kr := (fun a : Int => some a)) 0 () (weak [0] ⟨rfl, rfl, trivial⟩ ⟨rfl, trivial⟩) (fun s12 x13 => ?_) (fun q22 y23 => ?_)
  · unfold ref05_Validate_l1
    refine ref_seq (ref_seq (ref_region ?_))
    refine mv1 rfl rfl ?_
    refine s_rd (r_faddr (fo := 0) Try.underlying34 rfl rfl Try.sizeOf30 rfl) rfl ?_
    refine s_rd (r_cload Try.isAgg30 rfl (j := 0) rfl rfl) rfl ?_
    refine s_rd (r_len Try.underlying30 rfl) rfl ?_
    refine s_rd (r_lss rfl rfl) rfl ?_
    refine l_nil (n_then ?_)
    refine ref_cond rfl (fun hb14 => ?_) (fun hb14 => ?_)
    · refine ref_skip (n_then (ref_seq (ref_block (ref_seq (ref_seq (ref_region ?_))))))
      refine s_rd (r_faddr (fo := 0) Try.underlying34 rfl rfl Try.sizeOf30 rfl) rfl ?_
      refine s_rd (r_cload Try.isAgg30 rfl (j := 0) rfl rfl) rfl ?_
      refine mv1 rfl rfl ?_
      refine pull fun t15 h_t15 => ?_
      refine s_rd (r_index h_t15 Try.underlying30 el_64 rfl rfl) rfl ?_
      refine s_rd (r_load el_64 rfl) rfl ?_
      refine pull fun e16 h_e16 => ?_
      refine s_st (s_call (ψ := fun (_ : Unit) => iv .i64 e16) (args := [.tmp 37]) Try.call64 rfl (ref05_premise_ok h_e16) ⟨arg rfl, trivial⟩ (fun _ _ _ _ h => h)) rfl (fun _ => ?_)
      refine as1 rfl rfl ?_
      refine l_nil (n_then (ref_seq (ref_region ?_)))
      refine mv1 rfl rfl ?_
      refine s_rd (r_neq rfl rfl) rfl ?_
      refine l_nil (n_then ?_)
      refine ref_cond rfl (fun hb17 => ?_) (fun hb17 => ?_)
      · refine ref_seq (ref_region ?_)
        refine mv1 rfl rfl ?_
        refine as1 rfl rfl ?_
        refine l_nil (n_then (ref_ret (r_then (r_block (r_then ?_)))))
        refine retX ?_
        refine r_block (r_then ?_)
        exact fin1 (.inl rfl) () [] rfl trivial rfl (rv_tmp rfl)
      refine ref_skip (n_then (ref_seq ?_))
      refine ref_draw [0, 1, 2, 3, 4, 5, 6, 8, 9] rfl (by kernel_rfl) (fun hok => ?_)
      refine a_rd (i := 0) hok rfl (by kernel_rfl) rfl (r_cloadS Try.isAgg34 Try.sizeOf34 rfl (j := 0) rfl rfl rfl) rfl ?_
      refine a_rd (i := 1) hok rfl (by kernel_rfl) rfl (r_faddr (fo := 0) Try.underlying34 rfl rfl Try.sizeOf30 rfl) rfl ?_
      refine a_rd (i := 2) hok rfl (by kernel_rfl) rfl (r_cload Try.isAgg30 rfl (j := 0) rfl rfl) rfl ?_
      refine a_rd (i := 3) hok rfl (by kernel_rfl) rfl (r_move rfl) rfl ?_
      refine pull fun t18 h_t18 => ?_
      refine a_rd (i := 4) hok rfl (by kernel_rfl) rfl (r_index h_t18 Try.underlying30 el_64 rfl rfl) rfl ?_
      refine a_rd (i := 5) hok rfl (by kernel_rfl) rfl (r_fea (fo := 0) (ρ := rT_api_Premise) (y := t18) (ρ' := rT_api_Literal) (z := t18.Literal) Try.underlying64 rfl rfl Try.sizeOf50 rfl rfl rfl) rfl ?_
      refine a_rd (i := 6) hok rfl (by kernel_rfl) rfl (r_load el_50 rfl) rfl ?_
      refine a_rd (i := 8) hok rfl (by kernel_rfl) rfl (r_move rfl) rfl ?_
      refine pull fun t19 h_t19 => ?_
      refine a_next hok 7 [] (by kernel_rfl) ?_ trivial
      refine a_st (i := 7) hok rfl rfl (s_call (ψ := fun (_ : Unit) => iv .i64 t19) (args := [.tmp 42, .tmp 48]) Try.call65 rfl (ref05_Premise_ok h_t19) ⟨arg rfl, arg rfl, trivial⟩ (fun _ _ _ _ h => h)) (by intro _ h; cases h; rfl) (fun _ => ⟨trivial, ⟨trivial, ⟨trivial, ⟨trivial, ⟨trivial, ⟨⟨⟨rfl, rfl⟩, trivial⟩, ⟨trivial, ⟨trivial, trivial⟩⟩⟩⟩⟩⟩⟩⟩) (fun _ => ?_)
      refine a_rd (i := 9) hok rfl (by kernel_rfl) rfl (r_lss rfl rfl) rfl ?_
      refine a_fin hok (by kernel_rfl) ?_
      refine n_then ?_
      refine ref_cond rfl (fun hb20 => ?_) (fun hb20 => ?_)
      · refine ref_seq (ref_region ?_)
        refine as1 rfl rfl ?_
        refine l_nil (n_then (ref_ret (r_block (r_then ?_))))
        refine retX ?_
        refine r_block (r_then ?_)
        exact fin1 (.inl rfl) () [] rfl trivial rfl (rv_tmp rfl)
      refine ref_skip (n_block (n_then (ref_region ?_)))
      refine mv1 rfl rfl ?_
      refine s_rd (r_add rfl rfl) rfl ?_
      refine as1 rfl rfl ?_
      refine b_let (f := iv .i64) (t := 3) rfl fun i21 => ?_
      refine l_nil ?_
      exact goX () (weak [0] ⟨rfl, rfl, trivial⟩ ⟨rfl, trivial⟩)
    refine ref_exit (x_then ?_)
    exact brkX () (weak [0] ⟨rfl, trivial⟩ ⟨rfl, trivial⟩)
  refine n_then (ref_seq (ref_seq (ref_region ?_)))
  refine as1 rfl rfl ?_
  refine l_nil (n_then ?_)
  refine ref_loopX (f := (ref05_Validate_l2 b_0)) (Γl := (fun (s33 : Int) (x34 : Unit) => [(1, pv (ptr b1 0)), (5, iv .i64 s33)])) (Ωl := (fun (s33 : Int) (x34 : Unit) => [oc b1 [slv rT_api_Premise b_0.Premises, slv rT_api_Rule b_0.Rules, slv rT_api_Promotion b_0.Promotions]])) (Γb := (fun (q43 : Unit) (y44 : Unit) => [(1, pv (ptr b1 0))])) (Ωb := (fun (q43 : Unit) (y44 : Unit) => [oc b1 [slv rT_api_Premise b_0.Premises, slv rT_api_Rule b_0.Rules, slv rT_api_Promotion b_0.Promotions]])) (kr := (fun a : Int => some a)) 0 () (weak [0] ⟨rfl, rfl, trivial⟩ ⟨rfl, trivial⟩) (fun s33 x34 => ?_) (fun q43 y44 => ?_)
  · unfold ref05_Validate_l2
    refine ref_seq (ref_seq (ref_region ?_))
    refine mv1 rfl rfl ?_
    refine s_rd (r_faddr (fo := 1) Try.underlying34 rfl rfl Try.sizeOf31 rfl) rfl ?_
    refine s_rd (r_cload Try.isAgg31 rfl (j := 0) rfl rfl) rfl ?_
    refine s_rd (r_len Try.underlying31 rfl) rfl ?_
    refine s_rd (r_lss rfl rfl) rfl ?_
    refine l_nil (n_then ?_)
    refine ref_cond rfl (fun hb35 => ?_) (fun hb35 => ?_)
    · refine ref_skip (n_then (ref_seq (ref_block (ref_seq (ref_seq (ref_region ?_))))))
      refine s_rd (r_faddr (fo := 1) Try.underlying34 rfl rfl Try.sizeOf31 rfl) rfl ?_
      refine s_rd (r_cload Try.isAgg31 rfl (j := 0) rfl rfl) rfl ?_
      refine mv1 rfl rfl ?_
      refine pull fun t36 h_t36 => ?_
      refine s_rd (r_index h_t36 Try.underlying31 el_55 rfl rfl) rfl ?_
      refine s_rd (r_load el_55 rfl) rfl ?_
      refine pull fun e37 h_e37 => ?_
      refine s_st (s_call (ψ := fun (_ : Unit) => iv .i64 e37) (args := [.tmp 63]) Try.call66 rfl (ref05_rule_ok h_e37) ⟨arg rfl, trivial⟩ (fun _ _ _ _ h => h)) rfl (fun _ => ?_)
      refine as1 rfl rfl ?_
      refine l_nil (n_then (ref_seq (ref_region ?_)))
      refine mv1 rfl rfl ?_
      refine s_rd (r_neq rfl rfl) rfl ?_
      refine l_nil (n_then ?_)
      refine ref_cond rfl (fun hb38 => ?_) (fun hb38 => ?_)
      · refine ref_seq (ref_region ?_)
        refine mv1 rfl rfl ?_
        refine as1 rfl rfl ?_
        refine l_nil (n_then (ref_ret (r_then (r_block (r_then ?_)))))
        refine retX ?_
        refine r_block (r_then ?_)
        exact fin1 (.inl rfl) () [] rfl trivial rfl (rv_tmp rfl)
      refine ref_skip (n_then (ref_seq ?_))
      refine ref_draw [0, 1, 2, 3, 4, 5, 6, 8, 9] rfl (by kernel_rfl) (fun hok => ?_)
      refine a_rd (i := 0) hok rfl (by kernel_rfl) rfl (r_cloadS Try.isAgg34 Try.sizeOf34 rfl (j := 0) rfl rfl rfl) rfl ?_
      refine a_rd (i := 1) hok rfl (by kernel_rfl) rfl (r_faddr (fo := 1) Try.underlying34 rfl rfl Try.sizeOf31 rfl) rfl ?_
      refine a_rd (i := 2) hok rfl (by kernel_rfl) rfl (r_cload Try.isAgg31 rfl (j := 0) rfl rfl) rfl ?_
      refine a_rd (i := 3) hok rfl (by kernel_rfl) rfl (r_move rfl) rfl ?_
      refine pull fun t39 h_t39 => ?_
      refine a_rd (i := 4) hok rfl (by kernel_rfl) rfl (r_index h_t39 Try.underlying31 el_55 rfl rfl) rfl ?_
      refine a_rd (i := 5) hok rfl (by kernel_rfl) rfl (r_fea (fo := 0) (ρ := rT_api_Rule) (y := t39) (ρ' := rS) (z := t39.Name) Try.underlying55 rfl rfl Try.sizeOf9 rfl rfl rfl) rfl ?_
      refine a_rd (i := 6) hok rfl (by kernel_rfl) rfl (r_load el_9 rfl) rfl ?_
      refine a_rd (i := 8) hok rfl (by kernel_rfl) rfl (r_move rfl) rfl ?_
      refine pull fun t40 h_t40 => ?_
      refine a_next hok 7 [] (by kernel_rfl) ?_ trivial
      refine a_st (i := 7) hok rfl rfl (s_call (ψ := fun (_ : Unit) => iv .i64 t40) (args := [.tmp 68, .tmp 74]) Try.call67 rfl (ref05_Find_ok h_t40) ⟨arg rfl, arg rfl, trivial⟩ (fun _ _ _ _ h => h)) (by intro _ h; cases h; rfl) (fun _ => ⟨trivial, ⟨trivial, ⟨trivial, ⟨trivial, ⟨trivial, ⟨⟨⟨rfl, rfl⟩, trivial⟩, ⟨trivial, ⟨trivial, trivial⟩⟩⟩⟩⟩⟩⟩⟩) (fun _ => ?_)
      refine a_rd (i := 9) hok rfl (by kernel_rfl) rfl (r_lss rfl rfl) rfl ?_
      refine a_fin hok (by kernel_rfl) ?_
      refine n_then ?_
      refine ref_cond rfl (fun hb41 => ?_) (fun hb41 => ?_)
      · refine ref_seq (ref_region ?_)
        refine as1 rfl rfl ?_
        refine l_nil (n_then (ref_ret (r_block (r_then ?_))))
        refine retX ?_
        refine r_block (r_then ?_)
        exact fin1 (.inl rfl) () [] rfl trivial rfl (rv_tmp rfl)
      refine ref_skip (n_block (n_then (ref_region ?_)))
      refine mv1 rfl rfl ?_
      refine s_rd (r_add rfl rfl) rfl ?_
      refine as1 rfl rfl ?_
      refine b_let (f := iv .i64) (t := 5) rfl fun i42 => ?_
      refine l_nil ?_
      exact goX () (weak [0] ⟨rfl, rfl, trivial⟩ ⟨rfl, trivial⟩)
    refine ref_exit (x_then ?_)
    exact brkX () (weak [0] ⟨rfl, trivial⟩ ⟨rfl, trivial⟩)
  refine n_then (ref_seq (ref_seq (ref_region ?_)))
  refine as1 rfl rfl ?_
  refine l_nil (n_then ?_)
  refine ref_loopX (f := (ref05_Validate_l3 b_0)) (Γl := (fun (s57 : Int) (x58 : Unit) => [(1, pv (ptr b1 0)), (7, iv .i64 s57)])) (Ωl := (fun (s57 : Int) (x58 : Unit) => [oc b1 [slv rT_api_Premise b_0.Premises, slv rT_api_Rule b_0.Rules, slv rT_api_Promotion b_0.Promotions]])) (Γb := (fun (q70 : Unit) (y71 : Unit) => [])) (Ωb := (fun (q70 : Unit) (y71 : Unit) => [])) (kr := (fun a : Int => some a)) 0 () (weak [0] ⟨rfl, rfl, trivial⟩ ⟨rfl, trivial⟩) (fun s57 x58 => ?_) (fun q70 y71 => ?_)
  · unfold ref05_Validate_l3
    refine ref_seq (ref_seq (ref_region ?_))
    refine mv1 rfl rfl ?_
    refine s_rd (r_faddr (fo := 2) Try.underlying34 rfl rfl Try.sizeOf32 rfl) rfl ?_
    refine s_rd (r_cload Try.isAgg32 rfl (j := 0) rfl rfl) rfl ?_
    refine s_rd (r_len Try.underlying32 rfl) rfl ?_
    refine s_rd (r_lss rfl rfl) rfl ?_
    refine l_nil (n_then ?_)
    refine ref_cond rfl (fun hb59 => ?_) (fun hb59 => ?_)
    · refine ref_skip (n_then (ref_seq (ref_block (ref_seq (ref_region ?_)))))
      refine s_rd (r_faddr (fo := 2) Try.underlying34 rfl rfl Try.sizeOf32 rfl) rfl ?_
      refine s_rd (r_cload Try.isAgg32 rfl (j := 0) rfl rfl) rfl ?_
      refine mv1 rfl rfl ?_
      refine pull fun t60 h_t60 => ?_
      refine s_rd (r_index h_t60 Try.underlying32 el_84 rfl rfl) rfl ?_
      refine s_rd (r_load el_84 rfl) rfl ?_
      refine s_st (s_alloc zt_84) rfl (fun b61 => ?_)
      refine s_st0 (s_cstore (out := [sv t60.Rule, iv .i64 t60.Rank, bv t60.If.Neg, sv t60.If.Name]) Try.sizeOf84 rfl (j := 1) rfl (part_agO (ψs := [sv t60.Rule, iv .i64 t60.Rank, bv t60.If.Neg, sv t60.If.Name]) rfl ⟨.inl sv_at, .inl iv_at, .inl bv_at, .inl sv_at, trivial⟩) rfl rfl rfl) (fun _ => ?_)
      refine l_nil (n_then (ref_seq (ref_seq (ref_region ?_))))
      refine s_rd (r_faddr (fo := 1) Try.underlying84 rfl rfl Try.sizeOf3 rfl) rfl ?_
      refine s_rd (r_cload Try.isAgg3 rfl (j := 1) rfl rfl) rfl ?_
      refine pull fun t62 h_t62 => ?_
      refine s_st (s_call (ψ := fun (_ : Unit) => bv t62) (args := [.tmp 91]) Try.call68 rfl (ref05_rank_ok h_t62) ⟨arg rfl, trivial⟩ (fun _ _ _ _ h => h)) rfl (fun _ => ?_)
      refine s_rd (r_not rfl) rfl ?_
      refine mv1 rfl rfl ?_
      refine b_split (t := 94) rfl (fun _ => ?_) (fun _ => ?_)
      · refine s_off rfl rfl rfl rfl rfl ?_
        refine s_off rfl rfl rfl rfl rfl ?_
        refine s_off rfl rfl rfl rfl rfl ?_
        refine s_off rfl rfl rfl rfl rfl ?_
        refine s_rd (r_pickT rfl rfl) rfl ?_
        refine l_nil (n_then ?_)
        refine ref_condT rfl rfl ?_
        refine ref_seq (ref_region ?_)
        refine as1 rfl rfl ?_
        refine l_nil (n_then (ref_ret (r_then (r_block (r_then ?_)))))
        refine retX ?_
        refine r_block (r_then ?_)
        exact fin1 (.inl rfl) () [] rfl trivial rfl (rv_tmp rfl)
      refine s_on rfl rfl rfl ?_
      refine s_rd (r_faddr (fo := 2) Try.underlying84 rfl rfl Try.sizeOf50 rfl) rfl ?_
      refine s_on rfl rfl rfl ?_
      refine s_rd (r_cloadS Try.isAgg50 Try.sizeOf50 rfl (j := 1) rfl rfl rfl) rfl ?_
      refine s_on rfl rfl rfl ?_
      refine pull fun t63 h_t63 => ?_
      refine s_st (s_call (ψ := fun (_ : Unit) => bv t63) (args := [.tmp 96]) Try.call69 rfl (ref01_Valid_ok h_t63) ⟨arg rfl, trivial⟩ (fun _ _ _ _ h => h)) rfl (fun _ => ?_)
      refine s_on rfl rfl rfl ?_
      refine s_rd (r_not rfl) rfl ?_
      refine s_rd (r_pickF rfl rfl) rfl ?_
      refine l_nil ?_
      refine b_of (nrm [oc b1 [slv rT_api_Premise b_0.Premises, slv rT_api_Rule b_0.Rules, slv rT_api_Promotion b_0.Promotions], oc b61 [sv t60.Rule, iv .i64 t60.Rank, bv t60.If.Neg, sv t60.If.Name]] rfl) ?_
      refine n_then ?_
      refine ref_cond rfl (fun hb64 => ?_) (fun hb64 => ?_)
      · refine ref_seq (ref_region ?_)
        refine as1 rfl rfl ?_
        refine l_nil (n_then (ref_ret (r_then (r_block (r_then ?_)))))
        refine retX ?_
        refine r_block (r_then ?_)
        exact fin1 (.inl rfl) () [] rfl trivial rfl (rv_tmp rfl)
      refine ref_skip (n_then (ref_seq (ref_region ?_)))
      refine s_rd (r_cloadS Try.isAgg34 Try.sizeOf34 rfl (j := 0) rfl rfl rfl) rfl ?_
      refine s_rd (r_faddr (fo := 0) Try.underlying84 rfl rfl Try.sizeOf9 rfl) rfl ?_
      refine s_rd (r_cload Try.isAgg9 rfl (j := 1) rfl rfl) rfl ?_
      refine pull fun k65 h_k65 => ?_
      refine s_st (s_call (ψ := fun (_ : Unit) => iv .i64 k65) (args := [.tmp 100, .tmp 102]) Try.call67 rfl (ref05_Find_ok h_k65) ⟨arg rfl, arg rfl, trivial⟩ (fun _ _ _ _ h => h)) rfl (fun _ => ?_)
      refine as1 rfl rfl ?_
      refine l_nil (n_then (ref_seq (ref_seq (ref_region ?_))))
      refine mv1 rfl rfl ?_
      refine s_rd (r_lss rfl rfl) rfl ?_
      refine l_nil (n_then ?_)
      refine ref_cond rfl (fun hb66 => ?_) (fun hb66 => ?_)
      · refine ref_seq (ref_region ?_)
        refine as1 rfl rfl ?_
        refine l_nil (n_then (ref_ret (r_then (r_block (r_then ?_)))))
        refine retX ?_
        refine r_block (r_then ?_)
        exact fin1 (.inl rfl) () [] rfl trivial rfl (rv_tmp rfl)
      refine ref_skip (n_then (ref_seq (ref_region ?_)))
      refine s_rd (r_faddr (fo := 1) Try.underlying34 rfl rfl Try.sizeOf31 rfl) rfl ?_
      refine s_rd (r_cload Try.isAgg31 rfl (j := 0) rfl rfl) rfl ?_
      refine mv1 rfl rfl ?_
      refine pull fun t67 h_t67 => ?_
      refine s_rd (r_index h_t67 Try.underlying31 el_55 rfl rfl) rfl ?_
      refine s_rd (r_fea (fo := 1) (ρ := rT_api_Rule) (y := t67) (ρ' := rB) (z := t67.Strict) Try.underlying55 rfl rfl Try.sizeOf4 rfl rfl rfl) rfl ?_
      refine s_rd (r_load el_4 rfl) rfl ?_
      refine l_nil (n_then ?_)
      refine ref_cond rfl (fun hb68 => ?_) (fun hb68 => ?_)
      · refine ref_seq (ref_region ?_)
        refine as1 rfl rfl ?_
        refine l_nil (n_then (ref_ret (r_block (r_then ?_))))
        refine retX ?_
        refine r_block (r_then ?_)
        exact fin1 (.inl rfl) () [] rfl trivial rfl (rv_tmp rfl)
      refine ref_skip (n_block (n_then (ref_region ?_)))
      refine mv1 rfl rfl ?_
      refine s_rd (r_add rfl rfl) rfl ?_
      refine as1 rfl rfl ?_
      refine b_let (f := iv .i64) (t := 7) rfl fun i69 => ?_
      refine l_nil ?_
      exact goX () (weak [0] ⟨rfl, rfl, trivial⟩ ⟨rfl, trivial⟩)
    refine ref_exit (x_then ?_)
    exact brkX () (weak [] trivial trivial)
  refine n_then (ref_seq (ref_region ?_))
  refine as1 rfl rfl ?_
  refine l_nil (n_then (ref_ret ?_))
  exact fin1 (.inl rfl) () [] rfl trivial rfl (rv_tmp rfl)

/-! deliberation/deliberationref07.recent -/
noncomputable def ref07_recent_l1 (subs_0 : (List Int)) (from__1 : Int) (s6 : Int) : Option (Sum ((Sum (Bool) (Unit))) (Int)) :=
  bif decide (s6 < (subs_0.length : Int)) then
    Option.bind (idxM subs_0 s6) fun t9 =>
    bif decide (t9 ≥ from__1) then
      some (Sum.inl (Sum.inl true))
    else
      some (Sum.inr (iadd .i64 s6 1))
  else
    some (Sum.inl (Sum.inr ()))

noncomputable def ref07_recent_m (subs_0 : (List Int)) (from__1 : Int) : Option (Bool) :=
  Option.bind (loopC (ref07_recent_l1 subs_0 from__1) 0) (sumK (fun a : Bool => some a) fun q11 : Unit =>
    some false)

theorem ref07_recent_ok {subs_0 : (List Int)} {from__1 : Int} {r : Bool} (hm : ref07_recent_m subs_0 from__1 = some r) :
    FnOk prog 48 [slv (rI .i64) subs_0, iv .i64 from__1] [] (fun (x : Unit) => [bv r]) (fun (x : Unit) => []) := by
  refine fn_ok (fn := Try.f48) (N := 18) (res := fun r x => [bv r]) (Ω1 := fun r x => []) Try.func48 rfl rfl hm rfl (fun E hM => ?_)
  unfold ref07_recent_m
  refine ref_seq (ref_region ?_)
  refine as1 rfl rfl ?_
  refine l_nil (n_then (ref_seq (ref_seq (ref_region ?_))))
  refine as1 rfl rfl ?_
  refine l_nil (n_then ?_)
  refine ref_loopX (f := (ref07_recent_l1 subs_0 from__1)) (Γl := (fun (s6 : Int) (x7 : Unit) => [(0, slv (rI .i64) subs_0), (1, iv .i64 from__1), (5, iv .i64 s6)])) (Ωl := (fun (s6 : Int) (x7 : Unit) => [])) (Γb := (fun (q11 : Unit) (y12 : Unit) => [])) (Ωb := (fun (q11 : Unit) (y12 : Unit) => [])) (kr := (fun a : Bool => some a)) 0 () (weak [] ⟨rfl, rfl, rfl, trivial⟩ trivial) (fun s6 x7 => ?_) (fun q11 y12 => ?_)
  · unfold ref07_recent_l1
    refine ref_seq (ref_seq (ref_region ?_))
    refine mv1 rfl rfl ?_
    refine mv1 rfl rfl ?_
    refine s_rd (r_len Try.underlying22 rfl) rfl ?_
    refine s_rd (r_lss rfl rfl) rfl ?_
    refine l_nil (n_then ?_)
    refine ref_cond rfl (fun hb8 => ?_) (fun hb8 => ?_)
    · refine ref_skip (n_then (ref_seq (ref_block (ref_seq (ref_region ?_)))))
      refine mv1 rfl rfl ?_
      refine mv1 rfl rfl ?_
      refine pull fun t9 h_t9 => ?_
      refine s_rd (r_index h_t9 Try.underlying22 el_3 rfl rfl) rfl ?_
      refine s_rd (r_load el_3 rfl) rfl ?_
      refine mv1 rfl rfl ?_
      refine s_rd (r_geq rfl rfl) rfl ?_
      refine l_nil (n_then ?_)
      refine ref_cond rfl (fun hb10 => ?_) (fun hb10 => ?_)
      · refine ref_seq (ref_region ?_)
        refine as1 rfl rfl ?_
        refine l_nil (n_then (ref_ret (r_block (r_then ?_))))
        refine retX ?_
        refine r_block (r_then ?_)
        exact fin1 (.inl rfl) () [] rfl trivial rfl (rv_tmp rfl)
      refine ref_skip (n_block (n_then (ref_region ?_)))
      refine mv1 rfl rfl ?_
      refine s_rd (r_add rfl rfl) rfl ?_
      refine as1 rfl rfl ?_
      refine l_nil ?_
      exact goX () (weak [] ⟨rfl, rfl, rfl, trivial⟩ trivial)
    refine ref_exit (x_then ?_)
    exact brkX () (weak [] trivial trivial)
  refine n_then (ref_seq (ref_region ?_))
  refine as1 rfl rfl ?_
  refine l_nil (n_then (ref_ret ?_))
  exact fin1 (.inl rfl) () [] rfl trivial rfl (rv_tmp rfl)

/-! deliberation/deliberationref07.Run -/
noncomputable def ref07_Run_l1 (b_0 : T_api_Base) (l_1 : (List T_api_Argument)) (i_2 : Int) (rec_ : T_api_Base → (List T_api_Argument) → Int → Option (List T_api_Literal)) (s32 : Int × (List T_api_Literal)) : Option (Sum ((List T_api_Literal)) (Int × (List T_api_Literal))) :=
  Option.bind (idxM l_1 i_2) fun t34 =>
  bif decide (s32.1 < (t34.Subs.length : Int)) then
    Option.bind (idxM l_1 i_2) fun t36 =>
    Option.bind (idxM t36.Subs s32.1) fun t37 =>
    Option.bind (rec_ b_0 l_1 t37) fun t38 =>
    Option.bind (appM 24 s32.2 t38) fun out40 =>
    letM (iadd .i64 s32.1 1) fun k42 =>
    some (Sum.inr (k42, out40))
  else
    some (Sum.inl s32.2)

noncomputable def ref07_Run_b (rec_ : T_api_Base → (List T_api_Argument) → Int → Option (List T_api_Literal)) (b_0 : T_api_Base) (l_1 : (List T_api_Argument)) (i_2 : Int) : Option (List T_api_Literal) :=
  Option.bind (idxM l_1 i_2) fun t2 =>
  joinM (fun j7 : Bool =>
      bif j7 then
        Option.bind (loopC (ref07_Run_l1 b_0 l_1 i_2 rec_) (0, [t2.Conclusion])) fun q43 : (List T_api_Literal) =>
        some q43
      else
        some [t2.Conclusion]) fun k9 =>
  Option.bind (idxM l_1 i_2) fun t4 =>
  bif decide (t4.Rule ≥ 0) then
    Option.bind (idxM l_1 i_2) fun t5 =>
    Option.bind (idxM b_0.Rules t5.Rule) fun t6 =>
    k9 t6.Strict
  else
    k9 false

noncomputable def ref07_Run_n : Nat → T_api_Base → (List T_api_Argument) → Int → Option (List T_api_Literal)
  | 0 => fun _ _ _ => none
  | n_ + 1 => ref07_Run_b (ref07_Run_n n_)

noncomputable def ref07_Run_m (b_0 : T_api_Base) (l_1 : (List T_api_Argument)) (i_2 : Int) : Option (List T_api_Literal) := recC fun n_ => ref07_Run_n n_ b_0 l_1 i_2

theorem ref07_Run_step (rec_ : T_api_Base → (List T_api_Argument) → Int → Option (List T_api_Literal)) (ih : ∀ {b_0 : T_api_Base} {l_1 : (List T_api_Argument)} {i_2 : Int} {r : List T_api_Literal}, rec_ b_0 l_1 i_2 = some r →
    FnOk prog 71 [ag [slv rT_api_Premise b_0.Premises, slv rT_api_Rule b_0.Rules, slv rT_api_Promotion b_0.Promotions], slv rT_api_Argument l_1, iv .i64 i_2] [] (fun (x : (Value × List Nat)) => [pv x.1]) (fun (x : (Value × List Nat)) => [oa rT_api_Literal x.1 x.2 r])) {b_0 : T_api_Base} {l_1 : (List T_api_Argument)} {i_2 : Int} {r : List T_api_Literal} (hm : ref07_Run_b rec_ b_0 l_1 i_2 = some r) :
    FnOk prog 71 [ag [slv rT_api_Premise b_0.Premises, slv rT_api_Rule b_0.Rules, slv rT_api_Promotion b_0.Promotions], slv rT_api_Argument l_1, iv .i64 i_2] [] (fun (x : (Value × List Nat)) => [pv x.1]) (fun (x : (Value × List Nat)) => [oa rT_api_Literal x.1 x.2 r]) := by
  refine fn_ok (X := (Value × List Nat)) (fn := Try.f71) (N := 57) (res := fun r x => [pv x.1]) (Ω1 := fun r x => [oa rT_api_Literal x.1 x.2 r]) Try.func71 rfl rfl hm rfl (fun E hM => ?_)
  unfold ref07_Run_b
  refine ref_seq (ref_region ?_)
  refine s_st (s_box (part_agO (ψs := [slv rT_api_Premise b_0.Premises, slv rT_api_Rule b_0.Rules, slv rT_api_Promotion b_0.Promotions]) rfl ⟨.inl slv_at, .inl slv_at, .inl slv_at, trivial⟩)) rfl (fun b1 => ?_)
  refine as1 rfl rfl ?_
  refine l_nil (n_then (ref_seq (ref_region ?_)))
  refine mv1 rfl rfl ?_
  refine mv1 rfl rfl ?_
  refine pull fun t2 h_t2 => ?_
  refine s_rd (r_index h_t2 Try.underlying35 el_52 rfl rfl) rfl ?_
  refine s_rd (r_fea (fo := 3) (ρ := rT_api_Argument) (y := t2) (ρ' := rT_api_Literal) (z := t2.Conclusion) Try.underlying52 rfl rfl Try.sizeOf50 rfl rfl rfl) rfl ?_
  refine s_rd (r_load el_50 rfl) rfl ?_
  refine s_st (s_bsliceO (xs := [.tmp 13]) (ds := [t2.Conclusion]) Try.underlying53 el_50 rfl (Nat.le_of_ble_eq_true rfl) ⟨(part_agO (ψs := [bv t2.Conclusion.Neg, sv t2.Conclusion.Name]) rfl ⟨.inl bv_at, .inl sv_at, trivial⟩), trivial⟩) rfl (fun o3 => ?_)
  refine as1 rfl rfl ?_
  refine l_nil (n_then (ref_seq (ref_seq ?_)))
  refine ref_join (fun (j7 : Bool) (x8 : Unit) => [(1, slv rT_api_Argument l_1), (2, iv .i64 i_2), (3, pv (ptr b1 0)), (7, pv o3.1), (32, bv j7)]) (fun (j7 : Bool) (x8 : Unit) => [oc b1 [slv rT_api_Premise b_0.Premises, slv rT_api_Rule b_0.Rules, slv rT_api_Promotion b_0.Promotions], oa rT_api_Literal o3.1 o3.2 [t2.Conclusion]]) (fun k9 hk9 => ?_) (fun j7 x8 => ?_)
  · refine ref_draw [0, 1, 2, 3, 4, 5, 6, 7, 8, 9, 10, 11, 12, 13, 14, 15, 16, 17] rfl (by kernel_rfl) (fun hok => ?_)
    refine a_rd (i := 0) hok rfl (by kernel_rfl) rfl (r_move rfl) rfl ?_
    refine a_rd (i := 1) hok rfl (by kernel_rfl) rfl (r_move rfl) rfl ?_
    refine pull fun t4 h_t4 => ?_
    refine a_rd (i := 2) hok rfl (by kernel_rfl) rfl (r_index h_t4 Try.underlying35 el_52 rfl rfl) rfl ?_
    refine a_rd (i := 3) hok rfl (by kernel_rfl) rfl (r_fea (fo := 1) (ρ := rT_api_Argument) (y := t4) (ρ' := (rI .i64)) (z := t4.Rule) Try.underlying52 rfl rfl Try.sizeOf3 rfl rfl rfl) rfl ?_
    refine a_rd (i := 4) hok rfl (by kernel_rfl) rfl (r_load el_3 rfl) rfl ?_
    refine a_rd (i := 5) hok rfl (by kernel_rfl) rfl (r_geq rfl rfl) rfl ?_
    refine a_rd (i := 6) hok rfl (by kernel_rfl) rfl (r_move rfl) rfl ?_
    refine b_split (t := 21) rfl (fun _ => ?_) (fun _ => ?_)
    · refine a_rdOn (i := 7) hok rfl rfl rfl rfl (by kernel_rfl) rfl (r_faddr (fo := 1) Try.underlying34 rfl rfl Try.sizeOf31 rfl) rfl ?_
      refine a_rdOn (i := 8) hok rfl rfl rfl rfl (by kernel_rfl) rfl (r_cload Try.isAgg31 rfl (j := 0) rfl rfl) rfl ?_
      refine a_rdOn (i := 9) hok rfl rfl rfl rfl (by kernel_rfl) rfl (r_move rfl) rfl ?_
      refine a_rdOn (i := 10) hok rfl rfl rfl rfl (by kernel_rfl) rfl (r_move rfl) rfl ?_
      refine pull fun t5 h_t5 => ?_
      refine a_rdOn (i := 11) hok rfl rfl rfl rfl (by kernel_rfl) rfl (r_index h_t5 Try.underlying35 el_52 rfl rfl) rfl ?_
      refine a_rdOn (i := 12) hok rfl rfl rfl rfl (by kernel_rfl) rfl (r_fea (fo := 1) (ρ := rT_api_Argument) (y := t5) (ρ' := (rI .i64)) (z := t5.Rule) Try.underlying52 rfl rfl Try.sizeOf3 rfl rfl rfl) rfl ?_
      refine a_rdOn (i := 13) hok rfl rfl rfl rfl (by kernel_rfl) rfl (r_load el_3 rfl) rfl ?_
      refine pull fun t6 h_t6 => ?_
      refine a_rdOn (i := 14) hok rfl rfl rfl rfl (by kernel_rfl) rfl (r_index h_t6 Try.underlying31 el_55 rfl rfl) rfl ?_
      refine a_rdOn (i := 15) hok rfl rfl rfl rfl (by kernel_rfl) rfl (r_fea (fo := 1) (ρ := rT_api_Rule) (y := t6) (ρ' := rB) (z := t6.Strict) Try.underlying55 rfl rfl Try.sizeOf4 rfl rfl rfl) rfl ?_
      refine a_rdOn (i := 16) hok rfl rfl rfl rfl (by kernel_rfl) rfl (r_load el_4 rfl) rfl ?_
      refine a_rd (i := 17) hok rfl (by kernel_rfl) rfl (r_pickT rfl rfl) rfl ?_
      refine a_fin hok (by kernel_rfl) ?_
      exact b_to (hk9 t6.Strict ()) (weak [0, 1] ⟨rfl, rfl, rfl, rfl, rfl, trivial⟩ ⟨rfl, rfl, trivial⟩)
    refine a_off (i := 7) hok rfl rfl rfl rfl rfl (by kernel_rfl) rfl rfl ?_
    refine a_off (i := 8) hok rfl rfl rfl rfl rfl (by kernel_rfl) rfl rfl ?_
    refine a_off (i := 9) hok rfl rfl rfl rfl rfl (by kernel_rfl) rfl rfl ?_
    refine a_off (i := 10) hok rfl rfl rfl rfl rfl (by kernel_rfl) rfl rfl ?_
    refine a_off (i := 11) hok rfl rfl rfl rfl rfl (by kernel_rfl) rfl rfl ?_
    refine a_off (i := 12) hok rfl rfl rfl rfl rfl (by kernel_rfl) rfl rfl ?_
    refine a_off (i := 13) hok rfl rfl rfl rfl rfl (by kernel_rfl) rfl rfl ?_
    refine a_off (i := 14) hok rfl rfl rfl rfl rfl (by kernel_rfl) rfl rfl ?_
    refine a_off (i := 15) hok rfl rfl rfl rfl rfl (by kernel_rfl) rfl rfl ?_
    refine a_off (i := 16) hok rfl rfl rfl rfl rfl (by kernel_rfl) rfl rfl ?_
    refine a_rd (i := 17) hok rfl (by kernel_rfl) rfl (r_pickF rfl rfl) rfl ?_
    refine a_fin hok (by kernel_rfl) ?_
    exact b_to (hk9 false ()) (weak [0, 1] ⟨rfl, rfl, rfl, rfl, rfl, trivial⟩ ⟨rfl, rfl, trivial⟩)
  refine n_then ?_
  refine ref_cond rfl (fun hb10 => ?_) (fun hb10 => ?_)
  · refine ref_seq (ref_region ?_)
    refine as1 rfl rfl ?_
    refine l_nil (n_then ?_)
    refine ref_loopB (f := (ref07_Run_l1 b_0 l_1 i_2 rec_)) (Γl := (fun (s32 : Int × (List T_api_Literal)) (x33 : (Value × List Nat)) => [(1, slv rT_api_Argument l_1), (2, iv .i64 i_2), (3, pv (ptr b1 0)), (7, pv x33.1), (8, iv .i64 s32.1)])) (Ωl := (fun (s32 : Int × (List T_api_Literal)) (x33 : (Value × List Nat)) => [oc b1 [slv rT_api_Premise b_0.Premises, slv rT_api_Rule b_0.Rules, slv rT_api_Promotion b_0.Promotions], oa rT_api_Literal x33.1 x33.2 s32.2])) (Γb := (fun (q43 : (List T_api_Literal)) (y44 : (Value × List Nat)) => [(7, pv y44.1)])) (Ωb := (fun (q43 : (List T_api_Literal)) (y44 : (Value × List Nat)) => [oa rT_api_Literal y44.1 y44.2 q43])) (0, [t2.Conclusion]) o3 (weak [0, 1] ⟨rfl, rfl, rfl, rfl, rfl, trivial⟩ ⟨rfl, rfl, trivial⟩) (fun s32 x33 => ?_) (fun q43 y44 => ?_)
    · unfold ref07_Run_l1
      refine ref_seq (ref_seq (ref_region ?_))
      refine mv1 rfl rfl ?_
      refine mv1 rfl rfl ?_
      refine mv1 rfl rfl ?_
      refine pull fun t34 h_t34 => ?_
      refine s_rd (r_index h_t34 Try.underlying35 el_52 rfl rfl) rfl ?_
      refine s_rd (r_fea (fo := 2) (ρ := rT_api_Argument) (y := t34) (ρ' := (rSl (rI .i64))) (z := t34.Subs) Try.underlying52 rfl rfl Try.sizeOf22 rfl rfl rfl) rfl ?_
      refine s_rd (r_load el_22 rfl) rfl ?_
      refine s_rd (r_len Try.underlying22 rfl) rfl ?_
      refine s_rd (r_lss rfl rfl) rfl ?_
      refine l_nil (n_then ?_)
      refine ref_cond rfl (fun hb35 => ?_) (fun hb35 => ?_)
      · refine ref_skip (n_then (ref_seq (ref_block ?_)))
        refine ref_draw [0, 1, 2, 3, 4, 5, 6, 7, 8, 9, 10] rfl (by kernel_rfl) (fun hok => ?_)
        refine a_rd (i := 0) hok rfl (by kernel_rfl) rfl (r_move rfl) rfl ?_
        refine a_rd (i := 1) hok rfl (by kernel_rfl) rfl (r_cloadS Try.isAgg34 Try.sizeOf34 rfl (j := 0) rfl rfl rfl) rfl ?_
        refine a_rd (i := 2) hok rfl (by kernel_rfl) rfl (r_move rfl) rfl ?_
        refine a_rd (i := 3) hok rfl (by kernel_rfl) rfl (r_move rfl) rfl ?_
        refine a_rd (i := 4) hok rfl (by kernel_rfl) rfl (r_move rfl) rfl ?_
        refine pull fun t36 h_t36 => ?_
        refine a_rd (i := 5) hok rfl (by kernel_rfl) rfl (r_index h_t36 Try.underlying35 el_52 rfl rfl) rfl ?_
        refine a_rd (i := 6) hok rfl (by kernel_rfl) rfl (r_fea (fo := 2) (ρ := rT_api_Argument) (y := t36) (ρ' := (rSl (rI .i64))) (z := t36.Subs) Try.underlying52 rfl rfl Try.sizeOf22 rfl rfl rfl) rfl ?_
        refine a_rd (i := 7) hok rfl (by kernel_rfl) rfl (r_load el_22 rfl) rfl ?_
        refine a_rd (i := 8) hok rfl (by kernel_rfl) rfl (r_move rfl) rfl ?_
        refine pull fun t37 h_t37 => ?_
        refine a_rd (i := 9) hok rfl (by kernel_rfl) rfl (r_index h_t37 Try.underlying22 el_3 rfl rfl) rfl ?_
        refine a_rd (i := 10) hok rfl (by kernel_rfl) rfl (r_load el_3 rfl) rfl ?_
        refine pull fun t38 h_t38 => ?_
        refine a_next hok 11 [] (by kernel_rfl) ?_ trivial
        refine a_st (i := 11) hok rfl rfl (s_call (ψ := fun (x39 : (Value × List Nat)) => pv x39.1) (args := [.tmp 44, .tmp 45, .tmp 53]) Try.call71 rfl (ih h_t38) ⟨arg rfl, arg rfl, arg rfl, trivial⟩ (fun _ _ _ _ h => h)) (by intro _ h; cases h; rfl) (fun _ => ⟨trivial, ⟨trivial, ⟨trivial, ⟨trivial, ⟨trivial, ⟨trivial, ⟨trivial, ⟨trivial, ⟨trivial, ⟨trivial, ⟨trivial, trivial⟩⟩⟩⟩⟩⟩⟩⟩⟩⟩⟩) (fun x39 => ?_)
        refine a_of (frzL [54] (j := 2) rfl ⟨rfl, trivial⟩) (dead_keeps (j := 2) rfl) ?_
        refine pull fun out40 h_out40 => ?_
        refine a_next hok 12 [] (by kernel_rfl) ?_ trivial
        refine a_st (i := 12) hok rfl rfl (s_append h_out40 Try.underlying53 el_50 rfl (j := 1) rfl rfl) (by intro _ h; cases h; rfl) (fun _ => ⟨trivial, ⟨trivial, ⟨trivial, ⟨trivial, ⟨trivial, ⟨trivial, ⟨trivial, ⟨trivial, ⟨trivial, ⟨⟨⟨rfl, rfl⟩, trivial⟩, ⟨trivial, trivial⟩⟩⟩⟩⟩⟩⟩⟩⟩⟩⟩) (fun o41 => ?_)
        refine a_next hok 13 [] (by kernel_rfl) ?_ trivial
        refine a_st (i := 13) hok rfl rfl (St.ofRd (r_assign rfl)) (by intro _ h; cases h; rfl) (fun _ => ⟨trivial, ⟨trivial, ⟨trivial, ⟨trivial, ⟨trivial, ⟨trivial, ⟨trivial, ⟨trivial, ⟨trivial, ⟨trivial, ⟨trivial, trivial⟩⟩⟩⟩⟩⟩⟩⟩⟩⟩⟩) (fun _ => ?_)
        refine a_fin hok (by kernel_rfl) ?_
        refine n_block (n_then (ref_region ?_))
        refine mv1 rfl rfl ?_
        refine s_rd (r_add rfl rfl) rfl ?_
        refine as1 rfl rfl ?_
        refine b_let (f := iv .i64) (t := 8) rfl fun k42 => ?_
        refine l_nil ?_
        exact goB o41 (weak [0, 1] ⟨rfl, rfl, rfl, rfl, rfl, trivial⟩ ⟨rfl, rfl, trivial⟩)
      refine ref_exit (x_then ?_)
      exact brkB x33 (weak [1] ⟨rfl, trivial⟩ ⟨rfl, trivial⟩)
    refine n_then (ref_seq (ref_region ?_))
    refine mv1 rfl rfl ?_
    refine as1 rfl rfl ?_
    refine l_nil (n_then (ref_ret ?_))
    exact fin1 (.inl rfl) y44 [0] rfl ⟨rfl, trivial⟩ rfl (rv_tmp rfl)
  refine ref_skip (n_then (ref_seq (ref_region ?_)))
  refine mv1 rfl rfl ?_
  refine as1 rfl rfl ?_
  refine l_nil (n_then (ref_ret ?_))
  exact fin1 (.inl rfl) o3 [1] rfl ⟨rfl, trivial⟩ rfl (rv_tmp rfl)

theorem ref07_Run_n_ok : ∀ (n_ : Nat) {b_0 : T_api_Base} {l_1 : (List T_api_Argument)} {i_2 : Int} {r : List T_api_Literal}, ref07_Run_n n_ b_0 l_1 i_2 = some r →
    FnOk prog 71 [ag [slv rT_api_Premise b_0.Premises, slv rT_api_Rule b_0.Rules, slv rT_api_Promotion b_0.Promotions], slv rT_api_Argument l_1, iv .i64 i_2] [] (fun (x : (Value × List Nat)) => [pv x.1]) (fun (x : (Value × List Nat)) => [oa rT_api_Literal x.1 x.2 r]) := by
  intro n_
  induction n_ with
  | zero => intros; rename_i h; cases h
  | succ n_ ih => intros; rename_i h; exact ref07_Run_step _ @ih h

theorem ref07_Run_ok {b_0 : T_api_Base} {l_1 : (List T_api_Argument)} {i_2 : Int} {r : List T_api_Literal} (hm : ref07_Run_m b_0 l_1 i_2 = some r) :
    FnOk prog 71 [ag [slv rT_api_Premise b_0.Premises, slv rT_api_Rule b_0.Rules, slv rT_api_Promotion b_0.Promotions], slv rT_api_Argument l_1, iv .i64 i_2] [] (fun (x : (Value × List Nat)) => [pv x.1]) (fun (x : (Value × List Nat)) => [oa rT_api_Literal x.1 x.2 r]) := by
  obtain ⟨n_, h⟩ := recC_some hm
  exact ref07_Run_n_ok n_ h

theorem ref07_Run_l1_le {rec_ rec_' : T_api_Base → (List T_api_Argument) → Int → Option (List T_api_Literal)} (h : ∀ b_0 l_1 i_2, Le (rec_ b_0 l_1 i_2) (rec_' b_0 l_1 i_2)) {b_0 : T_api_Base} {l_1 : (List T_api_Argument)} {i_2 : Int} {s32 : Int × (List T_api_Literal)}  : Le (ref07_Run_l1 b_0 l_1 i_2 rec_ s32) (ref07_Run_l1 b_0 l_1 i_2 rec_' s32) := by
  unfold ref07_Run_l1
  repeat' with_reducible (first | exact Le.refl _ | exact h _ _ _ | refine Le.bind ?_ (Le.sumK fun _ => ?_) | refine Le.bind ?_ (fun _ => ?_) | refine Le.cond ?_ ?_ | refine Le.letM (fun _ => ?_) | refine Le.join (fun _ => ?_) (fun _ _ hj => ?_) | exact hj _)

theorem ref07_Run_b_le {rec_ rec_' : T_api_Base → (List T_api_Argument) → Int → Option (List T_api_Literal)} (h : ∀ b_0 l_1 i_2, Le (rec_ b_0 l_1 i_2) (rec_' b_0 l_1 i_2)) {b_0 : T_api_Base} {l_1 : (List T_api_Argument)} {i_2 : Int} : Le (ref07_Run_b rec_ b_0 l_1 i_2) (ref07_Run_b rec_' b_0 l_1 i_2) := by
  unfold ref07_Run_b
  repeat' with_reducible (first | exact Le.refl _ | exact h _ _ _ | refine Le.loopC (fun _ => ref07_Run_l1_le h) | refine Le.bind ?_ (Le.sumK fun _ => ?_) | refine Le.bind ?_ (fun _ => ?_) | refine Le.cond ?_ ?_ | refine Le.letM (fun _ => ?_) | refine Le.join (fun _ => ?_) (fun _ _ hj => ?_) | exact hj _)

theorem ref07_Run_n_le : ∀ (n_ : Nat) (b_0 : T_api_Base) (l_1 : (List T_api_Argument)) (i_2 : Int), Le (ref07_Run_n n_ b_0 l_1 i_2) (ref07_Run_n (n_ + 1) b_0 l_1 i_2)
  | 0, _, _, _ => fun _ h => by cases h
  | n_ + 1, _, _, _ => ref07_Run_b_le (ref07_Run_n_le n_)

/-! deliberation/deliberationref01.Has -/
noncomputable def ref01_Has_l1 (l_0 : (List T_api_Literal)) (x_1 : T_api_Literal) (s7 : Int) : Option (Sum ((Sum (Bool) (Unit))) (Int)) :=
  bif decide (s7 < (l_0.length : Int)) then
    Option.bind (idxM l_0 s7) fun t10 =>
    bif decide (t10 = x_1) then
      some (Sum.inl (Sum.inl true))
    else
      some (Sum.inr (iadd .i64 s7 1))
  else
    some (Sum.inl (Sum.inr ()))

noncomputable def ref01_Has_m (l_0 : (List T_api_Literal)) (x_1 : T_api_Literal) : Option (Bool) :=
  Option.bind (loopC (ref01_Has_l1 l_0 x_1) 0) (sumK (fun a : Bool => some a) fun q12 : Unit =>
    some false)

theorem ref01_Has_ok {l_0 : (List T_api_Literal)} {x_1 : T_api_Literal} {r : Bool} (hm : ref01_Has_m l_0 x_1 = some r) :
    FnOk prog 70 [slv rT_api_Literal l_0, ag [bv x_1.Neg, sv x_1.Name]] [] (fun (x : Unit) => [bv r]) (fun (x : Unit) => []) := by
  refine fn_ok (fn := Try.f70) (N := 18) (res := fun r x => [bv r]) (Ω1 := fun r x => []) Try.func70 rfl rfl hm rfl (fun E hM => ?_)
  unfold ref01_Has_m
  refine ref_seq (ref_region ?_)
  refine s_st (s_box (part_agO (ψs := [bv x_1.Neg, sv x_1.Name]) rfl ⟨.inl bv_at, .inl sv_at, trivial⟩)) rfl (fun b1 => ?_)
  refine as1 rfl rfl ?_
  refine l_nil (n_then (ref_seq (ref_seq (ref_region ?_))))
  refine as1 rfl rfl ?_
  refine l_nil (n_then ?_)
  refine ref_loopX (f := (ref01_Has_l1 l_0 x_1)) (Γl := (fun (s7 : Int) (x8 : Unit) => [(0, slv rT_api_Literal l_0), (3, pv (ptr b1 0)), (5, iv .i64 s7)])) (Ωl := (fun (s7 : Int) (x8 : Unit) => [oc b1 [bv x_1.Neg, sv x_1.Name]])) (Γb := (fun (q12 : Unit) (y13 : Unit) => [])) (Ωb := (fun (q12 : Unit) (y13 : Unit) => [])) (kr := (fun a : Bool => some a)) 0 () (weak [0] ⟨rfl, rfl, rfl, trivial⟩ ⟨rfl, trivial⟩) (fun s7 x8 => ?_) (fun q12 y13 => ?_)
  · unfold ref01_Has_l1
    refine ref_seq (ref_seq (ref_region ?_))
    refine mv1 rfl rfl ?_
    refine mv1 rfl rfl ?_
    refine s_rd (r_len Try.underlying53 rfl) rfl ?_
    refine s_rd (r_lss rfl rfl) rfl ?_
    refine l_nil (n_then ?_)
    refine ref_cond rfl (fun hb9 => ?_) (fun hb9 => ?_)
    · refine ref_skip (n_then (ref_seq (ref_block (ref_seq ?_))))
      refine ref_draw [0, 1, 2, 3, 4, 5] rfl (by kernel_rfl) (fun hok => ?_)
      refine a_rd (i := 0) hok rfl (by kernel_rfl) rfl (r_move rfl) rfl ?_
      refine a_rd (i := 1) hok rfl (by kernel_rfl) rfl (r_move rfl) rfl ?_
      refine pull fun t10 h_t10 => ?_
      refine a_rd (i := 2) hok rfl (by kernel_rfl) rfl (r_index h_t10 Try.underlying53 el_50 rfl rfl) rfl ?_
      refine a_rd (i := 3) hok rfl (by kernel_rfl) rfl (r_load el_50 rfl) rfl ?_
      refine a_rd (i := 4) hok rfl (by kernel_rfl) rfl (r_cloadS Try.isAgg50 Try.sizeOf50 rfl (j := 0) rfl rfl rfl) rfl ?_
      refine a_rd (i := 5) hok rfl (by kernel_rfl) rfl (r_steql (u := t10) (v := x_1) eq_50 rfl rfl rfl rfl) rfl ?_
      refine a_fin hok (by kernel_rfl) ?_
      refine n_then ?_
      refine ref_cond rfl (fun hb11 => ?_) (fun hb11 => ?_)
      · refine ref_seq (ref_region ?_)
        refine as1 rfl rfl ?_
        refine l_nil (n_then (ref_ret (r_block (r_then ?_))))
        refine retX ?_
        refine r_block (r_then ?_)
        exact fin1 (.inl rfl) () [] rfl trivial rfl (rv_tmp rfl)
      refine ref_skip (n_block (n_then (ref_region ?_)))
      refine mv1 rfl rfl ?_
      refine s_rd (r_add rfl rfl) rfl ?_
      refine as1 rfl rfl ?_
      refine l_nil ?_
      exact goX () (weak [0] ⟨rfl, rfl, rfl, trivial⟩ ⟨rfl, trivial⟩)
    refine ref_exit (x_then ?_)
    exact brkX () (weak [] trivial trivial)
  refine n_then (ref_seq (ref_region ?_))
  refine as1 rfl rfl ?_
  refine l_nil (n_then (ref_ret ?_))
  exact fin1 (.inl rfl) () [] rfl trivial rfl (rv_tmp rfl)

/-! deliberation/deliberationref07.insert -/
noncomputable def ref07_insert_l1 (l_0 : (List Int)) (n_1 : Int) (s5 : Int) : Option (Sum (Int) (Int)) :=
  bif decide (s5 < (l_0.length : Int)) then
    Option.bind (idxM l_0 s5) fun t7 =>
    bif decide (t7 < n_1) then
      some (Sum.inr (iadd .i64 s5 1))
    else
      some (Sum.inl s5)
  else
    some (Sum.inl s5)

noncomputable def ref07_insert_m (l_0 : (List Int)) (n_1 : Int) : Option (List Int) :=
  Option.bind (loopC (ref07_insert_l1 l_0 n_1) 0) fun q9 : Int =>
  joinM (fun j13 : Unit =>
      Option.bind (slM l_0 0 q9) fun t17 =>
      Option.bind (appM 8 [] t17) fun out18 =>
      Option.bind (slM l_0 q9 (l_0.length : Int)) fun t20 =>
      Option.bind (appM 8 out18 [n_1]) fun t21 =>
      Option.bind (appM 8 t21 t20) fun t23 =>
      some t23) fun k15 =>
  bif decide (q9 < (l_0.length : Int)) then
    Option.bind (idxM l_0 q9) fun t11 =>
    bif t11 == n_1 then
      some l_0
    else
      k15 ()
  else
    k15 ()

theorem ref07_insert_ok {l_0 : (List Int)} {n_1 : Int} {r : List Int} (hm : ref07_insert_m l_0 n_1 = some r) :
    FnOk prog 59 [slv (rI .i64) l_0, iv .i64 n_1] [] (fun (x : Unit) => [slv (rI .i64) r]) (fun (x : Unit) => []) := by
  refine fn_ok (fn := Try.f59) (N := 47) (res := fun r x => [slv (rI .i64) r]) (Ω1 := fun r x => []) Try.func59 rfl rfl hm rfl (fun E hM => ?_)
  unfold ref07_insert_m
  refine ref_seq (ref_region ?_)
  refine as1 rfl rfl ?_
  refine l_nil (n_then (ref_seq (ref_region ?_)))
  refine as1 rfl rfl ?_
  refine l_nil (n_then (ref_seq ?_))
  refine ref_loopB (f := (ref07_insert_l1 l_0 n_1)) (Γl := (fun (s5 : Int) (x6 : Unit) => [(0, slv (rI .i64) l_0), (1, iv .i64 n_1), (5, iv .i64 s5)])) (Ωl := (fun (s5 : Int) (x6 : Unit) => [])) (Γb := (fun (q9 : Int) (y10 : Unit) => [(0, slv (rI .i64) l_0), (1, iv .i64 n_1), (5, iv .i64 q9)])) (Ωb := (fun (q9 : Int) (y10 : Unit) => [])) 0 () (weak [] ⟨rfl, rfl, rfl, trivial⟩ trivial) (fun s5 x6 => ?_) (fun q9 y10 => ?_)
  · unfold ref07_insert_l1
    refine ref_seq (ref_seq (ref_region ?_))
    refine mv1 rfl rfl ?_
    refine mv1 rfl rfl ?_
    refine s_rd (r_len Try.underlying22 rfl) rfl ?_
    refine s_rd (r_lss rfl rfl) rfl ?_
    refine mv1 rfl rfl ?_
    refine b_split (t := 11) rfl (fun _ => ?_) (fun _ => ?_)
    · refine s_on rfl rfl rfl ?_
      refine mv1 rfl rfl ?_
      refine s_on rfl rfl rfl ?_
      refine mv1 rfl rfl ?_
      refine s_on rfl rfl rfl ?_
      refine pull fun t7 h_t7 => ?_
      refine s_rd (r_index h_t7 Try.underlying22 el_3 rfl rfl) rfl ?_
      refine s_on rfl rfl rfl ?_
      refine s_rd (r_load el_3 rfl) rfl ?_
      refine s_on rfl rfl rfl ?_
      refine mv1 rfl rfl ?_
      refine s_on rfl rfl rfl ?_
      refine s_rd (r_lss rfl rfl) rfl ?_
      refine s_rd (r_pickT rfl rfl) rfl ?_
      refine l_nil (n_then ?_)
      refine ref_cond rfl (fun hb8 => ?_) (fun hb8 => ?_)
      · refine ref_skip (n_then (ref_block (ref_region ?_)))
        refine mv1 rfl rfl ?_
        refine s_rd (r_add rfl rfl) rfl ?_
        refine as1 rfl rfl ?_
        refine l_nil (n_block ?_)
        exact goB () (weak [] ⟨rfl, rfl, rfl, trivial⟩ trivial)
      refine ref_exit (x_then ?_)
      exact brkB () (weak [] ⟨rfl, rfl, rfl, trivial⟩ trivial)
    refine s_off rfl rfl rfl rfl rfl ?_
    refine s_off rfl rfl rfl rfl rfl ?_
    refine s_off rfl rfl rfl rfl rfl ?_
    refine s_off rfl rfl rfl rfl rfl ?_
    refine s_off rfl rfl rfl rfl rfl ?_
    refine s_off rfl rfl rfl rfl rfl ?_
    refine s_rd (r_pickF rfl rfl) rfl ?_
    refine l_nil (n_then ?_)
    refine ref_condF rfl rfl ?_
    refine ref_exit (x_then ?_)
    exact brkB () (weak [] ⟨rfl, rfl, rfl, trivial⟩ trivial)
  refine n_then (ref_seq ?_)
  refine ref_join (fun (j13 : Unit) (x14 : Unit) => [(0, slv (rI .i64) l_0), (1, iv .i64 n_1), (5, iv .i64 q9)]) (fun (j13 : Unit) (x14 : Unit) => []) (fun k15 hk15 => ?_) (fun j13 x14 => ?_)
  · refine ref_seq (ref_region ?_)
    refine mv1 rfl rfl ?_
    refine mv1 rfl rfl ?_
    refine s_rd (r_len Try.underlying22 rfl) rfl ?_
    refine s_rd (r_lss rfl rfl) rfl ?_
    refine mv1 rfl rfl ?_
    refine b_split (t := 25) rfl (fun _ => ?_) (fun _ => ?_)
    · refine s_on rfl rfl rfl ?_
      refine mv1 rfl rfl ?_
      refine s_on rfl rfl rfl ?_
      refine mv1 rfl rfl ?_
      refine s_on rfl rfl rfl ?_
      refine pull fun t11 h_t11 => ?_
      refine s_rd (r_index h_t11 Try.underlying22 el_3 rfl rfl) rfl ?_
      refine s_on rfl rfl rfl ?_
      refine s_rd (r_load el_3 rfl) rfl ?_
      refine s_on rfl rfl rfl ?_
      refine mv1 rfl rfl ?_
      refine s_on rfl rfl rfl ?_
      refine s_rd (r_eql rfl rfl) rfl ?_
      refine s_rd (r_pickT rfl rfl) rfl ?_
      refine l_nil (n_then ?_)
      refine ref_cond rfl (fun hb12 => ?_) (fun hb12 => ?_)
      · refine ref_seq (ref_region ?_)
        refine mv1 rfl rfl ?_
        refine as1 rfl rfl ?_
        refine l_nil (n_then (ref_ret (r_then ?_)))
        exact fin1 (.inl rfl) () [] rfl trivial rfl (rv_tmp rfl)
      refine ref_skip ?_
      exact b_to (hk15 () ()) (weak [] ⟨rfl, rfl, rfl, trivial⟩ trivial)
    refine s_off rfl rfl rfl rfl rfl ?_
    refine s_off rfl rfl rfl rfl rfl ?_
    refine s_off rfl rfl rfl rfl rfl ?_
    refine s_off rfl rfl rfl rfl rfl ?_
    refine s_off rfl rfl rfl rfl rfl ?_
    refine s_off rfl rfl rfl rfl rfl ?_
    refine s_rd (r_pickF rfl rfl) rfl ?_
    refine l_nil (n_then ?_)
    refine ref_condF rfl rfl ?_
    refine ref_skip ?_
    exact b_to (hk15 () ()) (weak [] ⟨rfl, rfl, rfl, trivial⟩ trivial)
  refine n_then (ref_seq (ref_region ?_))
  refine s_st (s_bsliceO (xs := []) (ds := []) Try.underlying22 el_3 rfl (Nat.le_of_ble_eq_true rfl) trivial) rfl (fun o16 => ?_)
  refine mv1 rfl rfl ?_
  refine mv1 rfl rfl ?_
  refine pull fun t17 h_t17 => ?_
  refine s_rd (r_slice h_t17 Try.underlying22 el_3 rfl .dft (.of rfl)) rfl ?_
  refine pull fun out18 h_out18 => ?_
  refine s_st (s_append h_out18 Try.underlying22 el_3 rfl (j := 0) rfl rfl) rfl (fun o19 => ?_)
  refine as1 rfl rfl ?_
  refine l_nil (n_then (ref_seq ?_))
  refine ref_draw [0, 1, 4, 5, 6] rfl (by kernel_rfl) (fun hok => ?_)
  refine a_rd (i := 0) hok rfl (by kernel_rfl) rfl (r_move rfl) rfl ?_
  refine a_rd (i := 1) hok rfl (by kernel_rfl) rfl (r_move rfl) rfl ?_
  refine a_rd (i := 4) hok rfl (by kernel_rfl) rfl (r_move rfl) rfl ?_
  refine a_rd (i := 5) hok rfl (by kernel_rfl) rfl (r_move rfl) rfl ?_
  refine pull fun t20 h_t20 => ?_
  refine a_rd (i := 6) hok rfl (by kernel_rfl) rfl (r_slice h_t20 Try.underlying22 el_3 rfl (.of rfl) .dft) rfl ?_
  refine a_next hok 2 [] (by kernel_rfl) ?_ trivial
  refine a_st (i := 2) hok rfl rfl (s_bslice (xs := [.tmp 40]) (ds := [n_1]) Try.underlying22 el_3 rfl (Nat.le_of_ble_eq_true rfl) ⟨(part_at rfl iv_at), trivial⟩) (by intro _ h; cases h; rfl) (fun _ => ⟨trivial, ⟨trivial, ⟨trivial, ⟨trivial, ⟨trivial, trivial⟩⟩⟩⟩⟩) (fun _ => ?_)
  refine pull fun t21 h_t21 => ?_
  refine a_next hok 3 [] (by kernel_rfl) ?_ trivial
  refine a_st (i := 3) hok rfl rfl (s_append h_t21 Try.underlying22 el_3 rfl (j := 0) rfl rfl) (by intro _ h; cases h; rfl) (fun _ => ⟨trivial, ⟨trivial, ⟨trivial, ⟨trivial, ⟨trivial, trivial⟩⟩⟩⟩⟩) (fun o22 => ?_)
  refine pull fun t23 h_t23 => ?_
  refine a_next hok 7 [] (by kernel_rfl) ?_ trivial
  refine a_st (i := 7) hok rfl rfl (s_append h_t23 Try.underlying22 el_3 rfl (j := 0) rfl rfl) (by intro _ h; cases h; rfl) (fun _ => ⟨trivial, ⟨trivial, ⟨trivial, ⟨trivial, ⟨trivial, trivial⟩⟩⟩⟩⟩) (fun o24 => ?_)
  refine a_next hok 8 [] (by kernel_rfl) ?_ trivial
  refine a_st (i := 8) hok rfl rfl (St.ofRd (r_assign rfl)) (by intro _ h; cases h; rfl) (fun _ => ⟨trivial, ⟨trivial, ⟨trivial, ⟨trivial, ⟨trivial, trivial⟩⟩⟩⟩⟩) (fun _ => ?_)
  refine a_fin hok (by kernel_rfl) ?_
  refine b_of (nrm [oa (rI .i64) o24.1 o24.2 t23] rfl) ?_
  refine n_then (ref_ret ?_)
  refine b_of (frzL [46, 4] (j := 0) rfl ⟨rfl, rfl, trivial⟩) ?_
  exact fin1 (.inl rfl) () [] rfl trivial rfl (rv_tmp rfl)

/-! deliberation/deliberationref07.union -/
noncomputable def ref07_union_l1 (b_1 : (List Int)) (s6 : (List Int) × Int) : Option (Sum ((List Int)) ((List Int) × Int)) :=
  bif decide (s6.2 < (b_1.length : Int)) then
    Option.bind (idxM b_1 s6.2) fun t9 =>
    Option.bind (ref07_insert_m s6.1 t9) fun a_10 =>
    letM (iadd .i64 s6.2 1) fun i11 =>
    some (Sum.inr (a_10, i11))
  else
    some (Sum.inl s6.1)

noncomputable def ref07_union_m (a__0 : (List Int)) (b_1 : (List Int)) : Option (List Int) :=
  Option.bind (loopC (ref07_union_l1 b_1) (a__0, 0)) fun q12 : (List Int) =>
  some q12

theorem ref07_union_ok {a__0 : (List Int)} {b_1 : (List Int)} {r : List Int} (hm : ref07_union_m a__0 b_1 = some r) :
    FnOk prog 62 [slv (rI .i64) a__0, slv (rI .i64) b_1] [] (fun (x : Unit) => [slv (rI .i64) r]) (fun (x : Unit) => []) := by
  refine fn_ok (fn := Try.f62) (N := 19) (res := fun r x => [slv (rI .i64) r]) (Ω1 := fun r x => []) Try.func62 rfl rfl hm rfl (fun E hM => ?_)
  unfold ref07_union_m
  refine ref_seq (ref_region ?_)
  refine as1 rfl rfl ?_
  refine l_nil (n_then (ref_seq (ref_seq (ref_region ?_))))
  refine as1 rfl rfl ?_
  refine l_nil (n_then ?_)
  refine ref_loopB (f := (ref07_union_l1 b_1)) (Γl := (fun (s6 : (List Int) × Int) (x7 : Unit) => [(0, slv (rI .i64) s6.1), (1, slv (rI .i64) b_1), (5, iv .i64 s6.2)])) (Ωl := (fun (s6 : (List Int) × Int) (x7 : Unit) => [])) (Γb := (fun (q12 : (List Int)) (y13 : Unit) => [(0, slv (rI .i64) q12)])) (Ωb := (fun (q12 : (List Int)) (y13 : Unit) => [])) (a__0, 0) () (weak [] ⟨rfl, rfl, rfl, trivial⟩ trivial) (fun s6 x7 => ?_) (fun q12 y13 => ?_)
  · unfold ref07_union_l1
    refine ref_seq (ref_seq (ref_region ?_))
    refine mv1 rfl rfl ?_
    refine mv1 rfl rfl ?_
    refine s_rd (r_len Try.underlying22 rfl) rfl ?_
    refine s_rd (r_lss rfl rfl) rfl ?_
    refine l_nil (n_then ?_)
    refine ref_cond rfl (fun hb8 => ?_) (fun hb8 => ?_)
    · refine ref_skip (n_then (ref_seq (ref_block (ref_region ?_))))
      refine mv1 rfl rfl ?_
      refine mv1 rfl rfl ?_
      refine mv1 rfl rfl ?_
      refine pull fun t9 h_t9 => ?_
      refine s_rd (r_index h_t9 Try.underlying22 el_3 rfl rfl) rfl ?_
      refine s_rd (r_load el_3 rfl) rfl ?_
      refine pull fun a_10 h_a_10 => ?_
      refine s_st (s_call (ψ := fun (_ : Unit) => slv (rI .i64) a_10) (args := [.tmp 12, .tmp 16]) Try.call59 rfl (ref07_insert_ok h_a_10) ⟨arg rfl, arg rfl, trivial⟩ (fun _ _ _ _ h => h)) rfl (fun _ => ?_)
      refine as1 rfl rfl ?_
      refine l_nil (n_block (n_then (ref_region ?_)))
      refine mv1 rfl rfl ?_
      refine s_rd (r_add rfl rfl) rfl ?_
      refine as1 rfl rfl ?_
      refine b_let (f := iv .i64) (t := 5) rfl fun i11 => ?_
      refine l_nil ?_
      exact goB () (weak [] ⟨rfl, rfl, rfl, trivial⟩ trivial)
    refine ref_exit (x_then ?_)
    exact brkB () (weak [] ⟨rfl, trivial⟩ trivial)
  refine n_then (ref_seq (ref_region ?_))
  refine mv1 rfl rfl ?_
  refine as1 rfl rfl ?_
  refine l_nil (n_then (ref_ret ?_))
  exact fin1 (.inl rfl) () [] rfl trivial rfl (rv_tmp rfl)

/-! deliberation/deliberationref07.Subs -/
noncomputable def ref07_Subs_l1 (l_0 : (List T_api_Argument)) (i_1 : Int) (rec_ : (List T_api_Argument) → Int → Option (List Int)) (s10 : (List Int) × Int) : Option (Sum ((List Int)) ((List Int) × Int)) :=
  Option.bind (idxM l_0 i_1) fun t12 =>
  bif decide (s10.2 < (t12.Subs.length : Int)) then
    Option.bind (idxM l_0 i_1) fun t14 =>
    Option.bind (idxM t14.Subs s10.2) fun t15 =>
    Option.bind (rec_ l_0 t15) fun t16 =>
    Option.bind (ref07_union_m s10.1 t16) fun out17 =>
    letM (iadd .i64 s10.2 1) fun k18 =>
    some (Sum.inr (out17, k18))
  else
    some (Sum.inl s10.1)

noncomputable def ref07_Subs_b (rec_ : (List T_api_Argument) → Int → Option (List Int)) (l_0 : (List T_api_Argument)) (i_1 : Int) : Option (List Int) :=
  bif decide (i_1 < 0) then
    some []
  else
    bif decide (i_1 ≥ (l_0.length : Int)) then
      some []
    else
      Option.bind (loopC (ref07_Subs_l1 l_0 i_1 rec_) ([i_1], 0)) fun q19 : (List Int) =>
      some q19

noncomputable def ref07_Subs_n : Nat → (List T_api_Argument) → Int → Option (List Int)
  | 0 => fun _ _ => none
  | n_ + 1 => ref07_Subs_b (ref07_Subs_n n_)

noncomputable def ref07_Subs_m (l_0 : (List T_api_Argument)) (i_1 : Int) : Option (List Int) := recC fun n_ => ref07_Subs_n n_ l_0 i_1

theorem ref07_Subs_step (rec_ : (List T_api_Argument) → Int → Option (List Int)) (ih : ∀ {l_0 : (List T_api_Argument)} {i_1 : Int} {r : List Int}, rec_ l_0 i_1 = some r →
    FnOk prog 58 [slv rT_api_Argument l_0, iv .i64 i_1] [] (fun (x : Unit) => [slv (rI .i64) r]) (fun (x : Unit) => [])) {l_0 : (List T_api_Argument)} {i_1 : Int} {r : List Int} (hm : ref07_Subs_b rec_ l_0 i_1 = some r) :
    FnOk prog 58 [slv rT_api_Argument l_0, iv .i64 i_1] [] (fun (x : Unit) => [slv (rI .i64) r]) (fun (x : Unit) => []) := by
  refine fn_ok (fn := Try.f58) (N := 40) (res := fun r x => [slv (rI .i64) r]) (Ω1 := fun r x => []) Try.func58 rfl rfl hm rfl (fun E hM => ?_)
  unfold ref07_Subs_b
  refine ref_seq (ref_region ?_)
  refine as1 rfl rfl ?_
  refine l_nil (n_then (ref_seq (ref_seq (ref_region ?_))))
  refine mv1 rfl rfl ?_
  refine s_rd (r_lss rfl rfl) rfl ?_
  refine mv1 rfl rfl ?_
  refine b_split (t := 9) rfl (fun _ => ?_) (fun _ => ?_)
  · refine s_off rfl rfl rfl rfl rfl ?_
    refine s_off rfl rfl rfl rfl rfl ?_
    refine s_off rfl rfl rfl rfl rfl ?_
    refine s_off rfl rfl rfl rfl rfl ?_
    refine s_rd (r_pickT rfl rfl) rfl ?_
    refine l_nil (n_then ?_)
    refine ref_condT rfl rfl ?_
    refine ref_seq (ref_region ?_)
    refine as1 rfl rfl ?_
    refine l_nil (n_then (ref_ret (r_then ?_)))
    refine b_of (sl_nil (rI .i64) (t := 4) rfl) ?_
    exact fin1 (.inl rfl) () [] rfl trivial rfl (rv_tmp rfl)
  refine s_on rfl rfl rfl ?_
  refine mv1 rfl rfl ?_
  refine s_on rfl rfl rfl ?_
  refine mv1 rfl rfl ?_
  refine s_on rfl rfl rfl ?_
  refine s_rd (r_len Try.underlying35 rfl) rfl ?_
  refine s_on rfl rfl rfl ?_
  refine s_rd (r_geq rfl rfl) rfl ?_
  refine s_rd (r_pickF rfl rfl) rfl ?_
  refine l_nil (n_then ?_)
  refine ref_cond rfl (fun hb1 => ?_) (fun hb1 => ?_)
  · refine ref_seq (ref_region ?_)
    refine as1 rfl rfl ?_
    refine l_nil (n_then (ref_ret (r_then ?_)))
    refine b_of (sl_nil (rI .i64) (t := 4) rfl) ?_
    exact fin1 (.inl rfl) () [] rfl trivial rfl (rv_tmp rfl)
  refine ref_skip (n_then (ref_seq (ref_region ?_)))
  refine mv1 rfl rfl ?_
  refine s_st (s_bslice (xs := [.tmp 15]) (ds := [i_1]) Try.underlying22 el_3 rfl (Nat.le_of_ble_eq_true rfl) ⟨(part_at rfl iv_at), trivial⟩) rfl (fun _ => ?_)
  refine as1 rfl rfl ?_
  refine l_nil (n_then (ref_seq (ref_seq (ref_region ?_))))
  refine as1 rfl rfl ?_
  refine l_nil (n_then ?_)
  refine ref_loopB (f := (ref07_Subs_l1 l_0 i_1 rec_)) (Γl := (fun (s10 : (List Int) × Int) (x11 : Unit) => [(0, slv rT_api_Argument l_0), (1, iv .i64 i_1), (5, slv (rI .i64) s10.1), (6, iv .i64 s10.2)])) (Ωl := (fun (s10 : (List Int) × Int) (x11 : Unit) => [])) (Γb := (fun (q19 : (List Int)) (y20 : Unit) => [(5, slv (rI .i64) q19)])) (Ωb := (fun (q19 : (List Int)) (y20 : Unit) => [])) ([i_1], 0) () (weak [] ⟨rfl, rfl, rfl, rfl, trivial⟩ trivial) (fun s10 x11 => ?_) (fun q19 y20 => ?_)
  · unfold ref07_Subs_l1
    refine ref_seq (ref_seq (ref_region ?_))
    refine mv1 rfl rfl ?_
    refine mv1 rfl rfl ?_
    refine mv1 rfl rfl ?_
    refine pull fun t12 h_t12 => ?_
    refine s_rd (r_index h_t12 Try.underlying35 el_52 rfl rfl) rfl ?_
    refine s_rd (r_fea (fo := 2) (ρ := rT_api_Argument) (y := t12) (ρ' := (rSl (rI .i64))) (z := t12.Subs) Try.underlying52 rfl rfl Try.sizeOf22 rfl rfl rfl) rfl ?_
    refine s_rd (r_load el_22 rfl) rfl ?_
    refine s_rd (r_len Try.underlying22 rfl) rfl ?_
    refine s_rd (r_lss rfl rfl) rfl ?_
    refine l_nil (n_then ?_)
    refine ref_cond rfl (fun hb13 => ?_) (fun hb13 => ?_)
    · refine ref_skip (n_then (ref_seq (ref_block (ref_region ?_))))
      refine mv1 rfl rfl ?_
      refine mv1 rfl rfl ?_
      refine mv1 rfl rfl ?_
      refine mv1 rfl rfl ?_
      refine pull fun t14 h_t14 => ?_
      refine s_rd (r_index h_t14 Try.underlying35 el_52 rfl rfl) rfl ?_
      refine s_rd (r_fea (fo := 2) (ρ := rT_api_Argument) (y := t14) (ρ' := (rSl (rI .i64))) (z := t14.Subs) Try.underlying52 rfl rfl Try.sizeOf22 rfl rfl rfl) rfl ?_
      refine s_rd (r_load el_22 rfl) rfl ?_
      refine mv1 rfl rfl ?_
      refine pull fun t15 h_t15 => ?_
      refine s_rd (r_index h_t15 Try.underlying22 el_3 rfl rfl) rfl ?_
      refine s_rd (r_load el_3 rfl) rfl ?_
      refine pull fun t16 h_t16 => ?_
      refine s_st (s_call (ψ := fun (_ : Unit) => slv (rI .i64) t16) (args := [.tmp 28, .tmp 36]) Try.call58 rfl (ih h_t16) ⟨arg rfl, arg rfl, trivial⟩ (fun _ _ _ _ h => h)) rfl (fun _ => ?_)
      refine pull fun out17 h_out17 => ?_
      refine s_st (s_call (ψ := fun (_ : Unit) => slv (rI .i64) out17) (args := [.tmp 27, .tmp 37]) Try.call62 rfl (ref07_union_ok h_out17) ⟨arg rfl, arg rfl, trivial⟩ (fun _ _ _ _ h => h)) rfl (fun _ => ?_)
      refine as1 rfl rfl ?_
      refine l_nil (n_block (n_then (ref_region ?_)))
      refine mv1 rfl rfl ?_
      refine s_rd (r_add rfl rfl) rfl ?_
      refine as1 rfl rfl ?_
      refine b_let (f := iv .i64) (t := 6) rfl fun k18 => ?_
      refine l_nil ?_
      exact goB () (weak [] ⟨rfl, rfl, rfl, rfl, trivial⟩ trivial)
    refine ref_exit (x_then ?_)
    exact brkB () (weak [] ⟨rfl, trivial⟩ trivial)
  refine n_then (ref_seq (ref_region ?_))
  refine mv1 rfl rfl ?_
  refine as1 rfl rfl ?_
  refine l_nil (n_then (ref_ret ?_))
  exact fin1 (.inl rfl) () [] rfl trivial rfl (rv_tmp rfl)

theorem ref07_Subs_n_ok : ∀ (n_ : Nat) {l_0 : (List T_api_Argument)} {i_1 : Int} {r : List Int}, ref07_Subs_n n_ l_0 i_1 = some r →
    FnOk prog 58 [slv rT_api_Argument l_0, iv .i64 i_1] [] (fun (x : Unit) => [slv (rI .i64) r]) (fun (x : Unit) => []) := by
  intro n_
  induction n_ with
  | zero => intros; rename_i h; cases h
  | succ n_ ih => intros; rename_i h; exact ref07_Subs_step _ @ih h

theorem ref07_Subs_ok {l_0 : (List T_api_Argument)} {i_1 : Int} {r : List Int} (hm : ref07_Subs_m l_0 i_1 = some r) :
    FnOk prog 58 [slv rT_api_Argument l_0, iv .i64 i_1] [] (fun (x : Unit) => [slv (rI .i64) r]) (fun (x : Unit) => []) := by
  obtain ⟨n_, h⟩ := recC_some hm
  exact ref07_Subs_n_ok n_ h

theorem ref07_Subs_l1_le {rec_ rec_' : (List T_api_Argument) → Int → Option (List Int)} (h : ∀ l_0 i_1, Le (rec_ l_0 i_1) (rec_' l_0 i_1)) {l_0 : (List T_api_Argument)} {i_1 : Int} {s10 : (List Int) × Int}  : Le (ref07_Subs_l1 l_0 i_1 rec_ s10) (ref07_Subs_l1 l_0 i_1 rec_' s10) := by
  unfold ref07_Subs_l1
  repeat' with_reducible (first | exact Le.refl _ | exact h _ _ | refine Le.bind ?_ (Le.sumK fun _ => ?_) | refine Le.bind ?_ (fun _ => ?_) | refine Le.cond ?_ ?_ | refine Le.letM (fun _ => ?_) | refine Le.join (fun _ => ?_) (fun _ _ hj => ?_) | exact hj _)

theorem ref07_Subs_b_le {rec_ rec_' : (List T_api_Argument) → Int → Option (List Int)} (h : ∀ l_0 i_1, Le (rec_ l_0 i_1) (rec_' l_0 i_1)) {l_0 : (List T_api_Argument)} {i_1 : Int} : Le (ref07_Subs_b rec_ l_0 i_1) (ref07_Subs_b rec_' l_0 i_1) := by
  unfold ref07_Subs_b
  repeat' with_reducible (first | exact Le.refl _ | exact h _ _ | refine Le.loopC (fun _ => ref07_Subs_l1_le h) | refine Le.bind ?_ (Le.sumK fun _ => ?_) | refine Le.bind ?_ (fun _ => ?_) | refine Le.cond ?_ ?_ | refine Le.letM (fun _ => ?_) | refine Le.join (fun _ => ?_) (fun _ _ hj => ?_) | exact hj _)

theorem ref07_Subs_n_le : ∀ (n_ : Nat) (l_0 : (List T_api_Argument)) (i_1 : Int), Le (ref07_Subs_n n_ l_0 i_1) (ref07_Subs_n (n_ + 1) l_0 i_1)
  | 0, _, _ => fun _ h => by cases h
  | n_ + 1, _, _ => ref07_Subs_b_le (ref07_Subs_n_le n_)

/-! deliberation/deliberationref07.Defeasible -/
noncomputable def ref07_Defeasible_l1 (b_0 : T_api_Base) (l_1 : (List T_api_Argument)) (t2 : List Int) (s29 : (List Int) × Int) : Option (Sum ((List Int)) ((List Int) × Int)) :=
  bif decide (s29.2 < (t2.length : Int)) then
    Option.bind (idxM t2 s29.2) fun k32 =>
    joinM (fun j36 : Bool =>
        bif j36 then
          Option.bind (idxM l_1 k32) fun t40 =>
          Option.bind (ref07_insert_m s29.1 t40.Rule) fun out41 =>
          some (Sum.inr (out41, iadd .i64 s29.2 1))
        else
          some (Sum.inr (s29.1, iadd .i64 s29.2 1))) fun k38 =>
    Option.bind (idxM l_1 k32) fun t33 =>
    bif decide (t33.Rule ≥ 0) then
      Option.bind (idxM l_1 k32) fun t34 =>
      Option.bind (idxM b_0.Rules t34.Rule) fun t35 =>
      k38 (!t35.Strict)
    else
      k38 false
  else
    some (Sum.inl s29.1)

noncomputable def ref07_Defeasible_m (b_0 : T_api_Base) (l_1 : (List T_api_Argument)) (i_2 : Int) : Option (List Int) :=
  Option.bind (ref07_Subs_m l_1 i_2) fun t2 =>
  Option.bind (loopC (ref07_Defeasible_l1 b_0 l_1 t2) ([], 0)) fun q42 : (List Int) =>
  some q42

theorem ref07_Defeasible_ok {b_0 : T_api_Base} {l_1 : (List T_api_Argument)} {i_2 : Int} {r : List Int} (hm : ref07_Defeasible_m b_0 l_1 i_2 = some r) :
    FnOk prog 37 [ag [slv rT_api_Premise b_0.Premises, slv rT_api_Rule b_0.Rules, slv rT_api_Promotion b_0.Promotions], slv rT_api_Argument l_1, iv .i64 i_2] [] (fun (x : Unit) => [slv (rI .i64) r]) (fun (x : Unit) => []) := by
  refine fn_ok (fn := Try.f37) (N := 46) (res := fun r x => [slv (rI .i64) r]) (Ω1 := fun r x => []) Try.func37 rfl rfl hm rfl (fun E hM => ?_)
  unfold ref07_Defeasible_m
  refine ref_seq (ref_region ?_)
  refine s_st (s_box (part_agO (ψs := [slv rT_api_Premise b_0.Premises, slv rT_api_Rule b_0.Rules, slv rT_api_Promotion b_0.Promotions]) rfl ⟨.inl slv_at, .inl slv_at, .inl slv_at, trivial⟩)) rfl (fun b1 => ?_)
  refine as1 rfl rfl ?_
  refine l_nil (n_then (ref_seq (ref_region ?_)))
  refine as1 rfl rfl ?_
  refine l_nil (n_then (ref_seq (ref_seq (ref_region ?_))))
  refine mv1 rfl rfl ?_
  refine mv1 rfl rfl ?_
  refine pull fun t2 h_t2 => ?_
  refine s_st (s_call (ψ := fun (_ : Unit) => slv (rI .i64) t2) (args := [.tmp 10, .tmp 11]) Try.call58 rfl (ref07_Subs_ok h_t2) ⟨arg rfl, arg rfl, trivial⟩ (fun _ _ _ _ h => h)) rfl (fun _ => ?_)
  refine s_rd (r_len Try.underlying22 rfl) rfl ?_
  refine mv1 rfl rfl ?_
  refine l_nil (n_then ?_)
  refine b_of (sl_nil (rI .i64) (t := 7) rfl) ?_
  refine ref_loopB (f := (ref07_Defeasible_l1 b_0 l_1 t2)) (Γl := (fun (s29 : (List Int) × Int) (x30 : Unit) => [(1, slv rT_api_Argument l_1), (3, pv (ptr b1 0)), (7, slv (rI .i64) s29.1), (12, slv (rI .i64) t2), (13, iv .i64 (t2.length : Int)), (14, iv .i64 s29.2)])) (Ωl := (fun (s29 : (List Int) × Int) (x30 : Unit) => [oc b1 [slv rT_api_Premise b_0.Premises, slv rT_api_Rule b_0.Rules, slv rT_api_Promotion b_0.Promotions]])) (Γb := (fun (q42 : (List Int)) (y43 : Unit) => [(7, slv (rI .i64) q42)])) (Ωb := (fun (q42 : (List Int)) (y43 : Unit) => [])) ([], 0) () (weak [0] ⟨rfl, rfl, rfl, rfl, rfl, rfl, trivial⟩ ⟨rfl, trivial⟩) (fun s29 x30 => ?_) (fun q42 y43 => ?_)
  · unfold ref07_Defeasible_l1
    refine ref_seq (ref_region ?_)
    refine s_rd (r_lss rfl rfl) rfl ?_
    refine l_nil (n_then (ref_seq ?_))
    refine ref_cond rfl (fun hb31 => ?_) (fun hb31 => ?_)
    · refine ref_skip (n_then (ref_seq (ref_block (ref_seq (ref_region ?_)))))
      refine pull fun k32 h_k32 => ?_
      refine s_rd (r_index h_k32 Try.underlying22 el_3 rfl rfl) rfl ?_
      refine s_rd (r_load el_3 rfl) rfl ?_
      refine as1 rfl rfl ?_
      refine l_nil (n_then (ref_seq ?_))
      refine ref_join (fun (j36 : Bool) (x37 : Unit) => [(1, slv rT_api_Argument l_1), (3, pv (ptr b1 0)), (7, slv (rI .i64) s29.1), (9, iv .i64 k32), (12, slv (rI .i64) t2), (13, iv .i64 (t2.length : Int)), (14, iv .i64 s29.2), (36, bv j36)]) (fun (j36 : Bool) (x37 : Unit) => [oc b1 [slv rT_api_Premise b_0.Premises, slv rT_api_Rule b_0.Rules, slv rT_api_Promotion b_0.Promotions]]) (fun k38 hk38 => ?_) (fun j36 x37 => ?_)
      · refine ref_draw [0, 1, 2, 3, 4, 5, 6, 7, 8, 9, 10, 11, 12, 13, 14, 15, 16, 17, 18] rfl (by kernel_rfl) (fun hok => ?_)
        refine a_rd (i := 0) hok rfl (by kernel_rfl) rfl (r_move rfl) rfl ?_
        refine a_rd (i := 1) hok rfl (by kernel_rfl) rfl (r_move rfl) rfl ?_
        refine pull fun t33 h_t33 => ?_
        refine a_rd (i := 2) hok rfl (by kernel_rfl) rfl (r_index h_t33 Try.underlying35 el_52 rfl rfl) rfl ?_
        refine a_rd (i := 3) hok rfl (by kernel_rfl) rfl (r_fea (fo := 1) (ρ := rT_api_Argument) (y := t33) (ρ' := (rI .i64)) (z := t33.Rule) Try.underlying52 rfl rfl Try.sizeOf3 rfl rfl rfl) rfl ?_
        refine a_rd (i := 4) hok rfl (by kernel_rfl) rfl (r_load el_3 rfl) rfl ?_
        refine a_rd (i := 5) hok rfl (by kernel_rfl) rfl (r_geq rfl rfl) rfl ?_
        refine a_rd (i := 6) hok rfl (by kernel_rfl) rfl (r_move rfl) rfl ?_
        refine b_split (t := 24) rfl (fun _ => ?_) (fun _ => ?_)
        · refine a_rdOn (i := 7) hok rfl rfl rfl rfl (by kernel_rfl) rfl (r_faddr (fo := 1) Try.underlying34 rfl rfl Try.sizeOf31 rfl) rfl ?_
          refine a_rdOn (i := 8) hok rfl rfl rfl rfl (by kernel_rfl) rfl (r_cload Try.isAgg31 rfl (j := 0) rfl rfl) rfl ?_
          refine a_rdOn (i := 9) hok rfl rfl rfl rfl (by kernel_rfl) rfl (r_move rfl) rfl ?_
          refine a_rdOn (i := 10) hok rfl rfl rfl rfl (by kernel_rfl) rfl (r_move rfl) rfl ?_
          refine pull fun t34 h_t34 => ?_
          refine a_rdOn (i := 11) hok rfl rfl rfl rfl (by kernel_rfl) rfl (r_index h_t34 Try.underlying35 el_52 rfl rfl) rfl ?_
          refine a_rdOn (i := 12) hok rfl rfl rfl rfl (by kernel_rfl) rfl (r_fea (fo := 1) (ρ := rT_api_Argument) (y := t34) (ρ' := (rI .i64)) (z := t34.Rule) Try.underlying52 rfl rfl Try.sizeOf3 rfl rfl rfl) rfl ?_
          refine a_rdOn (i := 13) hok rfl rfl rfl rfl (by kernel_rfl) rfl (r_load el_3 rfl) rfl ?_
          refine pull fun t35 h_t35 => ?_
          refine a_rdOn (i := 14) hok rfl rfl rfl rfl (by kernel_rfl) rfl (r_index h_t35 Try.underlying31 el_55 rfl rfl) rfl ?_
          refine a_rdOn (i := 15) hok rfl rfl rfl rfl (by kernel_rfl) rfl (r_fea (fo := 1) (ρ := rT_api_Rule) (y := t35) (ρ' := rB) (z := t35.Strict) Try.underlying55 rfl rfl Try.sizeOf4 rfl rfl rfl) rfl ?_
          refine a_rdOn (i := 16) hok rfl rfl rfl rfl (by kernel_rfl) rfl (r_load el_4 rfl) rfl ?_
          refine a_rdOn (i := 17) hok rfl rfl rfl rfl (by kernel_rfl) rfl (r_not rfl) rfl ?_
          refine a_rd (i := 18) hok rfl (by kernel_rfl) rfl (r_pickT rfl rfl) rfl ?_
          refine a_fin hok (by kernel_rfl) ?_
          exact b_to (hk38 (!t35.Strict) ()) (weak [0] ⟨rfl, rfl, rfl, rfl, rfl, rfl, rfl, rfl, trivial⟩ ⟨rfl, trivial⟩)
        refine a_off (i := 7) hok rfl rfl rfl rfl rfl (by kernel_rfl) rfl rfl ?_
        refine a_off (i := 8) hok rfl rfl rfl rfl rfl (by kernel_rfl) rfl rfl ?_
        refine a_off (i := 9) hok rfl rfl rfl rfl rfl (by kernel_rfl) rfl rfl ?_
        refine a_off (i := 10) hok rfl rfl rfl rfl rfl (by kernel_rfl) rfl rfl ?_
        refine a_off (i := 11) hok rfl rfl rfl rfl rfl (by kernel_rfl) rfl rfl ?_
        refine a_off (i := 12) hok rfl rfl rfl rfl rfl (by kernel_rfl) rfl rfl ?_
        refine a_off (i := 13) hok rfl rfl rfl rfl rfl (by kernel_rfl) rfl rfl ?_
        refine a_off (i := 14) hok rfl rfl rfl rfl rfl (by kernel_rfl) rfl rfl ?_
        refine a_off (i := 15) hok rfl rfl rfl rfl rfl (by kernel_rfl) rfl rfl ?_
        refine a_off (i := 16) hok rfl rfl rfl rfl rfl (by kernel_rfl) rfl rfl ?_
        refine a_off (i := 17) hok rfl rfl rfl rfl rfl (by kernel_rfl) rfl rfl ?_
        refine a_rd (i := 18) hok rfl (by kernel_rfl) rfl (r_pickF rfl rfl) rfl ?_
        refine a_fin hok (by kernel_rfl) ?_
        exact b_to (hk38 false ()) (weak [0] ⟨rfl, rfl, rfl, rfl, rfl, rfl, rfl, rfl, trivial⟩ ⟨rfl, trivial⟩)
      refine n_then ?_
      refine ref_cond rfl (fun hb39 => ?_) (fun hb39 => ?_)
      · refine ref_region ?_
        refine mv1 rfl rfl ?_
        refine mv1 rfl rfl ?_
        refine mv1 rfl rfl ?_
        refine pull fun t40 h_t40 => ?_
        refine s_rd (r_index h_t40 Try.underlying35 el_52 rfl rfl) rfl ?_
        refine s_rd (r_fea (fo := 1) (ρ := rT_api_Argument) (y := t40) (ρ' := (rI .i64)) (z := t40.Rule) Try.underlying52 rfl rfl Try.sizeOf3 rfl rfl rfl) rfl ?_
        refine s_rd (r_load el_3 rfl) rfl ?_
        refine pull fun out41 h_out41 => ?_
        refine s_st (s_call (ψ := fun (_ : Unit) => slv (rI .i64) out41) (args := [.tmp 37, .tmp 42]) Try.call59 rfl (ref07_insert_ok h_out41) ⟨arg rfl, arg rfl, trivial⟩ (fun _ _ _ _ h => h)) rfl (fun _ => ?_)
        refine as1 rfl rfl ?_
        refine l_nil (n_block (n_then (ref_region ?_)))
        refine s_rd (r_add rfl rfl) rfl ?_
        refine mv1 rfl rfl ?_
        refine l_nil ?_
        exact goB () (weak [0] ⟨rfl, rfl, rfl, rfl, rfl, rfl, trivial⟩ ⟨rfl, trivial⟩)
      refine ref_skip (n_block (n_then (ref_region ?_)))
      refine s_rd (r_add rfl rfl) rfl ?_
      refine mv1 rfl rfl ?_
      refine l_nil ?_
      exact goB () (weak [0] ⟨rfl, rfl, rfl, rfl, rfl, rfl, trivial⟩ ⟨rfl, trivial⟩)
    refine ref_exit (x_then ?_)
    exact brkB () (weak [] ⟨rfl, trivial⟩ trivial)
  refine n_then (ref_seq (ref_region ?_))
  refine mv1 rfl rfl ?_
  refine as1 rfl rfl ?_
  refine l_nil (n_then (ref_ret ?_))
  exact fin1 (.inl rfl) () [] rfl trivial rfl (rv_tmp rfl)

/-! deliberation/deliberationref07.in -/
noncomputable def ref07_in_l1 (l_0 : (List Int)) (x_1 : Int) (s6 : Int) : Option (Sum ((Sum (Bool) (Unit))) (Int)) :=
  bif decide (s6 < (l_0.length : Int)) then
    Option.bind (idxM l_0 s6) fun t9 =>
    bif t9 == x_1 then
      some (Sum.inl (Sum.inl true))
    else
      some (Sum.inr (iadd .i64 s6 1))
  else
    some (Sum.inl (Sum.inr ()))

noncomputable def ref07_in_m (l_0 : (List Int)) (x_1 : Int) : Option (Bool) :=
  Option.bind (loopC (ref07_in_l1 l_0 x_1) 0) (sumK (fun a : Bool => some a) fun q11 : Unit =>
    some false)

theorem ref07_in_ok {l_0 : (List Int)} {x_1 : Int} {r : Bool} (hm : ref07_in_m l_0 x_1 = some r) :
    FnOk prog 72 [slv (rI .i64) l_0, iv .i64 x_1] [] (fun (x : Unit) => [bv r]) (fun (x : Unit) => []) := by
  refine fn_ok (fn := Try.f72) (N := 18) (res := fun r x => [bv r]) (Ω1 := fun r x => []) Try.func72 rfl rfl hm rfl (fun E hM => ?_)
  unfold ref07_in_m
  refine ref_seq (ref_region ?_)
  refine as1 rfl rfl ?_
  refine l_nil (n_then (ref_seq (ref_seq (ref_region ?_))))
  refine as1 rfl rfl ?_
  refine l_nil (n_then ?_)
  refine ref_loopX (f := (ref07_in_l1 l_0 x_1)) (Γl := (fun (s6 : Int) (x7 : Unit) => [(0, slv (rI .i64) l_0), (1, iv .i64 x_1), (5, iv .i64 s6)])) (Ωl := (fun (s6 : Int) (x7 : Unit) => [])) (Γb := (fun (q11 : Unit) (y12 : Unit) => [])) (Ωb := (fun (q11 : Unit) (y12 : Unit) => [])) (kr := (fun a : Bool => some a)) 0 () (weak [] ⟨rfl, rfl, rfl, trivial⟩ trivial) (fun s6 x7 => ?_) (fun q11 y12 => ?_)
  · unfold ref07_in_l1
    refine ref_seq (ref_seq (ref_region ?_))
    refine mv1 rfl rfl ?_
    refine mv1 rfl rfl ?_
    refine s_rd (r_len Try.underlying22 rfl) rfl ?_
    refine s_rd (r_lss rfl rfl) rfl ?_
    refine l_nil (n_then ?_)
    refine ref_cond rfl (fun hb8 => ?_) (fun hb8 => ?_)
    · refine ref_skip (n_then (ref_seq (ref_block (ref_seq (ref_region ?_)))))
      refine mv1 rfl rfl ?_
      refine mv1 rfl rfl ?_
      refine pull fun t9 h_t9 => ?_
      refine s_rd (r_index h_t9 Try.underlying22 el_3 rfl rfl) rfl ?_
      refine s_rd (r_load el_3 rfl) rfl ?_
      refine mv1 rfl rfl ?_
      refine s_rd (r_eql rfl rfl) rfl ?_
      refine l_nil (n_then ?_)
      refine ref_cond rfl (fun hb10 => ?_) (fun hb10 => ?_)
      · refine ref_seq (ref_region ?_)
        refine as1 rfl rfl ?_
        refine l_nil (n_then (ref_ret (r_block (r_then ?_))))
        refine retX ?_
        refine r_block (r_then ?_)
        exact fin1 (.inl rfl) () [] rfl trivial rfl (rv_tmp rfl)
      refine ref_skip (n_block (n_then (ref_region ?_)))
      refine mv1 rfl rfl ?_
      refine s_rd (r_add rfl rfl) rfl ?_
      refine as1 rfl rfl ?_
      refine l_nil ?_
      exact goX () (weak [] ⟨rfl, rfl, rfl, trivial⟩ trivial)
    refine ref_exit (x_then ?_)
    exact brkX () (weak [] trivial trivial)
  refine n_then (ref_seq (ref_region ?_))
  refine as1 rfl rfl ?_
  refine l_nil (n_then (ref_ret ?_))
  exact fin1 (.inl rfl) () [] rfl trivial rfl (rv_tmp rfl)

/-! deliberation/deliberationref07.Within -/
noncomputable def ref07_Within_l1 (b_0 : T_api_Base) (l_1 : (List T_api_Argument)) (rule_2 : Int) (subs_3 : (List Int)) (t2 : T_api_Rule) (s19 : Int) : Option (Sum ((Sum (Bool) (Unit))) (Int)) :=
  bif decide (s19 < (subs_3.length : Int)) then
    bif t2.Strict then
      Option.bind (idxM subs_3 s19) fun t22 =>
      Option.bind (ref07_Run_m b_0 l_1 t22) fun t23 =>
      Option.bind (ref01_Has_m t23 t2.Head) fun t25 =>
      bif t25 then
        some (Sum.inl (Sum.inl false))
      else
        bif !t2.Strict then
          Option.bind (idxM subs_3 s19) fun t26 =>
          Option.bind (ref07_Defeasible_m b_0 l_1 t26) fun t27 =>
          Option.bind (ref07_in_m t27 rule_2) fun t28 =>
          bif t28 then
            some (Sum.inl (Sum.inl false))
          else
            letM (iadd .i64 s19 1) fun k34 =>
            some (Sum.inr k34)
        else
          letM (iadd .i64 s19 1) fun k35 =>
          some (Sum.inr k35)
    else
      bif !t2.Strict then
        Option.bind (idxM subs_3 s19) fun t29 =>
        Option.bind (ref07_Defeasible_m b_0 l_1 t29) fun t30 =>
        Option.bind (ref07_in_m t30 rule_2) fun t31 =>
        bif t31 then
          some (Sum.inl (Sum.inl false))
        else
          letM (iadd .i64 s19 1) fun k36 =>
          some (Sum.inr k36)
      else
        letM (iadd .i64 s19 1) fun k37 =>
        some (Sum.inr k37)
  else
    some (Sum.inl (Sum.inr ()))

noncomputable def ref07_Within_m (b_0 : T_api_Base) (l_1 : (List T_api_Argument)) (rule_2 : Int) (subs_3 : (List Int)) : Option (Bool) :=
  Option.bind (idxM b_0.Rules rule_2) fun t2 =>
  Option.bind (loopC (ref07_Within_l1 b_0 l_1 rule_2 subs_3 t2) 0) (sumK (fun a : Bool => some a) fun q38 : Unit =>
    some true)

theorem ref07_Within_ok {b_0 : T_api_Base} {l_1 : (List T_api_Argument)} {rule_2 : Int} {subs_3 : (List Int)} {r : Bool} (hm : ref07_Within_m b_0 l_1 rule_2 subs_3 = some r) :
    FnOk prog 49 [ag [slv rT_api_Premise b_0.Premises, slv rT_api_Rule b_0.Rules, slv rT_api_Promotion b_0.Promotions], slv rT_api_Argument l_1, iv .i64 rule_2, slv (rI .i64) subs_3] [] (fun (x : Unit) => [bv r]) (fun (x : Unit) => []) := by
  refine fn_ok (fn := Try.f49) (N := 52) (res := fun r x => [bv r]) (Ω1 := fun r x => []) Try.func49 rfl rfl hm rfl (fun E hM => ?_)
  unfold ref07_Within_m
  refine ref_seq (ref_region ?_)
  refine s_st (s_box (part_agO (ψs := [slv rT_api_Premise b_0.Premises, slv rT_api_Rule b_0.Rules, slv rT_api_Promotion b_0.Promotions]) rfl ⟨.inl slv_at, .inl slv_at, .inl slv_at, trivial⟩)) rfl (fun b1 => ?_)
  refine as1 rfl rfl ?_
  refine l_nil (n_then (ref_seq (ref_region ?_)))
  refine s_rd (r_faddr (fo := 1) Try.underlying34 rfl rfl Try.sizeOf31 rfl) rfl ?_
  refine s_rd (r_cload Try.isAgg31 rfl (j := 0) rfl rfl) rfl ?_
  refine mv1 rfl rfl ?_
  refine pull fun t2 h_t2 => ?_
  refine s_rd (r_index h_t2 Try.underlying31 el_55 rfl rfl) rfl ?_
  refine s_rd (r_load el_55 rfl) rfl ?_
  refine s_st (s_alloc zt_55) rfl (fun b3 => ?_)
  refine s_st0 (s_cstore (out := [sv t2.Name, bv t2.Strict, iv .i64 t2.Rank, slv rT_api_Literal t2.Body, bv t2.Head.Neg, sv t2.Head.Name]) Try.sizeOf55 rfl (j := 1) rfl (part_agO (ψs := [sv t2.Name, bv t2.Strict, iv .i64 t2.Rank, slv rT_api_Literal t2.Body, bv t2.Head.Neg, sv t2.Head.Name]) rfl ⟨.inl sv_at, .inl bv_at, .inl iv_at, .inl slv_at, .inl bv_at, .inl sv_at, trivial⟩) rfl rfl rfl) (fun _ => ?_)
  refine l_nil (n_then (ref_seq (ref_seq (ref_region ?_))))
  refine as1 rfl rfl ?_
  refine l_nil (n_then ?_)
  refine ref_loopX (f := (ref07_Within_l1 b_0 l_1 rule_2 subs_3 t2)) (Γl := (fun (s19 : Int) (x20 : Unit) => [(1, slv rT_api_Argument l_1), (2, iv .i64 rule_2), (3, slv (rI .i64) subs_3), (4, pv (ptr b1 0)), (9, pv (ptr b3 0)), (10, iv .i64 s19)])) (Ωl := (fun (s19 : Int) (x20 : Unit) => [oc b1 [slv rT_api_Premise b_0.Premises, slv rT_api_Rule b_0.Rules, slv rT_api_Promotion b_0.Promotions], oc b3 [sv t2.Name, bv t2.Strict, iv .i64 t2.Rank, slv rT_api_Literal t2.Body, bv t2.Head.Neg, sv t2.Head.Name]])) (Γb := (fun (q38 : Unit) (y39 : Unit) => [])) (Ωb := (fun (q38 : Unit) (y39 : Unit) => [])) (kr := (fun a : Bool => some a)) 0 () (weak [0, 1] ⟨rfl, rfl, rfl, rfl, rfl, rfl, trivial⟩ ⟨rfl, rfl, trivial⟩) (fun s19 x20 => ?_) (fun q38 y39 => ?_)
  · unfold ref07_Within_l1
    refine ref_seq (ref_seq (ref_region ?_))
    refine mv1 rfl rfl ?_
    refine mv1 rfl rfl ?_
    refine s_rd (r_len Try.underlying22 rfl) rfl ?_
    refine s_rd (r_lss rfl rfl) rfl ?_
    refine l_nil (n_then ?_)
    refine ref_cond rfl (fun hb21 => ?_) (fun hb21 => ?_)
    · refine ref_skip (n_then (ref_seq (ref_block (ref_seq ?_))))
      refine ref_draw [0, 1, 2, 3, 4, 5, 6, 7, 8, 10, 11, 13, 14, 15, 16, 17, 18, 19, 20, 21, 22, 23, 24, 26, 28, 29] rfl (by kernel_rfl) (fun hok => ?_)
      refine a_rd (i := 0) hok rfl (by kernel_rfl) rfl (r_faddr (fo := 1) Try.underlying55 rfl rfl Try.sizeOf4 rfl) rfl ?_
      refine a_rd (i := 1) hok rfl (by kernel_rfl) rfl (r_cload Try.isAgg4 rfl (j := 1) rfl rfl) rfl ?_
      refine a_rd (i := 2) hok rfl (by kernel_rfl) rfl (r_move rfl) rfl ?_
      refine b_split (t := 24) rfl (fun _ => ?_) (fun _ => ?_)
      · refine a_rdOn (i := 3) hok rfl rfl rfl rfl (by kernel_rfl) rfl (r_cloadS Try.isAgg34 Try.sizeOf34 rfl (j := 0) rfl rfl rfl) rfl ?_
        refine a_rdOn (i := 4) hok rfl rfl rfl rfl (by kernel_rfl) rfl (r_move rfl) rfl ?_
        refine a_rdOn (i := 5) hok rfl rfl rfl rfl (by kernel_rfl) rfl (r_move rfl) rfl ?_
        refine a_rdOn (i := 6) hok rfl rfl rfl rfl (by kernel_rfl) rfl (r_move rfl) rfl ?_
        refine pull fun t22 h_t22 => ?_
        refine a_rdOn (i := 7) hok rfl rfl rfl rfl (by kernel_rfl) rfl (r_index h_t22 Try.underlying22 el_3 rfl rfl) rfl ?_
        refine a_rdOn (i := 8) hok rfl rfl rfl rfl (by kernel_rfl) rfl (r_load el_3 rfl) rfl ?_
        refine a_rdOn (i := 10) hok rfl rfl rfl rfl (by kernel_rfl) rfl (r_faddr (fo := 4) Try.underlying55 rfl rfl Try.sizeOf50 rfl) rfl ?_
        refine a_rdOn (i := 11) hok rfl rfl rfl rfl (by kernel_rfl) rfl (r_cloadS Try.isAgg50 Try.sizeOf50 rfl (j := 1) rfl rfl rfl) rfl ?_
        refine pull fun t23 h_t23 => ?_
        refine a_next hok 9 [] (by kernel_rfl) ?_ trivial
        refine a_stOn (i := 9) hok rfl rfl rfl rfl rfl (s_call (ψ := fun (x24 : (Value × List Nat)) => pv x24.1) (args := [.tmp 25, .tmp 26, .tmp 30]) Try.call71 rfl (ref07_Run_ok h_t23) ⟨arg rfl, arg rfl, arg rfl, trivial⟩ (fun _ _ _ _ h => h)) (by intro _ h; cases h; rfl) (fun _ => ⟨⟨⟨rfl, rfl⟩, trivial⟩, ⟨trivial, ⟨trivial, ⟨trivial, ⟨trivial, ⟨trivial, ⟨trivial, ⟨trivial, ⟨trivial, ⟨⟨⟨rfl, rfl⟩, trivial⟩, ⟨trivial, trivial⟩⟩⟩⟩⟩⟩⟩⟩⟩⟩⟩) (fun x24 => ?_)
        refine pull fun t25 h_t25 => ?_
        refine a_next hok 12 [] (by kernel_rfl) ?_ trivial
        refine a_stOn (i := 12) hok rfl rfl rfl rfl rfl (s_callB (ψ := fun (_ : Unit) => bv t25) (args := [.tmp 31, .tmp 33]) Try.call70 rfl (ref01_Has_ok h_t25) ⟨argO rfl (j := 2) rfl, argB rfl, trivial⟩ (fun _ _ _ _ _ h => h)) (by intro _ h; cases h; rfl) (fun _ => ⟨trivial, ⟨trivial, ⟨trivial, ⟨trivial, ⟨trivial, ⟨trivial, ⟨trivial, ⟨⟨⟨rfl, rfl⟩, trivial⟩, ⟨trivial, ⟨⟨⟨rfl, rfl⟩, trivial⟩, ⟨trivial, trivial⟩⟩⟩⟩⟩⟩⟩⟩⟩⟩⟩) (fun _ => ?_)
        refine a_rd (i := 13) hok rfl (by kernel_rfl) rfl (r_pickT rfl rfl) rfl ?_
        refine a_rd (i := 14) hok rfl (by kernel_rfl) rfl (r_move rfl) rfl ?_
        refine b_split (t := 36) rfl (fun _ => ?_) (fun _ => ?_)
        · refine a_off (i := 15) hok rfl rfl rfl rfl rfl (by kernel_rfl) rfl rfl ?_
          refine a_off (i := 16) hok rfl rfl rfl rfl rfl (by kernel_rfl) rfl rfl ?_
          refine a_off (i := 17) hok rfl rfl rfl rfl rfl (by kernel_rfl) rfl rfl ?_
          refine a_off (i := 18) hok rfl rfl rfl rfl rfl (by kernel_rfl) rfl rfl ?_
          refine a_offU (i := 19) hok rfl rfl rfl (by kernel_rfl) rfl rfl ?_
          refine a_offU (i := 20) hok rfl rfl rfl (by kernel_rfl) rfl rfl ?_
          refine a_offU (i := 21) hok rfl rfl rfl (by kernel_rfl) rfl rfl ?_
          refine a_offU (i := 22) hok rfl rfl rfl (by kernel_rfl) rfl rfl ?_
          refine a_offU (i := 23) hok rfl rfl rfl (by kernel_rfl) rfl rfl ?_
          refine a_offU (i := 24) hok rfl rfl rfl (by kernel_rfl) rfl rfl ?_
          refine a_offU (i := 26) hok rfl rfl rfl (by kernel_rfl) rfl rfl ?_
          refine a_next hok 25 [] (by kernel_rfl) ?_ trivial
          refine a_stOffU (i := 25) hok rfl rfl rfl rfl (by intro _ h; cases h; rfl) ⟨trivial, ⟨trivial, ⟨trivial, ⟨trivial, ⟨trivial, ⟨trivial, ⟨trivial, ⟨trivial, ⟨trivial, ⟨trivial, ⟨trivial, ⟨trivial, ⟨trivial, ⟨⟨⟨rfl, rfl⟩, trivial⟩, ⟨trivial, ⟨trivial, ⟨trivial, ⟨trivial, ⟨trivial, ⟨trivial, ⟨⟨⟨rfl, rfl⟩, trivial⟩, ⟨trivial, ⟨⟨⟨rfl, rfl⟩, trivial⟩, ⟨trivial, trivial⟩⟩⟩⟩⟩⟩⟩⟩⟩⟩⟩⟩⟩⟩⟩⟩⟩⟩⟩⟩⟩⟩⟩⟩ ?_
          refine a_next hok 27 [] (by kernel_rfl) ?_ trivial
          refine a_stOffU (i := 27) hok rfl rfl rfl rfl (by intro _ h; cases h; rfl) ⟨trivial, ⟨trivial, ⟨trivial, ⟨trivial, ⟨trivial, ⟨trivial, ⟨trivial, ⟨trivial, ⟨trivial, ⟨trivial, ⟨trivial, ⟨trivial, ⟨trivial, ⟨⟨⟨rfl, rfl⟩, trivial⟩, ⟨trivial, ⟨trivial, ⟨trivial, ⟨trivial, ⟨trivial, ⟨trivial, ⟨⟨⟨rfl, rfl⟩, trivial⟩, ⟨trivial, ⟨⟨⟨rfl, rfl⟩, trivial⟩, ⟨trivial, trivial⟩⟩⟩⟩⟩⟩⟩⟩⟩⟩⟩⟩⟩⟩⟩⟩⟩⟩⟩⟩⟩⟩⟩⟩ ?_
          refine a_off (i := 28) hok rfl rfl rfl rfl rfl (by kernel_rfl) rfl rfl ?_
          refine a_rd (i := 29) hok rfl (by kernel_rfl) rfl (r_pickT rfl rfl) rfl ?_
          refine a_fin hok (by kernel_rfl) ?_
          refine b_of (nrm [oc b1 [slv rT_api_Premise b_0.Premises, slv rT_api_Rule b_0.Rules, slv rT_api_Promotion b_0.Promotions], oc b3 [sv t2.Name, bv t2.Strict, iv .i64 t2.Rank, slv rT_api_Literal t2.Body, bv t2.Head.Neg, sv t2.Head.Name], oa rT_api_Literal x24.1 x24.2 t23] rfl) ?_
          refine n_then ?_
          refine ref_condT rfl rfl ?_
          refine ref_seq (ref_region ?_)
          refine as1 rfl rfl ?_
          refine l_nil (n_then (ref_ret (r_block (r_then ?_))))
          refine retX ?_
          refine r_block (r_then ?_)
          exact fin1 (.inl rfl) () [] rfl trivial rfl (rv_tmp rfl)
        refine a_rdOn (i := 15) hok rfl rfl rfl rfl (by kernel_rfl) rfl (r_faddr (fo := 1) Try.underlying55 rfl rfl Try.sizeOf4 rfl) rfl ?_
        refine a_rdOn (i := 16) hok rfl rfl rfl rfl (by kernel_rfl) rfl (r_cload Try.isAgg4 rfl (j := 1) rfl rfl) rfl ?_
        refine a_rdOn (i := 17) hok rfl rfl rfl rfl (by kernel_rfl) rfl (r_not rfl) rfl ?_
        refine a_rdOn (i := 18) hok rfl rfl rfl rfl (by kernel_rfl) rfl (r_move rfl) rfl ?_
        refine b_split (t := 40) rfl (fun _ => ?_) (fun _ => ?_)
        · refine a_rdOn (i := 19) hok rfl rfl rfl rfl (by kernel_rfl) rfl (r_cloadS Try.isAgg34 Try.sizeOf34 rfl (j := 0) rfl rfl rfl) rfl ?_
          refine a_rdOn (i := 20) hok rfl rfl rfl rfl (by kernel_rfl) rfl (r_move rfl) rfl ?_
          refine a_rdOn (i := 21) hok rfl rfl rfl rfl (by kernel_rfl) rfl (r_move rfl) rfl ?_
          refine a_rdOn (i := 22) hok rfl rfl rfl rfl (by kernel_rfl) rfl (r_move rfl) rfl ?_
          refine pull fun t26 h_t26 => ?_
          refine a_rdOn (i := 23) hok rfl rfl rfl rfl (by kernel_rfl) rfl (r_index h_t26 Try.underlying22 el_3 rfl rfl) rfl ?_
          refine a_rdOn (i := 24) hok rfl rfl rfl rfl (by kernel_rfl) rfl (r_load el_3 rfl) rfl ?_
          refine a_rdOn (i := 26) hok rfl rfl rfl rfl (by kernel_rfl) rfl (r_move rfl) rfl ?_
          refine pull fun t27 h_t27 => ?_
          refine a_next hok 25 [] (by kernel_rfl) ?_ trivial
          refine a_stOn (i := 25) hok rfl rfl rfl rfl rfl (s_call (ψ := fun (_ : Unit) => slv (rI .i64) t27) (args := [.tmp 41, .tmp 42, .tmp 46]) Try.call37 rfl (ref07_Defeasible_ok h_t27) ⟨arg rfl, arg rfl, arg rfl, trivial⟩ (fun _ _ _ _ h => h)) (by intro _ h; cases h; rfl) (fun _ => ⟨trivial, ⟨trivial, ⟨trivial, ⟨trivial, ⟨trivial, ⟨trivial, ⟨trivial, ⟨trivial, ⟨trivial, ⟨⟨⟨rfl, rfl⟩, trivial⟩, ⟨trivial, ⟨trivial, ⟨trivial, ⟨⟨⟨rfl, rfl⟩, trivial⟩, ⟨trivial, ⟨trivial, ⟨trivial, ⟨trivial, ⟨trivial, ⟨trivial, ⟨⟨⟨rfl, rfl⟩, trivial⟩, ⟨trivial, ⟨⟨⟨rfl, rfl⟩, trivial⟩, ⟨trivial, trivial⟩⟩⟩⟩⟩⟩⟩⟩⟩⟩⟩⟩⟩⟩⟩⟩⟩⟩⟩⟩⟩⟩⟩⟩) (fun _ => ?_)
          refine pull fun t28 h_t28 => ?_
          refine a_next hok 27 [] (by kernel_rfl) ?_ trivial
          refine a_stOn (i := 27) hok rfl rfl rfl rfl rfl (s_call (ψ := fun (_ : Unit) => bv t28) (args := [.tmp 47, .tmp 48]) Try.call72 rfl (ref07_in_ok h_t28) ⟨arg rfl, arg rfl, trivial⟩ (fun _ _ _ _ h => h)) (by intro _ h; cases h; rfl) (fun _ => ⟨trivial, ⟨trivial, ⟨trivial, ⟨trivial, ⟨trivial, ⟨trivial, ⟨⟨⟨rfl, rfl⟩, trivial⟩, ⟨trivial, ⟨trivial, ⟨⟨⟨rfl, rfl⟩, trivial⟩, ⟨trivial, ⟨trivial, ⟨trivial, ⟨⟨⟨rfl, rfl⟩, trivial⟩, ⟨trivial, ⟨trivial, ⟨trivial, ⟨trivial, ⟨trivial, ⟨trivial, ⟨⟨⟨rfl, rfl⟩, trivial⟩, ⟨trivial, ⟨⟨⟨rfl, rfl⟩, trivial⟩, ⟨trivial, trivial⟩⟩⟩⟩⟩⟩⟩⟩⟩⟩⟩⟩⟩⟩⟩⟩⟩⟩⟩⟩⟩⟩⟩⟩) (fun _ => ?_)
          refine a_rdOn (i := 28) hok rfl rfl rfl rfl (by kernel_rfl) rfl (r_pickT rfl rfl) rfl ?_
          refine a_rd (i := 29) hok rfl (by kernel_rfl) rfl (r_pickF rfl rfl) rfl ?_
          refine a_fin hok (by kernel_rfl) ?_
          refine b_of (nrm [oc b1 [slv rT_api_Premise b_0.Premises, slv rT_api_Rule b_0.Rules, slv rT_api_Promotion b_0.Promotions], oc b3 [sv t2.Name, bv t2.Strict, iv .i64 t2.Rank, slv rT_api_Literal t2.Body, bv t2.Head.Neg, sv t2.Head.Name], oa rT_api_Literal x24.1 x24.2 t23] rfl) ?_
          refine n_then ?_
          refine ref_cond rfl (fun hb32 => ?_) (fun hb32 => ?_)
          · refine ref_seq (ref_region ?_)
            refine as1 rfl rfl ?_
            refine l_nil (n_then (ref_ret (r_block (r_then ?_))))
            refine retX ?_
            refine r_block (r_then ?_)
            exact fin1 (.inl rfl) () [] rfl trivial rfl (rv_tmp rfl)
          refine ref_skip (n_block (n_then (ref_region ?_)))
          refine mv1 rfl rfl ?_
          refine s_rd (r_add rfl rfl) rfl ?_
          refine as1 rfl rfl ?_
          refine b_let (f := iv .i64) (t := 10) rfl fun k34 => ?_
          refine l_nil ?_
          exact goX () (weak [0, 1] ⟨rfl, rfl, rfl, rfl, rfl, rfl, trivial⟩ ⟨rfl, rfl, trivial⟩)
        refine a_off (i := 19) hok rfl rfl rfl rfl rfl (by kernel_rfl) rfl rfl ?_
        refine a_off (i := 20) hok rfl rfl rfl rfl rfl (by kernel_rfl) rfl rfl ?_
        refine a_off (i := 21) hok rfl rfl rfl rfl rfl (by kernel_rfl) rfl rfl ?_
        refine a_off (i := 22) hok rfl rfl rfl rfl rfl (by kernel_rfl) rfl rfl ?_
        refine a_off (i := 23) hok rfl rfl rfl rfl rfl (by kernel_rfl) rfl rfl ?_
        refine a_off (i := 24) hok rfl rfl rfl rfl rfl (by kernel_rfl) rfl rfl ?_
        refine a_off (i := 26) hok rfl rfl rfl rfl rfl (by kernel_rfl) rfl rfl ?_
        refine a_next hok 25 [] (by kernel_rfl) ?_ trivial
        refine a_stOff (i := 25) hok rfl rfl rfl rfl rfl rfl (by intro _ h; cases h; rfl) ⟨trivial, ⟨trivial, ⟨trivial, ⟨trivial, ⟨trivial, ⟨trivial, ⟨trivial, ⟨trivial, ⟨trivial, ⟨⟨⟨rfl, rfl⟩, trivial⟩, ⟨trivial, ⟨trivial, ⟨trivial, ⟨⟨⟨rfl, rfl⟩, trivial⟩, ⟨trivial, ⟨trivial, ⟨trivial, ⟨trivial, ⟨trivial, ⟨trivial, ⟨⟨⟨rfl, rfl⟩, trivial⟩, ⟨trivial, ⟨⟨⟨rfl, rfl⟩, trivial⟩, ⟨trivial, trivial⟩⟩⟩⟩⟩⟩⟩⟩⟩⟩⟩⟩⟩⟩⟩⟩⟩⟩⟩⟩⟩⟩⟩⟩ ?_
        refine a_next hok 27 [] (by kernel_rfl) ?_ trivial
        refine a_stOff (i := 27) hok rfl rfl rfl rfl rfl rfl (by intro _ h; cases h; rfl) ⟨trivial, ⟨trivial, ⟨trivial, ⟨trivial, ⟨trivial, ⟨trivial, ⟨trivial, ⟨trivial, ⟨trivial, ⟨⟨⟨rfl, rfl⟩, trivial⟩, ⟨trivial, ⟨trivial, ⟨trivial, ⟨⟨⟨rfl, rfl⟩, trivial⟩, ⟨trivial, ⟨trivial, ⟨trivial, ⟨trivial, ⟨trivial, ⟨trivial, ⟨⟨⟨rfl, rfl⟩, trivial⟩, ⟨trivial, ⟨⟨⟨rfl, rfl⟩, trivial⟩, ⟨trivial, trivial⟩⟩⟩⟩⟩⟩⟩⟩⟩⟩⟩⟩⟩⟩⟩⟩⟩⟩⟩⟩⟩⟩⟩⟩ ?_
        refine a_rdOn (i := 28) hok rfl rfl rfl rfl (by kernel_rfl) rfl (r_pickF rfl rfl) rfl ?_
        refine a_rd (i := 29) hok rfl (by kernel_rfl) rfl (r_pickF rfl rfl) rfl ?_
        refine a_fin hok (by kernel_rfl) ?_
        refine b_of (nrm [oc b1 [slv rT_api_Premise b_0.Premises, slv rT_api_Rule b_0.Rules, slv rT_api_Promotion b_0.Promotions], oc b3 [sv t2.Name, bv t2.Strict, iv .i64 t2.Rank, slv rT_api_Literal t2.Body, bv t2.Head.Neg, sv t2.Head.Name], oa rT_api_Literal x24.1 x24.2 t23] rfl) ?_
        refine n_then ?_
        refine ref_condF rfl rfl ?_
        refine ref_skip (n_block (n_then (ref_region ?_)))
        refine mv1 rfl rfl ?_
        refine s_rd (r_add rfl rfl) rfl ?_
        refine as1 rfl rfl ?_
        refine b_let (f := iv .i64) (t := 10) rfl fun k35 => ?_
        refine l_nil ?_
        exact goX () (weak [0, 1] ⟨rfl, rfl, rfl, rfl, rfl, rfl, trivial⟩ ⟨rfl, rfl, trivial⟩)
      refine a_off (i := 3) hok rfl rfl rfl rfl rfl (by kernel_rfl) rfl rfl ?_
      refine a_off (i := 4) hok rfl rfl rfl rfl rfl (by kernel_rfl) rfl rfl ?_
      refine a_off (i := 5) hok rfl rfl rfl rfl rfl (by kernel_rfl) rfl rfl ?_
      refine a_off (i := 6) hok rfl rfl rfl rfl rfl (by kernel_rfl) rfl rfl ?_
      refine a_off (i := 7) hok rfl rfl rfl rfl rfl (by kernel_rfl) rfl rfl ?_
      refine a_off (i := 8) hok rfl rfl rfl rfl rfl (by kernel_rfl) rfl rfl ?_
      refine a_off (i := 10) hok rfl rfl rfl rfl rfl (by kernel_rfl) rfl rfl ?_
      refine a_off (i := 11) hok rfl rfl rfl rfl rfl (by kernel_rfl) rfl rfl ?_
      refine a_next hok 9 [] (by kernel_rfl) ?_ trivial
      refine a_stOff (i := 9) hok rfl rfl rfl rfl rfl rfl (by intro _ h; cases h; rfl) ⟨trivial, ⟨trivial, ⟨trivial, ⟨trivial, ⟨trivial, ⟨trivial, ⟨trivial, ⟨trivial, ⟨trivial, ⟨⟨⟨rfl, rfl⟩, trivial⟩, ⟨trivial, trivial⟩⟩⟩⟩⟩⟩⟩⟩⟩⟩⟩ ?_
      refine a_next hok 12 [] (by kernel_rfl) ?_ trivial
      refine a_stOff (i := 12) hok rfl rfl rfl rfl rfl rfl (by intro _ h; cases h; rfl) ⟨trivial, ⟨trivial, ⟨trivial, ⟨trivial, ⟨trivial, ⟨trivial, ⟨trivial, ⟨trivial, ⟨trivial, ⟨⟨⟨rfl, rfl⟩, trivial⟩, ⟨trivial, trivial⟩⟩⟩⟩⟩⟩⟩⟩⟩⟩⟩ ?_
      refine a_rd (i := 13) hok rfl (by kernel_rfl) rfl (r_pickF rfl rfl) rfl ?_
      refine a_rd (i := 14) hok rfl (by kernel_rfl) rfl (r_move rfl) rfl ?_
      refine a_rdOn (i := 15) hok rfl rfl rfl rfl (by kernel_rfl) rfl (r_faddr (fo := 1) Try.underlying55 rfl rfl Try.sizeOf4 rfl) rfl ?_
      refine a_rdOn (i := 16) hok rfl rfl rfl rfl (by kernel_rfl) rfl (r_cload Try.isAgg4 rfl (j := 1) rfl rfl) rfl ?_
      refine a_rdOn (i := 17) hok rfl rfl rfl rfl (by kernel_rfl) rfl (r_not rfl) rfl ?_
      refine a_rdOn (i := 18) hok rfl rfl rfl rfl (by kernel_rfl) rfl (r_move rfl) rfl ?_
      refine b_split (t := 40) rfl (fun _ => ?_) (fun _ => ?_)
      · refine a_rdOn (i := 19) hok rfl rfl rfl rfl (by kernel_rfl) rfl (r_cloadS Try.isAgg34 Try.sizeOf34 rfl (j := 0) rfl rfl rfl) rfl ?_
        refine a_rdOn (i := 20) hok rfl rfl rfl rfl (by kernel_rfl) rfl (r_move rfl) rfl ?_
        refine a_rdOn (i := 21) hok rfl rfl rfl rfl (by kernel_rfl) rfl (r_move rfl) rfl ?_
        refine a_rdOn (i := 22) hok rfl rfl rfl rfl (by kernel_rfl) rfl (r_move rfl) rfl ?_
        refine pull fun t29 h_t29 => ?_
        refine a_rdOn (i := 23) hok rfl rfl rfl rfl (by kernel_rfl) rfl (r_index h_t29 Try.underlying22 el_3 rfl rfl) rfl ?_
        refine a_rdOn (i := 24) hok rfl rfl rfl rfl (by kernel_rfl) rfl (r_load el_3 rfl) rfl ?_
        refine a_rdOn (i := 26) hok rfl rfl rfl rfl (by kernel_rfl) rfl (r_move rfl) rfl ?_
        refine pull fun t30 h_t30 => ?_
        refine a_next hok 25 [] (by kernel_rfl) ?_ trivial
        refine a_stOn (i := 25) hok rfl rfl rfl rfl rfl (s_call (ψ := fun (_ : Unit) => slv (rI .i64) t30) (args := [.tmp 41, .tmp 42, .tmp 46]) Try.call37 rfl (ref07_Defeasible_ok h_t30) ⟨arg rfl, arg rfl, arg rfl, trivial⟩ (fun _ _ _ _ h => h)) (by intro _ h; cases h; rfl) (fun _ => ⟨trivial, ⟨trivial, ⟨trivial, ⟨trivial, ⟨trivial, ⟨trivial, ⟨trivial, ⟨trivial, ⟨trivial, ⟨⟨⟨rfl, rfl⟩, trivial⟩, ⟨trivial, ⟨trivial, ⟨trivial, ⟨trivial, ⟨trivial, ⟨trivial, ⟨trivial, ⟨trivial, ⟨trivial, ⟨trivial, ⟨trivial, ⟨trivial, ⟨⟨⟨rfl, rfl⟩, trivial⟩, ⟨trivial, trivial⟩⟩⟩⟩⟩⟩⟩⟩⟩⟩⟩⟩⟩⟩⟩⟩⟩⟩⟩⟩⟩⟩⟩⟩) (fun _ => ?_)
        refine pull fun t31 h_t31 => ?_
        refine a_next hok 27 [] (by kernel_rfl) ?_ trivial
        refine a_stOn (i := 27) hok rfl rfl rfl rfl rfl (s_call (ψ := fun (_ : Unit) => bv t31) (args := [.tmp 47, .tmp 48]) Try.call72 rfl (ref07_in_ok h_t31) ⟨arg rfl, arg rfl, trivial⟩ (fun _ _ _ _ h => h)) (by intro _ h; cases h; rfl) (fun _ => ⟨trivial, ⟨trivial, ⟨trivial, ⟨trivial, ⟨trivial, ⟨trivial, ⟨⟨⟨rfl, rfl⟩, trivial⟩, ⟨trivial, ⟨trivial, ⟨⟨⟨rfl, rfl⟩, trivial⟩, ⟨trivial, ⟨trivial, ⟨trivial, ⟨trivial, ⟨trivial, ⟨trivial, ⟨trivial, ⟨trivial, ⟨trivial, ⟨trivial, ⟨trivial, ⟨trivial, ⟨⟨⟨rfl, rfl⟩, trivial⟩, ⟨trivial, trivial⟩⟩⟩⟩⟩⟩⟩⟩⟩⟩⟩⟩⟩⟩⟩⟩⟩⟩⟩⟩⟩⟩⟩⟩) (fun _ => ?_)
        refine a_rdOn (i := 28) hok rfl rfl rfl rfl (by kernel_rfl) rfl (r_pickT rfl rfl) rfl ?_
        refine a_rd (i := 29) hok rfl (by kernel_rfl) rfl (r_pickF rfl rfl) rfl ?_
        refine a_fin hok (by kernel_rfl) ?_
        refine b_of (nrm [oc b1 [slv rT_api_Premise b_0.Premises, slv rT_api_Rule b_0.Rules, slv rT_api_Promotion b_0.Promotions], oc b3 [sv t2.Name, bv t2.Strict, iv .i64 t2.Rank, slv rT_api_Literal t2.Body, bv t2.Head.Neg, sv t2.Head.Name]] rfl) ?_
        refine n_then ?_
        refine ref_cond rfl (fun hb33 => ?_) (fun hb33 => ?_)
        · refine ref_seq (ref_region ?_)
          refine as1 rfl rfl ?_
          refine l_nil (n_then (ref_ret (r_block (r_then ?_))))
          refine retX ?_
          refine r_block (r_then ?_)
          exact fin1 (.inl rfl) () [] rfl trivial rfl (rv_tmp rfl)
        refine ref_skip (n_block (n_then (ref_region ?_)))
        refine mv1 rfl rfl ?_
        refine s_rd (r_add rfl rfl) rfl ?_
        refine as1 rfl rfl ?_
        refine b_let (f := iv .i64) (t := 10) rfl fun k36 => ?_
        refine l_nil ?_
        exact goX () (weak [0, 1] ⟨rfl, rfl, rfl, rfl, rfl, rfl, trivial⟩ ⟨rfl, rfl, trivial⟩)
      refine a_off (i := 19) hok rfl rfl rfl rfl rfl (by kernel_rfl) rfl rfl ?_
      refine a_off (i := 20) hok rfl rfl rfl rfl rfl (by kernel_rfl) rfl rfl ?_
      refine a_off (i := 21) hok rfl rfl rfl rfl rfl (by kernel_rfl) rfl rfl ?_
      refine a_off (i := 22) hok rfl rfl rfl rfl rfl (by kernel_rfl) rfl rfl ?_
      refine a_off (i := 23) hok rfl rfl rfl rfl rfl (by kernel_rfl) rfl rfl ?_
      refine a_off (i := 24) hok rfl rfl rfl rfl rfl (by kernel_rfl) rfl rfl ?_
      refine a_off (i := 26) hok rfl rfl rfl rfl rfl (by kernel_rfl) rfl rfl ?_
      refine a_next hok 25 [] (by kernel_rfl) ?_ trivial
      refine a_stOff (i := 25) hok rfl rfl rfl rfl rfl rfl (by intro _ h; cases h; rfl) ⟨trivial, ⟨trivial, ⟨trivial, ⟨trivial, ⟨trivial, ⟨trivial, ⟨trivial, ⟨trivial, ⟨trivial, ⟨⟨⟨rfl, rfl⟩, trivial⟩, ⟨trivial, ⟨trivial, ⟨trivial, ⟨trivial, ⟨trivial, ⟨trivial, ⟨trivial, ⟨trivial, ⟨trivial, ⟨trivial, ⟨trivial, ⟨trivial, ⟨⟨⟨rfl, rfl⟩, trivial⟩, ⟨trivial, trivial⟩⟩⟩⟩⟩⟩⟩⟩⟩⟩⟩⟩⟩⟩⟩⟩⟩⟩⟩⟩⟩⟩⟩⟩ ?_
      refine a_next hok 27 [] (by kernel_rfl) ?_ trivial
      refine a_stOff (i := 27) hok rfl rfl rfl rfl rfl rfl (by intro _ h; cases h; rfl) ⟨trivial, ⟨trivial, ⟨trivial, ⟨trivial, ⟨trivial, ⟨trivial, ⟨trivial, ⟨trivial, ⟨trivial, ⟨⟨⟨rfl, rfl⟩, trivial⟩, ⟨trivial, ⟨trivial, ⟨trivial, ⟨trivial, ⟨trivial, ⟨trivial, ⟨trivial, ⟨trivial, ⟨trivial, ⟨trivial, ⟨trivial, ⟨trivial, ⟨⟨⟨rfl, rfl⟩, trivial⟩, ⟨trivial, trivial⟩⟩⟩⟩⟩⟩⟩⟩⟩⟩⟩⟩⟩⟩⟩⟩⟩⟩⟩⟩⟩⟩⟩⟩ ?_
      refine a_rdOn (i := 28) hok rfl rfl rfl rfl (by kernel_rfl) rfl (r_pickF rfl rfl) rfl ?_
      refine a_rd (i := 29) hok rfl (by kernel_rfl) rfl (r_pickF rfl rfl) rfl ?_
      refine a_fin hok (by kernel_rfl) ?_
      refine n_then ?_
      refine ref_condF rfl rfl ?_
      refine ref_skip (n_block (n_then (ref_region ?_)))
      refine mv1 rfl rfl ?_
      refine s_rd (r_add rfl rfl) rfl ?_
      refine as1 rfl rfl ?_
      refine b_let (f := iv .i64) (t := 10) rfl fun k37 => ?_
      refine l_nil ?_
      exact goX () (weak [0, 1] ⟨rfl, rfl, rfl, rfl, rfl, rfl, trivial⟩ ⟨rfl, rfl, trivial⟩)
    refine ref_exit (x_then ?_)
    exact brkX () (weak [] trivial trivial)
  refine n_then (ref_seq (ref_region ?_))
  refine as1 rfl rfl ?_
  refine l_nil (n_then (ref_ret ?_))
  exact fin1 (.inl rfl) () [] rfl trivial rfl (rv_tmp rfl)

/-! deliberation/deliberationref07.choices -/
noncomputable def ref07_choices_1_l1 (l_0 : (List T_api_Argument)) (n_1 : Int) (body_2 : (List T_api_Literal)) (sofar_3 : (List Int)) (rec_ : (List T_api_Argument) → Int → (List T_api_Literal) → (List Int) → Option (List (List Int))) (s29 : Int × (List (List Int))) : Option (Sum ((List (List Int))) (Int × (List (List Int)))) :=
  bif decide (s29.1 < n_1) then
    Option.bind (idxM l_0 s29.1) fun t32 =>
    Option.bind (idxM body_2 (sofar_3.length : Int)) fun t33 =>
    bif decide (t32.Conclusion = t33) then
      Option.bind (appM 8 sofar_3 [s29.1]) fun t35 =>
      Option.bind (rec_ l_0 n_1 body_2 t35) fun t37 =>
      Option.bind (appM 24 s29.2 t37) fun out38 =>
      letM (iadd .i64 s29.1 1) fun i40 =>
      some (Sum.inr (i40, out38))
    else
      letM (iadd .i64 s29.1 1) fun i41 =>
      some (Sum.inr (i41, s29.2))
  else
    some (Sum.inl s29.2)

noncomputable def ref07_choices_1_b (rec_ : (List T_api_Argument) → Int → (List T_api_Literal) → (List Int) → Option (List (List Int))) (l_0 : (List T_api_Argument)) (n_1 : Int) (body_2 : (List T_api_Literal)) (sofar_3 : (List Int)) : Option (List (List Int)) :=
  bif (sofar_3.length : Int) == (body_2.length : Int) then
    Option.bind (appM 8 [] sofar_3) fun t3 =>
    some [t3]
  else
    Option.bind (loopC (ref07_choices_1_l1 l_0 n_1 body_2 sofar_3 rec_) (0, [])) fun q42 : (List (List Int)) =>
    some q42

noncomputable def ref07_choices_1_n : Nat → (List T_api_Argument) → Int → (List T_api_Literal) → (List Int) → Option (List (List Int))
  | 0 => fun _ _ _ _ => none
  | n_ + 1 => ref07_choices_1_b (ref07_choices_1_n n_)

noncomputable def ref07_choices_1_m (l_0 : (List T_api_Argument)) (n_1 : Int) (body_2 : (List T_api_Literal)) (sofar_3 : (List Int)) : Option (List (List Int)) := recC fun n_ => ref07_choices_1_n n_ l_0 n_1 body_2 sofar_3

theorem ref07_choices_1_step (rec_ : (List T_api_Argument) → Int → (List T_api_Literal) → (List Int) → Option (List (List Int))) (ih : ∀ {l_0 : (List T_api_Argument)} {n_1 : Int} {body_2 : (List T_api_Literal)} {sofar_3 : (List Int)} {h_0 : Value × List Nat} {h_1 : Value × List Nat} {r : List (List Int)}, rec_ l_0 n_1 body_2 sofar_3 = some r →
    FnOk prog 47 [pv h_0.1, iv .i64 n_1, slv rT_api_Literal body_2, pv h_1.1] [oa rT_api_Argument h_0.1 h_0.2 l_0, oa (rI .i64) h_1.1 h_1.2 sofar_3] (fun (x : Unit) => [slv (rSl (rI .i64)) r]) (fun (x : Unit) => [oa rT_api_Argument h_0.1 h_0.2 l_0])) {l_0 : (List T_api_Argument)} {n_1 : Int} {body_2 : (List T_api_Literal)} {sofar_3 : (List Int)} {h_0 : Value × List Nat} {h_1 : Value × List Nat} {r : List (List Int)} (hm : ref07_choices_1_b rec_ l_0 n_1 body_2 sofar_3 = some r) :
    FnOk prog 47 [pv h_0.1, iv .i64 n_1, slv rT_api_Literal body_2, pv h_1.1] [oa rT_api_Argument h_0.1 h_0.2 l_0, oa (rI .i64) h_1.1 h_1.2 sofar_3] (fun (x : Unit) => [slv (rSl (rI .i64)) r]) (fun (x : Unit) => [oa rT_api_Argument h_0.1 h_0.2 l_0]) := by
  refine fn_ok (fn := Try.f47) (N := 52) (res := fun r x => [slv (rSl (rI .i64)) r]) (Ω1 := fun r x => [oa rT_api_Argument h_0.1 h_0.2 l_0]) Try.func47 rfl rfl hm rfl (fun E hM => ?_)
  unfold ref07_choices_1_b
  refine ref_seq (ref_region ?_)
  refine as1 rfl rfl ?_
  refine l_nil (n_then (ref_seq (ref_seq (ref_region ?_))))
  refine mv1 rfl rfl ?_
  refine s_rd (r_olen Try.underlying22 rfl (j := 1) rfl) rfl ?_
  refine mv1 rfl rfl ?_
  refine s_rd (r_len Try.underlying53 rfl) rfl ?_
  refine s_rd (r_eql rfl rfl) rfl ?_
  refine l_nil (n_then ?_)
  refine ref_cond rfl (fun hb1 => ?_) (fun hb1 => ?_)
  · refine ref_seq (ref_region ?_)
    refine s_st (s_bsliceO (xs := []) (ds := []) Try.underlying22 el_3 rfl (Nat.le_of_ble_eq_true rfl) trivial) rfl (fun o2 => ?_)
    refine mv1 rfl rfl ?_
    refine b_of (frzL [3, 11, 17] (j := 1) rfl ⟨rfl, rfl, rfl, trivial⟩) ?_
    refine pull fun t3 h_t3 => ?_
    refine s_st (s_append h_t3 Try.underlying22 el_3 rfl (j := 2) rfl rfl) rfl (fun o4 => ?_)
    refine b_of (frzL [18] (j := 2) rfl ⟨rfl, trivial⟩) ?_
    refine s_st (s_bslice (xs := [.tmp 18]) (ds := [t3]) Try.underlying26 el_22 rfl (Nat.le_of_ble_eq_true rfl) ⟨(part_at rfl slv_at), trivial⟩) rfl (fun _ => ?_)
    refine as1 rfl rfl ?_
    refine l_nil (n_then (ref_ret (r_then ?_)))
    exact fin1 (.inl rfl) () [0] rfl ⟨rfl, trivial⟩ rfl (rv_tmp rfl)
  refine ref_skip (n_then (ref_seq (ref_region ?_)))
  refine as1 rfl rfl ?_
  refine l_nil (n_then (ref_seq (ref_seq (ref_region ?_))))
  refine as1 rfl rfl ?_
  refine l_nil (n_then ?_)
  refine b_of (frzL [3, 11] (j := 1) rfl ⟨rfl, rfl, trivial⟩) ?_
  refine b_of (own_nil (rSl (rI .i64))) ?_
  refine ref_loopB (f := (ref07_choices_1_l1 l_0 n_1 body_2 sofar_3 rec_)) (Γl := (fun (s29 : Int × (List (List Int))) (x30 : (Value × List Nat)) => [(0, pv h_0.1), (1, iv .i64 n_1), (2, slv rT_api_Literal body_2), (3, slv (rI .i64) sofar_3), (9, pv x30.1), (10, iv .i64 s29.1)])) (Ωl := (fun (s29 : Int × (List (List Int))) (x30 : (Value × List Nat)) => [oa rT_api_Argument h_0.1 h_0.2 l_0, oa (rSl (rI .i64)) x30.1 x30.2 s29.2])) (Γb := (fun (q42 : (List (List Int))) (y43 : (Value × List Nat)) => [(0, pv h_0.1), (3, slv (rI .i64) sofar_3), (9, pv y43.1)])) (Ωb := (fun (q42 : (List (List Int))) (y43 : (Value × List Nat)) => [oa rT_api_Argument h_0.1 h_0.2 l_0, oa (rSl (rI .i64)) y43.1 y43.2 q42])) (0, []) ((.slice none 0 0), []) (weak [0, 2] ⟨rfl, rfl, rfl, rfl, rfl, rfl, trivial⟩ ⟨rfl, rfl, trivial⟩) (fun s29 x30 => ?_) (fun q42 y43 => ?_)
  · unfold ref07_choices_1_l1
    refine ref_seq (ref_seq (ref_region ?_))
    refine mv1 rfl rfl ?_
    refine mv1 rfl rfl ?_
    refine s_rd (r_lss rfl rfl) rfl ?_
    refine l_nil (n_then ?_)
    refine ref_cond rfl (fun hb31 => ?_) (fun hb31 => ?_)
    · refine ref_skip (n_then (ref_seq (ref_block (ref_seq ?_))))
      refine ref_draw [0, 1, 2, 3, 4, 5, 6, 7, 8, 9, 10] rfl (by kernel_rfl) (fun hok => ?_)
      refine a_rd (i := 0) hok rfl (by kernel_rfl) rfl (r_move rfl) rfl ?_
      refine a_rd (i := 1) hok rfl (by kernel_rfl) rfl (r_move rfl) rfl ?_
      refine pull fun t32 h_t32 => ?_
      refine a_rd (i := 2) hok rfl (by kernel_rfl) rfl (r_oindex h_t32 Try.underlying35 el_52 rfl (j := 0) rfl rfl) rfl ?_
      refine a_rd (i := 3) hok rfl (by kernel_rfl) rfl (r_foea (ρ := rT_api_Argument) (fo := 3) h_t32 Try.underlying52 rfl rfl Try.sizeOf50 rfl (j := 0) rfl) rfl ?_
      refine a_rd (i := 4) hok rfl (by kernel_rfl) rfl (r_foload (ρ := rT_api_Argument) (y := t32) (ρ' := rT_api_Literal) (z := t32.Conclusion) h_t32 el_50 rfl (j := 0) rfl rfl rfl) rfl ?_
      refine a_rd (i := 5) hok rfl (by kernel_rfl) rfl (r_move rfl) rfl ?_
      refine a_rd (i := 6) hok rfl (by kernel_rfl) rfl (r_move rfl) rfl ?_
      refine a_rd (i := 7) hok rfl (by kernel_rfl) rfl (r_len Try.underlying22 rfl) rfl ?_
      refine pull fun t33 h_t33 => ?_
      refine a_rd (i := 8) hok rfl (by kernel_rfl) rfl (r_index h_t33 Try.underlying53 el_50 rfl rfl) rfl ?_
      refine a_rd (i := 9) hok rfl (by kernel_rfl) rfl (r_load el_50 rfl) rfl ?_
      refine a_rd (i := 10) hok rfl (by kernel_rfl) rfl (r_steql (u := t32.Conclusion) (v := t33) eq_50 rfl rfl rfl rfl) rfl ?_
      refine a_fin hok (by kernel_rfl) ?_
      refine n_then ?_
      refine ref_cond rfl (fun hb34 => ?_) (fun hb34 => ?_)
      · refine ref_region ?_
        refine mv1 rfl rfl ?_
        refine mv1 rfl rfl ?_
        refine mv1 rfl rfl ?_
        refine mv1 rfl rfl ?_
        refine mv1 rfl rfl ?_
        refine mv1 rfl rfl ?_
        refine s_rd (r_len Try.underlying22 rfl) rfl ?_
        refine mv1 rfl rfl ?_
        refine s_rd (r_len Try.underlying22 rfl) rfl ?_
        refine s_rd (r_full Try.underlying22 el_3 rfl rfl rfl) rfl ?_
        refine mv1 rfl rfl ?_
        refine s_st (s_bslice (xs := [.tmp 46]) (ds := [s29.1]) Try.underlying22 el_3 rfl (Nat.le_of_ble_eq_true rfl) ⟨(part_at rfl iv_at), trivial⟩) rfl (fun _ => ?_)
        refine pull fun t35 h_t35 => ?_
        refine s_st (s_appendF h_t35 rfl Try.underlying22 el_3 rfl rfl) rfl (fun o36 => ?_)
        refine pull fun t37 h_t37 => ?_
        refine s_st (s_callC [0, 2] [true, false] (fun (_ : Unit) => [oa rT_api_Argument h_0.1 h_0.2 l_0, dead]) (fun (_ : Unit) => []) (fun (_ : Unit) => slv (rSl (rI .i64)) t37) (args := [.tmp 37, .tmp 38, .tmp 39, .tmp 48]) (caps := []) Try.call47 rfl (ih h_t37) ⟨rfl, rfl, ⟨rfl, rfl, trivial⟩⟩ (fun _ => rfl) (fun _ => ⟨rfl, trivial⟩) (fun _ => rfl) ⟨arg rfl, arg rfl, arg rfl, arg rfl, trivial⟩ (fun _ _ _ _ h => h)) rfl (fun _ => ?_)
        refine pull fun out38 h_out38 => ?_
        refine s_st (s_append h_out38 Try.underlying26 el_22 rfl (j := 1) rfl rfl) rfl (fun o39 => ?_)
        refine as1 rfl rfl ?_
        refine l_nil ?_
        refine b_of (nrm [oa rT_api_Argument h_0.1 h_0.2 l_0, oa (rSl (rI .i64)) o39.1 o39.2 out38, dead] rfl) ?_
        refine n_block (n_then (ref_region ?_))
        refine mv1 rfl rfl ?_
        refine s_rd (r_add rfl rfl) rfl ?_
        refine as1 rfl rfl ?_
        refine b_let (f := iv .i64) (t := 10) rfl fun i40 => ?_
        refine l_nil ?_
        exact goB o39 (weak [0, 1] ⟨rfl, rfl, rfl, rfl, rfl, rfl, trivial⟩ ⟨rfl, rfl, trivial⟩)
      refine ref_skip (n_block (n_then (ref_region ?_)))
      refine mv1 rfl rfl ?_
      refine s_rd (r_add rfl rfl) rfl ?_
      refine as1 rfl rfl ?_
      refine b_let (f := iv .i64) (t := 10) rfl fun i41 => ?_
      refine l_nil ?_
      exact goB x30 (weak [0, 1] ⟨rfl, rfl, rfl, rfl, rfl, rfl, trivial⟩ ⟨rfl, rfl, trivial⟩)
    refine ref_exit (x_then ?_)
    exact brkB x30 (weak [0, 1] ⟨rfl, rfl, rfl, trivial⟩ ⟨rfl, rfl, trivial⟩)
  refine n_then (ref_seq (ref_region ?_))
  refine mv1 rfl rfl ?_
  refine as1 rfl rfl ?_
  refine l_nil (n_then (ref_ret ?_))
  refine b_of (frzL [9, 51, 8] (j := 1) rfl ⟨rfl, rfl, rfl, trivial⟩) ?_
  exact fin1 (.inl rfl) () [0] rfl ⟨rfl, trivial⟩ rfl (rv_tmp rfl)

theorem ref07_choices_1_n_ok : ∀ (n_ : Nat) {l_0 : (List T_api_Argument)} {n_1 : Int} {body_2 : (List T_api_Literal)} {sofar_3 : (List Int)} {h_0 : Value × List Nat} {h_1 : Value × List Nat} {r : List (List Int)}, ref07_choices_1_n n_ l_0 n_1 body_2 sofar_3 = some r →
    FnOk prog 47 [pv h_0.1, iv .i64 n_1, slv rT_api_Literal body_2, pv h_1.1] [oa rT_api_Argument h_0.1 h_0.2 l_0, oa (rI .i64) h_1.1 h_1.2 sofar_3] (fun (x : Unit) => [slv (rSl (rI .i64)) r]) (fun (x : Unit) => [oa rT_api_Argument h_0.1 h_0.2 l_0]) := by
  intro n_
  induction n_ with
  | zero => intros; rename_i h; cases h
  | succ n_ ih => intros; rename_i h; exact ref07_choices_1_step _ @ih h

theorem ref07_choices_1_ok {l_0 : (List T_api_Argument)} {n_1 : Int} {body_2 : (List T_api_Literal)} {sofar_3 : (List Int)} {h_0 : Value × List Nat} {h_1 : Value × List Nat} {r : List (List Int)} (hm : ref07_choices_1_m l_0 n_1 body_2 sofar_3 = some r) :
    FnOk prog 47 [pv h_0.1, iv .i64 n_1, slv rT_api_Literal body_2, pv h_1.1] [oa rT_api_Argument h_0.1 h_0.2 l_0, oa (rI .i64) h_1.1 h_1.2 sofar_3] (fun (x : Unit) => [slv (rSl (rI .i64)) r]) (fun (x : Unit) => [oa rT_api_Argument h_0.1 h_0.2 l_0]) := by
  obtain ⟨n_, h⟩ := recC_some hm
  exact ref07_choices_1_n_ok n_ h

theorem ref07_choices_1_l1_le {rec_ rec_' : (List T_api_Argument) → Int → (List T_api_Literal) → (List Int) → Option (List (List Int))} (h : ∀ l_0 n_1 body_2 sofar_3, Le (rec_ l_0 n_1 body_2 sofar_3) (rec_' l_0 n_1 body_2 sofar_3)) {l_0 : (List T_api_Argument)} {n_1 : Int} {body_2 : (List T_api_Literal)} {sofar_3 : (List Int)} {s29 : Int × (List (List Int))}  : Le (ref07_choices_1_l1 l_0 n_1 body_2 sofar_3 rec_ s29) (ref07_choices_1_l1 l_0 n_1 body_2 sofar_3 rec_' s29) := by
  unfold ref07_choices_1_l1
  repeat' with_reducible (first | exact Le.refl _ | exact h _ _ _ _ | refine Le.bind ?_ (Le.sumK fun _ => ?_) | refine Le.bind ?_ (fun _ => ?_) | refine Le.cond ?_ ?_ | refine Le.letM (fun _ => ?_) | refine Le.join (fun _ => ?_) (fun _ _ hj => ?_) | exact hj _)

theorem ref07_choices_1_b_le {rec_ rec_' : (List T_api_Argument) → Int → (List T_api_Literal) → (List Int) → Option (List (List Int))} (h : ∀ l_0 n_1 body_2 sofar_3, Le (rec_ l_0 n_1 body_2 sofar_3) (rec_' l_0 n_1 body_2 sofar_3)) {l_0 : (List T_api_Argument)} {n_1 : Int} {body_2 : (List T_api_Literal)} {sofar_3 : (List Int)} : Le (ref07_choices_1_b rec_ l_0 n_1 body_2 sofar_3) (ref07_choices_1_b rec_' l_0 n_1 body_2 sofar_3) := by
  unfold ref07_choices_1_b
  repeat' with_reducible (first | exact Le.refl _ | exact h _ _ _ _ | refine Le.loopC (fun _ => ref07_choices_1_l1_le h) | refine Le.bind ?_ (Le.sumK fun _ => ?_) | refine Le.bind ?_ (fun _ => ?_) | refine Le.cond ?_ ?_ | refine Le.letM (fun _ => ?_) | refine Le.join (fun _ => ?_) (fun _ _ hj => ?_) | exact hj _)

theorem ref07_choices_1_n_le : ∀ (n_ : Nat) (l_0 : (List T_api_Argument)) (n_1 : Int) (body_2 : (List T_api_Literal)) (sofar_3 : (List Int)), Le (ref07_choices_1_n n_ l_0 n_1 body_2 sofar_3) (ref07_choices_1_n (n_ + 1) l_0 n_1 body_2 sofar_3)
  | 0, _, _, _, _ => fun _ h => by cases h
  | n_ + 1, _, _, _, _ => ref07_choices_1_b_le (ref07_choices_1_n_le n_)

/-! deliberation/deliberationref07.choices -/
noncomputable def ref07_choices_l1 (l_0 : (List T_api_Argument)) (n_1 : Int) (body_2 : (List T_api_Literal)) (sofar_3 : (List Int)) (s29 : Int × (List (List Int))) : Option (Sum ((List (List Int))) (Int × (List (List Int)))) :=
  bif decide (s29.1 < n_1) then
    Option.bind (idxM l_0 s29.1) fun t32 =>
    Option.bind (idxM body_2 (sofar_3.length : Int)) fun t33 =>
    bif decide (t32.Conclusion = t33) then
      Option.bind (appM 8 sofar_3 [s29.1]) fun t35 =>
      Option.bind (ref07_choices_1_m l_0 n_1 body_2 t35) fun t37 =>
      Option.bind (appM 24 s29.2 t37) fun out38 =>
      letM (iadd .i64 s29.1 1) fun i40 =>
      some (Sum.inr (i40, out38))
    else
      letM (iadd .i64 s29.1 1) fun i41 =>
      some (Sum.inr (i41, s29.2))
  else
    some (Sum.inl s29.2)

noncomputable def ref07_choices_m (l_0 : (List T_api_Argument)) (n_1 : Int) (body_2 : (List T_api_Literal)) (sofar_3 : (List Int)) : Option (List (List Int)) :=
  bif (sofar_3.length : Int) == (body_2.length : Int) then
    Option.bind (appM 8 [] sofar_3) fun t3 =>
    some [t3]
  else
    Option.bind (loopC (ref07_choices_l1 l_0 n_1 body_2 sofar_3) (0, [])) fun q42 : (List (List Int)) =>
    some q42

theorem ref07_choices_ok {l_0 : (List T_api_Argument)} {n_1 : Int} {body_2 : (List T_api_Literal)} {sofar_3 : (List Int)} {h_0 : Value × List Nat} {r : List (List Int)} (hm : ref07_choices_m l_0 n_1 body_2 sofar_3 = some r) :
    FnOk prog 47 [pv h_0.1, iv .i64 n_1, slv rT_api_Literal body_2, slv (rI .i64) sofar_3] [oa rT_api_Argument h_0.1 h_0.2 l_0] (fun (x : Unit) => [slv (rSl (rI .i64)) r]) (fun (x : Unit) => [oa rT_api_Argument h_0.1 h_0.2 l_0]) := by
  refine fn_ok (fn := Try.f47) (N := 52) (res := fun r x => [slv (rSl (rI .i64)) r]) (Ω1 := fun r x => [oa rT_api_Argument h_0.1 h_0.2 l_0]) Try.func47 rfl rfl hm rfl (fun E hM => ?_)
  unfold ref07_choices_m
  refine ref_seq (ref_region ?_)
  refine as1 rfl rfl ?_
  refine l_nil (n_then (ref_seq (ref_seq (ref_region ?_))))
  refine mv1 rfl rfl ?_
  refine s_rd (r_len Try.underlying22 rfl) rfl ?_
  refine mv1 rfl rfl ?_
  refine s_rd (r_len Try.underlying53 rfl) rfl ?_
  refine s_rd (r_eql rfl rfl) rfl ?_
  refine l_nil (n_then ?_)
  refine ref_cond rfl (fun hb1 => ?_) (fun hb1 => ?_)
  · refine ref_seq (ref_region ?_)
    refine s_st (s_bsliceO (xs := []) (ds := []) Try.underlying22 el_3 rfl (Nat.le_of_ble_eq_true rfl) trivial) rfl (fun o2 => ?_)
    refine mv1 rfl rfl ?_
    refine pull fun t3 h_t3 => ?_
    refine s_st (s_append h_t3 Try.underlying22 el_3 rfl (j := 1) rfl rfl) rfl (fun o4 => ?_)
    refine b_of (frzL [18] (j := 1) rfl ⟨rfl, trivial⟩) ?_
    refine s_st (s_bslice (xs := [.tmp 18]) (ds := [t3]) Try.underlying26 el_22 rfl (Nat.le_of_ble_eq_true rfl) ⟨(part_at rfl slv_at), trivial⟩) rfl (fun _ => ?_)
    refine as1 rfl rfl ?_
    refine l_nil (n_then (ref_ret (r_then ?_)))
    exact fin1 (.inl rfl) () [0] rfl ⟨rfl, trivial⟩ rfl (rv_tmp rfl)
  refine ref_skip (n_then (ref_seq (ref_region ?_)))
  refine as1 rfl rfl ?_
  refine l_nil (n_then (ref_seq (ref_seq (ref_region ?_))))
  refine as1 rfl rfl ?_
  refine l_nil (n_then ?_)
  refine b_of (own_nil (rSl (rI .i64))) ?_
  refine ref_loopB (f := (ref07_choices_l1 l_0 n_1 body_2 sofar_3)) (Γl := (fun (s29 : Int × (List (List Int))) (x30 : (Value × List Nat)) => [(0, pv h_0.1), (1, iv .i64 n_1), (2, slv rT_api_Literal body_2), (3, slv (rI .i64) sofar_3), (9, pv x30.1), (10, iv .i64 s29.1)])) (Ωl := (fun (s29 : Int × (List (List Int))) (x30 : (Value × List Nat)) => [oa rT_api_Argument h_0.1 h_0.2 l_0, oa (rSl (rI .i64)) x30.1 x30.2 s29.2])) (Γb := (fun (q42 : (List (List Int))) (y43 : (Value × List Nat)) => [(0, pv h_0.1), (9, pv y43.1)])) (Ωb := (fun (q42 : (List (List Int))) (y43 : (Value × List Nat)) => [oa rT_api_Argument h_0.1 h_0.2 l_0, oa (rSl (rI .i64)) y43.1 y43.2 q42])) (0, []) ((.slice none 0 0), []) (weak [0, 1] ⟨rfl, rfl, rfl, rfl, rfl, rfl, trivial⟩ ⟨rfl, rfl, trivial⟩) (fun s29 x30 => ?_) (fun q42 y43 => ?_)
  · unfold ref07_choices_l1
    refine ref_seq (ref_seq (ref_region ?_))
    refine mv1 rfl rfl ?_
    refine mv1 rfl rfl ?_
    refine s_rd (r_lss rfl rfl) rfl ?_
    refine l_nil (n_then ?_)
    refine ref_cond rfl (fun hb31 => ?_) (fun hb31 => ?_)
    · refine ref_skip (n_then (ref_seq (ref_block (ref_seq ?_))))
      refine ref_draw [0, 1, 2, 3, 4, 5, 6, 7, 8, 9, 10] rfl (by kernel_rfl) (fun hok => ?_)
      refine a_rd (i := 0) hok rfl (by kernel_rfl) rfl (r_move rfl) rfl ?_
      refine a_rd (i := 1) hok rfl (by kernel_rfl) rfl (r_move rfl) rfl ?_
      refine pull fun t32 h_t32 => ?_
      refine a_rd (i := 2) hok rfl (by kernel_rfl) rfl (r_oindex h_t32 Try.underlying35 el_52 rfl (j := 0) rfl rfl) rfl ?_
      refine a_rd (i := 3) hok rfl (by kernel_rfl) rfl (r_foea (ρ := rT_api_Argument) (fo := 3) h_t32 Try.underlying52 rfl rfl Try.sizeOf50 rfl (j := 0) rfl) rfl ?_
      refine a_rd (i := 4) hok rfl (by kernel_rfl) rfl (r_foload (ρ := rT_api_Argument) (y := t32) (ρ' := rT_api_Literal) (z := t32.Conclusion) h_t32 el_50 rfl (j := 0) rfl rfl rfl) rfl ?_
      refine a_rd (i := 5) hok rfl (by kernel_rfl) rfl (r_move rfl) rfl ?_
      refine a_rd (i := 6) hok rfl (by kernel_rfl) rfl (r_move rfl) rfl ?_
      refine a_rd (i := 7) hok rfl (by kernel_rfl) rfl (r_len Try.underlying22 rfl) rfl ?_
      refine pull fun t33 h_t33 => ?_
      refine a_rd (i := 8) hok rfl (by kernel_rfl) rfl (r_index h_t33 Try.underlying53 el_50 rfl rfl) rfl ?_
      refine a_rd (i := 9) hok rfl (by kernel_rfl) rfl (r_load el_50 rfl) rfl ?_
      refine a_rd (i := 10) hok rfl (by kernel_rfl) rfl (r_steql (u := t32.Conclusion) (v := t33) eq_50 rfl rfl rfl rfl) rfl ?_
      refine a_fin hok (by kernel_rfl) ?_
      refine n_then ?_
      refine ref_cond rfl (fun hb34 => ?_) (fun hb34 => ?_)
      · refine ref_region ?_
        refine mv1 rfl rfl ?_
        refine mv1 rfl rfl ?_
        refine mv1 rfl rfl ?_
        refine mv1 rfl rfl ?_
        refine mv1 rfl rfl ?_
        refine mv1 rfl rfl ?_
        refine s_rd (r_len Try.underlying22 rfl) rfl ?_
        refine mv1 rfl rfl ?_
        refine s_rd (r_len Try.underlying22 rfl) rfl ?_
        refine s_rd (r_full Try.underlying22 el_3 rfl rfl rfl) rfl ?_
        refine mv1 rfl rfl ?_
        refine s_st (s_bslice (xs := [.tmp 46]) (ds := [s29.1]) Try.underlying22 el_3 rfl (Nat.le_of_ble_eq_true rfl) ⟨(part_at rfl iv_at), trivial⟩) rfl (fun _ => ?_)
        refine pull fun t35 h_t35 => ?_
        refine s_st (s_appendF h_t35 rfl Try.underlying22 el_3 rfl rfl) rfl (fun o36 => ?_)
        refine pull fun t37 h_t37 => ?_
        refine s_st (s_callC [0, 2] [true, false] (fun (_ : Unit) => [oa rT_api_Argument h_0.1 h_0.2 l_0, dead]) (fun (_ : Unit) => []) (fun (_ : Unit) => slv (rSl (rI .i64)) t37) (args := [.tmp 37, .tmp 38, .tmp 39, .tmp 48]) (caps := []) Try.call47 rfl (ref07_choices_1_ok h_t37) ⟨rfl, rfl, ⟨rfl, rfl, trivial⟩⟩ (fun _ => rfl) (fun _ => ⟨rfl, trivial⟩) (fun _ => rfl) ⟨arg rfl, arg rfl, arg rfl, arg rfl, trivial⟩ (fun _ _ _ _ h => h)) rfl (fun _ => ?_)
        refine pull fun out38 h_out38 => ?_
        refine s_st (s_append h_out38 Try.underlying26 el_22 rfl (j := 1) rfl rfl) rfl (fun o39 => ?_)
        refine as1 rfl rfl ?_
        refine l_nil ?_
        refine b_of (nrm [oa rT_api_Argument h_0.1 h_0.2 l_0, oa (rSl (rI .i64)) o39.1 o39.2 out38, dead] rfl) ?_
        refine n_block (n_then (ref_region ?_))
        refine mv1 rfl rfl ?_
        refine s_rd (r_add rfl rfl) rfl ?_
        refine as1 rfl rfl ?_
        refine b_let (f := iv .i64) (t := 10) rfl fun i40 => ?_
        refine l_nil ?_
        exact goB o39 (weak [0, 1] ⟨rfl, rfl, rfl, rfl, rfl, rfl, trivial⟩ ⟨rfl, rfl, trivial⟩)
      refine ref_skip (n_block (n_then (ref_region ?_)))
      refine mv1 rfl rfl ?_
      refine s_rd (r_add rfl rfl) rfl ?_
      refine as1 rfl rfl ?_
      refine b_let (f := iv .i64) (t := 10) rfl fun i41 => ?_
      refine l_nil ?_
      exact goB x30 (weak [0, 1] ⟨rfl, rfl, rfl, rfl, rfl, rfl, trivial⟩ ⟨rfl, rfl, trivial⟩)
    refine ref_exit (x_then ?_)
    exact brkB x30 (weak [0, 1] ⟨rfl, rfl, trivial⟩ ⟨rfl, rfl, trivial⟩)
  refine n_then (ref_seq (ref_region ?_))
  refine mv1 rfl rfl ?_
  refine as1 rfl rfl ?_
  refine l_nil (n_then (ref_ret ?_))
  refine b_of (frzL [9, 51, 8] (j := 1) rfl ⟨rfl, rfl, rfl, trivial⟩) ?_
  exact fin1 (.inl rfl) () [0] rfl ⟨rfl, trivial⟩ rfl (rv_tmp rfl)

end Go.Dc
