/- Part LAW06D.A0 of a proof: lemmas. -/
import Derived.Test.YtejhbimlekcllaaDoorLAW06DLay
import Derived.Test.YtejhbimlekcllaaDoorProg
set_option linter.unusedVariables false
set_option linter.unusedSimpArgs false
set_option maxRecDepth 100000
set_option maxHeartbeats 4000000
namespace Go.Dc
open Go.Proofs
open Go.Proofs.Tryd (prog)

/-! deliberation/deliberationkeep.New -/
noncomputable def keep_New_m (l_0 : (List Int)) : Option (T_deliberationkeep_Src) :=
  Option.bind (slM l_0 0 (imin (l_0.length : Int) 2000)) fun t1 =>
  some (T_deliberationkeep_Src.mk t1 0)

theorem keep_New_ok {l_0 : (List Int)} {r : T_deliberationkeep_Src} (hm : keep_New_m l_0 = some r) :
    FnOk prog 5 [slv (rI .i64) l_0] [] (fun (x : Nat) => [pv (ptr x 0)]) (fun (x : Nat) => [oc x [slv (rI .i64) r.L, iv .i64 r.At]]) := by
  refine fn_ok (X := Nat) (fn := Tryd.f5) (N := 10) (res := fun r x => [pv (ptr x 0)]) (Ω1 := fun r x => [oc x [slv (rI .i64) r.L, iv .i64 r.At]]) Tryd.func5 rfl rfl hm rfl (fun E hM => ?_)
  unfold keep_New_m
  refine ref_seq (ref_region ?_)
  refine as1 rfl rfl ?_
  refine l_nil (n_then (ref_seq (ref_region ?_)))
  refine mv1 rfl rfl ?_
  refine mv1 rfl rfl ?_
  refine s_rd (r_len Tryd.underlying22 rfl) rfl ?_
  refine s_rd (r_min rfl rfl) rfl ?_
  refine pull fun t1 h_t1 => ?_
  refine s_rd (r_slice h_t1 Tryd.underlying22 el_3 rfl .dft (.of rfl)) rfl ?_
  refine s_rd (r_build (ps := [(0, .tmp 7)]) (rs := [(0, [slv (rI .i64) t1])]) st_49 zs_49 ⟨rfl, (part_at rfl slv_at), trivial⟩ rfl rfl) rfl ?_
  refine s_st (s_box (part_agO (ψs := [slv (rI .i64) t1, iv .i64 0]) rfl ⟨.inl slv_at, .inl iv_at, trivial⟩)) rfl (fun b2 => ?_)
  refine as1 rfl rfl ?_
  refine l_nil (n_then (ref_ret ?_))
  exact fin1 (.inl rfl) b2 [0] rfl ⟨rfl, trivial⟩ rfl (rv_tmp rfl)

/-! (*deliberation/deliberationkeep.Src).Raw -/
noncomputable def keep_Src_Raw_m (s_0 : T_deliberationkeep_Src) : Option (Int × T_deliberationkeep_Src) :=
  bif decide (s_0.At ≥ (s_0.L.length : Int)) then
    some (0, s_0)
  else
    Option.bind (idxM s_0.L (isub .i64 (iadd .i64 s_0.At 1) 1)) fun t2 =>
    some (t2, (T_deliberationkeep_Src.mk s_0.L (iadd .i64 s_0.At 1)))

theorem keep_Src_Raw_ok {s_0 : T_deliberationkeep_Src} {b_0 : Nat} {r : Int × T_deliberationkeep_Src} (hm : keep_Src_Raw_m s_0 = some r) :
    FnOk prog 38 [pv (ptr b_0 0)] [oc b_0 [slv (rI .i64) s_0.L, iv .i64 s_0.At]] (fun (x : Unit) => [iv .i64 r.1]) (fun (x : Unit) => [oc b_0 [slv (rI .i64) r.2.L, iv .i64 r.2.At]]) := by
  refine fn_ok (fn := Tryd.f38) (N := 31) (res := fun r x => [iv .i64 r.1]) (Ω1 := fun r x => [oc b_0 [slv (rI .i64) r.2.L, iv .i64 r.2.At]]) Tryd.func38 rfl rfl hm rfl (fun E hM => ?_)
  unfold keep_Src_Raw_m
  refine ref_seq (ref_region ?_)
  refine as1 rfl rfl ?_
  refine l_nil (n_then (ref_seq (ref_seq ?_)))
  refine ref_draw [0, 1, 2, 3, 4, 5, 6, 7, 8, 9] rfl (by kernel_rfl) (fun hok => ?_)
  refine a_rd (i := 0) hok rfl (by kernel_rfl) rfl (r_move rfl) rfl ?_
  refine a_rd (i := 1) hok rfl (by kernel_rfl) rfl (r_nilc rfl) rfl ?_
  refine a_rd (i := 2) hok rfl (by kernel_rfl) rfl (r_faddr (fo := 1) Tryd.underlying49 rfl rfl Tryd.sizeOf3 rfl) rfl ?_
  refine a_rd (i := 3) hok rfl (by kernel_rfl) rfl (r_cload Tryd.isAgg3 rfl (j := 0) rfl rfl) rfl ?_
  refine a_rd (i := 4) hok rfl (by kernel_rfl) rfl (r_move rfl) rfl ?_
  refine a_rd (i := 5) hok rfl (by kernel_rfl) rfl (r_nilc rfl) rfl ?_
  refine a_rd (i := 6) hok rfl (by kernel_rfl) rfl (r_faddr (fo := 0) Tryd.underlying49 rfl rfl Tryd.sizeOf22 rfl) rfl ?_
  refine a_rd (i := 7) hok rfl (by kernel_rfl) rfl (r_cload Tryd.isAgg22 rfl (j := 0) rfl rfl) rfl ?_
  refine a_rd (i := 8) hok rfl (by kernel_rfl) rfl (r_len Tryd.underlying22 rfl) rfl ?_
  refine a_rd (i := 9) hok rfl (by kernel_rfl) rfl (r_geq rfl rfl) rfl ?_
  refine a_fin hok (by kernel_rfl) ?_
  refine n_then ?_
  refine ref_cond rfl (fun hb1 => ?_) (fun hb1 => ?_)
  · refine ref_seq (ref_region ?_)
    refine as1 rfl rfl ?_
    refine l_nil (n_then (ref_ret (r_then ?_)))
    exact fin1 (.inl rfl) () [0] rfl ⟨rfl, trivial⟩ rfl (rv_tmp rfl)
  refine ref_skip (n_then (ref_seq (ref_region ?_)))
  refine mv1 rfl rfl ?_
  refine s_rd (r_nilc rfl) rfl ?_
  refine s_rd (r_faddr (fo := 1) Tryd.underlying49 rfl rfl Tryd.sizeOf3 rfl) rfl ?_
  refine s_rd (r_cload Tryd.isAgg3 rfl (j := 0) rfl rfl) rfl ?_
  refine s_rd (r_add rfl rfl) rfl ?_
  refine s_rd (r_nilc rfl) rfl ?_
  refine s_rd (r_faddr (fo := 1) Tryd.underlying49 rfl rfl Tryd.sizeOf3 rfl) rfl ?_
  refine s_st0 (s_cstore (out := [slv (rI .i64) s_0.L, iv .i64 (iadd .i64 s_0.At 1)]) Tryd.sizeOf3 rfl (j := 0) rfl (part_at rfl iv_at) rfl rfl rfl) (fun _ => ?_)
  refine l_nil (n_then (ref_seq ?_))
  refine ref_draw [0, 1, 2, 3, 4, 5, 6, 7, 8, 9, 10] rfl (by kernel_rfl) (fun hok => ?_)
  refine a_rd (i := 0) hok rfl (by kernel_rfl) rfl (r_move rfl) rfl ?_
  refine a_rd (i := 1) hok rfl (by kernel_rfl) rfl (r_nilc rfl) rfl ?_
  refine a_rd (i := 2) hok rfl (by kernel_rfl) rfl (r_faddr (fo := 0) Tryd.underlying49 rfl rfl Tryd.sizeOf22 rfl) rfl ?_
  refine a_rd (i := 3) hok rfl (by kernel_rfl) rfl (r_cload Tryd.isAgg22 rfl (j := 0) rfl rfl) rfl ?_
  refine a_rd (i := 4) hok rfl (by kernel_rfl) rfl (r_move rfl) rfl ?_
  refine a_rd (i := 5) hok rfl (by kernel_rfl) rfl (r_nilc rfl) rfl ?_
  refine a_rd (i := 6) hok rfl (by kernel_rfl) rfl (r_faddr (fo := 1) Tryd.underlying49 rfl rfl Tryd.sizeOf3 rfl) rfl ?_
  refine a_rd (i := 7) hok rfl (by kernel_rfl) rfl (r_cload Tryd.isAgg3 rfl (j := 0) rfl rfl) rfl ?_
  refine a_rd (i := 8) hok rfl (by kernel_rfl) rfl (r_sub rfl rfl) rfl ?_
  refine pull fun t2 h_t2 => ?_
  refine a_rd (i := 9) hok rfl (by kernel_rfl) rfl (r_index h_t2 Tryd.underlying22 el_3 rfl rfl) rfl ?_
  refine a_rd (i := 10) hok rfl (by kernel_rfl) rfl (r_load el_3 rfl) rfl ?_
  refine a_next hok 11 [] (by kernel_rfl) ?_ trivial
  refine a_st (i := 11) hok rfl rfl (St.ofRd (r_assign rfl)) (by intro _ h; cases h; rfl) (fun _ => ⟨trivial, ⟨trivial, ⟨trivial, ⟨trivial, ⟨trivial, ⟨trivial, ⟨trivial, ⟨trivial, ⟨trivial, ⟨trivial, ⟨trivial, trivial⟩⟩⟩⟩⟩⟩⟩⟩⟩⟩⟩) (fun _ => ?_)
  refine a_fin hok (by kernel_rfl) ?_
  refine n_then (ref_ret ?_)
  exact fin1 (.inl rfl) () [0] rfl ⟨rfl, trivial⟩ rfl (rv_tmp rfl)

/-! deliberation/deliberationkeep.Mod -/
noncomputable def keep_Mod_m (x_0 : Int) (n_1 : Int) : Option (Int) :=
  bif decide (n_1 < 1) then
    some 0
  else
    Option.bind (iremM .i64 x_0 n_1) fun x2 =>
    bif decide (x2 < 0) then
      letM (iadd .i64 x2 n_1) fun x4 =>
      some x4
    else
      some x2

theorem keep_Mod_ok {x_0 : Int} {n_1 : Int} {r : Int} (hm : keep_Mod_m x_0 n_1 = some r) :
    FnOk prog 37 [iv .i64 x_0, iv .i64 n_1] [] (fun (x : Unit) => [iv .i64 r]) (fun (x : Unit) => []) := by
  refine fn_ok (fn := Tryd.f37) (N := 16) (res := fun r x => [iv .i64 r]) (Ω1 := fun r x => []) Tryd.func37 rfl rfl hm rfl (fun E hM => ?_)
  unfold keep_Mod_m
  refine ref_seq (ref_region ?_)
  refine as1 rfl rfl ?_
  refine l_nil (n_then (ref_seq (ref_seq (ref_region ?_))))
  refine mv1 rfl rfl ?_
  refine s_rd (r_lss rfl rfl) rfl ?_
  refine l_nil (n_then ?_)
  refine ref_cond rfl (fun hb1 => ?_) (fun hb1 => ?_)
  · refine ref_seq (ref_region ?_)
    refine as1 rfl rfl ?_
    refine l_nil (n_then (ref_ret (r_then ?_)))
    exact fin1 (.inl rfl) () [] rfl trivial rfl (rv_tmp rfl)
  refine ref_skip (n_then (ref_seq (ref_region ?_)))
  refine mv1 rfl rfl ?_
  refine mv1 rfl rfl ?_
  refine pull fun x2 h_x2 => ?_
  refine s_rd (r_remM h_x2 rfl rfl) rfl ?_
  refine as1 rfl rfl ?_
  refine l_nil (n_then (ref_seq (ref_seq (ref_region ?_))))
  refine mv1 rfl rfl ?_
  refine s_rd (r_lss rfl rfl) rfl ?_
  refine l_nil (n_then ?_)
  refine ref_cond rfl (fun hb3 => ?_) (fun hb3 => ?_)
  · refine ref_region ?_
    refine mv1 rfl rfl ?_
    refine mv1 rfl rfl ?_
    refine s_rd (r_add rfl rfl) rfl ?_
    refine as1 rfl rfl ?_
    refine b_let (f := iv .i64) (t := 0) rfl fun x4 => ?_
    refine l_nil (n_then (ref_seq (ref_region ?_)))
    refine mv1 rfl rfl ?_
    refine as1 rfl rfl ?_
    refine l_nil (n_then (ref_ret ?_))
    exact fin1 (.inl rfl) () [] rfl trivial rfl (rv_tmp rfl)
  refine ref_skip (n_then (ref_seq (ref_region ?_)))
  refine mv1 rfl rfl ?_
  refine as1 rfl rfl ?_
  refine l_nil (n_then (ref_ret ?_))
  exact fin1 (.inl rfl) () [] rfl trivial rfl (rv_tmp rfl)

/-! (*deliberation/deliberationkeep.Src).N -/
noncomputable def keep_Src_N_m (s_0 : T_deliberationkeep_Src) (n_1 : Int) : Option (Int × T_deliberationkeep_Src) :=
  Option.bind (keep_Src_Raw_m s_0) fun t1 =>
  Option.bind (keep_Mod_m t1.1 n_1) fun t2 =>
  some (t2, t1.2)

theorem keep_Src_N_ok {s_0 : T_deliberationkeep_Src} {n_1 : Int} {b_0 : Nat} {r : Int × T_deliberationkeep_Src} (hm : keep_Src_N_m s_0 n_1 = some r) :
    FnOk prog 17 [pv (ptr b_0 0), iv .i64 n_1] [oc b_0 [slv (rI .i64) s_0.L, iv .i64 s_0.At]] (fun (x : Unit) => [iv .i64 r.1]) (fun (x : Unit) => [oc b_0 [slv (rI .i64) r.2.L, iv .i64 r.2.At]]) := by
  refine fn_ok (fn := Tryd.f17) (N := 9) (res := fun r x => [iv .i64 r.1]) (Ω1 := fun r x => [oc b_0 [slv (rI .i64) r.2.L, iv .i64 r.2.At]]) Tryd.func17 rfl rfl hm rfl (fun E hM => ?_)
  unfold keep_Src_N_m
  refine ref_seq (ref_region ?_)
  refine as1 rfl rfl ?_
  refine l_nil (n_then (ref_seq (ref_region ?_)))
  refine mv1 rfl rfl ?_
  refine pull fun t1 h_t1 => ?_
  refine s_st (s_callC [0] [true] (fun (_ : Unit) => [oc b_0 [slv (rI .i64) t1.2.L, iv .i64 t1.2.At]]) (fun (_ : Unit) => []) (fun (_ : Unit) => iv .i64 t1.1) (args := [.tmp 5]) (caps := []) Tryd.call38 rfl (keep_Src_Raw_ok h_t1) ⟨rfl, rfl, trivial⟩ (fun _ => rfl) (fun _ => trivial) (fun _ => rfl) ⟨arg rfl, trivial⟩ (fun _ _ _ _ h => h)) rfl (fun _ => ?_)
  refine mv1 rfl rfl ?_
  refine pull fun t2 h_t2 => ?_
  refine s_st (s_call (ψ := fun (_ : Unit) => iv .i64 t2) (args := [.tmp 6, .tmp 7]) Tryd.call37 rfl (keep_Mod_ok h_t2) ⟨arg rfl, arg rfl, trivial⟩ (fun _ _ _ _ h => h)) rfl (fun _ => ?_)
  refine as1 rfl rfl ?_
  refine l_nil (n_then (ref_ret ?_))
  exact fin1 (.inl rfl) () [0] rfl ⟨rfl, trivial⟩ rfl (rv_tmp rfl)

/-! (*deliberation/deliberationkeep.Src).Literal -/
noncomputable def keep_Src_Literal_m (s_0 : T_deliberationkeep_Src) (n_1 : Int) : Option (T_api_Literal × T_deliberationkeep_Src) :=
  Option.bind (keep_Src_N_m s_0 (imul .i64 2 n_1)) fun k2 =>
  some ((T_api_Literal.mk ((iand .i64 k2.1 1) == 1) (bstr [IntKind.wrap .u8 (iadd .i64 97 (iquo .i64 k2.1 2))])), k2.2)

theorem keep_Src_Literal_ok {s_0 : T_deliberationkeep_Src} {n_1 : Int} {b_0 : Nat} {r : T_api_Literal × T_deliberationkeep_Src} (hm : keep_Src_Literal_m s_0 n_1 = some r) :
    FnOk prog 9 [pv (ptr b_0 0), iv .i64 n_1] [oc b_0 [slv (rI .i64) s_0.L, iv .i64 s_0.At]] (fun (x : Unit) => [ag [bv r.1.Neg, sv r.1.Name]]) (fun (x : Unit) => [oc b_0 [slv (rI .i64) r.2.L, iv .i64 r.2.At]]) := by
  refine fn_ok (fn := Tryd.f9) (N := 20) (res := fun r x => [ag [bv r.1.Neg, sv r.1.Name]]) (Ω1 := fun r x => [oc b_0 [slv (rI .i64) r.2.L, iv .i64 r.2.At]]) Tryd.func9 rfl rfl hm rfl (fun E hM => ?_)
  unfold keep_Src_Literal_m
  refine ref_seq (ref_region ?_)
  refine s_st (s_alloc zt_35) rfl (fun b1 => ?_)
  refine l_nil (n_then (ref_seq (ref_region ?_)))
  refine mv1 rfl rfl ?_
  refine mv1 rfl rfl ?_
  refine s_rd (r_mul rfl rfl) rfl ?_
  refine pull fun k2 h_k2 => ?_
  refine s_st (s_callC [0] [true] (fun (_ : Unit) => [oc b_0 [slv (rI .i64) k2.2.L, iv .i64 k2.2.At]]) (fun (_ : Unit) => []) (fun (_ : Unit) => iv .i64 k2.1) (args := [.tmp 6, .tmp 8]) (caps := []) Tryd.call17 rfl (keep_Src_N_ok h_k2) ⟨rfl, rfl, trivial⟩ (fun _ => rfl) (fun _ => trivial) (fun _ => rfl) ⟨arg rfl, arg rfl, trivial⟩ (fun _ _ _ _ h => h)) rfl (fun _ => ?_)
  refine as1 rfl rfl ?_
  refine l_nil (n_then (ref_seq (ref_region ?_)))
  refine mv1 rfl rfl ?_
  refine s_rd (r_and rfl rfl) rfl ?_
  refine s_rd (r_eql rfl rfl) rfl ?_
  refine mv1 rfl rfl ?_
  refine s_rd (r_quo rfl rfl (by decide)) rfl ?_
  refine s_rd (r_add rfl rfl) rfl ?_
  refine s_rd (r_conv (k' := .u8) rfl rfl rfl) rfl ?_
  refine s_st (s_bslice (xs := [.tmp 16]) (ds := [IntKind.wrap .u8 (iadd .i64 97 (iquo .i64 k2.1 2))]) Tryd.underlying65 el_5 rfl (Nat.le_of_ble_eq_true rfl) ⟨(part_at rfl iv_at), trivial⟩) rfl (fun _ => ?_)
  refine s_rd (r_b2s Tryd.underlying65 Tryd.underlying9 Tryd.underlying5 rfl) rfl ?_
  refine s_rd (r_build (ps := [(0, .tmp 12), (1, .tmp 18)]) (rs := [(0, [bv ((iand .i64 k2.1 1) == 1)]), (1, [sv (bstr [IntKind.wrap .u8 (iadd .i64 97 (iquo .i64 k2.1 2))])])]) st_35 zs_35 ⟨rfl, (part_at rfl bv_at), ⟨rfl, (part_at rfl sv_at), trivial⟩⟩ rfl rfl) rfl ?_
  refine s_st0 (s_cstore (out := [bv ((iand .i64 k2.1 1) == 1), sv (bstr [IntKind.wrap .u8 (iadd .i64 97 (iquo .i64 k2.1 2))])]) Tryd.sizeOf35 rfl (j := 1) rfl (part_agO (ψs := [bv ((iand .i64 k2.1 1) == 1), sv (bstr [IntKind.wrap .u8 (iadd .i64 97 (iquo .i64 k2.1 2))])]) rfl ⟨.inl bv_at, .inl sv_at, trivial⟩) rfl rfl rfl) (fun _ => ?_)
  refine l_nil ?_
  refine b_of (nrm [oc b_0 [slv (rI .i64) k2.2.L, iv .i64 k2.2.At], oc b1 [bv ((iand .i64 k2.1 1) == 1), sv (bstr [IntKind.wrap .u8 (iadd .i64 97 (iquo .i64 k2.1 2))])]] rfl) ?_
  refine n_then (ref_ret ?_)
  exact fin1 (.inl rfl) () [0] rfl ⟨rfl, trivial⟩ rfl (rv_cell rfl (j := 1) rfl Tryd.isAgg35 Tryd.sizeOf35 rfl rfl)

/-! (*deliberation/deliberationkeep.Src).Pick -/
noncomputable def keep_Src_Pick_m (s_0 : T_deliberationkeep_Src) (l_1 : (List Int)) : Option (Int × T_deliberationkeep_Src) :=
  Option.bind (keep_Src_N_m s_0 (l_1.length : Int)) fun t1 =>
  Option.bind (idxM l_1 t1.1) fun t2 =>
  some (t2, t1.2)

theorem keep_Src_Pick_ok {s_0 : T_deliberationkeep_Src} {l_1 : (List Int)} {b_0 : Nat} {r : Int × T_deliberationkeep_Src} (hm : keep_Src_Pick_m s_0 l_1 = some r) :
    FnOk prog 18 [pv (ptr b_0 0), slv (rI .i64) l_1] [oc b_0 [slv (rI .i64) s_0.L, iv .i64 s_0.At]] (fun (x : Unit) => [iv .i64 r.1]) (fun (x : Unit) => [oc b_0 [slv (rI .i64) r.2.L, iv .i64 r.2.At]]) := by
  refine fn_ok (fn := Tryd.f18) (N := 12) (res := fun r x => [iv .i64 r.1]) (Ω1 := fun r x => [oc b_0 [slv (rI .i64) r.2.L, iv .i64 r.2.At]]) Tryd.func18 rfl rfl hm rfl (fun E hM => ?_)
  unfold keep_Src_Pick_m
  refine ref_seq (ref_region ?_)
  refine as1 rfl rfl ?_
  refine l_nil (n_then (ref_seq (ref_region ?_)))
  refine mv1 rfl rfl ?_
  refine mv1 rfl rfl ?_
  refine mv1 rfl rfl ?_
  refine s_rd (r_len Tryd.underlying22 rfl) rfl ?_
  refine pull fun t1 h_t1 => ?_
  refine s_st (s_callC [0] [true] (fun (_ : Unit) => [oc b_0 [slv (rI .i64) t1.2.L, iv .i64 t1.2.At]]) (fun (_ : Unit) => []) (fun (_ : Unit) => iv .i64 t1.1) (args := [.tmp 6, .tmp 8]) (caps := []) Tryd.call17 rfl (keep_Src_N_ok h_t1) ⟨rfl, rfl, trivial⟩ (fun _ => rfl) (fun _ => trivial) (fun _ => rfl) ⟨arg rfl, arg rfl, trivial⟩ (fun _ _ _ _ h => h)) rfl (fun _ => ?_)
  refine pull fun t2 h_t2 => ?_
  refine s_rd (r_index h_t2 Tryd.underlying22 el_3 rfl rfl) rfl ?_
  refine s_rd (r_load el_3 rfl) rfl ?_
  refine as1 rfl rfl ?_
  refine l_nil (n_then (ref_ret ?_))
  exact fin1 (.inl rfl) () [0] rfl ⟨rfl, trivial⟩ rfl (rv_tmp rfl)

/-! (*deliberation/deliberationkeep.Src).Text -/
noncomputable def keep_Src_Text_m (s_0 : T_deliberationkeep_Src) (l_1 : (List ByteArray)) : Option (ByteArray × T_deliberationkeep_Src) :=
  Option.bind (keep_Src_N_m s_0 (l_1.length : Int)) fun t1 =>
  Option.bind (idxM l_1 t1.1) fun t2 =>
  some (t2, t1.2)

theorem keep_Src_Text_ok {s_0 : T_deliberationkeep_Src} {l_1 : (List ByteArray)} {b_0 : Nat} {r : ByteArray × T_deliberationkeep_Src} (hm : keep_Src_Text_m s_0 l_1 = some r) :
    FnOk prog 19 [pv (ptr b_0 0), slv rS l_1] [oc b_0 [slv (rI .i64) s_0.L, iv .i64 s_0.At]] (fun (x : Unit) => [sv r.1]) (fun (x : Unit) => [oc b_0 [slv (rI .i64) r.2.L, iv .i64 r.2.At]]) := by
  refine fn_ok (fn := Tryd.f19) (N := 12) (res := fun r x => [sv r.1]) (Ω1 := fun r x => [oc b_0 [slv (rI .i64) r.2.L, iv .i64 r.2.At]]) Tryd.func19 rfl rfl hm rfl (fun E hM => ?_)
  unfold keep_Src_Text_m
  refine ref_seq (ref_region ?_)
  refine as1 rfl rfl ?_
  refine l_nil (n_then (ref_seq (ref_region ?_)))
  refine mv1 rfl rfl ?_
  refine mv1 rfl rfl ?_
  refine mv1 rfl rfl ?_
  refine s_rd (r_len Tryd.underlying53 rfl) rfl ?_
  refine pull fun t1 h_t1 => ?_
  refine s_st (s_callC [0] [true] (fun (_ : Unit) => [oc b_0 [slv (rI .i64) t1.2.L, iv .i64 t1.2.At]]) (fun (_ : Unit) => []) (fun (_ : Unit) => iv .i64 t1.1) (args := [.tmp 6, .tmp 8]) (caps := []) Tryd.call17 rfl (keep_Src_N_ok h_t1) ⟨rfl, rfl, trivial⟩ (fun _ => rfl) (fun _ => trivial) (fun _ => rfl) ⟨arg rfl, arg rfl, trivial⟩ (fun _ _ _ _ h => h)) rfl (fun _ => ?_)
  refine pull fun t2 h_t2 => ?_
  refine s_rd (r_index h_t2 Tryd.underlying53 el_9 rfl rfl) rfl ?_
  refine s_rd (r_load el_9 rfl) rfl ?_
  refine as1 rfl rfl ?_
  refine l_nil (n_then (ref_ret ?_))
  exact fin1 (.inl rfl) () [0] rfl ⟨rfl, trivial⟩ rfl (rv_tmp rfl)

/-! deliberation/deliberationkeep.RuleName -/
noncomputable def keep_RuleName_m (i_0 : Int) : Option (ByteArray) :=
  Option.bind (keep_Mod_m i_0 26) fun t1 =>
  Option.bind (sconM (ByteArray.mk #[114]) (bstr [IntKind.wrap .u8 (iadd .i64 97 t1)])) fun t2 =>
  some t2

theorem keep_RuleName_ok {i_0 : Int} {r : ByteArray} (hm : keep_RuleName_m i_0 = some r) :
    FnOk prog 20 [iv .i64 i_0] [] (fun (x : Unit) => [sv r]) (fun (x : Unit) => []) := by
  refine fn_ok (fn := Tryd.f20) (N := 10) (res := fun r x => [sv r]) (Ω1 := fun r x => []) Tryd.func20 rfl rfl hm rfl (fun E hM => ?_)
  unfold keep_RuleName_m
  refine ref_seq (ref_region ?_)
  refine as1 rfl rfl ?_
  refine l_nil (n_then (ref_seq (ref_region ?_)))
  refine mv1 rfl rfl ?_
  refine pull fun t1 h_t1 => ?_
  refine s_st (s_call (ψ := fun (_ : Unit) => iv .i64 t1) (args := [.tmp 3, .const (.int .i64 (26))]) Tryd.call37 rfl (keep_Mod_ok h_t1) ⟨arg rfl, arg rfl, trivial⟩ (fun _ _ _ _ h => h)) rfl (fun _ => ?_)
  refine s_rd (r_add rfl rfl) rfl ?_
  refine s_rd (r_conv (k' := .u8) rfl rfl rfl) rfl ?_
  refine s_st (s_bslice (xs := [.tmp 6]) (ds := [IntKind.wrap .u8 (iadd .i64 97 t1)]) Tryd.underlying65 el_5 rfl (Nat.le_of_ble_eq_true rfl) ⟨(part_at rfl iv_at), trivial⟩) rfl (fun _ => ?_)
  refine s_rd (r_b2s Tryd.underlying65 Tryd.underlying9 Tryd.underlying5 rfl) rfl ?_
  refine pull fun t2 h_t2 => ?_
  refine s_rd (r_sadd h_t2 rfl rfl) rfl ?_
  refine as1 rfl rfl ?_
  refine l_nil (n_then (ref_ret ?_))
  exact fin1 (.inl rfl) () [] rfl trivial rfl (rv_tmp rfl)

/-! (*deliberation/deliberationkeep.Src).Literals -/
noncomputable def keep_Src_Literals_l1 (n_2 : Int) (s15 : Int × T_deliberationkeep_Src × (List T_api_Literal)) : Option (Sum (T_deliberationkeep_Src × (List T_api_Literal)) (Int × T_deliberationkeep_Src × (List T_api_Literal))) :=
  bif decide (s15.1 > 0) then
    Option.bind (keep_Src_Literal_m s15.2.1 n_2) fun t18 =>
    Option.bind (appM 24 s15.2.2 [t18.1]) fun out19 =>
    letM (isub .i64 s15.1 1) fun k21 =>
    some (Sum.inr (k21, t18.2, out19))
  else
    some (Sum.inl (s15.2.1, s15.2.2))

noncomputable def keep_Src_Literals_m (s_0 : T_deliberationkeep_Src) (most_1 : Int) (n_2 : Int) : Option (List T_api_Literal × T_deliberationkeep_Src) :=
  Option.bind (keep_Src_N_m s_0 (iadd .i64 most_1 1)) fun k1 =>
  Option.bind (loopC (keep_Src_Literals_l1 n_2) (k1.1, k1.2, [])) fun q22 : T_deliberationkeep_Src × (List T_api_Literal) =>
  some (q22.2, q22.1)

theorem keep_Src_Literals_ok {s_0 : T_deliberationkeep_Src} {most_1 : Int} {n_2 : Int} {b_0 : Nat} {r : List T_api_Literal × T_deliberationkeep_Src} (hm : keep_Src_Literals_m s_0 most_1 n_2 = some r) :
    FnOk prog 7 [pv (ptr b_0 0), iv .i64 most_1, iv .i64 n_2] [oc b_0 [slv (rI .i64) s_0.L, iv .i64 s_0.At]] (fun (x : (Value × List Nat)) => [pv x.1]) (fun (x : (Value × List Nat)) => [oc b_0 [slv (rI .i64) r.2.L, iv .i64 r.2.At], oa rT_api_Literal x.1 x.2 r.1]) := by
  refine fn_ok (X := (Value × List Nat)) (fn := Tryd.f7) (N := 24) (res := fun r x => [pv x.1]) (Ω1 := fun r x => [oc b_0 [slv (rI .i64) r.2.L, iv .i64 r.2.At], oa rT_api_Literal x.1 x.2 r.1]) Tryd.func7 rfl rfl hm rfl (fun E hM => ?_)
  unfold keep_Src_Literals_m
  refine ref_seq (ref_region ?_)
  refine as1 rfl rfl ?_
  refine l_nil (n_then (ref_seq (ref_region ?_)))
  refine as1 rfl rfl ?_
  refine l_nil (n_then (ref_seq (ref_seq (ref_region ?_))))
  refine mv1 rfl rfl ?_
  refine mv1 rfl rfl ?_
  refine s_rd (r_add rfl rfl) rfl ?_
  refine pull fun k1 h_k1 => ?_
  refine s_st (s_callC [0] [true] (fun (_ : Unit) => [oc b_0 [slv (rI .i64) k1.2.L, iv .i64 k1.2.At]]) (fun (_ : Unit) => []) (fun (_ : Unit) => iv .i64 k1.1) (args := [.tmp 9, .tmp 11]) (caps := []) Tryd.call17 rfl (keep_Src_N_ok h_k1) ⟨rfl, rfl, trivial⟩ (fun _ => rfl) (fun _ => trivial) (fun _ => rfl) ⟨arg rfl, arg rfl, trivial⟩ (fun _ _ _ _ h => h)) rfl (fun _ => ?_)
  refine as1 rfl rfl ?_
  refine l_nil (n_then ?_)
  refine b_of (own_nil rT_api_Literal) ?_
  refine ref_loopB (f := (keep_Src_Literals_l1 n_2)) (Γl := (fun (s15 : Int × T_deliberationkeep_Src × (List T_api_Literal)) (x16 : (Value × List Nat)) => [(0, pv (ptr b_0 0)), (2, iv .i64 n_2), (7, pv x16.1), (8, iv .i64 s15.1)])) (Ωl := (fun (s15 : Int × T_deliberationkeep_Src × (List T_api_Literal)) (x16 : (Value × List Nat)) => [oc b_0 [slv (rI .i64) s15.2.1.L, iv .i64 s15.2.1.At], oa rT_api_Literal x16.1 x16.2 s15.2.2])) (Γb := (fun (q22 : T_deliberationkeep_Src × (List T_api_Literal)) (y23 : (Value × List Nat)) => [(0, pv (ptr b_0 0)), (7, pv y23.1)])) (Ωb := (fun (q22 : T_deliberationkeep_Src × (List T_api_Literal)) (y23 : (Value × List Nat)) => [oc b_0 [slv (rI .i64) q22.1.L, iv .i64 q22.1.At], oa rT_api_Literal y23.1 y23.2 q22.2])) (k1.1, k1.2, []) ((.slice none 0 0), []) (weak [0, 1] ⟨rfl, rfl, rfl, rfl, trivial⟩ ⟨rfl, rfl, trivial⟩) (fun s15 x16 => ?_) (fun q22 y23 => ?_)
  · unfold keep_Src_Literals_l1
    refine ref_seq (ref_seq (ref_region ?_))
    refine mv1 rfl rfl ?_
    refine s_rd (r_gtr rfl rfl) rfl ?_
    refine l_nil (n_then ?_)
    refine ref_cond rfl (fun hb17 => ?_) (fun hb17 => ?_)
    · refine ref_skip (n_then (ref_seq (ref_block (ref_region ?_))))
      refine mv1 rfl rfl ?_
      refine mv1 rfl rfl ?_
      refine mv1 rfl rfl ?_
      refine pull fun t18 h_t18 => ?_
      refine s_st (s_callC [0] [true] (fun (_ : Unit) => [oc b_0 [slv (rI .i64) t18.2.L, iv .i64 t18.2.At]]) (fun (_ : Unit) => []) (fun (_ : Unit) => ag [bv t18.1.Neg, sv t18.1.Name]) (args := [.tmp 18, .tmp 19]) (caps := []) Tryd.call9 rfl (keep_Src_Literal_ok h_t18) ⟨rfl, rfl, trivial⟩ (fun _ => rfl) (fun _ => trivial) (fun _ => rfl) ⟨arg rfl, arg rfl, trivial⟩ (fun _ _ _ _ h => h)) rfl (fun _ => ?_)
      refine s_st (s_bslice (xs := [.tmp 20]) (ds := [t18.1]) Tryd.underlying31 el_35 rfl (Nat.le_of_ble_eq_true rfl) ⟨(part_agO (ψs := [bv t18.1.Neg, sv t18.1.Name]) rfl ⟨.inl bv_at, .inl sv_at, trivial⟩), trivial⟩) rfl (fun _ => ?_)
      refine pull fun out19 h_out19 => ?_
      refine s_st (s_append h_out19 Tryd.underlying31 el_35 rfl (j := 1) rfl rfl) rfl (fun o20 => ?_)
      refine as1 rfl rfl ?_
      refine l_nil ?_
      refine b_of (nrm [oc b_0 [slv (rI .i64) t18.2.L, iv .i64 t18.2.At], oa rT_api_Literal o20.1 o20.2 out19] rfl) ?_
      refine n_block (n_then (ref_region ?_))
      refine mv1 rfl rfl ?_
      refine s_rd (r_sub rfl rfl) rfl ?_
      refine as1 rfl rfl ?_
      refine b_let (f := iv .i64) (t := 8) rfl fun k21 => ?_
      refine l_nil ?_
      exact goB o20 (weak [0, 1] ⟨rfl, rfl, rfl, rfl, trivial⟩ ⟨rfl, rfl, trivial⟩)
    refine ref_exit (x_then ?_)
    exact brkB x16 (weak [0, 1] ⟨rfl, rfl, trivial⟩ ⟨rfl, rfl, trivial⟩)
  refine n_then (ref_seq (ref_region ?_))
  refine mv1 rfl rfl ?_
  refine as1 rfl rfl ?_
  refine l_nil (n_then (ref_ret ?_))
  exact fin1 (.inl rfl) y23 [0, 1] rfl ⟨rfl, rfl, trivial⟩ rfl (rv_tmp rfl)

/-! deliberation/deliberationkeep.sorted -/
noncomputable def keep_sorted_l2 (s63 : Int × (List T_api_Literal)) (t66 : T_api_Literal) (s74 : Int) : Option (Sum (Int) (Int)) :=
  bif decide (s74 < (s63.2.length : Int)) then
    Option.bind (idxM s63.2 s74) fun t76 =>
    bif Op.bytesLess t76.Name.toList t66.Name.toList then
      letM (iadd .i64 s74 1) fun k80 =>
      some (Sum.inr k80)
    else
      Option.bind (idxM s63.2 s74) fun t77 =>
      bif t77.Name.toList == t66.Name.toList then
        Option.bind (idxM s63.2 s74) fun t78 =>
        bif !t78.Neg then
          bif t66.Neg then
            letM (iadd .i64 s74 1) fun k81 =>
            some (Sum.inr k81)
          else
            some (Sum.inl s74)
        else
          some (Sum.inl s74)
      else
        some (Sum.inl s74)
  else
    some (Sum.inl s74)

noncomputable def keep_sorted_l1 (l_0 : (List T_api_Literal)) (s63 : Int × (List T_api_Literal)) : Option (Sum ((List T_api_Literal)) (Int × (List T_api_Literal))) :=
  bif decide (s63.1 < (l_0.length : Int)) then
    Option.bind (idxM l_0 s63.1) fun t66 =>
    Option.bind (loopC (keep_sorted_l2 s63 t66) 0) fun q82 : Int =>
    joinM (fun j86 : Unit =>
        Option.bind (appM 24 s63.2 [(T_api_Literal.mk false ByteArray.empty)]) fun out89 =>
        Option.bind (slM out89 (iadd .i64 q82 1) (out89.length : Int)) fun t91 =>
        Option.bind (slM out89 q82 (out89.length : Int)) fun t92 =>
        Option.bind (idxM (cpO out89 (iadd .i64 q82 1) (out89.length : Int) q82 (out89.length : Int)) q82) fun t93 =>
        some (Sum.inr (iadd .i64 s63.1 1, (cpO out89 (iadd .i64 q82 1) (out89.length : Int) q82 (out89.length : Int)).set (Int.toNat q82) t66))) fun k88 =>
    bif decide (q82 < (s63.2.length : Int)) then
      Option.bind (idxM s63.2 q82) fun t84 =>
      bif decide (t84 = t66) then
        some (Sum.inr (iadd .i64 s63.1 1, s63.2))
      else
        k88 ()
    else
      k88 ()
  else
    some (Sum.inl s63.2)

noncomputable def keep_sorted_m (l_0 : (List T_api_Literal)) : Option (List T_api_Literal) :=
  Option.bind (loopC (keep_sorted_l1 l_0) (0, [])) fun q94 : (List T_api_Literal) =>
  some q94

theorem keep_sorted_ok {l_0 : (List T_api_Literal)} {r : List T_api_Literal} (hm : keep_sorted_m l_0 = some r) :
    FnOk prog 21 [slv rT_api_Literal l_0] [] (fun (x : (Value × List Nat)) => [pv x.1]) (fun (x : (Value × List Nat)) => [oa rT_api_Literal x.1 x.2 r]) := by
  refine fn_ok (X := (Value × List Nat)) (fn := Tryd.f21) (N := 81) (res := fun r x => [pv x.1]) (Ω1 := fun r x => [oa rT_api_Literal x.1 x.2 r]) Tryd.func21 rfl rfl hm rfl (fun E hM => ?_)
  unfold keep_sorted_m
  refine ref_seq (ref_region ?_)
  refine as1 rfl rfl ?_
  refine l_nil (n_then (ref_seq (ref_region ?_)))
  refine as1 rfl rfl ?_
  refine l_nil (n_then (ref_seq (ref_seq (ref_region ?_))))
  refine mv1 rfl rfl ?_
  refine s_rd (r_len Tryd.underlying31 rfl) rfl ?_
  refine mv1 rfl rfl ?_
  refine l_nil (n_then ?_)
  refine b_of (own_nil rT_api_Literal) ?_
  refine ref_loopB (f := (keep_sorted_l1 l_0)) (Γl := (fun (s63 : Int × (List T_api_Literal)) (x64 : (Value × List Nat)) => [(3, pv x64.1), (7, slv rT_api_Literal l_0), (8, iv .i64 (l_0.length : Int)), (9, iv .i64 s63.1)])) (Ωl := (fun (s63 : Int × (List T_api_Literal)) (x64 : (Value × List Nat)) => [oa rT_api_Literal x64.1 x64.2 s63.2])) (Γb := (fun (q94 : (List T_api_Literal)) (y95 : (Value × List Nat)) => [(3, pv y95.1)])) (Ωb := (fun (q94 : (List T_api_Literal)) (y95 : (Value × List Nat)) => [oa rT_api_Literal y95.1 y95.2 q94])) (0, []) ((.slice none 0 0), []) (weak [0] ⟨rfl, rfl, rfl, rfl, trivial⟩ ⟨rfl, trivial⟩) (fun s63 x64 => ?_) (fun q94 y95 => ?_)
  · unfold keep_sorted_l1
    refine ref_seq (ref_region ?_)
    refine s_rd (r_lss rfl rfl) rfl ?_
    refine l_nil (n_then (ref_seq ?_))
    refine ref_cond rfl (fun hb65 => ?_) (fun hb65 => ?_)
    · refine ref_skip (n_then (ref_seq (ref_block (ref_seq (ref_region ?_)))))
      refine pull fun t66 h_t66 => ?_
      refine s_rd (r_index h_t66 Tryd.underlying31 el_35 rfl rfl) rfl ?_
      refine s_rd (r_load el_35 rfl) rfl ?_
      refine s_st (s_alloc zt_35) rfl (fun b67 => ?_)
      refine s_st0 (s_cstore (out := [bv t66.Neg, sv t66.Name]) Tryd.sizeOf35 rfl (j := 1) rfl (part_agO (ψs := [bv t66.Neg, sv t66.Name]) rfl ⟨.inl bv_at, .inl sv_at, trivial⟩) rfl rfl rfl) (fun _ => ?_)
      refine l_nil (n_then (ref_seq (ref_region ?_)))
      refine as1 rfl rfl ?_
      refine l_nil (n_then (ref_seq ?_))
      refine ref_loopB (f := (keep_sorted_l2 s63 t66)) (Γl := (fun (s74 : Int) (x75 : Unit) => [(3, pv x64.1), (5, pv (ptr b67 0)), (6, iv .i64 s74), (7, slv rT_api_Literal l_0), (8, iv .i64 (l_0.length : Int)), (9, iv .i64 s63.1)])) (Ωl := (fun (s74 : Int) (x75 : Unit) => [oa rT_api_Literal x64.1 x64.2 s63.2, oc b67 [bv t66.Neg, sv t66.Name]])) (Γb := (fun (q82 : Int) (y83 : Unit) => [(3, pv x64.1), (5, pv (ptr b67 0)), (6, iv .i64 q82), (7, slv rT_api_Literal l_0), (8, iv .i64 (l_0.length : Int)), (9, iv .i64 s63.1)])) (Ωb := (fun (q82 : Int) (y83 : Unit) => [oa rT_api_Literal x64.1 x64.2 s63.2, oc b67 [bv t66.Neg, sv t66.Name]])) 0 () (weak [0, 1] ⟨rfl, rfl, rfl, rfl, rfl, rfl, trivial⟩ ⟨rfl, rfl, trivial⟩) (fun s74 x75 => ?_) (fun q82 y83 => ?_)
      · unfold keep_sorted_l2
        refine ref_seq (ref_seq ?_)
        refine ref_draw [0, 1, 2, 3, 4, 5, 6, 7, 8, 9, 10, 11, 12, 13, 14, 15, 16, 17, 18, 19, 20, 21, 22, 23, 24, 25, 26, 27, 28, 29, 30, 31, 32, 33, 34, 35] rfl (by kernel_rfl) (fun hok => ?_)
        refine a_rd (i := 0) hok rfl (by kernel_rfl) rfl (r_move rfl) rfl ?_
        refine a_rd (i := 1) hok rfl (by kernel_rfl) rfl (r_move rfl) rfl ?_
        refine a_rd (i := 2) hok rfl (by kernel_rfl) rfl (r_olen Tryd.underlying31 rfl (j := 0) rfl) rfl ?_
        refine a_rd (i := 3) hok rfl (by kernel_rfl) rfl (r_lss rfl rfl) rfl ?_
        refine a_rd (i := 4) hok rfl (by kernel_rfl) rfl (r_move rfl) rfl ?_
        refine b_split (t := 17) rfl (fun _ => ?_) (fun _ => ?_)
        · refine a_rdOn (i := 5) hok rfl rfl rfl rfl (by kernel_rfl) rfl (r_move rfl) rfl ?_
          refine a_rdOn (i := 6) hok rfl rfl rfl rfl (by kernel_rfl) rfl (r_move rfl) rfl ?_
          refine pull fun t76 h_t76 => ?_
          refine a_rdOn (i := 7) hok rfl rfl rfl rfl (by kernel_rfl) rfl (r_oindex h_t76 Tryd.underlying31 el_35 rfl (j := 0) rfl rfl) rfl ?_
          refine a_rdOn (i := 8) hok rfl rfl rfl rfl (by kernel_rfl) rfl (r_foea (ρ := rT_api_Literal) (fo := 1) h_t76 Tryd.underlying35 rfl rfl Tryd.sizeOf9 rfl (j := 0) rfl) rfl ?_
          refine a_rdOn (i := 9) hok rfl rfl rfl rfl (by kernel_rfl) rfl (r_foload (ρ := rT_api_Literal) (y := t76) (ρ' := rS) (z := t76.Name) h_t76 el_9 rfl (j := 0) rfl rfl rfl) rfl ?_
          refine a_rdOn (i := 10) hok rfl rfl rfl rfl (by kernel_rfl) rfl (r_faddr (fo := 1) Tryd.underlying35 rfl rfl Tryd.sizeOf9 rfl) rfl ?_
          refine a_rdOn (i := 11) hok rfl rfl rfl rfl (by kernel_rfl) rfl (r_cload Tryd.isAgg9 rfl (j := 1) rfl rfl) rfl ?_
          refine a_rdOn (i := 12) hok rfl rfl rfl rfl (by kernel_rfl) rfl (r_slss rfl rfl) rfl ?_
          refine a_rdOn (i := 13) hok rfl rfl rfl rfl (by kernel_rfl) rfl (r_move rfl) rfl ?_
          refine b_split (t := 26) rfl (fun _ => ?_) (fun _ => ?_)
          · refine a_off (i := 14) hok rfl rfl rfl rfl rfl (by kernel_rfl) rfl rfl ?_
            refine a_off (i := 15) hok rfl rfl rfl rfl rfl (by kernel_rfl) rfl rfl ?_
            refine a_off (i := 16) hok rfl rfl rfl rfl rfl (by kernel_rfl) rfl rfl ?_
            refine a_off (i := 17) hok rfl rfl rfl rfl rfl (by kernel_rfl) rfl rfl ?_
            refine a_off (i := 18) hok rfl rfl rfl rfl rfl (by kernel_rfl) rfl rfl ?_
            refine a_off (i := 19) hok rfl rfl rfl rfl rfl (by kernel_rfl) rfl rfl ?_
            refine a_off (i := 20) hok rfl rfl rfl rfl rfl (by kernel_rfl) rfl rfl ?_
            refine a_off (i := 21) hok rfl rfl rfl rfl rfl (by kernel_rfl) rfl rfl ?_
            refine a_off (i := 22) hok rfl rfl rfl rfl rfl (by kernel_rfl) rfl rfl ?_
            refine a_offU (i := 23) hok rfl rfl rfl (by kernel_rfl) rfl rfl ?_
            refine a_offU (i := 24) hok rfl rfl rfl (by kernel_rfl) rfl rfl ?_
            refine a_offU (i := 25) hok rfl rfl rfl (by kernel_rfl) rfl rfl ?_
            refine a_offU (i := 26) hok rfl rfl rfl (by kernel_rfl) rfl rfl ?_
            refine a_offU (i := 27) hok rfl rfl rfl (by kernel_rfl) rfl rfl ?_
            refine a_offU (i := 28) hok rfl rfl rfl (by kernel_rfl) rfl rfl ?_
            refine a_off (i := 29) hok rfl rfl rfl rfl rfl (by kernel_rfl) rfl rfl ?_
            refine a_off (i := 30) hok rfl rfl rfl rfl rfl (by kernel_rfl) rfl rfl ?_
            refine a_offU (i := 31) hok rfl rfl rfl (by kernel_rfl) rfl rfl ?_
            refine a_offU (i := 32) hok rfl rfl rfl (by kernel_rfl) rfl rfl ?_
            refine a_off (i := 33) hok rfl rfl rfl rfl rfl (by kernel_rfl) rfl rfl ?_
            refine a_rdOn (i := 34) hok rfl rfl rfl rfl (by kernel_rfl) rfl (r_pickT rfl rfl) rfl ?_
            refine a_rd (i := 35) hok rfl (by kernel_rfl) rfl (r_pickT rfl rfl) rfl ?_
            refine a_fin hok (by kernel_rfl) ?_
            refine n_then ?_
            refine ref_condT rfl rfl ?_
            refine ref_skip (n_then (ref_block (ref_region ?_)))
            refine mv1 rfl rfl ?_
            refine s_rd (r_add rfl rfl) rfl ?_
            refine as1 rfl rfl ?_
            refine b_let (f := iv .i64) (t := 6) rfl fun k80 => ?_
            refine l_nil (n_block ?_)
            exact goB () (weak [0, 1] ⟨rfl, rfl, rfl, rfl, rfl, rfl, trivial⟩ ⟨rfl, rfl, trivial⟩)
          refine a_rdOn (i := 14) hok rfl rfl rfl rfl (by kernel_rfl) rfl (r_move rfl) rfl ?_
          refine a_rdOn (i := 15) hok rfl rfl rfl rfl (by kernel_rfl) rfl (r_move rfl) rfl ?_
          refine pull fun t77 h_t77 => ?_
          refine a_rdOn (i := 16) hok rfl rfl rfl rfl (by kernel_rfl) rfl (r_oindex h_t77 Tryd.underlying31 el_35 rfl (j := 0) rfl rfl) rfl ?_
          refine a_rdOn (i := 17) hok rfl rfl rfl rfl (by kernel_rfl) rfl (r_foea (ρ := rT_api_Literal) (fo := 1) h_t77 Tryd.underlying35 rfl rfl Tryd.sizeOf9 rfl (j := 0) rfl) rfl ?_
          refine a_rdOn (i := 18) hok rfl rfl rfl rfl (by kernel_rfl) rfl (r_foload (ρ := rT_api_Literal) (y := t77) (ρ' := rS) (z := t77.Name) h_t77 el_9 rfl (j := 0) rfl rfl rfl) rfl ?_
          refine a_rdOn (i := 19) hok rfl rfl rfl rfl (by kernel_rfl) rfl (r_faddr (fo := 1) Tryd.underlying35 rfl rfl Tryd.sizeOf9 rfl) rfl ?_
          refine a_rdOn (i := 20) hok rfl rfl rfl rfl (by kernel_rfl) rfl (r_cload Tryd.isAgg9 rfl (j := 1) rfl rfl) rfl ?_
          refine a_rdOn (i := 21) hok rfl rfl rfl rfl (by kernel_rfl) rfl (r_seql rfl rfl) rfl ?_
          refine a_rdOn (i := 22) hok rfl rfl rfl rfl (by kernel_rfl) rfl (r_move rfl) rfl ?_
          refine b_split (t := 35) rfl (fun _ => ?_) (fun _ => ?_)
          · refine a_rdOn (i := 23) hok rfl rfl rfl rfl (by kernel_rfl) rfl (r_move rfl) rfl ?_
            refine a_rdOn (i := 24) hok rfl rfl rfl rfl (by kernel_rfl) rfl (r_move rfl) rfl ?_
            refine pull fun t78 h_t78 => ?_
            refine a_rdOn (i := 25) hok rfl rfl rfl rfl (by kernel_rfl) rfl (r_oindex h_t78 Tryd.underlying31 el_35 rfl (j := 0) rfl rfl) rfl ?_
            refine a_rdOn (i := 26) hok rfl rfl rfl rfl (by kernel_rfl) rfl (r_foea (ρ := rT_api_Literal) (fo := 0) h_t78 Tryd.underlying35 rfl rfl Tryd.sizeOf4 rfl (j := 0) rfl) rfl ?_
            refine a_rdOn (i := 27) hok rfl rfl rfl rfl (by kernel_rfl) rfl (r_foload (ρ := rT_api_Literal) (y := t78) (ρ' := rB) (z := t78.Neg) h_t78 el_4 rfl (j := 0) rfl rfl rfl) rfl ?_
            refine a_rdOn (i := 28) hok rfl rfl rfl rfl (by kernel_rfl) rfl (r_not rfl) rfl ?_
            refine a_rdOn (i := 29) hok rfl rfl rfl rfl (by kernel_rfl) rfl (r_pickT rfl rfl) rfl ?_
            refine a_rdOn (i := 30) hok rfl rfl rfl rfl (by kernel_rfl) rfl (r_move rfl) rfl ?_
            refine b_split (t := 43) rfl (fun _ => ?_) (fun _ => ?_)
            · refine a_rdOn (i := 31) hok rfl rfl rfl rfl (by kernel_rfl) rfl (r_faddr (fo := 0) Tryd.underlying35 rfl rfl Tryd.sizeOf4 rfl) rfl ?_
              refine a_rdOn (i := 32) hok rfl rfl rfl rfl (by kernel_rfl) rfl (r_cload Tryd.isAgg4 rfl (j := 1) rfl rfl) rfl ?_
              refine a_rdOn (i := 33) hok rfl rfl rfl rfl (by kernel_rfl) rfl (r_pickT rfl rfl) rfl ?_
              refine a_rdOn (i := 34) hok rfl rfl rfl rfl (by kernel_rfl) rfl (r_pickF rfl rfl) rfl ?_
              refine a_rd (i := 35) hok rfl (by kernel_rfl) rfl (r_pickT rfl rfl) rfl ?_
              refine a_fin hok (by kernel_rfl) ?_
              refine n_then ?_
              refine ref_cond rfl (fun hb79 => ?_) (fun hb79 => ?_)
              · refine ref_skip (n_then (ref_block (ref_region ?_)))
                refine mv1 rfl rfl ?_
                refine s_rd (r_add rfl rfl) rfl ?_
                refine as1 rfl rfl ?_
                refine b_let (f := iv .i64) (t := 6) rfl fun k81 => ?_
                refine l_nil (n_block ?_)
                exact goB () (weak [0, 1] ⟨rfl, rfl, rfl, rfl, rfl, rfl, trivial⟩ ⟨rfl, rfl, trivial⟩)
              refine ref_exit (x_then ?_)
              exact brkB () (weak [0, 1] ⟨rfl, rfl, rfl, rfl, rfl, rfl, trivial⟩ ⟨rfl, rfl, trivial⟩)
            refine a_off (i := 31) hok rfl rfl rfl rfl rfl (by kernel_rfl) rfl rfl ?_
            refine a_off (i := 32) hok rfl rfl rfl rfl rfl (by kernel_rfl) rfl rfl ?_
            refine a_rdOn (i := 33) hok rfl rfl rfl rfl (by kernel_rfl) rfl (r_pickF rfl rfl) rfl ?_
            refine a_rdOn (i := 34) hok rfl rfl rfl rfl (by kernel_rfl) rfl (r_pickF rfl rfl) rfl ?_
            refine a_rd (i := 35) hok rfl (by kernel_rfl) rfl (r_pickT rfl rfl) rfl ?_
            refine a_fin hok (by kernel_rfl) ?_
            refine n_then ?_
            refine ref_condF rfl rfl ?_
            refine ref_exit (x_then ?_)
            exact brkB () (weak [0, 1] ⟨rfl, rfl, rfl, rfl, rfl, rfl, trivial⟩ ⟨rfl, rfl, trivial⟩)
          refine a_off (i := 23) hok rfl rfl rfl rfl rfl (by kernel_rfl) rfl rfl ?_
          refine a_off (i := 24) hok rfl rfl rfl rfl rfl (by kernel_rfl) rfl rfl ?_
          refine a_off (i := 25) hok rfl rfl rfl rfl rfl (by kernel_rfl) rfl rfl ?_
          refine a_off (i := 26) hok rfl rfl rfl rfl rfl (by kernel_rfl) rfl rfl ?_
          refine a_off (i := 27) hok rfl rfl rfl rfl rfl (by kernel_rfl) rfl rfl ?_
          refine a_off (i := 28) hok rfl rfl rfl rfl rfl (by kernel_rfl) rfl rfl ?_
          refine a_rdOn (i := 29) hok rfl rfl rfl rfl (by kernel_rfl) rfl (r_pickF rfl rfl) rfl ?_
          refine a_rdOn (i := 30) hok rfl rfl rfl rfl (by kernel_rfl) rfl (r_move rfl) rfl ?_
          refine a_off (i := 31) hok rfl rfl rfl rfl rfl (by kernel_rfl) rfl rfl ?_
          refine a_off (i := 32) hok rfl rfl rfl rfl rfl (by kernel_rfl) rfl rfl ?_
          refine a_rdOn (i := 33) hok rfl rfl rfl rfl (by kernel_rfl) rfl (r_pickF rfl rfl) rfl ?_
          refine a_rdOn (i := 34) hok rfl rfl rfl rfl (by kernel_rfl) rfl (r_pickF rfl rfl) rfl ?_
          refine a_rd (i := 35) hok rfl (by kernel_rfl) rfl (r_pickT rfl rfl) rfl ?_
          refine a_fin hok (by kernel_rfl) ?_
          refine n_then ?_
          refine ref_condF rfl rfl ?_
          refine ref_exit (x_then ?_)
          exact brkB () (weak [0, 1] ⟨rfl, rfl, rfl, rfl, rfl, rfl, trivial⟩ ⟨rfl, rfl, trivial⟩)
        refine a_off (i := 5) hok rfl rfl rfl rfl rfl (by kernel_rfl) rfl rfl ?_
        refine a_off (i := 6) hok rfl rfl rfl rfl rfl (by kernel_rfl) rfl rfl ?_
        refine a_off (i := 7) hok rfl rfl rfl rfl rfl (by kernel_rfl) rfl rfl ?_
        refine a_off (i := 8) hok rfl rfl rfl rfl rfl (by kernel_rfl) rfl rfl ?_
        refine a_off (i := 9) hok rfl rfl rfl rfl rfl (by kernel_rfl) rfl rfl ?_
        refine a_off (i := 10) hok rfl rfl rfl rfl rfl (by kernel_rfl) rfl rfl ?_
        refine a_off (i := 11) hok rfl rfl rfl rfl rfl (by kernel_rfl) rfl rfl ?_
        refine a_off (i := 12) hok rfl rfl rfl rfl rfl (by kernel_rfl) rfl rfl ?_
        refine a_off (i := 13) hok rfl rfl rfl rfl rfl (by kernel_rfl) rfl rfl ?_
        refine a_offU (i := 14) hok rfl rfl rfl (by kernel_rfl) rfl rfl ?_
        refine a_offU (i := 15) hok rfl rfl rfl (by kernel_rfl) rfl rfl ?_
        refine a_offU (i := 16) hok rfl rfl rfl (by kernel_rfl) rfl rfl ?_
        refine a_offU (i := 17) hok rfl rfl rfl (by kernel_rfl) rfl rfl ?_
        refine a_offU (i := 18) hok rfl rfl rfl (by kernel_rfl) rfl rfl ?_
        refine a_offU (i := 19) hok rfl rfl rfl (by kernel_rfl) rfl rfl ?_
        refine a_offU (i := 20) hok rfl rfl rfl (by kernel_rfl) rfl rfl ?_
        refine a_offU (i := 21) hok rfl rfl rfl (by kernel_rfl) rfl rfl ?_
        refine a_offU (i := 22) hok rfl rfl rfl (by kernel_rfl) rfl rfl ?_
        refine a_offU (i := 23) hok rfl rfl rfl (by kernel_rfl) rfl rfl ?_
        refine a_offU (i := 24) hok rfl rfl rfl (by kernel_rfl) rfl rfl ?_
        refine a_offU (i := 25) hok rfl rfl rfl (by kernel_rfl) rfl rfl ?_
        refine a_offU (i := 26) hok rfl rfl rfl (by kernel_rfl) rfl rfl ?_
        refine a_offU (i := 27) hok rfl rfl rfl (by kernel_rfl) rfl rfl ?_
        refine a_offU (i := 28) hok rfl rfl rfl (by kernel_rfl) rfl rfl ?_
        refine a_offU (i := 29) hok rfl rfl rfl (by kernel_rfl) rfl rfl ?_
        refine a_offU (i := 30) hok rfl rfl rfl (by kernel_rfl) rfl rfl ?_
        refine a_offU (i := 31) hok rfl rfl rfl (by kernel_rfl) rfl rfl ?_
        refine a_offU (i := 32) hok rfl rfl rfl (by kernel_rfl) rfl rfl ?_
        refine a_offU (i := 33) hok rfl rfl rfl (by kernel_rfl) rfl rfl ?_
        refine a_off (i := 34) hok rfl rfl rfl rfl rfl (by kernel_rfl) rfl rfl ?_
        refine a_rd (i := 35) hok rfl (by kernel_rfl) rfl (r_pickF rfl rfl) rfl ?_
        refine a_fin hok (by kernel_rfl) ?_
        refine n_then ?_
        refine ref_condF rfl rfl ?_
        refine ref_exit (x_then ?_)
        exact brkB () (weak [0, 1] ⟨rfl, rfl, rfl, rfl, rfl, rfl, trivial⟩ ⟨rfl, rfl, trivial⟩)
      refine n_then (ref_seq ?_)
      refine ref_join (fun (j86 : Unit) (x87 : Unit) => [(3, pv x64.1), (5, pv (ptr b67 0)), (6, iv .i64 q82), (7, slv rT_api_Literal l_0), (8, iv .i64 (l_0.length : Int)), (9, iv .i64 s63.1)]) (fun (j86 : Unit) (x87 : Unit) => [oa rT_api_Literal x64.1 x64.2 s63.2, oc b67 [bv t66.Neg, sv t66.Name]]) (fun k88 hk88 => ?_) (fun j86 x87 => ?_)
      · refine ref_seq ?_
        refine ref_draw [0, 1, 2, 3, 4, 5, 6, 7, 8, 9, 10, 11] rfl (by kernel_rfl) (fun hok => ?_)
        refine a_rd (i := 0) hok rfl (by kernel_rfl) rfl (r_move rfl) rfl ?_
        refine a_rd (i := 1) hok rfl (by kernel_rfl) rfl (r_move rfl) rfl ?_
        refine a_rd (i := 2) hok rfl (by kernel_rfl) rfl (r_olen Tryd.underlying31 rfl (j := 0) rfl) rfl ?_
        refine a_rd (i := 3) hok rfl (by kernel_rfl) rfl (r_lss rfl rfl) rfl ?_
        refine a_rd (i := 4) hok rfl (by kernel_rfl) rfl (r_move rfl) rfl ?_
        refine b_split (t := 55) rfl (fun _ => ?_) (fun _ => ?_)
        · refine a_rdOn (i := 5) hok rfl rfl rfl rfl (by kernel_rfl) rfl (r_move rfl) rfl ?_
          refine a_rdOn (i := 6) hok rfl rfl rfl rfl (by kernel_rfl) rfl (r_move rfl) rfl ?_
          refine pull fun t84 h_t84 => ?_
          refine a_rdOn (i := 7) hok rfl rfl rfl rfl (by kernel_rfl) rfl (r_oindex h_t84 Tryd.underlying31 el_35 rfl (j := 0) rfl rfl) rfl ?_
          refine a_rdOn (i := 8) hok rfl rfl rfl rfl (by kernel_rfl) rfl (r_oload h_t84 el_35 rfl (j := 0) rfl) rfl ?_
          refine a_rdOn (i := 9) hok rfl rfl rfl rfl (by kernel_rfl) rfl (r_cloadS Tryd.isAgg35 Tryd.sizeOf35 rfl (j := 1) rfl rfl rfl) rfl ?_
          refine a_rdOn (i := 10) hok rfl rfl rfl rfl (by kernel_rfl) rfl (r_steql (u := t84) (v := t66) eq_35 rfl rfl rfl rfl) rfl ?_
          refine a_rd (i := 11) hok rfl (by kernel_rfl) rfl (r_pickT rfl rfl) rfl ?_
          refine a_fin hok (by kernel_rfl) ?_
          refine n_then ?_
          refine ref_cond rfl (fun hb85 => ?_) (fun hb85 => ?_)
          · refine ref_exit (x_then (x_eq (n_then (ref_region ?_))))
            refine s_rd (r_add rfl rfl) rfl ?_
            refine mv1 rfl rfl ?_
            refine l_nil ?_
            exact goB x64 (weak [0] ⟨rfl, rfl, rfl, rfl, trivial⟩ ⟨rfl, trivial⟩)
          refine ref_skip ?_
          exact b_to (hk88 () ()) (weak [0, 1] ⟨rfl, rfl, rfl, rfl, rfl, rfl, trivial⟩ ⟨rfl, rfl, trivial⟩)
        refine a_off (i := 5) hok rfl rfl rfl rfl rfl (by kernel_rfl) rfl rfl ?_
        refine a_off (i := 6) hok rfl rfl rfl rfl rfl (by kernel_rfl) rfl rfl ?_
        refine a_off (i := 7) hok rfl rfl rfl rfl rfl (by kernel_rfl) rfl rfl ?_
        refine a_off (i := 8) hok rfl rfl rfl rfl rfl (by kernel_rfl) rfl rfl ?_
        refine a_off (i := 9) hok rfl rfl rfl rfl rfl (by kernel_rfl) rfl rfl ?_
        refine a_off (i := 10) hok rfl rfl rfl rfl rfl (by kernel_rfl) rfl rfl ?_
        refine a_rd (i := 11) hok rfl (by kernel_rfl) rfl (r_pickF rfl rfl) rfl ?_
        refine a_fin hok (by kernel_rfl) ?_
        refine n_then ?_
        refine ref_condF rfl rfl ?_
        refine ref_skip ?_
        exact b_to (hk88 () ()) (weak [0, 1] ⟨rfl, rfl, rfl, rfl, rfl, rfl, trivial⟩ ⟨rfl, rfl, trivial⟩)
      refine n_then (ref_seq (ref_region ?_))
      refine mv1 rfl rfl ?_
      refine s_rd (r_build (ps := []) (rs := []) st_35 zs_35 trivial rfl rfl) rfl ?_
      refine s_st (s_bslice (xs := [.tmp 64]) (ds := [(T_api_Literal.mk false ByteArray.empty)]) Tryd.underlying31 el_35 rfl (Nat.le_of_ble_eq_true rfl) ⟨(part_agO (ψs := [bv false, sv ByteArray.empty]) rfl ⟨.inl bv_at, .inl sv_at, trivial⟩), trivial⟩) rfl (fun _ => ?_)
      refine pull fun out89 h_out89 => ?_
      refine s_st (s_append h_out89 Tryd.underlying31 el_35 rfl (j := 0) rfl rfl) rfl (fun o90 => ?_)
      refine as1 rfl rfl ?_
      refine l_nil (n_then (ref_seq ?_))
      refine ref_draw [0, 1, 2, 3, 4, 5, 6] rfl (by kernel_rfl) (fun hok => ?_)
      refine a_rd (i := 0) hok rfl (by kernel_rfl) rfl (r_move rfl) rfl ?_
      refine a_rd (i := 1) hok rfl (by kernel_rfl) rfl (r_move rfl) rfl ?_
      refine a_rd (i := 2) hok rfl (by kernel_rfl) rfl (r_add rfl rfl) rfl ?_
      refine pull fun t91 h_t91 => ?_
      refine a_rd (i := 3) hok rfl (by kernel_rfl) rfl (r_osub h_t91 Tryd.underlying31 el_35 rfl (j := 0) rfl (.of rfl) .dft) rfl ?_
      refine a_rd (i := 4) hok rfl (by kernel_rfl) rfl (r_move rfl) rfl ?_
      refine a_rd (i := 5) hok rfl (by kernel_rfl) rfl (r_move rfl) rfl ?_
      refine pull fun t92 h_t92 => ?_
      refine a_rd (i := 6) hok rfl (by kernel_rfl) rfl (r_osub h_t92 Tryd.underlying31 el_35 rfl (j := 0) rfl (.of rfl) .dft) rfl ?_
      refine a_next hok 7 [] (by kernel_rfl) ?_ trivial
      refine a_st (i := 7) hok rfl rfl (s_copyW h_t91 h_t92 Tryd.underlying31 el_35 rfl (j := 0) rfl rfl) (by intro _ h; cases h; rfl) (fun _ => ⟨trivial, ⟨trivial, ⟨trivial, ⟨trivial, ⟨trivial, ⟨trivial, ⟨trivial, trivial⟩⟩⟩⟩⟩⟩⟩) (fun _ => ?_)
      refine a_fin hok (by kernel_rfl) ?_
      refine n_then (ref_region ?_)
      refine mv1 rfl rfl ?_
      refine mv1 rfl rfl ?_
      refine s_rd (r_cloadS Tryd.isAgg35 Tryd.sizeOf35 rfl (j := 1) rfl rfl rfl) rfl ?_
      refine pull fun t93 h_t93 => ?_
      refine s_rd (r_oindex h_t93 Tryd.underlying31 el_35 rfl (j := 0) rfl rfl) rfl ?_
      refine s_st0 (s_ostore (u := t66) h_t93 el_35 rfl (j := 0) rfl (part_agO (ψs := [bv t66.Neg, sv t66.Name]) rfl ⟨.inl bv_at, .inl sv_at, trivial⟩)) (fun _ => ?_)
      refine l_nil ?_
      refine b_of (nrm [oa rT_api_Literal o90.1 o90.2 ((cpO out89 (iadd .i64 q82 1) (out89.length : Int) q82 (out89.length : Int)).set (Int.toNat q82) t66), oc b67 [bv t66.Neg, sv t66.Name]] rfl) ?_
      refine n_block (n_then (ref_region ?_))
      refine s_rd (r_add rfl rfl) rfl ?_
      refine mv1 rfl rfl ?_
      refine l_nil ?_
      exact goB o90 (weak [0] ⟨rfl, rfl, rfl, rfl, trivial⟩ ⟨rfl, trivial⟩)
    refine ref_exit (x_then ?_)
    exact brkB x64 (weak [0] ⟨rfl, trivial⟩ ⟨rfl, trivial⟩)
  refine n_then (ref_seq (ref_region ?_))
  refine mv1 rfl rfl ?_
  refine as1 rfl rfl ?_
  refine l_nil (n_then (ref_ret ?_))
  exact fin1 (.inl rfl) y95 [0] rfl ⟨rfl, trivial⟩ rfl (rv_tmp rfl)

/-! (*deliberation/deliberationkeep.Src).Base -/
noncomputable def keep_Src_Base_l2 (s97 : Int × T_deliberationkeep_Src × (List T_api_Premise)) (t100 : T_api_Literal × T_deliberationkeep_Src) (s115 : Bool × Int) : Option (Sum (Bool) (Bool × Int)) :=
  bif decide (s115.2 < (s97.2.2.length : Int)) then
    Option.bind (idxM s97.2.2 s115.2) fun t118 =>
    bif s115.1 then
      some (Sum.inr (true, iadd .i64 s115.2 1))
    else
      letM (decide (t118.Literal = t100.1)) fun dup120 =>
      some (Sum.inr (dup120, iadd .i64 s115.2 1))
  else
    some (Sum.inl s115.1)

noncomputable def keep_Src_Base_l1 (n_1 : Int) (s97 : Int × T_deliberationkeep_Src × (List T_api_Premise)) : Option (Sum (T_deliberationkeep_Src × (List T_api_Premise)) (Int × T_deliberationkeep_Src × (List T_api_Premise))) :=
  bif decide (s97.1 > 0) then
    Option.bind (keep_Src_Literal_m s97.2.1 n_1) fun t100 =>
    Option.bind (keep_Src_Pick_m t100.2 [1, 2, 2, 2, 3]) fun t101 =>
    Option.bind (keep_Src_Text_m t101.2 [(ByteArray.mk #[]), (ByteArray.mk #[]), (ByteArray.mk #[97, 110, 110]), (ByteArray.mk #[98, 111, 98])]) fun t102 =>
    joinM (fun j106 : T_deliberationkeep_Src × Int =>
        Option.bind (loopC (keep_Src_Base_l2 s97 t100) (false, 0)) fun q121 : Bool =>
        bif !q121 then
          Option.bind (appM 56 s97.2.2 [(T_api_Premise.mk t100.1 t101.1 j106.2 t102.1)]) fun t124 =>
          letM (isub .i64 s97.1 1) fun k126 =>
          some (Sum.inr (k126, j106.1, t124))
        else
          letM (isub .i64 s97.1 1) fun k127 =>
          some (Sum.inr (k127, j106.1, s97.2.2))) fun k108 =>
    bif t101.1 == 2 then
      Option.bind (keep_Src_N_m t102.2 4) fun t105 =>
      k108 (t105.2, t105.1)
    else
      k108 (t102.2, 0)
  else
    some (Sum.inl (s97.2.1, s97.2.2))

noncomputable def keep_Src_Base_l3 (n_1 : Int) (rules_3 : Int) (s212 : Int × T_deliberationkeep_Src × (List T_api_Rule)) : Option (Sum (T_deliberationkeep_Src × (List T_api_Rule)) (Int × T_deliberationkeep_Src × (List T_api_Rule))) :=
  bif decide (s212.1 > 0) then
    Option.bind (keep_RuleName_m (s212.2.2.length : Int)) fun t215 =>
    Option.bind (keep_Src_N_m s212.2.1 3) fun t216 =>
    Option.bind (keep_Src_Literals_m t216.2 2 n_1) fun t217 =>
    Option.bind (keep_sorted_m t217.1) fun t219 =>
    Option.bind (keep_Src_Literal_m t217.2 n_1) fun t221 =>
    joinM (fun j225 : T_deliberationkeep_Src × Int =>
        joinM (fun j233 : T_deliberationkeep_Src × Bool × ByteArray =>
            Option.bind (appM 80 s212.2.2 [(T_api_Rule.mk t215 (t216.1 == 0) j225.2 t219 (T_api_Literal.mk j233.2.1 j233.2.2))]) fun t236 =>
            letM (isub .i64 s212.1 1) fun k238 =>
            some (Sum.inr (k238, j233.1, t236))) fun k235 =>
        Option.bind (keep_Src_N_m j225.1 6) fun t228 =>
        bif t228.1 == 5 then
          Option.bind (keep_Src_N_m t228.2 4) fun t230 =>
          Option.bind (keep_Src_N_m t230.2 rules_3) fun t231 =>
          Option.bind (keep_RuleName_m t231.1) fun t232 =>
          k235 (t231.2, decide (t230.1 > 0), t232)
        else
          k235 (t228.2, t221.1.Neg, t221.1.Name)) fun k227 =>
    bif !(t216.1 == 0) then
      Option.bind (keep_Src_N_m t221.2 4) fun t224 =>
      k227 (t224.2, t224.1)
    else
      k227 (t221.2, 0)
  else
    some (Sum.inl (s212.2.1, s212.2.2))

noncomputable def keep_Src_Base_l4 (n_1 : Int) (q239 : T_deliberationkeep_Src × (List T_api_Rule)) (s284 : Int × T_deliberationkeep_Src × (List T_api_Promotion)) : Option (Sum (T_deliberationkeep_Src × (List T_api_Promotion)) (Int × T_deliberationkeep_Src × (List T_api_Promotion))) :=
  bif decide (s284.1 > 0) then
    bif decide ((q239.2.length : Int) > 0) then
      Option.bind (keep_Src_N_m s284.2.1 (q239.2.length : Int)) fun t288 =>
      Option.bind (idxM q239.2 t288.1) fun t289 =>
      bif !t289.Strict then
        Option.bind (keep_Src_N_m t288.2 10) fun t292 =>
        Option.bind (keep_Src_Literal_m t292.2 n_1) fun t293 =>
        Option.bind (appM 48 s284.2.2 [(T_api_Promotion.mk t289.Name t292.1 t293.1)]) fun t294 =>
        letM (isub .i64 s284.1 1) fun k296 =>
        some (Sum.inr (k296, t293.2, t294))
      else
        letM (isub .i64 s284.1 1) fun k297 =>
        some (Sum.inr (k297, t288.2, s284.2.2))
    else
      some (Sum.inl (s284.2.1, s284.2.2))
  else
    some (Sum.inl (s284.2.1, s284.2.2))

noncomputable def keep_Src_Base_m (s_0 : T_deliberationkeep_Src) (n_1 : Int) (premises_2 : Int) (rules_3 : Int) : Option (T_api_Base × T_deliberationkeep_Src) :=
  Option.bind (keep_Src_N_m s_0 (iadd .i64 premises_2 1)) fun k3 =>
  Option.bind (loopC (keep_Src_Base_l1 n_1) (k3.1, k3.2, [])) fun q128 : T_deliberationkeep_Src × (List T_api_Premise) =>
  Option.bind (keep_Src_N_m q128.1 (iadd .i64 rules_3 1)) fun k130 =>
  Option.bind (loopC (keep_Src_Base_l3 n_1 rules_3) (k130.1, k130.2, [])) fun q239 : T_deliberationkeep_Src × (List T_api_Rule) =>
  Option.bind (keep_Src_N_m q239.1 3) fun k241 =>
  Option.bind (loopC (keep_Src_Base_l4 n_1 q239) (k241.1, k241.2, [])) fun q298 : T_deliberationkeep_Src × (List T_api_Promotion) =>
  some ((T_api_Base.mk q128.2 q239.2 q298.2), q298.1)

theorem keep_Src_Base_ok {s_0 : T_deliberationkeep_Src} {n_1 : Int} {premises_2 : Int} {rules_3 : Int} {b_0 : Nat} {r : T_api_Base × T_deliberationkeep_Src} (hm : keep_Src_Base_m s_0 n_1 premises_2 rules_3 = some r) :
    FnOk prog 6 [pv (ptr b_0 0), iv .i64 n_1, iv .i64 premises_2, iv .i64 rules_3] [oc b_0 [slv (rI .i64) s_0.L, iv .i64 s_0.At]] (fun (x : (Value × List Nat)) => [ag [slv rT_api_Premise r.1.Premises, pv x.1, slv rT_api_Promotion r.1.Promotions]]) (fun (x : (Value × List Nat)) => [oc b_0 [slv (rI .i64) r.2.L, iv .i64 r.2.At], oa rT_api_Rule x.1 x.2 r.1.Rules]) := by
  refine fn_ok (X := (Value × List Nat)) (fn := Tryd.f6) (N := 152) (res := fun r x => [ag [slv rT_api_Premise r.1.Premises, pv x.1, slv rT_api_Promotion r.1.Promotions]]) (Ω1 := fun r x => [oc b_0 [slv (rI .i64) r.2.L, iv .i64 r.2.At], oa rT_api_Rule x.1 x.2 r.1.Rules]) Tryd.func6 rfl rfl hm rfl (fun E hM => ?_)
  unfold keep_Src_Base_m
  refine ref_seq (ref_region ?_)
  refine s_st (s_alloc zt_29) rfl (fun b1 => ?_)
  refine l_nil (n_then (ref_seq (ref_region ?_)))
  refine s_st (s_alloc zt_29) rfl (fun b2 => ?_)
  refine l_nil (n_then (ref_seq (ref_seq (ref_region ?_))))
  refine mv1 rfl rfl ?_
  refine mv1 rfl rfl ?_
  refine s_rd (r_add rfl rfl) rfl ?_
  refine pull fun k3 h_k3 => ?_
  refine s_st (s_callC [0] [true] (fun (_ : Unit) => [oc b_0 [slv (rI .i64) k3.2.L, iv .i64 k3.2.At]]) (fun (_ : Unit) => []) (fun (_ : Unit) => iv .i64 k3.1) (args := [.tmp 19, .tmp 21]) (caps := []) Tryd.call17 rfl (keep_Src_N_ok h_k3) ⟨rfl, rfl, trivial⟩ (fun _ => rfl) (fun _ => trivial) (fun _ => rfl) ⟨arg rfl, arg rfl, trivial⟩ (fun _ _ _ _ h => h)) rfl (fun _ => ?_)
  refine as1 rfl rfl ?_
  refine l_nil (n_then ?_)
  refine b_of (own_nil rT_api_Premise) ?_
  refine ref_loopB (f := (keep_Src_Base_l1 n_1)) (Γl := (fun (s97 : Int × T_deliberationkeep_Src × (List T_api_Premise)) (x98 : (Value × List Nat)) => [(0, pv (ptr b_0 0)), (1, iv .i64 n_1), (3, iv .i64 rules_3), (8, pv (ptr b1 0)), (9, pv (ptr b2 0)), (10, iv .i64 s97.1)])) (Ωl := (fun (s97 : Int × T_deliberationkeep_Src × (List T_api_Premise)) (x98 : (Value × List Nat)) => [oc b_0 [slv (rI .i64) s97.2.1.L, iv .i64 s97.2.1.At], oc b1 [pv (.slice none 0 0), pv (.slice none 0 0), pv (.slice none 0 0)], oc b2 [pv x98.1, pv (.slice none 0 0), pv (.slice none 0 0)], oa rT_api_Premise x98.1 x98.2 s97.2.2])) (Γb := (fun (q128 : T_deliberationkeep_Src × (List T_api_Premise)) (y129 : (Value × List Nat)) => [(0, pv (ptr b_0 0)), (1, iv .i64 n_1), (3, iv .i64 rules_3), (8, pv (ptr b1 0)), (9, pv (ptr b2 0))])) (Ωb := (fun (q128 : T_deliberationkeep_Src × (List T_api_Premise)) (y129 : (Value × List Nat)) => [oc b_0 [slv (rI .i64) q128.1.L, iv .i64 q128.1.At], oc b1 [pv (.slice none 0 0), pv (.slice none 0 0), pv (.slice none 0 0)], oc b2 [pv y129.1, pv (.slice none 0 0), pv (.slice none 0 0)], oa rT_api_Premise y129.1 y129.2 q128.2])) (k3.1, k3.2, []) ((.slice none 0 0), []) (weak [0, 1, 2, 3] ⟨rfl, rfl, rfl, rfl, rfl, rfl, trivial⟩ ⟨rfl, rfl, rfl, rfl, trivial⟩) (fun s97 x98 => ?_) (fun q128 y129 => ?_)
  · unfold keep_Src_Base_l1
    refine ref_seq (ref_seq (ref_region ?_))
    refine mv1 rfl rfl ?_
    refine s_rd (r_gtr rfl rfl) rfl ?_
    refine l_nil (n_then ?_)
    refine ref_cond rfl (fun hb99 => ?_) (fun hb99 => ?_)
    · refine ref_skip (n_then (ref_seq (ref_block (ref_seq (ref_region ?_)))))
      refine mv1 rfl rfl ?_
      refine mv1 rfl rfl ?_
      refine pull fun t100 h_t100 => ?_
      refine s_st (s_callC [0] [true] (fun (_ : Unit) => [oc b_0 [slv (rI .i64) t100.2.L, iv .i64 t100.2.At]]) (fun (_ : Unit) => []) (fun (_ : Unit) => ag [bv t100.1.Neg, sv t100.1.Name]) (args := [.tmp 27, .tmp 28]) (caps := []) Tryd.call9 rfl (keep_Src_Literal_ok h_t100) ⟨rfl, rfl, trivial⟩ (fun _ => rfl) (fun _ => trivial) (fun _ => rfl) ⟨arg rfl, arg rfl, trivial⟩ (fun _ _ _ _ h => h)) rfl (fun _ => ?_)
      refine mv1 rfl rfl ?_
      refine s_st (s_bslice (xs := [.const (.int .i64 (1)), .const (.int .i64 (2)), .const (.int .i64 (2)), .const (.int .i64 (2)), .const (.int .i64 (3))]) (ds := [1, 2, 2, 2, 3]) Tryd.underlying22 el_3 rfl (Nat.le_of_ble_eq_true rfl) ⟨(part_at rfl iv_at), ⟨(part_at rfl iv_at), ⟨(part_at rfl iv_at), ⟨(part_at rfl iv_at), ⟨(part_at rfl iv_at), trivial⟩⟩⟩⟩⟩) rfl (fun _ => ?_)
      refine pull fun t101 h_t101 => ?_
      refine s_st (s_callC [0] [true] (fun (_ : Unit) => [oc b_0 [slv (rI .i64) t101.2.L, iv .i64 t101.2.At]]) (fun (_ : Unit) => []) (fun (_ : Unit) => iv .i64 t101.1) (args := [.tmp 30, .tmp 31]) (caps := []) Tryd.call18 rfl (keep_Src_Pick_ok h_t101) ⟨rfl, rfl, trivial⟩ (fun _ => rfl) (fun _ => trivial) (fun _ => rfl) ⟨arg rfl, arg rfl, trivial⟩ (fun _ _ _ _ h => h)) rfl (fun _ => ?_)
      refine mv1 rfl rfl ?_
      refine s_st (s_bslice (xs := [.const (.string (ByteArray.mk #[])), .const (.string (ByteArray.mk #[])), .const (.string (ByteArray.mk #[97, 110, 110])), .const (.string (ByteArray.mk #[98, 111, 98]))]) (ds := [(ByteArray.mk #[]), (ByteArray.mk #[]), (ByteArray.mk #[97, 110, 110]), (ByteArray.mk #[98, 111, 98])]) Tryd.underlying53 el_9 rfl (Nat.le_of_ble_eq_true rfl) ⟨(part_at rfl sv_at), ⟨(part_at rfl sv_at), ⟨(part_at rfl sv_at), ⟨(part_at rfl sv_at), trivial⟩⟩⟩⟩) rfl (fun _ => ?_)
      refine pull fun t102 h_t102 => ?_
      refine s_st (s_callC [0] [true] (fun (_ : Unit) => [oc b_0 [slv (rI .i64) t102.2.L, iv .i64 t102.2.At]]) (fun (_ : Unit) => []) (fun (_ : Unit) => sv t102.1) (args := [.tmp 33, .tmp 34]) (caps := []) Tryd.call19 rfl (keep_Src_Text_ok h_t102) ⟨rfl, rfl, trivial⟩ (fun _ => rfl) (fun _ => trivial) (fun _ => rfl) ⟨arg rfl, arg rfl, trivial⟩ (fun _ _ _ _ h => h)) rfl (fun _ => ?_)
      refine s_rd (r_build (ps := [(0, .tmp 29), (1, .tmp 32), (3, .tmp 35)]) (rs := [(0, [bv t100.1.Neg, sv t100.1.Name]), (1, [iv .i64 t101.1]), (3, [sv t102.1])]) st_55 zs_55 ⟨rfl, (part_agO (ψs := [bv t100.1.Neg, sv t100.1.Name]) rfl ⟨.inl bv_at, .inl sv_at, trivial⟩), ⟨rfl, (part_at rfl iv_at), ⟨rfl, (part_at rfl sv_at), trivial⟩⟩⟩ rfl rfl) rfl ?_
      refine s_st (s_alloc zt_55) rfl (fun b103 => ?_)
      refine s_st0 (s_cstore (out := [bv t100.1.Neg, sv t100.1.Name, iv .i64 t101.1, iv .i64 0, sv t102.1]) Tryd.sizeOf55 rfl (j := 4) rfl (part_agO (ψs := [bv t100.1.Neg, sv t100.1.Name, iv .i64 t101.1, iv .i64 0, sv t102.1]) rfl ⟨.inl bv_at, .inl sv_at, .inl iv_at, .inl iv_at, .inl sv_at, trivial⟩) rfl rfl rfl) (fun _ => ?_)
      refine l_nil ?_
      refine b_of (nrm [oc b_0 [slv (rI .i64) t102.2.L, iv .i64 t102.2.At], oc b1 [pv (.slice none 0 0), pv (.slice none 0 0), pv (.slice none 0 0)], oc b2 [pv x98.1, pv (.slice none 0 0), pv (.slice none 0 0)], oa rT_api_Premise x98.1 x98.2 s97.2.2, oc b103 [bv t100.1.Neg, sv t100.1.Name, iv .i64 t101.1, iv .i64 0, sv t102.1]] rfl) ?_
      refine n_then (ref_seq ?_)
      refine ref_join (fun (j106 : T_deliberationkeep_Src × Int) (x107 : Unit) => [(0, pv (ptr b_0 0)), (1, iv .i64 n_1), (3, iv .i64 rules_3), (8, pv (ptr b1 0)), (9, pv (ptr b2 0)), (10, iv .i64 s97.1), (11, pv (ptr b103 0))]) (fun (j106 : T_deliberationkeep_Src × Int) (x107 : Unit) => [oc b_0 [slv (rI .i64) j106.1.L, iv .i64 j106.1.At], oc b1 [pv (.slice none 0 0), pv (.slice none 0 0), pv (.slice none 0 0)], oc b2 [pv x98.1, pv (.slice none 0 0), pv (.slice none 0 0)], oa rT_api_Premise x98.1 x98.2 s97.2.2, oc b103 [bv t100.1.Neg, sv t100.1.Name, iv .i64 t101.1, iv .i64 j106.2, sv t102.1]]) (fun k108 hk108 => ?_) (fun j106 x107 => ?_)
      · refine ref_seq (ref_region ?_)
        refine s_rd (r_faddr (fo := 2) Tryd.underlying55 rfl rfl Tryd.sizeOf3 rfl) rfl ?_
        refine s_rd (r_cload Tryd.isAgg3 rfl (j := 4) rfl rfl) rfl ?_
        refine s_rd (r_eql rfl rfl) rfl ?_
        refine l_nil (n_then ?_)
        refine ref_cond rfl (fun hb104 => ?_) (fun hb104 => ?_)
        · refine ref_region ?_
          refine mv1 rfl rfl ?_
          refine pull fun t105 h_t105 => ?_
          refine s_st (s_callC [0] [true] (fun (_ : Unit) => [oc b_0 [slv (rI .i64) t105.2.L, iv .i64 t105.2.At]]) (fun (_ : Unit) => []) (fun (_ : Unit) => iv .i64 t105.1) (args := [.tmp 40, .const (.int .i64 (4))]) (caps := []) Tryd.call17 rfl (keep_Src_N_ok h_t105) ⟨rfl, rfl, trivial⟩ (fun _ => rfl) (fun _ => trivial) (fun _ => rfl) ⟨arg rfl, arg rfl, trivial⟩ (fun _ _ _ _ h => h)) rfl (fun _ => ?_)
          refine s_rd (r_faddr (fo := 3) Tryd.underlying55 rfl rfl Tryd.sizeOf3 rfl) rfl ?_
          refine s_st0 (s_cstore (out := [bv t100.1.Neg, sv t100.1.Name, iv .i64 t101.1, iv .i64 t105.1, sv t102.1]) Tryd.sizeOf3 rfl (j := 4) rfl (part_at rfl iv_at) rfl rfl rfl) (fun _ => ?_)
          refine l_nil ?_
          exact b_to (hk108 (t105.2, t105.1) ()) (weak [0, 1, 2, 3, 4] ⟨rfl, rfl, rfl, rfl, rfl, rfl, rfl, trivial⟩ ⟨rfl, rfl, rfl, rfl, rfl, trivial⟩)
        refine ref_skip ?_
        exact b_to (hk108 (t102.2, 0) ()) (weak [0, 1, 2, 3, 4] ⟨rfl, rfl, rfl, rfl, rfl, rfl, rfl, trivial⟩ ⟨rfl, rfl, rfl, rfl, rfl, trivial⟩)
      refine n_then (ref_seq (ref_region ?_))
      refine as1 rfl rfl ?_
      refine l_nil (n_then (ref_seq (ref_seq (ref_region ?_))))
      refine s_rd (r_faddr (fo := 0) Tryd.underlying29 rfl rfl Tryd.sizeOf25 rfl) rfl ?_
      refine s_rd (r_cload Tryd.isAgg25 rfl (j := 2) rfl rfl) rfl ?_
      refine s_rd (r_olen Tryd.underlying25 rfl (j := 3) rfl) rfl ?_
      refine mv1 rfl rfl ?_
      refine l_nil (n_then ?_)
      refine ref_loopB (f := (keep_Src_Base_l2 s97 t100)) (Γl := (fun (s115 : Bool × Int) (x116 : Unit) => [(0, pv (ptr b_0 0)), (1, iv .i64 n_1), (3, iv .i64 rules_3), (8, pv (ptr b1 0)), (9, pv (ptr b2 0)), (10, iv .i64 s97.1), (11, pv (ptr b103 0)), (12, bv s115.1), (44, pv x98.1), (45, iv .i64 (s97.2.2.length : Int)), (46, iv .i64 s115.2)])) (Ωl := (fun (s115 : Bool × Int) (x116 : Unit) => [oc b_0 [slv (rI .i64) j106.1.L, iv .i64 j106.1.At], oc b1 [pv (.slice none 0 0), pv (.slice none 0 0), pv (.slice none 0 0)], oc b2 [pv x98.1, pv (.slice none 0 0), pv (.slice none 0 0)], oa rT_api_Premise x98.1 x98.2 s97.2.2, oc b103 [bv t100.1.Neg, sv t100.1.Name, iv .i64 t101.1, iv .i64 j106.2, sv t102.1]])) (Γb := (fun (q121 : Bool) (y122 : Unit) => [(0, pv (ptr b_0 0)), (1, iv .i64 n_1), (3, iv .i64 rules_3), (8, pv (ptr b1 0)), (9, pv (ptr b2 0)), (10, iv .i64 s97.1), (11, pv (ptr b103 0)), (12, bv q121)])) (Ωb := (fun (q121 : Bool) (y122 : Unit) => [oc b_0 [slv (rI .i64) j106.1.L, iv .i64 j106.1.At], oc b1 [pv (.slice none 0 0), pv (.slice none 0 0), pv (.slice none 0 0)], oc b2 [pv x98.1, pv (.slice none 0 0), pv (.slice none 0 0)], oa rT_api_Premise x98.1 x98.2 s97.2.2, oc b103 [bv t100.1.Neg, sv t100.1.Name, iv .i64 t101.1, iv .i64 j106.2, sv t102.1]])) (false, 0) () (weak [0, 1, 2, 3, 4] ⟨rfl, rfl, rfl, rfl, rfl, rfl, rfl, rfl, rfl, rfl, rfl, trivial⟩ ⟨rfl, rfl, rfl, rfl, rfl, trivial⟩) (fun s115 x116 => ?_) (fun q121 y122 => ?_)
      · unfold keep_Src_Base_l2
        refine ref_seq (ref_region ?_)
        refine s_rd (r_lss rfl rfl) rfl ?_
        refine l_nil (n_then (ref_seq ?_))
        refine ref_cond rfl (fun hb117 => ?_) (fun hb117 => ?_)
        · refine ref_skip (n_then (ref_seq (ref_block (ref_seq (ref_region ?_)))))
          refine pull fun t118 h_t118 => ?_
          refine s_rd (r_oindex h_t118 Tryd.underlying25 el_55 rfl (j := 3) rfl rfl) rfl ?_
          refine s_rd (r_oload h_t118 el_55 rfl (j := 3) rfl) rfl ?_
          refine s_st (s_alloc zt_55) rfl (fun b119 => ?_)
          refine s_st0 (s_cstore (out := [bv t118.Literal.Neg, sv t118.Literal.Name, iv .i64 t118.Kind, iv .i64 t118.Rank, sv t118.Source]) Tryd.sizeOf55 rfl (j := 5) rfl (part_agO (ψs := [bv t118.Literal.Neg, sv t118.Literal.Name, iv .i64 t118.Kind, iv .i64 t118.Rank, sv t118.Source]) rfl ⟨.inl bv_at, .inl sv_at, .inl iv_at, .inl iv_at, .inl sv_at, trivial⟩) rfl rfl rfl) (fun _ => ?_)
          refine l_nil (n_then (ref_region ?_))
          refine mv1 rfl rfl ?_
          refine mv1 rfl rfl ?_
          refine b_split (t := 51) rfl (fun _ => ?_) (fun _ => ?_)
          · refine s_off rfl rfl rfl rfl rfl ?_
            refine s_off rfl rfl rfl rfl rfl ?_
            refine s_off rfl rfl rfl rfl rfl ?_
            refine s_off rfl rfl rfl rfl rfl ?_
            refine s_off rfl rfl rfl rfl rfl ?_
            refine s_rd (r_pickT rfl rfl) rfl ?_
            refine as1 rfl rfl ?_
            refine l_nil (n_block (n_then (ref_region ?_)))
            refine s_rd (r_add rfl rfl) rfl ?_
            refine mv1 rfl rfl ?_
            refine l_nil ?_
            exact goB () (weak [0, 1, 2, 3, 4] ⟨rfl, rfl, rfl, rfl, rfl, rfl, rfl, rfl, rfl, rfl, rfl, trivial⟩ ⟨rfl, rfl, rfl, rfl, rfl, trivial⟩)
          refine s_on rfl rfl rfl ?_
          refine s_rd (r_faddr (fo := 0) Tryd.underlying55 rfl rfl Tryd.sizeOf35 rfl) rfl ?_
          refine s_on rfl rfl rfl ?_
          refine s_rd (r_cloadS Tryd.isAgg35 Tryd.sizeOf35 rfl (j := 5) rfl rfl rfl) rfl ?_
          refine s_on rfl rfl rfl ?_
          refine s_rd (r_faddr (fo := 0) Tryd.underlying55 rfl rfl Tryd.sizeOf35 rfl) rfl ?_
          refine s_on rfl rfl rfl ?_
          refine s_rd (r_cloadS Tryd.isAgg35 Tryd.sizeOf35 rfl (j := 4) rfl rfl rfl) rfl ?_
          refine s_on rfl rfl rfl ?_
          refine s_rd (r_steql (u := t118.Literal) (v := t100.1) eq_35 rfl rfl rfl rfl) rfl ?_
          refine s_rd (r_pickF rfl rfl) rfl ?_
          refine as1 rfl rfl ?_
          refine b_let (f := bv) (t := 12) rfl fun dup120 => ?_
          refine l_nil (n_block (n_then (ref_region ?_)))
          refine s_rd (r_add rfl rfl) rfl ?_
          refine mv1 rfl rfl ?_
          refine l_nil ?_
          exact goB () (weak [0, 1, 2, 3, 4] ⟨rfl, rfl, rfl, rfl, rfl, rfl, rfl, rfl, rfl, rfl, rfl, trivial⟩ ⟨rfl, rfl, rfl, rfl, rfl, trivial⟩)
        refine ref_exit (x_then ?_)
        exact brkB () (weak [0, 1, 2, 3, 4] ⟨rfl, rfl, rfl, rfl, rfl, rfl, rfl, rfl, trivial⟩ ⟨rfl, rfl, rfl, rfl, rfl, trivial⟩)
      refine n_then (ref_seq (ref_region ?_))
      refine mv1 rfl rfl ?_
      refine s_rd (r_not rfl) rfl ?_
      refine l_nil (n_then ?_)
      refine ref_cond rfl (fun hb123 => ?_) (fun hb123 => ?_)
      · refine ref_region ?_
        refine s_rd (r_faddr (fo := 0) Tryd.underlying29 rfl rfl Tryd.sizeOf25 rfl) rfl ?_
        refine s_rd (r_cload Tryd.isAgg25 rfl (j := 2) rfl rfl) rfl ?_
        refine s_rd (r_cloadS Tryd.isAgg55 Tryd.sizeOf55 rfl (j := 4) rfl rfl rfl) rfl ?_
        refine s_st (s_bslice (xs := [.tmp 63]) (ds := [(T_api_Premise.mk t100.1 t101.1 j106.2 t102.1)]) Tryd.underlying25 el_55 rfl (Nat.le_of_ble_eq_true rfl) ⟨(part_agO (ψs := [bv t100.1.Neg, sv t100.1.Name, iv .i64 t101.1, iv .i64 j106.2, sv t102.1]) rfl ⟨.inl bv_at, .inl sv_at, .inl iv_at, .inl iv_at, .inl sv_at, trivial⟩), trivial⟩) rfl (fun _ => ?_)
        refine pull fun t124 h_t124 => ?_
        refine s_st (s_append h_t124 Tryd.underlying25 el_55 rfl (j := 3) rfl rfl) rfl (fun o125 => ?_)
        refine s_rd (r_faddr (fo := 0) Tryd.underlying29 rfl rfl Tryd.sizeOf25 rfl) rfl ?_
        refine s_st0 (s_cstore (out := [pv o125.1, pv (.slice none 0 0), pv (.slice none 0 0)]) Tryd.sizeOf25 rfl (j := 2) rfl (part_own rfl (j := 3) rfl) rfl rfl rfl) (fun _ => ?_)
        refine l_nil (n_block (n_then (ref_region ?_)))
        refine mv1 rfl rfl ?_
        refine s_rd (r_sub rfl rfl) rfl ?_
        refine as1 rfl rfl ?_
        refine b_let (f := iv .i64) (t := 10) rfl fun k126 => ?_
        refine l_nil ?_
        exact goB o125 (weak [0, 1, 2, 3] ⟨rfl, rfl, rfl, rfl, rfl, rfl, trivial⟩ ⟨rfl, rfl, rfl, rfl, trivial⟩)
      refine ref_skip (n_block (n_then (ref_region ?_)))
      refine mv1 rfl rfl ?_
      refine s_rd (r_sub rfl rfl) rfl ?_
      refine as1 rfl rfl ?_
      refine b_let (f := iv .i64) (t := 10) rfl fun k127 => ?_
      refine l_nil ?_
      exact goB x98 (weak [0, 1, 2, 3] ⟨rfl, rfl, rfl, rfl, rfl, rfl, trivial⟩ ⟨rfl, rfl, rfl, rfl, trivial⟩)
    refine ref_exit (x_then ?_)
    exact brkB x98 (weak [0, 1, 2, 3] ⟨rfl, rfl, rfl, rfl, rfl, trivial⟩ ⟨rfl, rfl, rfl, rfl, trivial⟩)
  refine n_then (ref_seq (ref_seq (ref_region ?_)))
  refine mv1 rfl rfl ?_
  refine mv1 rfl rfl ?_
  refine s_rd (r_add rfl rfl) rfl ?_
  refine pull fun k130 h_k130 => ?_
  refine s_st (s_callC [0] [true] (fun (_ : Unit) => [oc b_0 [slv (rI .i64) k130.2.L, iv .i64 k130.2.At]]) (fun (_ : Unit) => []) (fun (_ : Unit) => iv .i64 k130.1) (args := [.tmp 67, .tmp 69]) (caps := []) Tryd.call17 rfl (keep_Src_N_ok h_k130) ⟨rfl, rfl, trivial⟩ (fun _ => rfl) (fun _ => trivial) (fun _ => rfl) ⟨arg rfl, arg rfl, trivial⟩ (fun _ _ _ _ h => h)) rfl (fun _ => ?_)
  refine as1 rfl rfl ?_
  refine l_nil (n_then ?_)
  refine b_of (own_nil rT_api_Rule) ?_
  refine ref_loopB (f := (keep_Src_Base_l3 n_1 rules_3)) (Γl := (fun (s212 : Int × T_deliberationkeep_Src × (List T_api_Rule)) (x213 : (Value × List Nat)) => [(0, pv (ptr b_0 0)), (1, iv .i64 n_1), (3, iv .i64 rules_3), (8, pv (ptr b1 0)), (9, pv (ptr b2 0)), (15, iv .i64 s212.1)])) (Ωl := (fun (s212 : Int × T_deliberationkeep_Src × (List T_api_Rule)) (x213 : (Value × List Nat)) => [oc b_0 [slv (rI .i64) s212.2.1.L, iv .i64 s212.2.1.At], oc b1 [pv (.slice none 0 0), pv (.slice none 0 0), pv (.slice none 0 0)], oc b2 [pv y129.1, pv x213.1, pv (.slice none 0 0)], oa rT_api_Premise y129.1 y129.2 q128.2, oa rT_api_Rule x213.1 x213.2 s212.2.2])) (Γb := (fun (q239 : T_deliberationkeep_Src × (List T_api_Rule)) (y240 : (Value × List Nat)) => [(0, pv (ptr b_0 0)), (1, iv .i64 n_1), (8, pv (ptr b1 0)), (9, pv (ptr b2 0))])) (Ωb := (fun (q239 : T_deliberationkeep_Src × (List T_api_Rule)) (y240 : (Value × List Nat)) => [oc b_0 [slv (rI .i64) q239.1.L, iv .i64 q239.1.At], oc b1 [pv (.slice none 0 0), pv (.slice none 0 0), pv (.slice none 0 0)], oc b2 [pv y129.1, pv y240.1, pv (.slice none 0 0)], oa rT_api_Premise y129.1 y129.2 q128.2, oa rT_api_Rule y240.1 y240.2 q239.2])) (k130.1, k130.2, []) ((.slice none 0 0), []) (weak [0, 1, 2, 3, 4] ⟨rfl, rfl, rfl, rfl, rfl, rfl, trivial⟩ ⟨rfl, rfl, rfl, rfl, rfl, trivial⟩) (fun s212 x213 => ?_) (fun q239 y240 => ?_)
  · unfold keep_Src_Base_l3
    refine ref_seq (ref_seq (ref_region ?_))
    refine mv1 rfl rfl ?_
    refine s_rd (r_gtr rfl rfl) rfl ?_
    refine l_nil (n_then ?_)
    refine ref_cond rfl (fun hb214 => ?_) (fun hb214 => ?_)
    · refine ref_skip (n_then (ref_seq (ref_block (ref_seq (ref_region ?_)))))
      refine s_rd (r_faddr (fo := 1) Tryd.underlying29 rfl rfl Tryd.sizeOf26 rfl) rfl ?_
      refine s_rd (r_cload Tryd.isAgg26 rfl (j := 2) rfl rfl) rfl ?_
      refine s_rd (r_olen Tryd.underlying26 rfl (j := 4) rfl) rfl ?_
      refine pull fun t215 h_t215 => ?_
      refine s_st (s_call (ψ := fun (_ : Unit) => sv t215) (args := [.tmp 77]) Tryd.call20 rfl (keep_RuleName_ok h_t215) ⟨arg rfl, trivial⟩ (fun _ _ _ _ h => h)) rfl (fun _ => ?_)
      refine mv1 rfl rfl ?_
      refine pull fun t216 h_t216 => ?_
      refine s_st (s_callC [0] [true] (fun (_ : Unit) => [oc b_0 [slv (rI .i64) t216.2.L, iv .i64 t216.2.At]]) (fun (_ : Unit) => []) (fun (_ : Unit) => iv .i64 t216.1) (args := [.tmp 79, .const (.int .i64 (3))]) (caps := []) Tryd.call17 rfl (keep_Src_N_ok h_t216) ⟨rfl, rfl, trivial⟩ (fun _ => rfl) (fun _ => trivial) (fun _ => rfl) ⟨arg rfl, arg rfl, trivial⟩ (fun _ _ _ _ h => h)) rfl (fun _ => ?_)
      refine s_rd (r_eql rfl rfl) rfl ?_
      refine mv1 rfl rfl ?_
      refine mv1 rfl rfl ?_
      refine pull fun t217 h_t217 => ?_
      refine s_st (s_callC [0] [true] (fun (x218 : (Value × List Nat)) => [oc b_0 [slv (rI .i64) t217.2.L, iv .i64 t217.2.At]]) (fun (x218 : (Value × List Nat)) => [oa rT_api_Literal x218.1 x218.2 t217.1]) (fun (x218 : (Value × List Nat)) => pv x218.1) (args := [.tmp 82, .const (.int .i64 (2)), .tmp 83]) (caps := []) Tryd.call7 rfl (keep_Src_Literals_ok h_t217) ⟨rfl, rfl, trivial⟩ (fun _ => rfl) (fun _ => trivial) (fun _ => rfl) ⟨arg rfl, arg rfl, arg rfl, trivial⟩ (fun _ _ _ _ h => h)) rfl (fun x218 => ?_)
      refine b_of (frzL [84] (j := 5) rfl ⟨rfl, trivial⟩) ?_
      refine pull fun t219 h_t219 => ?_
      refine s_st (s_call (ψ := fun (x220 : (Value × List Nat)) => pv x220.1) (args := [.tmp 84]) Tryd.call21 rfl (keep_sorted_ok h_t219) ⟨arg rfl, trivial⟩ (fun _ _ _ _ h => h)) rfl (fun x220 => ?_)
      refine mv1 rfl rfl ?_
      refine mv1 rfl rfl ?_
      refine pull fun t221 h_t221 => ?_
      refine s_st (s_callC [0] [true] (fun (_ : Unit) => [oc b_0 [slv (rI .i64) t221.2.L, iv .i64 t221.2.At]]) (fun (_ : Unit) => []) (fun (_ : Unit) => ag [bv t221.1.Neg, sv t221.1.Name]) (args := [.tmp 86, .tmp 87]) (caps := []) Tryd.call9 rfl (keep_Src_Literal_ok h_t221) ⟨rfl, rfl, trivial⟩ (fun _ => rfl) (fun _ => trivial) (fun _ => rfl) ⟨arg rfl, arg rfl, trivial⟩ (fun _ _ _ _ h => h)) rfl (fun _ => ?_)
      refine s_rd (r_build (ps := [(0, .tmp 78), (1, .tmp 81), (3, .tmp 85), (4, .tmp 88)]) (rs := [(0, [sv t215]), (1, [bv (t216.1 == 0)]), (3, [pv x220.1]), (4, [bv t221.1.Neg, sv t221.1.Name])]) st_40 zs_40 ⟨rfl, (part_at rfl sv_at), ⟨rfl, (part_at rfl bv_at), ⟨rfl, (part_own rfl (j := 6) rfl), ⟨rfl, (part_agO (ψs := [bv t221.1.Neg, sv t221.1.Name]) rfl ⟨.inl bv_at, .inl sv_at, trivial⟩), trivial⟩⟩⟩⟩ rfl rfl) rfl ?_
      refine s_st (s_alloc zt_40) rfl (fun b222 => ?_)
      refine s_st0 (s_cstore (out := [sv t215, bv (t216.1 == 0), iv .i64 0, pv x220.1, bv t221.1.Neg, sv t221.1.Name]) Tryd.sizeOf40 rfl (j := 7) rfl (part_agO (ψs := [sv t215, bv (t216.1 == 0), iv .i64 0, pv x220.1, bv t221.1.Neg, sv t221.1.Name]) rfl ⟨.inl sv_at, .inl bv_at, .inl iv_at, .inr ⟨_, _, _, _, _, 6, rfl, rfl⟩, .inl bv_at, .inl sv_at, trivial⟩) rfl rfl rfl) (fun _ => ?_)
      refine l_nil ?_
      refine b_of (nrm [oc b_0 [slv (rI .i64) t221.2.L, iv .i64 t221.2.At], oc b1 [pv (.slice none 0 0), pv (.slice none 0 0), pv (.slice none 0 0)], oc b2 [pv y129.1, pv x213.1, pv (.slice none 0 0)], oa rT_api_Premise y129.1 y129.2 q128.2, oa rT_api_Rule x213.1 x213.2 s212.2.2, dead, oa rT_api_Literal x220.1 x220.2 t219, oc b222 [sv t215, bv (t216.1 == 0), iv .i64 0, pv x220.1, bv t221.1.Neg, sv t221.1.Name]] rfl) ?_
      refine n_then (ref_seq ?_)
      refine ref_join (fun (j225 : T_deliberationkeep_Src × Int) (x226 : Unit) => [(0, pv (ptr b_0 0)), (1, iv .i64 n_1), (3, iv .i64 rules_3), (8, pv (ptr b1 0)), (9, pv (ptr b2 0)), (15, iv .i64 s212.1), (16, pv (ptr b222 0))]) (fun (j225 : T_deliberationkeep_Src × Int) (x226 : Unit) => [oc b_0 [slv (rI .i64) j225.1.L, iv .i64 j225.1.At], oc b1 [pv (.slice none 0 0), pv (.slice none 0 0), pv (.slice none 0 0)], oc b2 [pv y129.1, pv x213.1, pv (.slice none 0 0)], oa rT_api_Premise y129.1 y129.2 q128.2, oa rT_api_Rule x213.1 x213.2 s212.2.2, oc b222 [sv t215, bv (t216.1 == 0), iv .i64 j225.2, pv x220.1, bv t221.1.Neg, sv t221.1.Name], oa rT_api_Literal x220.1 x220.2 t219]) (fun k227 hk227 => ?_) (fun j225 x226 => ?_)
      · refine ref_seq (ref_region ?_)
        refine s_rd (r_faddr (fo := 1) Tryd.underlying40 rfl rfl Tryd.sizeOf4 rfl) rfl ?_
        refine s_rd (r_cload Tryd.isAgg4 rfl (j := 7) rfl rfl) rfl ?_
        refine s_rd (r_not rfl) rfl ?_
        refine l_nil (n_then ?_)
        refine ref_cond rfl (fun hb223 => ?_) (fun hb223 => ?_)
        · refine ref_region ?_
          refine mv1 rfl rfl ?_
          refine pull fun t224 h_t224 => ?_
          refine s_st (s_callC [0] [true] (fun (_ : Unit) => [oc b_0 [slv (rI .i64) t224.2.L, iv .i64 t224.2.At]]) (fun (_ : Unit) => []) (fun (_ : Unit) => iv .i64 t224.1) (args := [.tmp 93, .const (.int .i64 (4))]) (caps := []) Tryd.call17 rfl (keep_Src_N_ok h_t224) ⟨rfl, rfl, trivial⟩ (fun _ => rfl) (fun _ => trivial) (fun _ => rfl) ⟨arg rfl, arg rfl, trivial⟩ (fun _ _ _ _ h => h)) rfl (fun _ => ?_)
          refine s_rd (r_faddr (fo := 2) Tryd.underlying40 rfl rfl Tryd.sizeOf3 rfl) rfl ?_
          refine s_st0 (s_cstore (out := [sv t215, bv (t216.1 == 0), iv .i64 t224.1, pv x220.1, bv t221.1.Neg, sv t221.1.Name]) Tryd.sizeOf3 rfl (j := 7) rfl (part_at rfl iv_at) rfl rfl rfl) (fun _ => ?_)
          refine l_nil ?_
          exact b_to (hk227 (t224.2, t224.1) ()) (weak [0, 1, 2, 3, 4, 7, 6] ⟨rfl, rfl, rfl, rfl, rfl, rfl, rfl, trivial⟩ ⟨rfl, rfl, rfl, rfl, rfl, rfl, rfl, trivial⟩)
        refine ref_skip ?_
        exact b_to (hk227 (t221.2, 0) ()) (weak [0, 1, 2, 3, 4, 7, 6] ⟨rfl, rfl, rfl, rfl, rfl, rfl, rfl, trivial⟩ ⟨rfl, rfl, rfl, rfl, rfl, rfl, rfl, trivial⟩)
      refine n_then (ref_seq ?_)
      refine ref_join (fun (j233 : T_deliberationkeep_Src × Bool × ByteArray) (x234 : Unit) => [(0, pv (ptr b_0 0)), (1, iv .i64 n_1), (3, iv .i64 rules_3), (8, pv (ptr b1 0)), (9, pv (ptr b2 0)), (15, iv .i64 s212.1), (16, pv (ptr b222 0))]) (fun (j233 : T_deliberationkeep_Src × Bool × ByteArray) (x234 : Unit) => [oc b_0 [slv (rI .i64) j233.1.L, iv .i64 j233.1.At], oc b1 [pv (.slice none 0 0), pv (.slice none 0 0), pv (.slice none 0 0)], oc b2 [pv y129.1, pv x213.1, pv (.slice none 0 0)], oa rT_api_Premise y129.1 y129.2 q128.2, oa rT_api_Rule x213.1 x213.2 s212.2.2, oc b222 [sv t215, bv (t216.1 == 0), iv .i64 j225.2, pv x220.1, bv j233.2.1, sv j233.2.2], oa rT_api_Literal x220.1 x220.2 t219]) (fun k235 hk235 => ?_) (fun j233 x234 => ?_)
      · refine ref_seq (ref_region ?_)
        refine mv1 rfl rfl ?_
        refine pull fun t228 h_t228 => ?_
        refine s_st (s_callC [0] [true] (fun (_ : Unit) => [oc b_0 [slv (rI .i64) t228.2.L, iv .i64 t228.2.At]]) (fun (_ : Unit) => []) (fun (_ : Unit) => iv .i64 t228.1) (args := [.tmp 96, .const (.int .i64 (6))]) (caps := []) Tryd.call17 rfl (keep_Src_N_ok h_t228) ⟨rfl, rfl, trivial⟩ (fun _ => rfl) (fun _ => trivial) (fun _ => rfl) ⟨arg rfl, arg rfl, trivial⟩ (fun _ _ _ _ h => h)) rfl (fun _ => ?_)
        refine s_rd (r_eql rfl rfl) rfl ?_
        refine l_nil (n_then ?_)
        refine ref_cond rfl (fun hb229 => ?_) (fun hb229 => ?_)
        · refine ref_region ?_
          refine mv1 rfl rfl ?_
          refine pull fun t230 h_t230 => ?_
          refine s_st (s_callC [0] [true] (fun (_ : Unit) => [oc b_0 [slv (rI .i64) t230.2.L, iv .i64 t230.2.At]]) (fun (_ : Unit) => []) (fun (_ : Unit) => iv .i64 t230.1) (args := [.tmp 99, .const (.int .i64 (4))]) (caps := []) Tryd.call17 rfl (keep_Src_N_ok h_t230) ⟨rfl, rfl, trivial⟩ (fun _ => rfl) (fun _ => trivial) (fun _ => rfl) ⟨arg rfl, arg rfl, trivial⟩ (fun _ _ _ _ h => h)) rfl (fun _ => ?_)
          refine s_rd (r_gtr rfl rfl) rfl ?_
          refine mv1 rfl rfl ?_
          refine mv1 rfl rfl ?_
          refine pull fun t231 h_t231 => ?_
          refine s_st (s_callC [0] [true] (fun (_ : Unit) => [oc b_0 [slv (rI .i64) t231.2.L, iv .i64 t231.2.At]]) (fun (_ : Unit) => []) (fun (_ : Unit) => iv .i64 t231.1) (args := [.tmp 102, .tmp 103]) (caps := []) Tryd.call17 rfl (keep_Src_N_ok h_t231) ⟨rfl, rfl, trivial⟩ (fun _ => rfl) (fun _ => trivial) (fun _ => rfl) ⟨arg rfl, arg rfl, trivial⟩ (fun _ _ _ _ h => h)) rfl (fun _ => ?_)
          refine pull fun t232 h_t232 => ?_
          refine s_st (s_call (ψ := fun (_ : Unit) => sv t232) (args := [.tmp 104]) Tryd.call20 rfl (keep_RuleName_ok h_t232) ⟨arg rfl, trivial⟩ (fun _ _ _ _ h => h)) rfl (fun _ => ?_)
          refine s_rd (r_build (ps := [(0, .tmp 101), (1, .tmp 105)]) (rs := [(0, [bv (decide (t230.1 > 0))]), (1, [sv t232])]) st_35 zs_35 ⟨rfl, (part_at rfl bv_at), ⟨rfl, (part_at rfl sv_at), trivial⟩⟩ rfl rfl) rfl ?_
          refine s_rd (r_faddr (fo := 4) Tryd.underlying40 rfl rfl Tryd.sizeOf35 rfl) rfl ?_
          refine s_st0 (s_cstore (out := [sv t215, bv (t216.1 == 0), iv .i64 j225.2, pv x220.1, bv (decide (t230.1 > 0)), sv t232]) Tryd.sizeOf35 rfl (j := 5) rfl (part_agO (ψs := [bv (decide (t230.1 > 0)), sv t232]) rfl ⟨.inl bv_at, .inl sv_at, trivial⟩) rfl rfl rfl) (fun _ => ?_)
          refine l_nil ?_
          refine b_of (nrm [oc b_0 [slv (rI .i64) t231.2.L, iv .i64 t231.2.At], oc b1 [pv (.slice none 0 0), pv (.slice none 0 0), pv (.slice none 0 0)], oc b2 [pv y129.1, pv x213.1, pv (.slice none 0 0)], oa rT_api_Premise y129.1 y129.2 q128.2, oa rT_api_Rule x213.1 x213.2 s212.2.2, oc b222 [sv t215, bv (t216.1 == 0), iv .i64 j225.2, pv x220.1, bv (decide (t230.1 > 0)), sv t232], oa rT_api_Literal x220.1 x220.2 t219] rfl) ?_
          exact b_to (hk235 (t231.2, decide (t230.1 > 0), t232) ()) (weak [0, 1, 2, 3, 4, 5, 6] ⟨rfl, rfl, rfl, rfl, rfl, rfl, rfl, trivial⟩ ⟨rfl, rfl, rfl, rfl, rfl, rfl, rfl, trivial⟩)
        refine ref_skip ?_
        exact b_to (hk235 (t228.2, t221.1.Neg, t221.1.Name) ()) (weak [0, 1, 2, 3, 4, 5, 6] ⟨rfl, rfl, rfl, rfl, rfl, rfl, rfl, trivial⟩ ⟨rfl, rfl, rfl, rfl, rfl, rfl, rfl, trivial⟩)
      refine n_then (ref_region ?_)
      refine s_rd (r_faddr (fo := 1) Tryd.underlying29 rfl rfl Tryd.sizeOf26 rfl) rfl ?_
      refine s_rd (r_cload Tryd.isAgg26 rfl (j := 2) rfl rfl) rfl ?_
      refine s_rd (r_cloadS Tryd.isAgg40 Tryd.sizeOf40 rfl (j := 5) rfl rfl rfl) rfl ?_
      refine b_of (frzGL [(110, ag [sv t215, bv (t216.1 == 0), iv .i64 j225.2, slv rT_api_Literal t219, bv j233.2.1, sv j233.2.2])] [(5, b222, [sv t215, bv (t216.1 == 0), iv .i64 j225.2, slv rT_api_Literal t219, bv j233.2.1, sv j233.2.2])] (j := 6) rfl ⟨⟨_, rfl, .inr ⟨_, _, rfl, rfl, ⟨.inl rfl, .inl rfl, .inl rfl, .inr ⟨rfl, rfl⟩, .inl rfl, .inl rfl, trivial⟩⟩⟩, trivial⟩ ⟨⟨_, rfl, ⟨.inl rfl, .inl rfl, .inl rfl, .inr ⟨rfl, rfl⟩, .inl rfl, .inl rfl, trivial⟩⟩, trivial⟩) ?_
      refine s_st (s_bslice (xs := [.tmp 110]) (ds := [(T_api_Rule.mk t215 (t216.1 == 0) j225.2 t219 (T_api_Literal.mk j233.2.1 j233.2.2))]) Tryd.underlying26 el_40 rfl (Nat.le_of_ble_eq_true rfl) ⟨(part_agO (ψs := [sv t215, bv (t216.1 == 0), iv .i64 j225.2, slv rT_api_Literal t219, bv j233.2.1, sv j233.2.2]) rfl ⟨.inl sv_at, .inl bv_at, .inl iv_at, .inl slv_at, .inl bv_at, .inl sv_at, trivial⟩), trivial⟩) rfl (fun _ => ?_)
      refine pull fun t236 h_t236 => ?_
      refine s_st (s_append h_t236 Tryd.underlying26 el_40 rfl (j := 4) rfl rfl) rfl (fun o237 => ?_)
      refine s_rd (r_faddr (fo := 1) Tryd.underlying29 rfl rfl Tryd.sizeOf26 rfl) rfl ?_
      refine s_st0 (s_cstore (out := [pv y129.1, pv o237.1, pv (.slice none 0 0)]) Tryd.sizeOf26 rfl (j := 2) rfl (part_own rfl (j := 4) rfl) rfl rfl rfl) (fun _ => ?_)
      refine l_nil (n_block (n_then (ref_region ?_)))
      refine mv1 rfl rfl ?_
      refine s_rd (r_sub rfl rfl) rfl ?_
      refine as1 rfl rfl ?_
      refine b_let (f := iv .i64) (t := 15) rfl fun k238 => ?_
      refine l_nil ?_
      exact goB o237 (weak [0, 1, 2, 3, 4] ⟨rfl, rfl, rfl, rfl, rfl, rfl, trivial⟩ ⟨rfl, rfl, rfl, rfl, rfl, trivial⟩)
    refine ref_exit (x_then ?_)
    exact brkB x213 (weak [0, 1, 2, 3, 4] ⟨rfl, rfl, rfl, rfl, trivial⟩ ⟨rfl, rfl, rfl, rfl, rfl, trivial⟩)
  refine n_then (ref_seq (ref_seq (ref_region ?_)))
  refine mv1 rfl rfl ?_
  refine pull fun k241 h_k241 => ?_
  refine s_st (s_callC [0] [true] (fun (_ : Unit) => [oc b_0 [slv (rI .i64) k241.2.L, iv .i64 k241.2.At]]) (fun (_ : Unit) => []) (fun (_ : Unit) => iv .i64 k241.1) (args := [.tmp 114, .const (.int .i64 (3))]) (caps := []) Tryd.call17 rfl (keep_Src_N_ok h_k241) ⟨rfl, rfl, trivial⟩ (fun _ => rfl) (fun _ => trivial) (fun _ => rfl) ⟨arg rfl, arg rfl, trivial⟩ (fun _ _ _ _ h => h)) rfl (fun _ => ?_)
  refine as1 rfl rfl ?_
  refine l_nil (n_then ?_)
  refine b_of (own_nil rT_api_Promotion) ?_
  refine ref_loopB (f := (keep_Src_Base_l4 n_1 q239)) (Γl := (fun (s284 : Int × T_deliberationkeep_Src × (List T_api_Promotion)) (x285 : (Value × List Nat)) => [(0, pv (ptr b_0 0)), (1, iv .i64 n_1), (8, pv (ptr b1 0)), (9, pv (ptr b2 0)), (17, iv .i64 s284.1)])) (Ωl := (fun (s284 : Int × T_deliberationkeep_Src × (List T_api_Promotion)) (x285 : (Value × List Nat)) => [oc b_0 [slv (rI .i64) s284.2.1.L, iv .i64 s284.2.1.At], oc b1 [pv (.slice none 0 0), pv (.slice none 0 0), pv (.slice none 0 0)], oc b2 [pv y129.1, pv y240.1, pv x285.1], oa rT_api_Premise y129.1 y129.2 q128.2, oa rT_api_Rule y240.1 y240.2 q239.2, oa rT_api_Promotion x285.1 x285.2 s284.2.2])) (Γb := (fun (q298 : T_deliberationkeep_Src × (List T_api_Promotion)) (y299 : (Value × List Nat)) => [(0, pv (ptr b_0 0)), (8, pv (ptr b1 0)), (9, pv (ptr b2 0))])) (Ωb := (fun (q298 : T_deliberationkeep_Src × (List T_api_Promotion)) (y299 : (Value × List Nat)) => [oc b_0 [slv (rI .i64) q298.1.L, iv .i64 q298.1.At], oc b1 [pv (.slice none 0 0), pv (.slice none 0 0), pv (.slice none 0 0)], oc b2 [pv y129.1, pv y240.1, pv y299.1], oa rT_api_Premise y129.1 y129.2 q128.2, oa rT_api_Rule y240.1 y240.2 q239.2, oa rT_api_Promotion y299.1 y299.2 q298.2])) (k241.1, k241.2, []) ((.slice none 0 0), []) (weak [0, 1, 2, 3, 4, 5] ⟨rfl, rfl, rfl, rfl, rfl, trivial⟩ ⟨rfl, rfl, rfl, rfl, rfl, rfl, trivial⟩) (fun s284 x285 => ?_) (fun q298 y299 => ?_)
  · unfold keep_Src_Base_l4
    refine ref_seq (ref_seq (ref_region ?_))
    refine mv1 rfl rfl ?_
    refine s_rd (r_gtr rfl rfl) rfl ?_
    refine mv1 rfl rfl ?_
    refine b_split (t := 118) rfl (fun _ => ?_) (fun _ => ?_)
    · refine s_on rfl rfl rfl ?_
      refine s_rd (r_faddr (fo := 1) Tryd.underlying29 rfl rfl Tryd.sizeOf26 rfl) rfl ?_
      refine s_on rfl rfl rfl ?_
      refine s_rd (r_cload Tryd.isAgg26 rfl (j := 2) rfl rfl) rfl ?_
      refine s_on rfl rfl rfl ?_
      refine s_rd (r_olen Tryd.underlying26 rfl (j := 4) rfl) rfl ?_
      refine s_on rfl rfl rfl ?_
      refine s_rd (r_gtr rfl rfl) rfl ?_
      refine s_rd (r_pickT rfl rfl) rfl ?_
      refine l_nil (n_then ?_)
      refine ref_cond rfl (fun hb286 => ?_) (fun hb286 => ?_)
      · refine ref_skip (n_then (ref_seq (ref_block (ref_seq ?_))))
        refine pull fun t288 h_t288 => ?_
        refine pull fun t289 h_t289 => ?_
        refine ref_drawI 1 [⟨[], [], [], [], [], fun us u => pv (ptr b2 1), fun us u => []⟩, ⟨[0], [], [], [2], [], fun us u => pv y240.1, fun us u => []⟩, ⟨[], [], [], [], [], fun us u => pv (ptr b_0 0), fun us u => []⟩, ⟨[], [], [], [], [], fun us u => pv (ptr b2 1), fun us u => []⟩, ⟨[3], [], [], [2], [], fun us u => pv y240.1, fun us u => []⟩, ⟨[3, 4], [], [], [4], [], fun us u => iv .i64 (q239.2.length : Int), fun us u => []⟩, ⟨[2, 3, 4, 5], [], [0], [0], [0], fun us u => iv .i64 t288.1, fun us u => [oc b_0 [slv (rI .i64) t288.2.L, iv .i64 t288.2.At]]⟩, ⟨[0, 1, 2, 3, 4, 5, 6], [], [], [4], [], fun us u => pv (elA y240.1 (rT_api_Rule).size t288.1), fun us u => []⟩, ⟨[0, 1, 2, 3, 4, 5, 6, 7], [], [], [4], [], fun us u => ag [sv t289.Name, bv t289.Strict, iv .i64 t289.Rank, slv rT_api_Literal t289.Body, bv t289.Head.Neg, sv t289.Head.Name], fun us u => []⟩, ⟨[], [], [6], [6], [], fun us u => pv (ptr u.Nn 0), fun us u => [oc u.Nn [sv ByteArray.empty, bv false, iv .i64 0, pv (.slice none 0 0), bv false, sv ByteArray.empty]]⟩, ⟨[0, 1, 2, 3, 4, 5, 6, 7, 8, 9], [9], [6], [6], [6], fun us u => pv undef, fun us u => [oc (us.getD 0 .none).Nn [sv t289.Name, bv t289.Strict, iv .i64 t289.Rank, slv rT_api_Literal t289.Body, bv t289.Head.Neg, sv t289.Head.Name]]⟩] (fun χ287 => [(0, pv (ptr b_0 0)), (1, iv .i64 n_1), (8, pv (ptr b1 0)), (9, pv (ptr b2 0)), (17, iv .i64 s284.1), (18, pv (ptr (χ287 9).Nn 0)), (119, pv (ptr b2 1)), (120, pv y240.1), (121, iv .i64 (q239.2.length : Int)), (122, bv (decide ((q239.2.length : Int) > 0)))]) (fun χ287 => [oc b_0 [slv (rI .i64) t288.2.L, iv .i64 t288.2.At], oc b1 [pv (.slice none 0 0), pv (.slice none 0 0), pv (.slice none 0 0)], oc b2 [pv y129.1, pv y240.1, pv x285.1], oa rT_api_Premise y129.1 y129.2 q128.2, oa rT_api_Rule y240.1 y240.2 q239.2, oa rT_api_Promotion x285.1 x285.2 s284.2.2, oc (χ287 9).Nn [sv t289.Name, bv t289.Strict, iv .i64 t289.Rank, slv rT_api_Literal t289.Body, bv t289.Head.Neg, sv t289.Head.Name]]) rfl (by kernel_rfl) ⟨fun χ287 Ω _ => St.toR (r_faddr (fo := 1) Tryd.underlying29 rfl rfl Tryd.sizeOf26 rfl) (fun _ => rfl) (fun _ => rfl), (by intro _ h; cases h; rfl), ⟨fun χ287 Ω ⟨h2, _⟩ => St.toR (r_cload Tryd.isAgg26 rfl (j := 2) h2 rfl) (fun _ => rfl) (fun _ => rfl), (by intro _ h; cases h; rfl), ⟨fun χ287 Ω _ => St.toR (r_move rfl) (fun _ => rfl) (fun _ => rfl), (by intro _ h; cases h; rfl), ⟨fun χ287 Ω _ => St.toR (r_faddr (fo := 1) Tryd.underlying29 rfl rfl Tryd.sizeOf26 rfl) (fun _ => rfl) (fun _ => rfl), (by intro _ h; cases h; rfl), ⟨fun χ287 Ω ⟨h2, _⟩ => St.toR (r_cload Tryd.isAgg26 rfl (j := 2) h2 rfl) (fun _ => rfl) (fun _ => rfl), (by intro _ h; cases h; rfl), ⟨fun χ287 Ω ⟨h4, _⟩ => St.toR (r_olen Tryd.underlying26 rfl (j := 4) h4) (fun _ => rfl) (fun _ => rfl), (by intro _ h; cases h; rfl), ⟨fun χ287 Ω ⟨h0, _⟩ => St.to XU.U XU.hU (St.placeL [] (s_callC [0] [true] (fun (_ : Unit) => [oc b_0 [slv (rI .i64) t288.2.L, iv .i64 t288.2.At]]) (fun (_ : Unit) => []) (fun (_ : Unit) => iv .i64 t288.1) (args := [.tmp 128, .tmp 131]) (caps := []) Tryd.call17 rfl (keep_Src_N_ok h_t288) ⟨h0, rfl, trivial⟩ (fun _ => rfl) (fun _ => trivial) (fun _ => rfl) ⟨arg rfl, arg rfl, trivial⟩ (fun _ _ _ _ h => h)) (fun _ => rfl) (fun _ => trivial)) (fun _ => rfl) (fun _ => rfl), (by intro _ h; cases h; rfl), ⟨fun χ287 Ω ⟨h4, _⟩ => St.toR (r_oindex h_t289 Tryd.underlying26 el_40 rfl (j := 4) h4 rfl) (fun _ => rfl) (fun _ => rfl), (by intro _ h; cases h; rfl), ⟨fun χ287 Ω ⟨h4, _⟩ => St.toR (r_oload h_t289 el_40 rfl (j := 4) h4) (fun _ => rfl) (fun _ => rfl), (by intro _ h; cases h; rfl), ⟨fun χ287 Ω ⟨h6, _⟩ => St.to XU.Nn XU.hN (St.placeL (os := fun _ => [_]) [6] (s_alloc zt_40) (fun _ => rfl) (fun _ => ⟨h6, rfl, trivial⟩)) (fun _ => rfl) (fun _ => rfl), (by intro _ h; cases h; rfl), ⟨fun χ287 Ω ⟨h6, _⟩ => St.to XU.U XU.hU (s_cstore (out := [sv t289.Name, bv t289.Strict, iv .i64 t289.Rank, slv rT_api_Literal t289.Body, bv t289.Head.Neg, sv t289.Head.Name]) Tryd.sizeOf40 rfl (j := 6) h6 (part_agO (ψs := [sv t289.Name, bv t289.Strict, iv .i64 t289.Rank, slv rT_api_Literal t289.Body, bv t289.Head.Neg, sv t289.Head.Name]) rfl ⟨.inl sv_at, .inl bv_at, .inl iv_at, .inl slv_at, .inl bv_at, .inl sv_at, trivial⟩) rfl rfl rfl) (fun _ => rfl) (fun _ => rfl), (by intro _ h; cases h), trivial⟩⟩⟩⟩⟩⟩⟩⟩⟩⟩⟩ (fun _ => ⟨rfl, rfl, rfl, rfl, rfl, rfl, rfl, rfl, rfl, rfl, trivial⟩) (fun _ => rfl) (fun χ287 => ?_)
        refine n_then (ref_seq (ref_region ?_))
        refine s_rd (r_faddr (fo := 1) Tryd.underlying40 rfl rfl Tryd.sizeOf4 rfl) rfl ?_
        refine s_rd (r_cload Tryd.isAgg4 rfl (j := 6) rfl rfl) rfl ?_
        refine s_rd (r_not rfl) rfl ?_
        refine l_nil (n_then ?_)
        refine ref_cond rfl (fun hb291 => ?_) (fun hb291 => ?_)
        · refine ref_draw [0, 1, 2, 3, 4, 6, 7, 9, 12] rfl (by kernel_rfl) (fun hok => ?_)
          refine a_rd (i := 0) hok rfl (by kernel_rfl) rfl (r_faddr (fo := 2) Tryd.underlying29 rfl rfl Tryd.sizeOf27 rfl) rfl ?_
          refine a_rd (i := 1) hok rfl (by kernel_rfl) rfl (r_cload Tryd.isAgg27 rfl (j := 2) rfl rfl) rfl ?_
          refine a_rd (i := 2) hok rfl (by kernel_rfl) rfl (r_faddr (fo := 0) Tryd.underlying40 rfl rfl Tryd.sizeOf9 rfl) rfl ?_
          refine a_rd (i := 3) hok rfl (by kernel_rfl) rfl (r_cload Tryd.isAgg9 rfl (j := 6) rfl rfl) rfl ?_
          refine a_rd (i := 4) hok rfl (by kernel_rfl) rfl (r_move rfl) rfl ?_
          refine a_rd (i := 6) hok rfl (by kernel_rfl) rfl (r_move rfl) rfl ?_
          refine a_rd (i := 7) hok rfl (by kernel_rfl) rfl (r_move rfl) rfl ?_
          refine pull fun t292 h_t292 => ?_
          refine a_next hok 5 [] (by kernel_rfl) ?_ trivial
          refine a_st (i := 5) hok rfl rfl (s_callC [0] [true] (fun (_ : Unit) => [oc b_0 [slv (rI .i64) t292.2.L, iv .i64 t292.2.At]]) (fun (_ : Unit) => []) (fun (_ : Unit) => iv .i64 t292.1) (args := [.tmp 142, .const (.int .i64 (10))]) (caps := []) Tryd.call17 rfl (keep_Src_N_ok h_t292) ⟨rfl, rfl, trivial⟩ (fun _ => rfl) (fun _ => trivial) (fun _ => rfl) ⟨arg rfl, arg rfl, trivial⟩ (fun _ _ _ _ h => h)) (by intro _ h; cases h; rfl) (fun _ => ⟨trivial, ⟨trivial, ⟨trivial, ⟨⟨⟨rfl, rfl⟩, trivial⟩, ⟨trivial, ⟨⟨⟨rfl, rfl⟩, trivial⟩, ⟨trivial, trivial⟩⟩⟩⟩⟩⟩⟩) (fun _ => ?_)
          refine pull fun t293 h_t293 => ?_
          refine a_next hok 8 [] (by kernel_rfl) ?_ trivial
          refine a_st (i := 8) hok rfl rfl (s_callC [0] [true] (fun (_ : Unit) => [oc b_0 [slv (rI .i64) t293.2.L, iv .i64 t293.2.At]]) (fun (_ : Unit) => []) (fun (_ : Unit) => ag [bv t293.1.Neg, sv t293.1.Name]) (args := [.tmp 144, .tmp 145]) (caps := []) Tryd.call9 rfl (keep_Src_Literal_ok h_t293) ⟨rfl, rfl, trivial⟩ (fun _ => rfl) (fun _ => trivial) (fun _ => rfl) ⟨arg rfl, arg rfl, trivial⟩ (fun _ _ _ _ h => h)) (by intro _ h; cases h; rfl) (fun _ => ⟨trivial, ⟨trivial, ⟨trivial, ⟨⟨⟨rfl, rfl⟩, trivial⟩, ⟨trivial, ⟨⟨⟨rfl, rfl⟩, trivial⟩, ⟨trivial, trivial⟩⟩⟩⟩⟩⟩⟩) (fun _ => ?_)
          refine a_rd (i := 9) hok rfl (by kernel_rfl) rfl (r_build (ps := [(0, .tmp 141), (1, .tmp 143), (2, .tmp 146)]) (rs := [(0, [sv t289.Name]), (1, [iv .i64 t292.1]), (2, [bv t293.1.Neg, sv t293.1.Name])]) st_59 zs_59 ⟨rfl, (part_at rfl sv_at), ⟨rfl, (part_at rfl iv_at), ⟨rfl, (part_agO (ψs := [bv t293.1.Neg, sv t293.1.Name]) rfl ⟨.inl bv_at, .inl sv_at, trivial⟩), trivial⟩⟩⟩ rfl rfl) rfl ?_
          refine a_next hok 10 [] (by kernel_rfl) ?_ trivial
          refine a_st (i := 10) hok rfl rfl (s_bslice (xs := [.tmp 147]) (ds := [(T_api_Promotion.mk t289.Name t292.1 t293.1)]) Tryd.underlying27 el_59 rfl (Nat.le_of_ble_eq_true rfl) ⟨(part_agO (ψs := [sv t289.Name, iv .i64 t292.1, bv t293.1.Neg, sv t293.1.Name]) rfl ⟨.inl sv_at, .inl iv_at, .inl bv_at, .inl sv_at, trivial⟩), trivial⟩) (by intro _ h; cases h; rfl) (fun _ => ⟨trivial, ⟨trivial, ⟨trivial, ⟨trivial, ⟨⟨⟨rfl, rfl⟩, trivial⟩, ⟨trivial, ⟨⟨⟨rfl, rfl⟩, trivial⟩, ⟨trivial, trivial⟩⟩⟩⟩⟩⟩⟩⟩) (fun _ => ?_)
          refine pull fun t294 h_t294 => ?_
          refine a_next hok 11 [] (by kernel_rfl) ?_ trivial
          refine a_st (i := 11) hok rfl rfl (s_append h_t294 Tryd.underlying27 el_59 rfl (j := 5) rfl rfl) (by intro _ h; cases h; rfl) (fun _ => ⟨trivial, ⟨trivial, ⟨trivial, ⟨trivial, ⟨⟨⟨rfl, rfl⟩, trivial⟩, ⟨trivial, ⟨trivial, ⟨trivial, trivial⟩⟩⟩⟩⟩⟩⟩⟩) (fun o295 => ?_)
          refine a_rd (i := 12) hok rfl (by kernel_rfl) rfl (r_faddr (fo := 2) Tryd.underlying29 rfl rfl Tryd.sizeOf27 rfl) rfl ?_
          refine a_next hok 13 [] (by kernel_rfl) ?_ trivial
          refine a_st (i := 13) hok rfl rfl (s_cstore (out := [pv y129.1, pv y240.1, pv o295.1]) Tryd.sizeOf27 rfl (j := 2) rfl (part_own rfl (j := 5) rfl) rfl rfl rfl) (by intro _ h; cases h) (fun _ => ⟨trivial, ⟨trivial, ⟨trivial, ⟨trivial, ⟨trivial, ⟨trivial, ⟨trivial, ⟨trivial, ⟨trivial, trivial⟩⟩⟩⟩⟩⟩⟩⟩⟩) (fun _ => ?_)
          refine a_fin hok (by kernel_rfl) ?_
          refine b_of (nrm [oc b_0 [slv (rI .i64) t293.2.L, iv .i64 t293.2.At], oc b1 [pv (.slice none 0 0), pv (.slice none 0 0), pv (.slice none 0 0)], oc b2 [pv y129.1, pv y240.1, pv o295.1], oa rT_api_Premise y129.1 y129.2 q128.2, oa rT_api_Rule y240.1 y240.2 q239.2, oa rT_api_Promotion o295.1 o295.2 t294, oc (χ287 9).Nn [sv t289.Name, bv t289.Strict, iv .i64 t289.Rank, slv rT_api_Literal t289.Body, bv t289.Head.Neg, sv t289.Head.Name]] rfl) ?_
          refine n_block (n_then (ref_region ?_))
          refine mv1 rfl rfl ?_
          refine s_rd (r_sub rfl rfl) rfl ?_
          refine as1 rfl rfl ?_
          refine b_let (f := iv .i64) (t := 17) rfl fun k296 => ?_
          refine l_nil ?_
          exact goB o295 (weak [0, 1, 2, 3, 4, 5] ⟨rfl, rfl, rfl, rfl, rfl, trivial⟩ ⟨rfl, rfl, rfl, rfl, rfl, rfl, trivial⟩)
        refine ref_skip (n_block (n_then (ref_region ?_)))
        refine mv1 rfl rfl ?_
        refine s_rd (r_sub rfl rfl) rfl ?_
        refine as1 rfl rfl ?_
        refine b_let (f := iv .i64) (t := 17) rfl fun k297 => ?_
        refine l_nil ?_
        exact goB x285 (weak [0, 1, 2, 3, 4, 5] ⟨rfl, rfl, rfl, rfl, rfl, trivial⟩ ⟨rfl, rfl, rfl, rfl, rfl, rfl, trivial⟩)
      refine ref_exit (x_then ?_)
      exact brkB x285 (weak [0, 1, 2, 3, 4, 5] ⟨rfl, rfl, rfl, trivial⟩ ⟨rfl, rfl, rfl, rfl, rfl, rfl, trivial⟩)
    refine s_off rfl rfl rfl rfl rfl ?_
    refine s_off rfl rfl rfl rfl rfl ?_
    refine s_off rfl rfl rfl rfl rfl ?_
    refine s_off rfl rfl rfl rfl rfl ?_
    refine s_rd (r_pickF rfl rfl) rfl ?_
    refine l_nil (n_then ?_)
    refine ref_condF rfl rfl ?_
    refine ref_exit (x_then ?_)
    exact brkB x285 (weak [0, 1, 2, 3, 4, 5] ⟨rfl, rfl, rfl, trivial⟩ ⟨rfl, rfl, rfl, rfl, rfl, rfl, trivial⟩)
  refine n_then (ref_seq (ref_region ?_))
  refine s_rd (r_cloadS Tryd.isAgg29 Tryd.sizeOf29 rfl (j := 2) rfl rfl rfl) rfl ?_
  refine s_st0 (s_cstore (out := [pv y129.1, pv y240.1, pv y299.1]) Tryd.sizeOf29 rfl (j := 1) rfl (part_agO (ψs := [pv y129.1, pv y240.1, pv y299.1]) rfl ⟨.inr ⟨_, _, _, _, _, 3, rfl, rfl⟩, .inr ⟨_, _, _, _, _, 4, rfl, rfl⟩, .inr ⟨_, _, _, _, _, 5, rfl, rfl⟩, trivial⟩) rfl rfl rfl) (fun _ => ?_)
  refine l_nil (n_then (ref_ret ?_))
  refine b_of (frzGL [(151, ag [slv rT_api_Premise q128.2, pv y240.1, pv y299.1])] [(1, b1, [slv rT_api_Premise q128.2, pv y240.1, pv y299.1]), (2, b2, [slv rT_api_Premise q128.2, pv y240.1, pv y299.1])] (j := 3) rfl ⟨⟨_, rfl, .inr ⟨_, _, rfl, rfl, ⟨.inr ⟨rfl, rfl⟩, .inl rfl, .inl rfl, trivial⟩⟩⟩, trivial⟩ ⟨⟨_, rfl, ⟨.inr ⟨rfl, rfl⟩, .inl rfl, .inl rfl, trivial⟩⟩, ⟨_, rfl, ⟨.inr ⟨rfl, rfl⟩, .inl rfl, .inl rfl, trivial⟩⟩, trivial⟩) ?_
  refine b_of (nrm [oc b_0 [slv (rI .i64) q298.1.L, iv .i64 q298.1.At], oc b1 [slv rT_api_Premise q128.2, pv y240.1, pv y299.1], oc b2 [slv rT_api_Premise q128.2, pv y240.1, pv y299.1], dead, oa rT_api_Rule y240.1 y240.2 q239.2, oa rT_api_Promotion y299.1 y299.2 q298.2] rfl) ?_
  refine b_of (frzGL [(151, ag [slv rT_api_Premise q128.2, pv y240.1, slv rT_api_Promotion q298.2])] [(1, b1, [slv rT_api_Premise q128.2, pv y240.1, slv rT_api_Promotion q298.2]), (2, b2, [slv rT_api_Premise q128.2, pv y240.1, slv rT_api_Promotion q298.2])] (j := 5) rfl ⟨⟨_, rfl, .inr ⟨_, _, rfl, rfl, ⟨.inl rfl, .inl rfl, .inr ⟨rfl, rfl⟩, trivial⟩⟩⟩, trivial⟩ ⟨⟨_, rfl, ⟨.inl rfl, .inl rfl, .inr ⟨rfl, rfl⟩, trivial⟩⟩, ⟨_, rfl, ⟨.inl rfl, .inl rfl, .inr ⟨rfl, rfl⟩, trivial⟩⟩, trivial⟩) ?_
  refine b_of (nrm [oc b_0 [slv (rI .i64) q298.1.L, iv .i64 q298.1.At], oc b1 [slv rT_api_Premise q128.2, pv y240.1, slv rT_api_Promotion q298.2], oc b2 [slv rT_api_Premise q128.2, pv y240.1, slv rT_api_Promotion q298.2], dead, oa rT_api_Rule y240.1 y240.2 q239.2, dead] rfl) ?_
  exact fin1 (.inl rfl) y240 [0, 4] rfl ⟨rfl, rfl, trivial⟩ rfl (rv_cell rfl (j := 1) rfl Tryd.isAgg29 Tryd.sizeOf29 rfl rfl)

/-! slices.Clone[[]deliberation/api.Literal,deliberation/api.Literal] -/
def slices_Clone_api_Literal_api_Literal_m (d_0 : List T_api_Literal) : Option (List T_api_Literal) := appM 24 [] d_0

theorem slices_Clone_api_Literal_api_Literal_ok {d_0 r : List T_api_Literal} (hm : slices_Clone_api_Literal_api_Literal_m d_0 = some r) : FnOk prog 40 [slv rT_api_Literal d_0] [] (fun (x : Value × List Nat) => [pv x.1]) (fun (x : Value × List Nat) => [oa rT_api_Literal x.1 x.2 r]) := by
  have hm' : appM 24 [] d_0 = some r := hm
  have hr : r = d_0 := by have := (appM_some hm').2; simpa using this
  subst hr
  refine fn_ok (X := Value × List Nat) (fn := Tryd.f40) (N := 8) (m := some ()) (r := ()) (res := fun _ x => [pv x.1]) (Ω1 := fun _ x => [oa rT_api_Literal x.1 x.2 r]) Tryd.func40 rfl rfl rfl rfl (fun E hM => ?_)
  refine ref_seq ?_
  refine ref_region ?_
  refine s_rd (r_assign rfl) rfl ?_
  refine l_nil ?_
  refine n_then ?_
  refine ref_seq ?_
  refine ref_seq ?_
  refine ref_region ?_
  refine s_rd (r_move rfl) rfl ?_
  refine s_st (s_isnil Tryd.underlying31 rfl) rfl (fun b => ?_)
  refine l_nil ?_
  refine n_then ?_
  refine ref_condE (b := b.1) rfl (fun hb => ?_) (fun hb => ?_)
  · refine ref_seq ?_
    refine ref_region ?_
    refine s_rd (r_assign rfl) rfl ?_
    refine l_nil ?_
    refine n_then ?_
    refine ref_ret ?_
    refine r_then ?_
    have hd := b.2 hb
    subst hd
    refine b_of (own_nil rT_api_Literal) ?_
    exact fin1 (.inl rfl) (.slice none 0 0, []) [0] rfl ⟨rfl, trivial⟩ rfl (rv_tmp rfl)
  · refine ref_skip ?_
    refine n_then ?_
    refine ref_seq ?_
    refine ref_region ?_
    refine s_st (s_bsliceO (xs := []) (ds := []) Tryd.underlying31 el_35 rfl (Nat.le_of_ble_eq_true rfl) trivial) rfl (fun o => ?_)
    refine s_rd (r_move rfl) rfl ?_
    refine s_st (s_append hm' Tryd.underlying31 el_35 rfl (j := 0) rfl rfl) rfl (fun o2 => ?_)
    refine s_rd (r_assign rfl) rfl ?_
    refine l_nil ?_
    refine n_then ?_
    refine ref_ret ?_
    exact fin1 (.inl rfl) o2 [0] rfl ⟨rfl, trivial⟩ rfl (rv_tmp rfl)

/-! cmp.isNaN[string] -/
noncomputable def cmp_isNaN_string_m (x_0 : ByteArray) : Option (Bool) :=
  letM (!(x_0.toList == x_0.toList)) fun t1 =>
  some t1

theorem cmp_isNaN_string_ok {x_0 : ByteArray} {r : Bool} (hm : cmp_isNaN_string_m x_0 = some r) :
    FnOk prog 84 [sv x_0] [] (fun (x : Unit) => [bv r]) (fun (x : Unit) => []) := by
  refine fn_ok (fn := Tryd.f84) (N := 6) (res := fun r x => [bv r]) (Ω1 := fun r x => []) Tryd.func84 rfl rfl hm rfl (fun E hM => ?_)
  unfold cmp_isNaN_string_m
  refine ref_seq (ref_region ?_)
  refine as1 rfl rfl ?_
  refine l_nil (n_then (ref_seq (ref_region ?_)))
  refine mv1 rfl rfl ?_
  refine mv1 rfl rfl ?_
  refine s_rd (r_sneq rfl rfl) rfl ?_
  refine as1 rfl rfl ?_
  refine b_let (f := bv) (t := 2) rfl fun t1 => ?_
  refine l_nil (n_then (ref_ret ?_))
  exact fin1 (.inl rfl) () [] rfl trivial rfl (rv_tmp rfl)

/-! cmp.Compare[string] -/
noncomputable def cmp_Compare_string_m (x_0 : ByteArray) (y_1 : ByteArray) : Option (Int) :=
  Option.bind (cmp_isNaN_string_m x_0) fun xNaN1 =>
  Option.bind (cmp_isNaN_string_m y_1) fun yNaN2 =>
  bif xNaN1 then
    bif yNaN2 then
      some 0
    else
      some (-1)
  else
    bif yNaN2 then
      some 1
    else
      bif Op.bytesLess x_0.toList y_1.toList then
        some (-1)
      else
        bif !(Op.bytesLess x_0.toList y_1.toList || x_0.toList == y_1.toList) then
          some 1
        else
          some 0

theorem cmp_Compare_string_ok {x_0 : ByteArray} {y_1 : ByteArray} {r : Int} (hm : cmp_Compare_string_m x_0 y_1 = some r) :
    FnOk prog 64 [sv x_0, sv y_1] [] (fun (x : Unit) => [iv .i64 r]) (fun (x : Unit) => []) := by
  refine fn_ok (fn := Tryd.f64) (N := 20) (res := fun r x => [iv .i64 r]) (Ω1 := fun r x => []) Tryd.func64 rfl rfl hm rfl (fun E hM => ?_)
  unfold cmp_Compare_string_m
  refine ref_seq (ref_region ?_)
  refine as1 rfl rfl ?_
  refine l_nil (n_then (ref_seq (ref_region ?_)))
  refine mv1 rfl rfl ?_
  refine pull fun xNaN1 h_xNaN1 => ?_
  refine s_st (s_call (ψ := fun (_ : Unit) => bv xNaN1) (args := [.tmp 7]) Tryd.call84 rfl (cmp_isNaN_string_ok h_xNaN1) ⟨arg rfl, trivial⟩ (fun _ _ _ _ h => h)) rfl (fun _ => ?_)
  refine as1 rfl rfl ?_
  refine l_nil (n_then (ref_seq (ref_region ?_)))
  refine mv1 rfl rfl ?_
  refine pull fun yNaN2 h_yNaN2 => ?_
  refine s_st (s_call (ψ := fun (_ : Unit) => bv yNaN2) (args := [.tmp 9]) Tryd.call84 rfl (cmp_isNaN_string_ok h_yNaN2) ⟨arg rfl, trivial⟩ (fun _ _ _ _ h => h)) rfl (fun _ => ?_)
  refine as1 rfl rfl ?_
  refine l_nil (n_then (ref_seq (ref_seq (ref_region ?_))))
  refine mv1 rfl rfl ?_
  refine l_nil (n_then ?_)
  refine ref_cond rfl (fun hb3 => ?_) (fun hb3 => ?_)
  · refine ref_seq (ref_seq (ref_region ?_))
    refine mv1 rfl rfl ?_
    refine l_nil (n_then ?_)
    refine ref_cond rfl (fun hb4 => ?_) (fun hb4 => ?_)
    · refine ref_seq (ref_region ?_)
      refine as1 rfl rfl ?_
      refine l_nil (n_then (ref_ret (r_then (r_then ?_))))
      exact fin1 (.inl rfl) () [] rfl trivial rfl (rv_tmp rfl)
    refine ref_skip (n_then (ref_seq (ref_region ?_)))
    refine as1 rfl rfl ?_
    refine l_nil (n_then (ref_ret (r_then ?_)))
    exact fin1 (.inl rfl) () [] rfl trivial rfl (rv_tmp rfl)
  refine ref_skip (n_then (ref_seq (ref_seq (ref_region ?_))))
  refine mv1 rfl rfl ?_
  refine l_nil (n_then ?_)
  refine ref_cond rfl (fun hb5 => ?_) (fun hb5 => ?_)
  · refine ref_seq (ref_region ?_)
    refine as1 rfl rfl ?_
    refine l_nil (n_then (ref_ret (r_then ?_)))
    exact fin1 (.inl rfl) () [] rfl trivial rfl (rv_tmp rfl)
  refine ref_skip (n_then (ref_seq (ref_seq (ref_region ?_))))
  refine mv1 rfl rfl ?_
  refine mv1 rfl rfl ?_
  refine s_rd (r_slss rfl rfl) rfl ?_
  refine l_nil (n_then ?_)
  refine ref_cond rfl (fun hb6 => ?_) (fun hb6 => ?_)
  · refine ref_seq (ref_region ?_)
    refine as1 rfl rfl ?_
    refine l_nil (n_then (ref_ret (r_then ?_)))
    exact fin1 (.inl rfl) () [] rfl trivial rfl (rv_tmp rfl)
  refine ref_skip (n_then (ref_seq (ref_seq (ref_region ?_))))
  refine mv1 rfl rfl ?_
  refine mv1 rfl rfl ?_
  refine s_rd (r_sgtr rfl rfl) rfl ?_
  refine l_nil (n_then ?_)
  refine ref_cond rfl (fun hb7 => ?_) (fun hb7 => ?_)
  · refine ref_seq (ref_region ?_)
    refine as1 rfl rfl ?_
    refine l_nil (n_then (ref_ret (r_then ?_)))
    exact fin1 (.inl rfl) () [] rfl trivial rfl (rv_tmp rfl)
  refine ref_skip (n_then (ref_seq (ref_region ?_)))
  refine as1 rfl rfl ?_
  refine l_nil (n_then (ref_ret ?_))
  exact fin1 (.inl rfl) () [] rfl trivial rfl (rv_tmp rfl)

/-! deliberation/literal.Compare -/
noncomputable def literal_Compare_m (a__0 : T_api_Literal) (b_1 : T_api_Literal) : Option (Int) :=
  Option.bind (cmp_Compare_string_m a__0.Name b_1.Name) fun c3 =>
  bif c3 != 0 then
    some c3
  else
    bif a__0.Neg == b_1.Neg then
      some c3
    else
      bif b_1.Neg then
        some (-1)
      else
        some 1

theorem literal_Compare_ok {a__0 : T_api_Literal} {b_1 : T_api_Literal} {r : Int} (hm : literal_Compare_m a__0 b_1 = some r) :
    FnOk prog 42 [ag [bv a__0.Neg, sv a__0.Name], ag [bv b_1.Neg, sv b_1.Name]] [] (fun (x : Unit) => [iv .i64 r]) (fun (x : Unit) => []) := by
  refine fn_ok (fn := Tryd.f42) (N := 23) (res := fun r x => [iv .i64 r]) (Ω1 := fun r x => []) Tryd.func42 rfl rfl hm rfl (fun E hM => ?_)
  unfold literal_Compare_m
  refine ref_seq (ref_region ?_)
  refine s_st (s_box (part_agO (ψs := [bv a__0.Neg, sv a__0.Name]) rfl ⟨.inl bv_at, .inl sv_at, trivial⟩)) rfl (fun b1 => ?_)
  refine s_st (s_box (part_agO (ψs := [bv b_1.Neg, sv b_1.Name]) rfl ⟨.inl bv_at, .inl sv_at, trivial⟩)) rfl (fun b2 => ?_)
  refine as1 rfl rfl ?_
  refine l_nil (n_then (ref_seq (ref_seq (ref_region ?_))))
  refine s_rd (r_faddr (fo := 1) Tryd.underlying35 rfl rfl Tryd.sizeOf9 rfl) rfl ?_
  refine s_rd (r_cload Tryd.isAgg9 rfl (j := 0) rfl rfl) rfl ?_
  refine s_rd (r_faddr (fo := 1) Tryd.underlying35 rfl rfl Tryd.sizeOf9 rfl) rfl ?_
  refine s_rd (r_cload Tryd.isAgg9 rfl (j := 1) rfl rfl) rfl ?_
  refine pull fun c3 h_c3 => ?_
  refine s_st (s_call (ψ := fun (_ : Unit) => iv .i64 c3) (args := [.tmp 7, .tmp 9]) Tryd.call64 rfl (cmp_Compare_string_ok h_c3) ⟨arg rfl, arg rfl, trivial⟩ (fun _ _ _ _ h => h)) rfl (fun _ => ?_)
  refine as1 rfl rfl ?_
  refine l_nil (n_then (ref_seq (ref_region ?_)))
  refine mv1 rfl rfl ?_
  refine s_rd (r_neq rfl rfl) rfl ?_
  refine mv1 rfl rfl ?_
  refine b_split (t := 13) rfl (fun _ => ?_) (fun _ => ?_)
  · refine s_off rfl rfl rfl rfl rfl ?_
    refine s_off rfl rfl rfl rfl rfl ?_
    refine s_off rfl rfl rfl rfl rfl ?_
    refine s_off rfl rfl rfl rfl rfl ?_
    refine s_off rfl rfl rfl rfl rfl ?_
    refine s_rd (r_pickT rfl rfl) rfl ?_
    refine l_nil (n_then ?_)
    refine ref_condT rfl rfl ?_
    refine ref_seq (ref_region ?_)
    refine mv1 rfl rfl ?_
    refine as1 rfl rfl ?_
    refine l_nil (n_then (ref_ret (r_then ?_)))
    exact fin1 (.inl rfl) () [] rfl trivial rfl (rv_tmp rfl)
  refine s_on rfl rfl rfl ?_
  refine s_rd (r_faddr (fo := 0) Tryd.underlying35 rfl rfl Tryd.sizeOf4 rfl) rfl ?_
  refine s_on rfl rfl rfl ?_
  refine s_rd (r_cload Tryd.isAgg4 rfl (j := 0) rfl rfl) rfl ?_
  refine s_on rfl rfl rfl ?_
  refine s_rd (r_faddr (fo := 0) Tryd.underlying35 rfl rfl Tryd.sizeOf4 rfl) rfl ?_
  refine s_on rfl rfl rfl ?_
  refine s_rd (r_cload Tryd.isAgg4 rfl (j := 1) rfl rfl) rfl ?_
  refine s_on rfl rfl rfl ?_
  refine s_rd (r_beql Tryd.underlying4 rfl rfl) rfl ?_
  refine s_rd (r_pickF rfl rfl) rfl ?_
  refine l_nil (n_then ?_)
  refine ref_cond rfl (fun hb4 => ?_) (fun hb4 => ?_)
  · refine ref_seq (ref_region ?_)
    refine mv1 rfl rfl ?_
    refine as1 rfl rfl ?_
    refine l_nil (n_then (ref_ret (r_then ?_)))
    exact fin1 (.inl rfl) () [] rfl trivial rfl (rv_tmp rfl)
  refine ref_skip (n_then (ref_seq (ref_seq (ref_region ?_))))
  refine s_rd (r_faddr (fo := 0) Tryd.underlying35 rfl rfl Tryd.sizeOf4 rfl) rfl ?_
  refine s_rd (r_cload Tryd.isAgg4 rfl (j := 1) rfl rfl) rfl ?_
  refine l_nil (n_then ?_)
  refine ref_cond rfl (fun hb5 => ?_) (fun hb5 => ?_)
  · refine ref_seq (ref_region ?_)
    refine as1 rfl rfl ?_
    refine l_nil (n_then (ref_ret (r_then ?_)))
    exact fin1 (.inl rfl) () [] rfl trivial rfl (rv_tmp rfl)
  refine ref_skip (n_then (ref_seq (ref_region ?_)))
  refine as1 rfl rfl ?_
  refine l_nil (n_then (ref_ret ?_))
  exact fin1 (.inl rfl) () [] rfl trivial rfl (rv_tmp rfl)

/-! math/bits.Len64 -/
noncomputable def math_bits_Len64_m (x_0 : Int) : Option (Int) :=
  joinM (fun j3 : Int × Int =>
      joinM (fun j9 : Int × Int =>
          joinM (fun j15 : Int × Int =>
              Option.bind (sidxM (ByteArray.mk #[0, 1, 2, 2, 3, 3, 3, 3, 4, 4, 4, 4, 4, 4, 4, 4, 5, 5, 5, 5, 5, 5, 5, 5, 5, 5, 5, 5, 5, 5, 5, 5, 6, 6, 6, 6, 6, 6, 6, 6, 6, 6, 6, 6, 6, 6, 6, 6, 6, 6, 6, 6, 6, 6, 6, 6, 6, 6, 6, 6, 6, 6, 6, 6, 7, 7, 7, 7, 7, 7, 7, 7, 7, 7, 7, 7, 7, 7, 7, 7, 7, 7, 7, 7, 7, 7, 7, 7, 7, 7, 7, 7, 7, 7, 7, 7, 7, 7, 7, 7, 7, 7, 7, 7, 7, 7, 7, 7, 7, 7, 7, 7, 7, 7, 7, 7, 7, 7, 7, 7, 7, 7, 7, 7, 7, 7, 7, 7, 8, 8, 8, 8, 8, 8, 8, 8, 8, 8, 8, 8, 8, 8, 8, 8, 8, 8, 8, 8, 8, 8, 8, 8, 8, 8, 8, 8, 8, 8, 8, 8, 8, 8, 8, 8, 8, 8, 8, 8, 8, 8, 8, 8, 8, 8, 8, 8, 8, 8, 8, 8, 8, 8, 8, 8, 8, 8, 8, 8, 8, 8, 8, 8, 8, 8, 8, 8, 8, 8, 8, 8, 8, 8, 8, 8, 8, 8, 8, 8, 8, 8, 8, 8, 8, 8, 8, 8, 8, 8, 8, 8, 8, 8, 8, 8, 8, 8, 8, 8, 8, 8, 8, 8, 8, 8, 8, 8, 8, 8, 8, 8, 8, 8, 8, 8, 8, 8, 8, 8, 8, 8, 8, 8, 8, 8, 8, 8]) (IntKind.wrap .u8 j15.1)) fun t18 =>
              letM (iadd .i64 j15.2 (IntKind.wrap .i64 t18)) fun n19 =>
              some n19) fun k17 =>
          bif decide (j9.1 ≥ 256) then
            letM (ishr .u64 j9.1 8) fun x13 =>
            letM (iadd .i64 j9.2 8) fun n14 =>
            k17 (x13, n14)
          else
            k17 (j9.1, j9.2)) fun k11 =>
      bif decide (j3.1 ≥ 65536) then
        letM (ishr .u64 j3.1 16) fun x7 =>
        letM (iadd .i64 j3.2 16) fun n8 =>
        k11 (x7, n8)
      else
        k11 (j3.1, j3.2)) fun k5 =>
  bif decide (x_0 ≥ 4294967296) then
    letM (ishr .u64 x_0 32) fun x2 =>
    k5 (x2, 32)
  else
    k5 (x_0, 0)

theorem math_bits_Len64_ok {x_0 : Int} {r : Int} (hm : math_bits_Len64_m x_0 = some r) :
    FnOk prog 83 [iv .u64 x_0] [] (fun (x : Unit) => [iv .i64 r]) (fun (x : Unit) => []) := by
  refine fn_ok (fn := Tryd.f83) (N := 25) (res := fun r x => [iv .i64 r]) (Ω1 := fun r x => []) Tryd.func83 rfl rfl hm rfl (fun E hM => ?_)
  unfold math_bits_Len64_m
  refine ref_seq (ref_region ?_)
  refine as1 rfl rfl ?_
  refine l_nil (n_then (ref_seq ?_))
  refine ref_join (fun (j3 : Int × Int) (x4 : Unit) => [(0, iv .u64 j3.1), (2, iv .i64 j3.2)]) (fun (j3 : Int × Int) (x4 : Unit) => []) (fun k5 hk5 => ?_) (fun j3 x4 => ?_)
  · refine ref_seq (ref_region ?_)
    refine mv1 rfl rfl ?_
    refine s_rd (r_geq rfl rfl) rfl ?_
    refine l_nil (n_then ?_)
    refine ref_cond rfl (fun hb1 => ?_) (fun hb1 => ?_)
    · refine ref_seq (ref_region ?_)
      refine mv1 rfl rfl ?_
      refine s_rd (r_shr rfl rfl (by decide)) rfl ?_
      refine as1 rfl rfl ?_
      refine b_let (f := iv .u64) (t := 0) rfl fun x2 => ?_
      refine l_nil (n_then (ref_region ?_))
      refine as1 rfl rfl ?_
      refine l_nil ?_
      exact b_to (hk5 (x2, 32) ()) (weak [] ⟨rfl, rfl, trivial⟩ trivial)
    refine ref_skip ?_
    exact b_to (hk5 (x_0, 0) ()) (weak [] ⟨rfl, rfl, trivial⟩ trivial)
  refine n_then (ref_seq ?_)
  refine ref_join (fun (j9 : Int × Int) (x10 : Unit) => [(0, iv .u64 j9.1), (2, iv .i64 j9.2)]) (fun (j9 : Int × Int) (x10 : Unit) => []) (fun k11 hk11 => ?_) (fun j9 x10 => ?_)
  · refine ref_seq (ref_region ?_)
    refine mv1 rfl rfl ?_
    refine s_rd (r_geq rfl rfl) rfl ?_
    refine l_nil (n_then ?_)
    refine ref_cond rfl (fun hb6 => ?_) (fun hb6 => ?_)
    · refine ref_seq (ref_region ?_)
      refine mv1 rfl rfl ?_
      refine s_rd (r_shr rfl rfl (by decide)) rfl ?_
      refine as1 rfl rfl ?_
      refine b_let (f := iv .u64) (t := 0) rfl fun x7 => ?_
      refine l_nil (n_then (ref_region ?_))
      refine mv1 rfl rfl ?_
      refine s_rd (r_add rfl rfl) rfl ?_
      refine as1 rfl rfl ?_
      refine b_let (f := iv .i64) (t := 2) rfl fun n8 => ?_
      refine l_nil ?_
      exact b_to (hk11 (x7, n8) ()) (weak [] ⟨rfl, rfl, trivial⟩ trivial)
    refine ref_skip ?_
    exact b_to (hk11 (j3.1, j3.2) ()) (weak [] ⟨rfl, rfl, trivial⟩ trivial)
  refine n_then (ref_seq ?_)
  refine ref_join (fun (j15 : Int × Int) (x16 : Unit) => [(0, iv .u64 j15.1), (2, iv .i64 j15.2)]) (fun (j15 : Int × Int) (x16 : Unit) => []) (fun k17 hk17 => ?_) (fun j15 x16 => ?_)
  · refine ref_seq (ref_region ?_)
    refine mv1 rfl rfl ?_
    refine s_rd (r_geq rfl rfl) rfl ?_
    refine l_nil (n_then ?_)
    refine ref_cond rfl (fun hb12 => ?_) (fun hb12 => ?_)
    · refine ref_seq (ref_region ?_)
      refine mv1 rfl rfl ?_
      refine s_rd (r_shr rfl rfl (by decide)) rfl ?_
      refine as1 rfl rfl ?_
      refine b_let (f := iv .u64) (t := 0) rfl fun x13 => ?_
      refine l_nil (n_then (ref_region ?_))
      refine mv1 rfl rfl ?_
      refine s_rd (r_add rfl rfl) rfl ?_
      refine as1 rfl rfl ?_
      refine b_let (f := iv .i64) (t := 2) rfl fun n14 => ?_
      refine l_nil ?_
      exact b_to (hk17 (x13, n14) ()) (weak [] ⟨rfl, rfl, trivial⟩ trivial)
    refine ref_skip ?_
    exact b_to (hk17 (j9.1, j9.2) ()) (weak [] ⟨rfl, rfl, trivial⟩ trivial)
  refine n_then (ref_seq (ref_region ?_))
  refine mv1 rfl rfl ?_
  refine mv1 rfl rfl ?_
  refine s_rd (r_conv (k' := .u8) rfl rfl rfl) rfl ?_
  refine pull fun t18 h_t18 => ?_
  refine s_rd (r_sidx h_t18 Tryd.underlying9 rfl rfl) rfl ?_
  refine s_rd (r_conv (k' := .i64) rfl rfl rfl) rfl ?_
  refine s_rd (r_add rfl rfl) rfl ?_
  refine as1 rfl rfl ?_
  refine b_let (f := iv .i64) (t := 2) rfl fun n19 => ?_
  refine l_nil (n_then (ref_ret ?_))
  exact fin1 (.inl rfl) () [] rfl trivial rfl (rv_tmp rfl)

/-! math/bits.Len -/
noncomputable def math_bits_Len_m (x_0 : Int) : Option (Int) :=
  Option.bind (math_bits_Len64_m x_0) fun t1 =>
  some t1

theorem math_bits_Len_ok {x_0 : Int} {r : Int} (hm : math_bits_Len_m x_0 = some r) :
    FnOk prog 63 [iv .u64 x_0] [] (fun (x : Unit) => [iv .i64 r]) (fun (x : Unit) => []) := by
  refine fn_ok (fn := Tryd.f63) (N := 8) (res := fun r x => [iv .i64 r]) (Ω1 := fun r x => []) Tryd.func63 rfl rfl hm rfl (fun E hM => ?_)
  unfold math_bits_Len_m
  refine ref_seq (ref_region ?_)
  refine as1 rfl rfl ?_
  refine l_nil (n_then (ref_seq ?_))
  refine ref_condF rfl rfl ?_
  refine ref_skip (n_then (ref_seq (ref_region ?_)))
  refine mv1 rfl rfl ?_
  refine pull fun t1 h_t1 => ?_
  refine s_st (s_call (ψ := fun (_ : Unit) => iv .i64 t1) (args := [.tmp 6]) Tryd.call83 rfl (math_bits_Len64_ok h_t1) ⟨arg rfl, trivial⟩ (fun _ _ _ _ h => h)) rfl (fun _ => ?_)
  refine as1 rfl rfl ?_
  refine l_nil (n_then (ref_ret ?_))
  exact fin1 (.inl rfl) () [] rfl trivial rfl (rv_tmp rfl)

/-! slices.nextPowerOfTwo -/
noncomputable def slices_nextPowerOfTwo_m (length_0 : Int) : Option (Int) :=
  Option.bind (math_bits_Len_m (IntKind.wrap .u64 length_0)) fun t1 =>
  Option.bind (ishlM .u64 1 t1) fun t2 =>
  some t2

theorem slices_nextPowerOfTwo_ok {length_0 : Int} {r : Int} (hm : slices_nextPowerOfTwo_m length_0 = some r) :
    FnOk prog 88 [iv .i64 length_0] [] (fun (x : Unit) => [iv .u64 r]) (fun (x : Unit) => []) := by
  refine fn_ok (fn := Tryd.f88) (N := 7) (res := fun r x => [iv .u64 r]) (Ω1 := fun r x => []) Tryd.func88 rfl rfl hm rfl (fun E hM => ?_)
  unfold slices_nextPowerOfTwo_m
  refine ref_seq (ref_region ?_)
  refine as1 rfl rfl ?_
  refine l_nil (n_then (ref_seq (ref_region ?_)))
  refine mv1 rfl rfl ?_
  refine s_rd (r_conv (k' := .u64) rfl rfl rfl) rfl ?_
  refine pull fun t1 h_t1 => ?_
  refine s_st (s_call (ψ := fun (_ : Unit) => iv .i64 t1) (args := [.tmp 4]) Tryd.call63 rfl (math_bits_Len_ok h_t1) ⟨arg rfl, trivial⟩ (fun _ _ _ _ h => h)) rfl (fun _ => ?_)
  refine pull fun t2 h_t2 => ?_
  refine s_rd (r_shlM h_t2 rfl rfl) rfl ?_
  refine as1 rfl rfl ?_
  refine l_nil (n_then (ref_ret ?_))
  exact fin1 (.inl rfl) () [] rfl trivial rfl (rv_tmp rfl)

/-! (*slices.xorshift).Next -/
noncomputable def slices_xorshift_Next_m (r__0 : Int) : Option (Int × Int) :=
  letM (ixor .u64 (ixor .u64 (ixor .u64 r__0 (ishl .u64 r__0 13)) (ishr .u64 (ixor .u64 r__0 (ishl .u64 r__0 13)) 7)) (ishl .u64 (ixor .u64 (ixor .u64 r__0 (ishl .u64 r__0 13)) (ishr .u64 (ixor .u64 r__0 (ishl .u64 r__0 13)) 7)) 17)) fun t1 =>
  some (t1, ixor .u64 (ixor .u64 (ixor .u64 r__0 (ishl .u64 r__0 13)) (ishr .u64 (ixor .u64 r__0 (ishl .u64 r__0 13)) 7)) (ishl .u64 (ixor .u64 (ixor .u64 r__0 (ishl .u64 r__0 13)) (ishr .u64 (ixor .u64 r__0 (ishl .u64 r__0 13)) 7)) 17))

theorem slices_xorshift_Next_ok {r__0 : Int} {b_0 : Nat} {r : Int × Int} (hm : slices_xorshift_Next_m r__0 = some r) :
    FnOk prog 89 [pv (ptr b_0 0)] [oc b_0 [iv .u64 r__0]] (fun (x : Unit) => [iv .u64 r.1]) (fun (x : Unit) => [oc b_0 [iv .u64 r.2]]) := by
  refine fn_ok (fn := Tryd.f89) (N := 33) (res := fun r x => [iv .u64 r.1]) (Ω1 := fun r x => [oc b_0 [iv .u64 r.2]]) Tryd.func89 rfl rfl hm rfl (fun E hM => ?_)
  unfold slices_xorshift_Next_m
  refine ref_seq (ref_region ?_)
  refine as1 rfl rfl ?_
  refine l_nil (n_then (ref_seq ?_))
  refine ref_draw [0, 1, 2, 3, 4, 5, 6, 7, 8] rfl (by kernel_rfl) (fun hok => ?_)
  refine a_rd (i := 0) hok rfl (by kernel_rfl) rfl (r_move rfl) rfl ?_
  refine a_rd (i := 1) hok rfl (by kernel_rfl) rfl (r_nilc rfl) rfl ?_
  refine a_rd (i := 2) hok rfl (by kernel_rfl) rfl (r_cload Tryd.isAgg116 rfl (j := 0) rfl rfl) rfl ?_
  refine a_rd (i := 3) hok rfl (by kernel_rfl) rfl (r_move rfl) rfl ?_
  refine a_rd (i := 4) hok rfl (by kernel_rfl) rfl (r_nilc rfl) rfl ?_
  refine a_rd (i := 5) hok rfl (by kernel_rfl) rfl (r_cload Tryd.isAgg116 rfl (j := 0) rfl rfl) rfl ?_
  refine a_rd (i := 6) hok rfl (by kernel_rfl) rfl (r_shl rfl rfl (by decide)) rfl ?_
  refine a_rd (i := 7) hok rfl (by kernel_rfl) rfl (r_xor rfl rfl) rfl ?_
  refine a_rd (i := 8) hok rfl (by kernel_rfl) rfl (r_nilc rfl) rfl ?_
  refine a_next hok 9 [] (by kernel_rfl) ?_ trivial
  refine a_st (i := 9) hok rfl rfl (s_cstore (out := [iv .u64 (ixor .u64 r__0 (ishl .u64 r__0 13))]) Tryd.sizeOf116 rfl (j := 0) rfl (part_at rfl iv_at) rfl rfl rfl) (by intro _ h; cases h) (fun _ => ⟨trivial, ⟨trivial, ⟨trivial, ⟨trivial, ⟨trivial, ⟨trivial, ⟨trivial, ⟨trivial, ⟨trivial, trivial⟩⟩⟩⟩⟩⟩⟩⟩⟩) (fun _ => ?_)
  refine a_fin hok (by kernel_rfl) ?_
  refine n_then (ref_seq ?_)
  refine ref_draw [0, 1, 2, 3, 4, 5, 6, 7, 8] rfl (by kernel_rfl) (fun hok => ?_)
  refine a_rd (i := 0) hok rfl (by kernel_rfl) rfl (r_move rfl) rfl ?_
  refine a_rd (i := 1) hok rfl (by kernel_rfl) rfl (r_nilc rfl) rfl ?_
  refine a_rd (i := 2) hok rfl (by kernel_rfl) rfl (r_cload Tryd.isAgg116 rfl (j := 0) rfl rfl) rfl ?_
  refine a_rd (i := 3) hok rfl (by kernel_rfl) rfl (r_move rfl) rfl ?_
  refine a_rd (i := 4) hok rfl (by kernel_rfl) rfl (r_nilc rfl) rfl ?_
  refine a_rd (i := 5) hok rfl (by kernel_rfl) rfl (r_cload Tryd.isAgg116 rfl (j := 0) rfl rfl) rfl ?_
  refine a_rd (i := 6) hok rfl (by kernel_rfl) rfl (r_shr rfl rfl (by decide)) rfl ?_
  refine a_rd (i := 7) hok rfl (by kernel_rfl) rfl (r_xor rfl rfl) rfl ?_
  refine a_rd (i := 8) hok rfl (by kernel_rfl) rfl (r_nilc rfl) rfl ?_
  refine a_next hok 9 [] (by kernel_rfl) ?_ trivial
  refine a_st (i := 9) hok rfl rfl (s_cstore (out := [iv .u64 (ixor .u64 (ixor .u64 r__0 (ishl .u64 r__0 13)) (ishr .u64 (ixor .u64 r__0 (ishl .u64 r__0 13)) 7))]) Tryd.sizeOf116 rfl (j := 0) rfl (part_at rfl iv_at) rfl rfl rfl) (by intro _ h; cases h) (fun _ => ⟨trivial, ⟨trivial, ⟨trivial, ⟨trivial, ⟨trivial, ⟨trivial, ⟨trivial, ⟨trivial, ⟨trivial, trivial⟩⟩⟩⟩⟩⟩⟩⟩⟩) (fun _ => ?_)
  refine a_fin hok (by kernel_rfl) ?_
  refine n_then (ref_seq ?_)
  refine ref_draw [0, 1, 2, 3, 4, 5, 6, 7, 8] rfl (by kernel_rfl) (fun hok => ?_)
  refine a_rd (i := 0) hok rfl (by kernel_rfl) rfl (r_move rfl) rfl ?_
  refine a_rd (i := 1) hok rfl (by kernel_rfl) rfl (r_nilc rfl) rfl ?_
  refine a_rd (i := 2) hok rfl (by kernel_rfl) rfl (r_cload Tryd.isAgg116 rfl (j := 0) rfl rfl) rfl ?_
  refine a_rd (i := 3) hok rfl (by kernel_rfl) rfl (r_move rfl) rfl ?_
  refine a_rd (i := 4) hok rfl (by kernel_rfl) rfl (r_nilc rfl) rfl ?_
  refine a_rd (i := 5) hok rfl (by kernel_rfl) rfl (r_cload Tryd.isAgg116 rfl (j := 0) rfl rfl) rfl ?_
  refine a_rd (i := 6) hok rfl (by kernel_rfl) rfl (r_shl rfl rfl (by decide)) rfl ?_
  refine a_rd (i := 7) hok rfl (by kernel_rfl) rfl (r_xor rfl rfl) rfl ?_
  refine a_rd (i := 8) hok rfl (by kernel_rfl) rfl (r_nilc rfl) rfl ?_
  refine a_next hok 9 [] (by kernel_rfl) ?_ trivial
  refine a_st (i := 9) hok rfl rfl (s_cstore (out := [iv .u64 (ixor .u64 (ixor .u64 (ixor .u64 r__0 (ishl .u64 r__0 13)) (ishr .u64 (ixor .u64 r__0 (ishl .u64 r__0 13)) 7)) (ishl .u64 (ixor .u64 (ixor .u64 r__0 (ishl .u64 r__0 13)) (ishr .u64 (ixor .u64 r__0 (ishl .u64 r__0 13)) 7)) 17))]) Tryd.sizeOf116 rfl (j := 0) rfl (part_at rfl iv_at) rfl rfl rfl) (by intro _ h; cases h) (fun _ => ⟨trivial, ⟨trivial, ⟨trivial, ⟨trivial, ⟨trivial, ⟨trivial, ⟨trivial, ⟨trivial, ⟨trivial, trivial⟩⟩⟩⟩⟩⟩⟩⟩⟩) (fun _ => ?_)
  refine a_fin hok (by kernel_rfl) ?_
  refine n_then (ref_seq (ref_region ?_))
  refine mv1 rfl rfl ?_
  refine s_rd (r_nilc rfl) rfl ?_
  refine s_rd (r_cload Tryd.isAgg116 rfl (j := 0) rfl rfl) rfl ?_
  refine as1 rfl rfl ?_
  refine b_let (f := iv .u64) (t := 2) rfl fun t1 => ?_
  refine l_nil (n_then (ref_ret ?_))
  exact fin1 (.inl rfl) () [0] rfl ⟨rfl, trivial⟩ rfl (rv_tmp rfl)

/-! slices.Compact[[]deliberation/api.Literal,deliberation/api.Literal] -/
noncomputable def slices_Compact_api_Literal_api_Literal_l2 (s_0 : (List T_api_Literal)) (s52 : Int) (s85 : Int × Int × (List T_api_Literal)) : Option (Sum ((List T_api_Literal) × Int) (Int × Int × (List T_api_Literal))) :=
  bif decide (s85.2.1 < ((Int.toNat (s_0.length : Int) - Int.toNat s52 : Nat) : Int)) then
    Option.bind (vixM s52 (s_0.length : Int) s85.2.1) fun n89 =>
    Option.bind (idxM s85.2.2 n89) fun t88 =>
    Option.bind (vixM s52 (s_0.length : Int) (isub .i64 s85.2.1 1)) fun n91 =>
    Option.bind (idxM s85.2.2 n91) fun t90 =>
    bif !decide (t88 = t90) then
      Option.bind (vixM s52 (s_0.length : Int) s85.2.1) fun n94 =>
      Option.bind (idxM s85.2.2 n94) fun t93 =>
      Option.bind (idxM s85.2.2 s85.1) fun t95 =>
      letM (iadd .i64 s85.1 1) fun k96 =>
      letM (iadd .i64 s85.2.1 1) fun k297 =>
      some (Sum.inr (k96, k297, s85.2.2.set (Int.toNat s85.1) t93))
    else
      letM (iadd .i64 s85.2.1 1) fun k298 =>
      some (Sum.inr (s85.1, k298, s85.2.2))
  else
    some (Sum.inl (s85.2.2, s85.1))

noncomputable def slices_Compact_api_Literal_api_Literal_l1 (s_0 : (List T_api_Literal)) (s52 : Int) : Option (Sum ((Sum (List T_api_Literal) (Unit))) (Int)) :=
  bif decide (s52 < (s_0.length : Int)) then
    Option.bind (idxM s_0 s52) fun t55 =>
    Option.bind (idxM s_0 (isub .i64 s52 1)) fun t56 =>
    bif decide (t55 = t56) then
      Option.bind (slM s_0 s52 (s_0.length : Int)) fun s258 =>
      Option.bind (loopC (slices_Compact_api_Literal_api_Literal_l2 s_0 s52) (s52, 1, s_0)) fun q99 : (List T_api_Literal) × Int =>
      Option.bind (slM q99.1 q99.2 (q99.1.length : Int)) fun t101 =>
      Option.bind (slM (q99.1.take (Int.toNat q99.2) ++ List.replicate (Int.toNat (q99.1.length : Int) - Int.toNat q99.2) (T_api_Literal.mk false ByteArray.empty) ++ q99.1.drop (Int.toNat (q99.1.length : Int))) 0 q99.2) fun t102 =>
      some (Sum.inl (Sum.inl t102))
    else
      letM (iadd .i64 s52 1) fun k103 =>
      some (Sum.inr k103)
  else
    some (Sum.inl (Sum.inr ()))

noncomputable def slices_Compact_api_Literal_api_Literal_m (s_0 : (List T_api_Literal)) : Option (List T_api_Literal) :=
  bif decide ((s_0.length : Int) < 2) then
    some s_0
  else
    Option.bind (loopC (slices_Compact_api_Literal_api_Literal_l1 s_0) 1) (sumK (fun a : List T_api_Literal => some a) fun q104 : Unit =>
      some s_0)

theorem slices_Compact_api_Literal_api_Literal_ok {s_0 : (List T_api_Literal)} {h_0 : Value × List Nat} {r : List T_api_Literal} (hm : slices_Compact_api_Literal_api_Literal_m s_0 = some r) :
    FnOk prog 43 [pv h_0.1] [oa rT_api_Literal h_0.1 h_0.2 s_0] (fun (x : Unit) => [slv rT_api_Literal r]) (fun (x : Unit) => []) := by
  refine fn_ok (fn := Tryd.f43) (N := 61) (res := fun r x => [slv rT_api_Literal r]) (Ω1 := fun r x => []) Tryd.func43 rfl rfl hm rfl (fun E hM => ?_)
  unfold slices_Compact_api_Literal_api_Literal_m
  refine ref_seq (ref_region ?_)
  refine as1 rfl rfl ?_
  refine l_nil (n_then (ref_seq (ref_seq (ref_region ?_))))
  refine mv1 rfl rfl ?_
  refine s_rd (r_olen Tryd.underlying31 rfl (j := 0) rfl) rfl ?_
  refine s_rd (r_lss rfl rfl) rfl ?_
  refine l_nil (n_then ?_)
  refine ref_cond rfl (fun hb1 => ?_) (fun hb1 => ?_)
  · refine ref_seq (ref_region ?_)
    refine mv1 rfl rfl ?_
    refine as1 rfl rfl ?_
    refine l_nil (n_then (ref_ret (r_then ?_)))
    refine b_of (frzL [0, 2, 6, 9] (j := 0) rfl ⟨rfl, rfl, rfl, rfl, trivial⟩) ?_
    exact fin1 (.inl rfl) () [] rfl trivial rfl (rv_tmp rfl)
  refine ref_skip (n_then (ref_seq (ref_seq (ref_region ?_))))
  refine as1 rfl rfl ?_
  refine l_nil (n_then ?_)
  refine ref_loopX (f := (slices_Compact_api_Literal_api_Literal_l1 s_0)) (Γl := (fun (s52 : Int) (x53 : Unit) => [(0, pv h_0.1), (3, iv .i64 s52)])) (Ωl := (fun (s52 : Int) (x53 : Unit) => [oa rT_api_Literal h_0.1 h_0.2 s_0])) (Γb := (fun (q104 : Unit) (y105 : Unit) => [(0, pv h_0.1)])) (Ωb := (fun (q104 : Unit) (y105 : Unit) => [oa rT_api_Literal h_0.1 h_0.2 s_0])) (kr := (fun a : List T_api_Literal => some a)) 1 () (weak [0] ⟨rfl, rfl, trivial⟩ ⟨rfl, trivial⟩) (fun s52 x53 => ?_) (fun q104 y105 => ?_)
  · unfold slices_Compact_api_Literal_api_Literal_l1
    refine ref_seq (ref_seq (ref_region ?_))
    refine mv1 rfl rfl ?_
    refine mv1 rfl rfl ?_
    refine s_rd (r_olen Tryd.underlying31 rfl (j := 0) rfl) rfl ?_
    refine s_rd (r_lss rfl rfl) rfl ?_
    refine l_nil (n_then ?_)
    refine ref_cond rfl (fun hb54 => ?_) (fun hb54 => ?_)
    · refine ref_skip (n_then (ref_seq (ref_block (ref_seq ?_))))
      refine ref_draw [0, 1, 2, 3, 4, 5, 6, 7, 8, 9] rfl (by kernel_rfl) (fun hok => ?_)
      refine a_rd (i := 0) hok rfl (by kernel_rfl) rfl (r_move rfl) rfl ?_
      refine a_rd (i := 1) hok rfl (by kernel_rfl) rfl (r_move rfl) rfl ?_
      refine pull fun t55 h_t55 => ?_
      refine a_rd (i := 2) hok rfl (by kernel_rfl) rfl (r_oindex h_t55 Tryd.underlying31 el_35 rfl (j := 0) rfl rfl) rfl ?_
      refine a_rd (i := 3) hok rfl (by kernel_rfl) rfl (r_oload h_t55 el_35 rfl (j := 0) rfl) rfl ?_
      refine a_rd (i := 4) hok rfl (by kernel_rfl) rfl (r_move rfl) rfl ?_
      refine a_rd (i := 5) hok rfl (by kernel_rfl) rfl (r_move rfl) rfl ?_
      refine a_rd (i := 6) hok rfl (by kernel_rfl) rfl (r_sub rfl rfl) rfl ?_
      refine pull fun t56 h_t56 => ?_
      refine a_rd (i := 7) hok rfl (by kernel_rfl) rfl (r_oindex h_t56 Tryd.underlying31 el_35 rfl (j := 0) rfl rfl) rfl ?_
      refine a_rd (i := 8) hok rfl (by kernel_rfl) rfl (r_oload h_t56 el_35 rfl (j := 0) rfl) rfl ?_
      refine a_rd (i := 9) hok rfl (by kernel_rfl) rfl (r_steql (u := t55) (v := t56) eq_35 rfl rfl rfl rfl) rfl ?_
      refine a_fin hok (by kernel_rfl) ?_
      refine n_then ?_
      refine ref_cond rfl (fun hb57 => ?_) (fun hb57 => ?_)
      · refine ref_seq (ref_region ?_)
        refine mv1 rfl rfl ?_
        refine mv1 rfl rfl ?_
        refine pull fun s258 h_s258 => ?_
        refine s_rd (r_osub h_s258 Tryd.underlying31 el_35 rfl (j := 0) rfl (.of rfl) .dft) rfl ?_
        refine as1 rfl rfl ?_
        refine l_nil (n_then (ref_seq (ref_seq (ref_region ?_))))
        refine as1 rfl rfl ?_
        refine l_nil (n_then ?_)
        refine ref_loopB (f := (slices_Compact_api_Literal_api_Literal_l2 s_0 s52)) (Γl := (fun (s85 : Int × Int × (List T_api_Literal)) (x86 : Unit) => [(0, pv h_0.1), (3, iv .i64 s85.1), (4, pv (subV h_0.1 (rT_api_Literal).size (Int.toNat s52) (Int.toNat (s_0.length : Int)))), (5, iv .i64 s85.2.1)])) (Ωl := (fun (s85 : Int × Int × (List T_api_Literal)) (x86 : Unit) => [oa rT_api_Literal h_0.1 h_0.2 s85.2.2])) (Γb := (fun (q99 : (List T_api_Literal) × Int) (y100 : Unit) => [(0, pv h_0.1), (3, iv .i64 q99.2)])) (Ωb := (fun (q99 : (List T_api_Literal) × Int) (y100 : Unit) => [oa rT_api_Literal h_0.1 h_0.2 q99.1])) (s52, 1, s_0) () (weak [0] ⟨rfl, rfl, rfl, rfl, trivial⟩ ⟨rfl, trivial⟩) (fun s85 x86 => ?_) (fun q99 y100 => ?_)
        · unfold slices_Compact_api_Literal_api_Literal_l2
          refine ref_seq (ref_seq (ref_region ?_))
          refine mv1 rfl rfl ?_
          refine mv1 rfl rfl ?_
          refine s_rd (r_vlen Tryd.underlying31 rfl (j := 0) rfl) rfl ?_
          refine s_rd (r_lss rfl rfl) rfl ?_
          refine l_nil (n_then ?_)
          refine ref_cond rfl (fun hb87 => ?_) (fun hb87 => ?_)
          · refine ref_skip (n_then (ref_seq (ref_block (ref_seq ?_))))
            refine ref_draw [0, 1, 2, 3, 4, 5, 6, 7, 8, 9] rfl (by kernel_rfl) (fun hok => ?_)
            refine a_rd (i := 0) hok rfl (by kernel_rfl) rfl (r_move rfl) rfl ?_
            refine a_rd (i := 1) hok rfl (by kernel_rfl) rfl (r_move rfl) rfl ?_
            refine pull fun n89 h_n89 => ?_
            refine pull fun t88 h_t88 => ?_
            refine a_rd (i := 2) hok rfl (by kernel_rfl) rfl (r_vindex h_n89 h_t88 Tryd.underlying31 el_35 rfl (j := 0) rfl rfl) rfl ?_
            refine a_rd (i := 3) hok rfl (by kernel_rfl) rfl (r_oload h_t88 el_35 rfl (j := 0) rfl) rfl ?_
            refine a_rd (i := 4) hok rfl (by kernel_rfl) rfl (r_move rfl) rfl ?_
            refine a_rd (i := 5) hok rfl (by kernel_rfl) rfl (r_move rfl) rfl ?_
            refine a_rd (i := 6) hok rfl (by kernel_rfl) rfl (r_sub rfl rfl) rfl ?_
            refine pull fun n91 h_n91 => ?_
            refine pull fun t90 h_t90 => ?_
            refine a_rd (i := 7) hok rfl (by kernel_rfl) rfl (r_vindex h_n91 h_t90 Tryd.underlying31 el_35 rfl (j := 0) rfl rfl) rfl ?_
            refine a_rd (i := 8) hok rfl (by kernel_rfl) rfl (r_oload h_t90 el_35 rfl (j := 0) rfl) rfl ?_
            refine a_rd (i := 9) hok rfl (by kernel_rfl) rfl (r_stneq (u := t88) (v := t90) eq_35 rfl rfl rfl rfl) rfl ?_
            refine a_fin hok (by kernel_rfl) ?_
            refine n_then ?_
            refine ref_cond rfl (fun hb92 => ?_) (fun hb92 => ?_)
            · refine ref_seq (ref_region ?_)
              refine mv1 rfl rfl ?_
              refine mv1 rfl rfl ?_
              refine mv1 rfl rfl ?_
              refine mv1 rfl rfl ?_
              refine pull fun n94 h_n94 => ?_
              refine pull fun t93 h_t93 => ?_
              refine s_rd (r_vindex h_n94 h_t93 Tryd.underlying31 el_35 rfl (j := 0) rfl rfl) rfl ?_
              refine s_rd (r_oload h_t93 el_35 rfl (j := 0) rfl) rfl ?_
              refine pull fun t95 h_t95 => ?_
              refine s_rd (r_oindex h_t95 Tryd.underlying31 el_35 rfl (j := 0) rfl rfl) rfl ?_
              refine s_st0 (s_ostore (u := t93) h_t95 el_35 rfl (j := 0) rfl (part_agO (ψs := [bv t93.Neg, sv t93.Name]) rfl ⟨.inl bv_at, .inl sv_at, trivial⟩)) (fun _ => ?_)
              refine l_nil (n_then (ref_region ?_))
              refine mv1 rfl rfl ?_
              refine s_rd (r_add rfl rfl) rfl ?_
              refine as1 rfl rfl ?_
              refine b_let (f := iv .i64) (t := 3) rfl fun k96 => ?_
              refine l_nil (n_block (n_then (ref_region ?_)))
              refine mv1 rfl rfl ?_
              refine s_rd (r_add rfl rfl) rfl ?_
              refine as1 rfl rfl ?_
              refine b_let (f := iv .i64) (t := 5) rfl fun k297 => ?_
              refine l_nil ?_
              exact goB () (weak [0] ⟨rfl, rfl, rfl, rfl, trivial⟩ ⟨rfl, trivial⟩)
            refine ref_skip (n_block (n_then (ref_region ?_)))
            refine mv1 rfl rfl ?_
            refine s_rd (r_add rfl rfl) rfl ?_
            refine as1 rfl rfl ?_
            refine b_let (f := iv .i64) (t := 5) rfl fun k298 => ?_
            refine l_nil ?_
            exact goB () (weak [0] ⟨rfl, rfl, rfl, rfl, trivial⟩ ⟨rfl, trivial⟩)
          refine ref_exit (x_then ?_)
          exact brkB () (weak [0] ⟨rfl, rfl, trivial⟩ ⟨rfl, trivial⟩)
        refine n_then (ref_seq (ref_region ?_))
        refine mv1 rfl rfl ?_
        refine mv1 rfl rfl ?_
        refine pull fun t101 h_t101 => ?_
        refine s_rd (r_osub h_t101 Tryd.underlying31 el_35 rfl (j := 0) rfl (.of rfl) .dft) rfl ?_
        refine s_st0 (s_clear h_t101 Tryd.underlying31 el_35 ze_35 rfl (j := 0) rfl) (fun _ => ?_)
        refine l_nil (n_then (ref_seq (ref_region ?_)))
        refine mv1 rfl rfl ?_
        refine mv1 rfl rfl ?_
        refine b_of (frzL [0, 54, 57] (j := 0) rfl ⟨rfl, rfl, rfl, trivial⟩) ?_
        refine pull fun t102 h_t102 => ?_
        refine s_rd (r_slice h_t102 Tryd.underlying31 el_35 rfl .dft (.of rfl)) rfl ?_
        refine as1 rfl rfl ?_
        refine l_nil (n_then (ref_ret (r_block (r_then ?_))))
        refine retX ?_
        refine r_block (r_then ?_)
        exact fin1 (.inl rfl) () [] rfl trivial rfl (rv_tmp rfl)
      refine ref_skip (n_block (n_then (ref_region ?_)))
      refine mv1 rfl rfl ?_
      refine s_rd (r_add rfl rfl) rfl ?_
      refine as1 rfl rfl ?_
      refine b_let (f := iv .i64) (t := 3) rfl fun k103 => ?_
      refine l_nil ?_
      exact goX () (weak [0] ⟨rfl, rfl, trivial⟩ ⟨rfl, trivial⟩)
    refine ref_exit (x_then ?_)
    exact brkX () (weak [0] ⟨rfl, trivial⟩ ⟨rfl, trivial⟩)
  refine n_then (ref_seq (ref_region ?_))
  refine mv1 rfl rfl ?_
  refine as1 rfl rfl ?_
  refine l_nil (n_then (ref_ret ?_))
  refine b_of (frzL [0, 60, 2] (j := 0) rfl ⟨rfl, rfl, rfl, trivial⟩) ?_
  exact fin1 (.inl rfl) () [] rfl trivial rfl (rv_tmp rfl)

/-! slices.SortFunc[[]deliberation/api.Literal,deliberation/api.Literal] -/
def enc_35 (x : T_api_Literal) : List Value := [.bool x.Neg, .string x.Name]
theorem enc_35_t : EncT rT_api_Literal enc_35 2 where
  size := rfl
  pos := by decide
  agg := rfl
  len := fun x => rfl
  one := fun x v hv => by simp only [enc_35, List.mem_cons, List.not_mem_nil, or_false] at hv; rcases hv with rfl | rfl <;> rfl
  to := fun x F w cs h => by
    match cs, h with
    | [v0, v1], ⟨h0, h1, _⟩ => cases (show v0 = .bool x.Neg from h0); cases (show v1 = .string x.Name from h1); rfl
  of := fun x F w => ⟨rfl, rfl, trivial⟩
instance : Inhabited T_api_Literal := ⟨(T_api_Literal.mk false ByteArray.empty)⟩

theorem slices_SortFunc_api_Literal_api_Literal_literal_Compare_ok {s_0 r : List T_api_Literal} (hm : sortFM literal_Compare_m s_0 = some r) {h_0 : Value × List Nat} :
    FnOk prog 41 [pv h_0.1, pv (.func (.func 42) #[] #[])] [oa rT_api_Literal h_0.1 h_0.2 s_0] (fun _ : Unit => []) (fun _ : Unit => [oa rT_api_Literal h_0.1 h_0.2 r]) :=
  sort_fnF enc_35_t (X := Unit) (fun x y r h => literal_Compare_ok h)
    (fun hO blk off cap d w hc hH hb hs hT => AnyQ.slices_SortFunc_total sortFA 2 Tryd.isAgg35 Tryd.sizeOf35 enc_35 (fun _ => rfl) enc_35_t.one _ hO 42 #[] blk off cap d w (enters_of Tryd.func42 (by kernel_rfl) rfl) hc hH hb hs hT)
    (fun p cap fv w => AnyF.slices_SortFunc_none sortFA p cap fv w) hm

/-! deliberation/literal.Normal -/
noncomputable def literal_Normal_m (l_0 : (List T_api_Literal)) : Option (List T_api_Literal) :=
  Option.bind (slices_Clone_api_Literal_api_Literal_m l_0) fun out1 =>
  Option.bind ((sortFM literal_Compare_m) out1) fun t3 =>
  Option.bind (slices_Compact_api_Literal_api_Literal_m t3) fun t4 =>
  some t4

theorem literal_Normal_ok {l_0 : (List T_api_Literal)} {r : List T_api_Literal} (hm : literal_Normal_m l_0 = some r) :
    FnOk prog 24 [slv rT_api_Literal l_0] [] (fun (x : Unit) => [slv rT_api_Literal r]) (fun (x : Unit) => []) := by
  refine fn_ok (fn := Tryd.f24) (N := 10) (res := fun r x => [slv rT_api_Literal r]) (Ω1 := fun r x => []) Tryd.func24 rfl rfl hm rfl (fun E hM => ?_)
  unfold literal_Normal_m
  refine ref_seq (ref_region ?_)
  refine as1 rfl rfl ?_
  refine l_nil (n_then (ref_seq (ref_region ?_)))
  refine mv1 rfl rfl ?_
  refine pull fun out1 h_out1 => ?_
  refine s_st (s_call (ψ := fun (x2 : (Value × List Nat)) => pv x2.1) (args := [.tmp 4]) Tryd.call40 rfl (slices_Clone_api_Literal_api_Literal_ok h_out1) ⟨arg rfl, trivial⟩ (fun _ _ _ _ h => h)) rfl (fun x2 => ?_)
  refine as1 rfl rfl ?_
  refine l_nil (n_then (ref_seq (ref_region ?_)))
  refine mv1 rfl rfl ?_
  refine pull fun t3 h_t3 => ?_
  refine s_st (s_callC [0] [true] (fun (_ : Unit) => [oa rT_api_Literal x2.1 x2.2 t3]) (fun (_ : Unit) => []) (fun (_ : Unit) => tup []) (args := [.tmp 6, .func 42]) (caps := []) Tryd.call41 rfl (slices_SortFunc_api_Literal_api_Literal_literal_Compare_ok h_t3) ⟨rfl, rfl, trivial⟩ (fun _ => rfl) (fun _ => trivial) (fun _ => rfl) ⟨arg rfl, arg rfl, trivial⟩ (fun _ _ _ _ h => h)) rfl (fun _ => ?_)
  refine l_nil (n_then (ref_seq (ref_region ?_)))
  refine mv1 rfl rfl ?_
  refine pull fun t4 h_t4 => ?_
  refine s_st (s_callC [0] [false] (fun (_ : Unit) => [dead]) (fun (_ : Unit) => []) (fun (_ : Unit) => slv rT_api_Literal t4) (args := [.tmp 8]) (caps := []) Tryd.call43 rfl (slices_Compact_api_Literal_api_Literal_ok h_t4) ⟨rfl, rfl, trivial⟩ (fun _ => rfl) (fun _ => ⟨rfl, trivial⟩) (fun _ => rfl) ⟨arg rfl, trivial⟩ (fun _ _ _ _ h => h)) rfl (fun _ => ?_)
  refine as1 rfl rfl ?_
  refine l_nil (n_then (ref_ret ?_))
  exact fin1 (.inl rfl) () [] rfl trivial rfl (rv_tmp rfl)

/-! deliberation/strict.Closure$1 -/
noncomputable def strict_Closure_1_m (x_0 : T_api_Literal) (e_1 : (List (T_api_Literal × T_anon61))) : Option (Bool) :=
  letM (!(mapHas e_1 x_0)) fun t3 =>
  some t3

theorem strict_Closure_1_ok {x_0 : T_api_Literal} {e_1 : (List (T_api_Literal × T_anon61))} {b_1 : Nat} {be_1 : Nat} {r : Bool} (hm : strict_Closure_1_m x_0 e_1 = some r) :
    FnOk prog 22 [ag [bv x_0.Neg, sv x_0.Name], pv (ptr b_1 0)] [oc b_1 [pv (.map (some be_1))], om rT_api_Literal rT_anon61 be_1 e_1] (fun (x : Unit) => [bv r]) (fun (x : Unit) => [oc b_1 [pv (.map (some be_1))], om rT_api_Literal rT_anon61 be_1 e_1]) := by
  refine fn_ok (fn := Tryd.f22) (N := 14) (res := fun r x => [bv r]) (Ω1 := fun r x => [oc b_1 [pv (.map (some be_1))], om rT_api_Literal rT_anon61 be_1 e_1]) Tryd.func22 rfl rfl hm rfl (fun E hM => ?_)
  unfold strict_Closure_1_m
  refine ref_seq (ref_region ?_)
  refine s_st (s_box (part_agO (ψs := [bv x_0.Neg, sv x_0.Name]) rfl ⟨.inl bv_at, .inl sv_at, trivial⟩)) rfl (fun b1 => ?_)
  refine as1 rfl rfl ?_
  refine l_nil (n_then (ref_seq (ref_region ?_)))
  refine s_rd (r_cload Tryd.isAgg60 rfl (j := 0) rfl rfl) rfl ?_
  refine s_rd (r_cloadS Tryd.isAgg35 Tryd.sizeOf35 rfl (j := 2) rfl rfl rfl) rfl ?_
  refine s_rd (r_mget (x := x_0) (z := (T_anon61.mk )) Tryd.underlying60 key_35 mz_61 rfl (j := 1) rfl rfl) rfl ?_
  refine mv1 rfl rfl ?_
  refine s_rd (r_extract rfl rfl) rfl ?_
  refine s_rd (r_extract rfl rfl) rfl ?_
  refine s_st (s_alloc zt_61) rfl (fun b2 => ?_)
  refine s_st0 (s_cstore (out := []) Tryd.sizeOf61 rfl (j := 3) rfl (part_agO (ψs := []) rfl trivial) rfl rfl rfl) (fun _ => ?_)
  refine as1 rfl rfl ?_
  refine l_nil (n_then (ref_seq (ref_region ?_)))
  refine mv1 rfl rfl ?_
  refine s_rd (r_not rfl) rfl ?_
  refine as1 rfl rfl ?_
  refine b_let (f := bv) (t := 3) rfl fun t3 => ?_
  refine l_nil (n_then (ref_ret ?_))
  exact fin1 (.inl rfl) () [0, 1] rfl ⟨rfl, rfl, trivial⟩ rfl (rv_tmp rfl)

/-! slices.IndexFunc[[]deliberation/api.Literal,deliberation/api.Literal] -/
noncomputable def slices_IndexFunc_api_Literal_api_Literal_l1 (s_0 : (List T_api_Literal)) (e_1 : (List (T_api_Literal × T_anon61))) (s7 : Int) : Option (Sum ((Sum (Int) (Unit))) (Int)) :=
  bif decide (s7 < (s_0.length : Int)) then
    Option.bind (idxM s_0 s7) fun t10 =>
    Option.bind (strict_Closure_1_m t10 e_1) fun t11 =>
    bif t11 then
      some (Sum.inl (Sum.inl s7))
    else
      some (Sum.inr (iadd .i64 s7 1))
  else
    some (Sum.inl (Sum.inr ()))

noncomputable def slices_IndexFunc_api_Literal_api_Literal_m (s_0 : (List T_api_Literal)) (e_1 : (List (T_api_Literal × T_anon61))) : Option (Int) :=
  Option.bind (loopC (slices_IndexFunc_api_Literal_api_Literal_l1 s_0 e_1) 0) (sumK (fun a : Int => some a) fun q13 : Unit =>
    some (-1))

theorem slices_IndexFunc_api_Literal_api_Literal_ok {s_0 : (List T_api_Literal)} {e_1 : (List (T_api_Literal × T_anon61))} {be_0 : Nat} {be_1 : Nat} {r : Int} (hm : slices_IndexFunc_api_Literal_api_Literal_m s_0 e_1 = some r) :
    FnOk prog 39 [slv rT_api_Literal s_0, pv (.func (.func 22) #[] #[(ptr be_0 0)])] [oc be_0 [pv (.map (some be_1))], om rT_api_Literal rT_anon61 be_1 e_1] (fun (x : Unit) => [iv .i64 r]) (fun (x : Unit) => [oc be_0 [pv (.map (some be_1))], om rT_api_Literal rT_anon61 be_1 e_1]) := by
  refine fn_ok (fn := Tryd.f39) (N := 19) (res := fun r x => [iv .i64 r]) (Ω1 := fun r x => [oc be_0 [pv (.map (some be_1))], om rT_api_Literal rT_anon61 be_1 e_1]) Tryd.func39 rfl rfl hm rfl (fun E hM => ?_)
  unfold slices_IndexFunc_api_Literal_api_Literal_m
  refine ref_seq (ref_region ?_)
  refine as1 rfl rfl ?_
  refine l_nil (n_then (ref_seq (ref_seq (ref_region ?_))))
  refine mv1 rfl rfl ?_
  refine s_rd (r_len Tryd.underlying31 rfl) rfl ?_
  refine mv1 rfl rfl ?_
  refine l_nil (n_then ?_)
  refine ref_loopX (f := (slices_IndexFunc_api_Literal_api_Literal_l1 s_0 e_1)) (Γl := (fun (s7 : Int) (x8 : Unit) => [(0, slv rT_api_Literal s_0), (1, pv (.func (.func 22) #[] #[(ptr be_0 0)])), (7, iv .i64 (s_0.length : Int)), (8, iv .i64 s7)])) (Ωl := (fun (s7 : Int) (x8 : Unit) => [oc be_0 [pv (.map (some be_1))], om rT_api_Literal rT_anon61 be_1 e_1])) (Γb := (fun (q13 : Unit) (y14 : Unit) => [(1, pv (.func (.func 22) #[] #[(ptr be_0 0)]))])) (Ωb := (fun (q13 : Unit) (y14 : Unit) => [oc be_0 [pv (.map (some be_1))], om rT_api_Literal rT_anon61 be_1 e_1])) (kr := (fun a : Int => some a)) 0 () (weak [0, 1] ⟨rfl, rfl, rfl, rfl, trivial⟩ ⟨rfl, rfl, trivial⟩) (fun s7 x8 => ?_) (fun q13 y14 => ?_)
  · unfold slices_IndexFunc_api_Literal_api_Literal_l1
    refine ref_seq (ref_region ?_)
    refine s_rd (r_lss rfl rfl) rfl ?_
    refine l_nil (n_then (ref_seq ?_))
    refine ref_cond rfl (fun hb9 => ?_) (fun hb9 => ?_)
    · refine ref_skip (n_then (ref_seq (ref_block (ref_seq (ref_region ?_)))))
      refine mv1 rfl rfl ?_
      refine as1 rfl rfl ?_
      refine l_nil (n_then (ref_seq (ref_region ?_)))
      refine mv1 rfl rfl ?_
      refine mv1 rfl rfl ?_
      refine mv1 rfl rfl ?_
      refine pull fun t10 h_t10 => ?_
      refine s_rd (r_index h_t10 Tryd.underlying31 el_35 rfl rfl) rfl ?_
      refine s_rd (r_load el_35 rfl) rfl ?_
      refine pull fun t11 h_t11 => ?_
      refine s_st (s_callC [0, 1] [true, true] (fun (_ : Unit) => [oc be_0 [pv (.map (some be_1))], om rT_api_Literal rT_anon61 be_1 e_1]) (fun (_ : Unit) => []) (fun (_ : Unit) => bv t11) (args := [.tmp 15]) (caps := [(ptr be_0 0)]) Tryd.call22 rfl (strict_Closure_1_ok h_t11) ⟨rfl, rfl, ⟨rfl, rfl, trivial⟩⟩ (fun _ => rfl) (fun _ => trivial) (fun _ => rfl) ⟨arg rfl, arg rfl, trivial⟩ (fun _ _ _ _ h => h)) rfl (fun _ => ?_)
      refine l_nil (n_then ?_)
      refine ref_cond rfl (fun hb12 => ?_) (fun hb12 => ?_)
      · refine ref_seq (ref_region ?_)
        refine mv1 rfl rfl ?_
        refine as1 rfl rfl ?_
        refine l_nil (n_then (ref_ret (r_block (r_then ?_))))
        refine retX ?_
        refine r_block (r_then ?_)
        exact fin1 (.inl rfl) () [0, 1] rfl ⟨rfl, rfl, trivial⟩ rfl (rv_tmp rfl)
      refine ref_skip (n_block (n_then (ref_region ?_)))
      refine s_rd (r_add rfl rfl) rfl ?_
      refine mv1 rfl rfl ?_
      refine l_nil ?_
      exact goX () (weak [0, 1] ⟨rfl, rfl, rfl, rfl, trivial⟩ ⟨rfl, rfl, trivial⟩)
    refine ref_exit (x_then ?_)
    exact brkX () (weak [0, 1] ⟨rfl, trivial⟩ ⟨rfl, rfl, trivial⟩)
  refine n_then (ref_seq (ref_region ?_))
  refine as1 rfl rfl ?_
  refine l_nil (n_then (ref_ret ?_))
  exact fin1 (.inl rfl) () [0, 1] rfl ⟨rfl, rfl, trivial⟩ rfl (rv_tmp rfl)

/-! slices.ContainsFunc[[]deliberation/api.Literal,deliberation/api.Literal] -/
noncomputable def slices_ContainsFunc_api_Literal_api_Literal_m (s_0 : (List T_api_Literal)) (e_1 : (List (T_api_Literal × T_anon61))) : Option (Bool) :=
  Option.bind (slices_IndexFunc_api_Literal_api_Literal_m s_0 e_1) fun t1 =>
  letM (decide (t1 ≥ 0)) fun t2 =>
  some t2

theorem slices_ContainsFunc_api_Literal_api_Literal_ok {s_0 : (List T_api_Literal)} {e_1 : (List (T_api_Literal × T_anon61))} {be_0 : Nat} {be_1 : Nat} {r : Bool} (hm : slices_ContainsFunc_api_Literal_api_Literal_m s_0 e_1 = some r) :
    FnOk prog 23 [slv rT_api_Literal s_0, pv (.func (.func 22) #[] #[(ptr be_0 0)])] [oc be_0 [pv (.map (some be_1))], om rT_api_Literal rT_anon61 be_1 e_1] (fun (x : Unit) => [bv r]) (fun (x : Unit) => [oc be_0 [pv (.map (some be_1))], om rT_api_Literal rT_anon61 be_1 e_1]) := by
  refine fn_ok (fn := Tryd.f23) (N := 9) (res := fun r x => [bv r]) (Ω1 := fun r x => [oc be_0 [pv (.map (some be_1))], om rT_api_Literal rT_anon61 be_1 e_1]) Tryd.func23 rfl rfl hm rfl (fun E hM => ?_)
  unfold slices_ContainsFunc_api_Literal_api_Literal_m
  refine ref_seq (ref_region ?_)
  refine as1 rfl rfl ?_
  refine l_nil (n_then (ref_seq (ref_region ?_)))
  refine mv1 rfl rfl ?_
  refine mv1 rfl rfl ?_
  refine pull fun t1 h_t1 => ?_
  refine s_st (s_callC [0, 1] [true, true] (fun (_ : Unit) => [oc be_0 [pv (.map (some be_1))], om rT_api_Literal rT_anon61 be_1 e_1]) (fun (_ : Unit) => []) (fun (_ : Unit) => iv .i64 t1) (args := [.tmp 5, .tmp 6]) (caps := []) Tryd.call39 rfl (slices_IndexFunc_api_Literal_api_Literal_ok h_t1) ⟨rfl, rfl, ⟨rfl, rfl, trivial⟩⟩ (fun _ => rfl) (fun _ => trivial) (fun _ => rfl) ⟨arg rfl, arg rfl, trivial⟩ (fun _ _ _ _ h => h)) rfl (fun _ => ?_)
  refine s_rd (r_geq rfl rfl) rfl ?_
  refine as1 rfl rfl ?_
  refine b_let (f := bv) (t := 4) rfl fun t2 => ?_
  refine l_nil (n_then (ref_ret ?_))
  exact fin1 (.inl rfl) () [0, 1] rfl ⟨rfl, rfl, trivial⟩ rfl (rv_tmp rfl)

/-! deliberation/strict.Closure -/
noncomputable def strict_Closure_l1 (l_1 : (List T_api_Literal)) (s14 : Int × (List (T_api_Literal × T_anon61))) : Option (Sum ((List (T_api_Literal × T_anon61))) (Int × (List (T_api_Literal × T_anon61)))) :=
  bif decide (s14.1 < (l_1.length : Int)) then
    Option.bind (idxM l_1 s14.1) fun t17 =>
    some (Sum.inr (iadd .i64 s14.1 1, mapPut s14.2 t17 (T_anon61.mk )))
  else
    some (Sum.inl s14.2)

noncomputable def strict_Closure_l3 (b_0 : T_api_Base) (s121 : Bool × Int × (List (T_api_Literal × T_anon61))) : Option (Sum ((List (T_api_Literal × T_anon61)) × Bool) (Bool × Int × (List (T_api_Literal × T_anon61)))) :=
  bif decide (s121.2.1 < (b_0.Rules.length : Int)) then
    Option.bind (idxM b_0.Rules s121.2.1) fun t124 =>
    joinM (fun j128 : Bool =>
        bif j128 then
          some (Sum.inr (true, iadd .i64 s121.2.1 1, mapPut s121.2.2 t124.Head (T_anon61.mk )))
        else
          some (Sum.inr (s121.1, iadd .i64 s121.2.1 1, s121.2.2))) fun k130 =>
    bif t124.Strict then
      Option.bind (strict_Closure_1_m t124.Head s121.2.2) fun t126 =>
      bif t126 then
        Option.bind (slices_ContainsFunc_api_Literal_api_Literal_m t124.Body s121.2.2) fun t127 =>
        k130 (!t127)
      else
        k130 false
    else
      k130 false
  else
    some (Sum.inl (s121.2.2, s121.1))

noncomputable def strict_Closure_l2 (b_0 : T_api_Base) (s96 : Bool × (List (T_api_Literal × T_anon61))) : Option (Sum ((List (T_api_Literal × T_anon61))) (Bool × (List (T_api_Literal × T_anon61)))) :=
  bif s96.1 then
    Option.bind (loopC (strict_Closure_l3 b_0) (false, 0, s96.2)) fun q132 : (List (T_api_Literal × T_anon61)) × Bool =>
    some (Sum.inr (q132.2, q132.1))
  else
    some (Sum.inl s96.2)

noncomputable def strict_Closure_l4  (s144 : (List T_api_Literal)) (q144 : T_api_Literal × T_anon61) : Option ((List T_api_Literal)) :=
  Option.bind (appM 24 s144 [q144.1]) fun out147 =>
  some out147

noncomputable def strict_Closure_m (b_0 : T_api_Base) (l_1 : (List T_api_Literal)) : Option (List T_api_Literal) :=
  Option.bind (loopC (strict_Closure_l1 l_1) (0, [])) fun q19 : (List (T_api_Literal × T_anon61)) =>
  Option.bind (loopC (strict_Closure_l2 b_0) (true, q19)) fun q134 : (List (T_api_Literal × T_anon61)) =>
  Option.bind (capM 24 (q134.length : Int)) fun u136 =>
  rngM q134 (strict_Closure_l4) [] fun q149 : (List T_api_Literal) =>
  Option.bind (literal_Normal_m q149) fun t150 =>
  some t150

theorem strict_Closure_ok {b_0 : T_api_Base} {l_1 : (List T_api_Literal)} {r : List T_api_Literal} (hm : strict_Closure_m b_0 l_1 = some r) :
    FnOk prog 8 [ag [slv rT_api_Premise b_0.Premises, slv rT_api_Rule b_0.Rules, slv rT_api_Promotion b_0.Promotions], slv rT_api_Literal l_1] [] (fun (x : Unit) => [slv rT_api_Literal r]) (fun (x : Unit) => []) := by
  refine fn_ok (fn := Tryd.f8) (N := 69) (res := fun r x => [slv rT_api_Literal r]) (Ω1 := fun r x => []) Tryd.func8 rfl rfl hm rfl (fun E hM => ?_)
  unfold strict_Closure_m
  refine ref_seq (ref_region ?_)
  refine s_st (s_box (part_agO (ψs := [slv rT_api_Premise b_0.Premises, slv rT_api_Rule b_0.Rules, slv rT_api_Promotion b_0.Promotions]) rfl ⟨.inl slv_at, .inl slv_at, .inl slv_at, trivial⟩)) rfl (fun b1 => ?_)
  refine as1 rfl rfl ?_
  refine l_nil (n_then (ref_seq (ref_region ?_)))
  refine s_st (s_mkmap rT_api_Literal rT_anon61) rfl (fun b2 => ?_)
  refine s_st (s_alloc zt_60) rfl (fun b3 => ?_)
  refine s_st0 (s_cstore (out := [pv (.map (some b2))]) Tryd.sizeOf60 rfl (j := 2) rfl (part_at (φ := pv (.map (some b2))) rfl (pv_at rfl)) rfl rfl rfl) (fun _ => ?_)
  refine l_nil ?_
  refine b_of (nrm [oc b1 [slv rT_api_Premise b_0.Premises, slv rT_api_Rule b_0.Rules, slv rT_api_Promotion b_0.Promotions], om rT_api_Literal rT_anon61 b2 [], oc b3 [pv (.map (some b2))]] rfl) ?_
  refine n_then (ref_seq (ref_seq (ref_region ?_)))
  refine mv1 rfl rfl ?_
  refine s_rd (r_len Tryd.underlying31 rfl) rfl ?_
  refine mv1 rfl rfl ?_
  refine l_nil (n_then ?_)
  refine ref_loopB (f := (strict_Closure_l1 l_1)) (Γl := (fun (s14 : Int × (List (T_api_Literal × T_anon61))) (x15 : Unit) => [(2, pv (ptr b1 0)), (5, pv (ptr b3 0)), (15, slv rT_api_Literal l_1), (16, iv .i64 (l_1.length : Int)), (17, iv .i64 s14.1)])) (Ωl := (fun (s14 : Int × (List (T_api_Literal × T_anon61))) (x15 : Unit) => [oc b1 [slv rT_api_Premise b_0.Premises, slv rT_api_Rule b_0.Rules, slv rT_api_Promotion b_0.Promotions], oc b3 [pv (.map (some b2))], om rT_api_Literal rT_anon61 b2 s14.2])) (Γb := (fun (q19 : (List (T_api_Literal × T_anon61))) (y20 : Unit) => [(2, pv (ptr b1 0)), (5, pv (ptr b3 0))])) (Ωb := (fun (q19 : (List (T_api_Literal × T_anon61))) (y20 : Unit) => [oc b1 [slv rT_api_Premise b_0.Premises, slv rT_api_Rule b_0.Rules, slv rT_api_Promotion b_0.Promotions], oc b3 [pv (.map (some b2))], om rT_api_Literal rT_anon61 b2 q19])) (0, []) () (weak [0, 2, 1] ⟨rfl, rfl, rfl, rfl, rfl, trivial⟩ ⟨rfl, rfl, rfl, trivial⟩) (fun s14 x15 => ?_) (fun q19 y20 => ?_)
  · unfold strict_Closure_l1
    refine ref_seq (ref_region ?_)
    refine s_rd (r_lss rfl rfl) rfl ?_
    refine l_nil (n_then (ref_seq ?_))
    refine ref_cond rfl (fun hb16 => ?_) (fun hb16 => ?_)
    · refine ref_skip (n_then (ref_seq (ref_block (ref_seq (ref_region ?_)))))
      refine pull fun t17 h_t17 => ?_
      refine s_rd (r_index h_t17 Tryd.underlying31 el_35 rfl rfl) rfl ?_
      refine s_rd (r_load el_35 rfl) rfl ?_
      refine s_st (s_alloc zt_35) rfl (fun b18 => ?_)
      refine s_st0 (s_cstore (out := [bv t17.Neg, sv t17.Name]) Tryd.sizeOf35 rfl (j := 3) rfl (part_agO (ψs := [bv t17.Neg, sv t17.Name]) rfl ⟨.inl bv_at, .inl sv_at, trivial⟩) rfl rfl rfl) (fun _ => ?_)
      refine l_nil (n_then (ref_region ?_))
      refine s_rd (r_cload Tryd.isAgg60 rfl (j := 1) rfl rfl) rfl ?_
      refine s_rd (r_cloadS Tryd.isAgg35 Tryd.sizeOf35 rfl (j := 3) rfl rfl rfl) rfl ?_
      refine s_rd (r_build (ps := []) (rs := []) st_61 zs_61 trivial rfl rfl) rfl ?_
      refine s_st0 (s_mput (x := t17) (y := (T_anon61.mk )) Tryd.underlying60 key_35 rfl (j := 2) rfl rfl rfl) (fun _ => ?_)
      refine l_nil (n_block (n_then (ref_region ?_)))
      refine s_rd (r_add rfl rfl) rfl ?_
      refine mv1 rfl rfl ?_
      refine l_nil ?_
      exact goB () (weak [0, 1, 2] ⟨rfl, rfl, rfl, rfl, rfl, trivial⟩ ⟨rfl, rfl, rfl, trivial⟩)
    refine ref_exit (x_then ?_)
    exact brkB () (weak [0, 1, 2] ⟨rfl, rfl, trivial⟩ ⟨rfl, rfl, rfl, trivial⟩)
  refine n_then (ref_seq (ref_region ?_))
  refine s_rd (r_mkfn (xs := [.tmp 5]) (vs := [(ptr b3 0)]) ⟨rfl, trivial⟩) rfl ?_
  refine as1 rfl rfl ?_
  refine l_nil (n_then (ref_seq (ref_seq (ref_region ?_))))
  refine as1 rfl rfl ?_
  refine l_nil (n_then ?_)
  refine ref_loopB (f := (strict_Closure_l2 b_0)) (Γl := (fun (s96 : Bool × (List (T_api_Literal × T_anon61))) (x97 : Unit) => [(2, pv (ptr b1 0)), (5, pv (ptr b3 0)), (8, pv (.func (.func 22) #[] #[(ptr b3 0)])), (9, bv s96.1)])) (Ωl := (fun (s96 : Bool × (List (T_api_Literal × T_anon61))) (x97 : Unit) => [oc b1 [slv rT_api_Premise b_0.Premises, slv rT_api_Rule b_0.Rules, slv rT_api_Promotion b_0.Promotions], oc b3 [pv (.map (some b2))], om rT_api_Literal rT_anon61 b2 s96.2])) (Γb := (fun (q134 : (List (T_api_Literal × T_anon61))) (y135 : Unit) => [(5, pv (ptr b3 0))])) (Ωb := (fun (q134 : (List (T_api_Literal × T_anon61))) (y135 : Unit) => [oc b3 [pv (.map (some b2))], om rT_api_Literal rT_anon61 b2 q134])) (true, q19) () (weak [0, 1, 2] ⟨rfl, rfl, rfl, rfl, trivial⟩ ⟨rfl, rfl, rfl, trivial⟩) (fun s96 x97 => ?_) (fun q134 y135 => ?_)
  · unfold strict_Closure_l2
    refine ref_seq (ref_seq (ref_region ?_))
    refine mv1 rfl rfl ?_
    refine l_nil (n_then ?_)
    refine ref_cond rfl (fun hb98 => ?_) (fun hb98 => ?_)
    · refine ref_skip (n_then (ref_block (ref_seq (ref_region ?_))))
      refine as1 rfl rfl ?_
      refine l_nil (n_then (ref_seq (ref_region ?_)))
      refine s_rd (r_faddr (fo := 1) Tryd.underlying29 rfl rfl Tryd.sizeOf26 rfl) rfl ?_
      refine s_rd (r_cload Tryd.isAgg26 rfl (j := 0) rfl rfl) rfl ?_
      refine s_rd (r_len Tryd.underlying26 rfl) rfl ?_
      refine mv1 rfl rfl ?_
      refine l_nil (n_then ?_)
      refine ref_loopB (f := (strict_Closure_l3 b_0)) (Γl := (fun (s121 : Bool × Int × (List (T_api_Literal × T_anon61))) (x122 : Unit) => [(2, pv (ptr b1 0)), (5, pv (ptr b3 0)), (8, pv (.func (.func 22) #[] #[(ptr b3 0)])), (9, bv s121.1), (28, slv rT_api_Rule b_0.Rules), (29, iv .i64 (b_0.Rules.length : Int)), (30, iv .i64 s121.2.1)])) (Ωl := (fun (s121 : Bool × Int × (List (T_api_Literal × T_anon61))) (x122 : Unit) => [oc b1 [slv rT_api_Premise b_0.Premises, slv rT_api_Rule b_0.Rules, slv rT_api_Promotion b_0.Promotions], oc b3 [pv (.map (some b2))], om rT_api_Literal rT_anon61 b2 s121.2.2])) (Γb := (fun (q132 : (List (T_api_Literal × T_anon61)) × Bool) (y133 : Unit) => [(2, pv (ptr b1 0)), (5, pv (ptr b3 0)), (8, pv (.func (.func 22) #[] #[(ptr b3 0)])), (9, bv q132.2)])) (Ωb := (fun (q132 : (List (T_api_Literal × T_anon61)) × Bool) (y133 : Unit) => [oc b1 [slv rT_api_Premise b_0.Premises, slv rT_api_Rule b_0.Rules, slv rT_api_Promotion b_0.Promotions], oc b3 [pv (.map (some b2))], om rT_api_Literal rT_anon61 b2 q132.1])) (false, 0, s96.2) () (weak [0, 1, 2] ⟨rfl, rfl, rfl, rfl, rfl, rfl, rfl, trivial⟩ ⟨rfl, rfl, rfl, trivial⟩) (fun s121 x122 => ?_) (fun q132 y133 => ?_)
      · unfold strict_Closure_l3
        refine ref_seq (ref_region ?_)
        refine s_rd (r_lss rfl rfl) rfl ?_
        refine l_nil (n_then (ref_seq ?_))
        refine ref_cond rfl (fun hb123 => ?_) (fun hb123 => ?_)
        · refine ref_skip (n_then (ref_seq (ref_block (ref_seq (ref_region ?_)))))
          refine pull fun t124 h_t124 => ?_
          refine s_rd (r_index h_t124 Tryd.underlying26 el_40 rfl rfl) rfl ?_
          refine s_rd (r_load el_40 rfl) rfl ?_
          refine s_st (s_alloc zt_40) rfl (fun b125 => ?_)
          refine s_st0 (s_cstore (out := [sv t124.Name, bv t124.Strict, iv .i64 t124.Rank, slv rT_api_Literal t124.Body, bv t124.Head.Neg, sv t124.Head.Name]) Tryd.sizeOf40 rfl (j := 3) rfl (part_agO (ψs := [sv t124.Name, bv t124.Strict, iv .i64 t124.Rank, slv rT_api_Literal t124.Body, bv t124.Head.Neg, sv t124.Head.Name]) rfl ⟨.inl sv_at, .inl bv_at, .inl iv_at, .inl slv_at, .inl bv_at, .inl sv_at, trivial⟩) rfl rfl rfl) (fun _ => ?_)
          refine l_nil (n_then (ref_seq ?_))
          refine ref_join (fun (j128 : Bool) (x129 : Unit) => [(2, pv (ptr b1 0)), (5, pv (ptr b3 0)), (8, pv (.func (.func 22) #[] #[(ptr b3 0)])), (9, bv s121.1), (11, pv (ptr b125 0)), (28, slv rT_api_Rule b_0.Rules), (29, iv .i64 (b_0.Rules.length : Int)), (30, iv .i64 s121.2.1), (48, bv j128)]) (fun (j128 : Bool) (x129 : Unit) => [oc b1 [slv rT_api_Premise b_0.Premises, slv rT_api_Rule b_0.Rules, slv rT_api_Promotion b_0.Promotions], oc b3 [pv (.map (some b2))], om rT_api_Literal rT_anon61 b2 s121.2.2, oc b125 [sv t124.Name, bv t124.Strict, iv .i64 t124.Rank, slv rT_api_Literal t124.Body, bv t124.Head.Neg, sv t124.Head.Name]]) (fun k130 hk130 => ?_) (fun j128 x129 => ?_)
          · refine ref_region ?_
            refine s_rd (r_faddr (fo := 1) Tryd.underlying40 rfl rfl Tryd.sizeOf4 rfl) rfl ?_
            refine s_rd (r_cload Tryd.isAgg4 rfl (j := 3) rfl rfl) rfl ?_
            refine mv1 rfl rfl ?_
            refine b_split (t := 36) rfl (fun _ => ?_) (fun _ => ?_)
            · refine s_on rfl rfl rfl ?_
              refine mv1 rfl rfl ?_
              refine s_on rfl rfl rfl ?_
              refine s_rd (r_faddr (fo := 4) Tryd.underlying40 rfl rfl Tryd.sizeOf35 rfl) rfl ?_
              refine s_on rfl rfl rfl ?_
              refine s_rd (r_cloadS Tryd.isAgg35 Tryd.sizeOf35 rfl (j := 3) rfl rfl rfl) rfl ?_
              refine s_on rfl rfl rfl ?_
              refine pull fun t126 h_t126 => ?_
              refine s_st (s_callC [1, 2] [true, true] (fun (_ : Unit) => [oc b3 [pv (.map (some b2))], om rT_api_Literal rT_anon61 b2 s121.2.2]) (fun (_ : Unit) => []) (fun (_ : Unit) => bv t126) (args := [.tmp 39]) (caps := [(ptr b3 0)]) Tryd.call22 rfl (strict_Closure_1_ok h_t126) ⟨rfl, rfl, ⟨rfl, rfl, trivial⟩⟩ (fun _ => rfl) (fun _ => trivial) (fun _ => rfl) ⟨arg rfl, arg rfl, trivial⟩ (fun _ _ _ _ h => h)) rfl (fun _ => ?_)
              refine s_rd (r_pickT rfl rfl) rfl ?_
              refine mv1 rfl rfl ?_
              refine b_split (t := 42) rfl (fun _ => ?_) (fun _ => ?_)
              · refine s_on rfl rfl rfl ?_
                refine s_rd (r_faddr (fo := 3) Tryd.underlying40 rfl rfl Tryd.sizeOf31 rfl) rfl ?_
                refine s_on rfl rfl rfl ?_
                refine s_rd (r_cload Tryd.isAgg31 rfl (j := 3) rfl rfl) rfl ?_
                refine s_on rfl rfl rfl ?_
                refine mv1 rfl rfl ?_
                refine s_on rfl rfl rfl ?_
                refine pull fun t127 h_t127 => ?_
                refine s_st (s_callC [1, 2] [true, true] (fun (_ : Unit) => [oc b3 [pv (.map (some b2))], om rT_api_Literal rT_anon61 b2 s121.2.2]) (fun (_ : Unit) => []) (fun (_ : Unit) => bv t127) (args := [.tmp 44, .tmp 45]) (caps := []) Tryd.call23 rfl (slices_ContainsFunc_api_Literal_api_Literal_ok h_t127) ⟨rfl, rfl, ⟨rfl, rfl, trivial⟩⟩ (fun _ => rfl) (fun _ => trivial) (fun _ => rfl) ⟨arg rfl, arg rfl, trivial⟩ (fun _ _ _ _ h => h)) rfl (fun _ => ?_)
                refine s_on rfl rfl rfl ?_
                refine s_rd (r_not rfl) rfl ?_
                refine s_rd (r_pickT rfl rfl) rfl ?_
                refine l_nil ?_
                refine b_of (nrm [oc b1 [slv rT_api_Premise b_0.Premises, slv rT_api_Rule b_0.Rules, slv rT_api_Promotion b_0.Promotions], oc b3 [pv (.map (some b2))], om rT_api_Literal rT_anon61 b2 s121.2.2, oc b125 [sv t124.Name, bv t124.Strict, iv .i64 t124.Rank, slv rT_api_Literal t124.Body, bv t124.Head.Neg, sv t124.Head.Name]] rfl) ?_
                exact b_to (hk130 (!t127) ()) (weak [0, 1, 2, 3] ⟨rfl, rfl, rfl, rfl, rfl, rfl, rfl, rfl, rfl, trivial⟩ ⟨rfl, rfl, rfl, rfl, trivial⟩)
              refine s_off rfl rfl rfl rfl rfl ?_
              refine s_off rfl rfl rfl rfl rfl ?_
              refine s_off rfl rfl rfl rfl rfl ?_
              refine s_off rfl rfl rfl rfl rfl ?_
              refine s_off rfl rfl rfl rfl rfl ?_
              refine s_rd (r_pickF rfl rfl) rfl ?_
              refine l_nil ?_
              exact b_to (hk130 false ()) (weak [0, 1, 2, 3] ⟨rfl, rfl, rfl, rfl, rfl, rfl, rfl, rfl, rfl, trivial⟩ ⟨rfl, rfl, rfl, rfl, trivial⟩)
            refine s_off rfl rfl rfl rfl rfl ?_
            refine s_off rfl rfl rfl rfl rfl ?_
            refine s_off rfl rfl rfl rfl rfl ?_
            refine s_off rfl rfl rfl rfl rfl ?_
            refine s_rd (r_pickF rfl rfl) rfl ?_
            refine mv1 rfl rfl ?_
            refine s_off rfl rfl rfl rfl rfl ?_
            refine s_off rfl rfl rfl rfl rfl ?_
            refine s_off rfl rfl rfl rfl rfl ?_
            refine s_off rfl rfl rfl rfl rfl ?_
            refine s_off rfl rfl rfl rfl rfl ?_
            refine s_rd (r_pickF rfl rfl) rfl ?_
            refine l_nil ?_
            exact b_to (hk130 false ()) (weak [0, 1, 2, 3] ⟨rfl, rfl, rfl, rfl, rfl, rfl, rfl, rfl, rfl, trivial⟩ ⟨rfl, rfl, rfl, rfl, trivial⟩)
          refine n_then ?_
          refine ref_cond rfl (fun hb131 => ?_) (fun hb131 => ?_)
          · refine ref_seq (ref_region ?_)
            refine s_rd (r_cload Tryd.isAgg60 rfl (j := 1) rfl rfl) rfl ?_
            refine s_rd (r_faddr (fo := 4) Tryd.underlying40 rfl rfl Tryd.sizeOf35 rfl) rfl ?_
            refine s_rd (r_cloadS Tryd.isAgg35 Tryd.sizeOf35 rfl (j := 3) rfl rfl rfl) rfl ?_
            refine s_rd (r_build (ps := []) (rs := []) st_61 zs_61 trivial rfl rfl) rfl ?_
            refine s_st0 (s_mput (x := t124.Head) (y := (T_anon61.mk )) Tryd.underlying60 key_35 rfl (j := 2) rfl rfl rfl) (fun _ => ?_)
            refine l_nil (n_then (ref_region ?_))
            refine as1 rfl rfl ?_
            refine l_nil (n_block (n_then (ref_region ?_)))
            refine s_rd (r_add rfl rfl) rfl ?_
            refine mv1 rfl rfl ?_
            refine l_nil ?_
            exact goB () (weak [0, 1, 2] ⟨rfl, rfl, rfl, rfl, rfl, rfl, rfl, trivial⟩ ⟨rfl, rfl, rfl, trivial⟩)
          refine ref_skip (n_block (n_then (ref_region ?_)))
          refine s_rd (r_add rfl rfl) rfl ?_
          refine mv1 rfl rfl ?_
          refine l_nil ?_
          exact goB () (weak [0, 1, 2] ⟨rfl, rfl, rfl, rfl, rfl, rfl, rfl, trivial⟩ ⟨rfl, rfl, rfl, trivial⟩)
        refine ref_exit (x_then ?_)
        exact brkB () (weak [0, 1, 2] ⟨rfl, rfl, rfl, rfl, trivial⟩ ⟨rfl, rfl, rfl, trivial⟩)
      refine n_block ?_
      exact goB () (weak [0, 1, 2] ⟨rfl, rfl, rfl, rfl, trivial⟩ ⟨rfl, rfl, rfl, trivial⟩)
    refine ref_exit (x_then ?_)
    exact brkB () (weak [1, 2] ⟨rfl, trivial⟩ ⟨rfl, rfl, trivial⟩)
  refine n_then (ref_seq (ref_region ?_))
  refine s_rd (r_cload Tryd.isAgg60 rfl (j := 0) rfl rfl) rfl ?_
  refine s_rd (r_mlen (κ := rT_api_Literal) (ν := rT_anon61) Tryd.underlying60 rfl (j := 1) rfl) rfl ?_
  refine pull fun u136 h_u136 => ?_
  refine s_st (s_makeC h_u136 Tryd.underlying31 el_35 rfl rfl) rfl (fun o137 => ?_)
  refine as1 rfl rfl ?_
  refine l_nil (n_then (ref_seq (ref_seq (ref_region ?_))))
  refine s_rd (r_cload Tryd.isAgg60 rfl (j := 0) rfl rfl) rfl ?_
  refine s_st (s_range Tryd.underlying60 rfl (j := 1) rfl) rfl (fun it138 => ?_)
  refine l_nil (n_then ?_)
  refine ref_rng (f := (strict_Closure_l4)) (Γl := (fun (s144 : (List T_api_Literal)) (x144 : (Value × List Nat)) => [(12, pv x144.1), (58, pv (ptr it138 0))])) (Ωl := (fun (s144 : (List T_api_Literal)) (x144 : (Value × List Nat)) (ix144 : List Nat) => [oa rT_api_Literal x144.1 x144.2 s144, omi rT_api_Literal rT_anon61 b2 it138 q134 ix144])) (Γb := (fun (q149 : (List T_api_Literal)) (y149 : (Value × List Nat)) => [(12, pv y149.1), (58, pv (ptr it138 0))])) (Ωb := (fun (q149 : (List T_api_Literal)) (y149 : (Value × List Nat)) (ix144 : List Nat) => [oa rT_api_Literal y149.1 y149.2 q149, omi rT_api_Literal rT_anon61 b2 it138 q134 ix144])) [] o137 (weak [2, 1] ⟨rfl, rfl, trivial⟩ ⟨rfl, rfl, trivial⟩) (fun ix144 s144 x144 H144 => ?_) (fun q149 y149 ix144 => ?_)
  · refine ref_seq (ref_region ?_)
    refine s_st (s_next rfl (j := 1) rfl) rfl (fun o145 => ?_)
    refine s_rd (r_nxt0 rfl) rfl ?_
    refine l_nil (n_then (ref_seq ?_))
    obtain ⟨_ | ⟨i144, q144⟩, ho144⟩ := o145
    · refine ref_condF rfl rfl (ref_exit (x_then ?_))
      exact rng_over ho144 x144 (weak [0, 1] ⟨rfl, rfl, trivial⟩ ⟨rfl, rfl, trivial⟩)
    refine ref_condT rfl rfl (ref_skip (n_then ?_))
    refine rng_pick H144 ho144.1 ho144.2 ?_
    unfold strict_Closure_l4
    refine ref_block (ref_seq (ref_region ?_))
    refine s_rd (r_entry (ix := ix144) (i := i144) (u := q144.1) (v := q144.2) rfl (j := 1) rfl ho144.2) rfl ?_
    refine s_rd (r_extract rfl rfl) rfl ?_
    refine s_st (s_alloc zt_35) rfl (fun b146 => ?_)
    refine s_st0 (s_cstore (out := [bv q144.1.Neg, sv q144.1.Name]) Tryd.sizeOf35 rfl (j := 2) rfl (part_agO (ψs := [bv q144.1.Neg, sv q144.1.Name]) rfl ⟨.inl bv_at, .inl sv_at, trivial⟩) rfl rfl rfl) (fun _ => ?_)
    refine l_nil ?_
    refine b_of (nrm [oa rT_api_Literal x144.1 x144.2 s144, omi rT_api_Literal rT_anon61 b2 it138 q134 (ix144 ++ [i144]), oc b146 [bv q144.1.Neg, sv q144.1.Name]] rfl) ?_
    refine n_then (ref_region ?_)
    refine mv1 rfl rfl ?_
    refine s_rd (r_cloadS Tryd.isAgg35 Tryd.sizeOf35 rfl (j := 2) rfl rfl rfl) rfl ?_
    refine s_st (s_bslice (xs := [.tmp 64]) (ds := [q144.1]) Tryd.underlying31 el_35 rfl (Nat.le_of_ble_eq_true rfl) ⟨(part_agO (ψs := [bv q144.1.Neg, sv q144.1.Name]) rfl ⟨.inl bv_at, .inl sv_at, trivial⟩), trivial⟩) rfl (fun _ => ?_)
    refine pull fun out147 h_out147 => ?_
    refine s_st (s_append h_out147 Tryd.underlying31 el_35 rfl (j := 0) rfl rfl) rfl (fun o148 => ?_)
    refine as1 rfl rfl ?_
    refine l_nil (n_block ?_)
    exact rng_go o148 (weak [0, 1] ⟨rfl, rfl, trivial⟩ ⟨rfl, rfl, trivial⟩)
  refine n_then (ref_seq (ref_region ?_))
  refine mv1 rfl rfl ?_
  refine b_of (frzL [12, 67] (j := 0) rfl ⟨rfl, rfl, trivial⟩) ?_
  refine pull fun t150 h_t150 => ?_
  refine s_st (s_call (ψ := fun (_ : Unit) => slv rT_api_Literal t150) (args := [.tmp 67]) Tryd.call24 rfl (literal_Normal_ok h_t150) ⟨arg rfl, trivial⟩ (fun _ _ _ _ h => h)) rfl (fun _ => ?_)
  refine as1 rfl rfl ?_
  refine l_nil (n_then (ref_ret ?_))
  exact fin1 (.inl rfl) () [] rfl trivial rfl (rv_tmp rfl)

/-! deliberation/deliberationref01.Compare -/
noncomputable def ref01_Compare_m (a__0 : T_api_Literal) (b_1 : T_api_Literal) : Option (Int) :=
  letM (decide (a__0 = b_1)) fun t3 =>
  bif t3 then
    some 0
  else
    bif Op.bytesLess a__0.Name.toList b_1.Name.toList then
      some (-1)
    else
      bif a__0.Name.toList == b_1.Name.toList then
        bif b_1.Neg then
          some (-1)
        else
          some 1
      else
        some 1

theorem ref01_Compare_ok {a__0 : T_api_Literal} {b_1 : T_api_Literal} {r : Int} (hm : ref01_Compare_m a__0 b_1 = some r) :
    FnOk prog 44 [ag [bv a__0.Neg, sv a__0.Name], ag [bv b_1.Neg, sv b_1.Name]] [] (fun (x : Unit) => [iv .i64 r]) (fun (x : Unit) => []) := by
  refine fn_ok (fn := Tryd.f44) (N := 26) (res := fun r x => [iv .i64 r]) (Ω1 := fun r x => []) Tryd.func44 rfl rfl hm rfl (fun E hM => ?_)
  unfold ref01_Compare_m
  refine ref_seq (ref_region ?_)
  refine s_st (s_box (part_agO (ψs := [bv a__0.Neg, sv a__0.Name]) rfl ⟨.inl bv_at, .inl sv_at, trivial⟩)) rfl (fun b1 => ?_)
  refine s_st (s_box (part_agO (ψs := [bv b_1.Neg, sv b_1.Name]) rfl ⟨.inl bv_at, .inl sv_at, trivial⟩)) rfl (fun b2 => ?_)
  refine as1 rfl rfl ?_
  refine l_nil (n_then (ref_seq (ref_block (ref_seq (ref_region ?_)))))
  refine s_rd (r_cloadS Tryd.isAgg35 Tryd.sizeOf35 rfl (j := 0) rfl rfl rfl) rfl ?_
  refine s_rd (r_cloadS Tryd.isAgg35 Tryd.sizeOf35 rfl (j := 1) rfl rfl rfl) rfl ?_
  refine s_rd (r_steql (u := a__0) (v := b_1) eq_35 rfl rfl rfl rfl) rfl ?_
  refine as1 rfl rfl ?_
  refine b_let (f := bv) (t := 5) rfl fun t3 => ?_
  refine l_nil (n_then ?_)
  refine ref_cond rfl (fun hb4 => ?_) (fun hb4 => ?_)
  · refine ref_seq (ref_region ?_)
    refine as1 rfl rfl ?_
    refine l_nil (n_then (ref_ret (r_block (r_then ?_))))
    exact fin1 (.inl rfl) () [] rfl trivial rfl (rv_tmp rfl)
  refine ref_seq (ref_region ?_)
  refine s_rd (r_faddr (fo := 1) Tryd.underlying35 rfl rfl Tryd.sizeOf9 rfl) rfl ?_
  refine s_rd (r_cload Tryd.isAgg9 rfl (j := 0) rfl rfl) rfl ?_
  refine s_rd (r_faddr (fo := 1) Tryd.underlying35 rfl rfl Tryd.sizeOf9 rfl) rfl ?_
  refine s_rd (r_cload Tryd.isAgg9 rfl (j := 1) rfl rfl) rfl ?_
  refine s_rd (r_slss rfl rfl) rfl ?_
  refine mv1 rfl rfl ?_
  refine b_split (t := 15) rfl (fun _ => ?_) (fun _ => ?_)
  · refine s_off rfl rfl rfl rfl rfl ?_
    refine s_off rfl rfl rfl rfl rfl ?_
    refine s_off rfl rfl rfl rfl rfl ?_
    refine s_off rfl rfl rfl rfl rfl ?_
    refine s_off rfl rfl rfl rfl rfl ?_
    refine s_off rfl rfl rfl rfl rfl ?_
    refine s_offU rfl rfl rfl ?_
    refine s_offU rfl rfl rfl ?_
    refine s_off rfl rfl rfl rfl rfl ?_
    refine s_rd (r_pickT rfl rfl) rfl ?_
    refine as1 rfl rfl ?_
    refine l_nil (n_then ?_)
    refine ref_condT rfl rfl ?_
    refine ref_seq (ref_region ?_)
    refine as1 rfl rfl ?_
    refine l_nil (n_then (ref_ret (r_block (r_then ?_))))
    exact fin1 (.inl rfl) () [] rfl trivial rfl (rv_tmp rfl)
  refine s_on rfl rfl rfl ?_
  refine s_rd (r_faddr (fo := 1) Tryd.underlying35 rfl rfl Tryd.sizeOf9 rfl) rfl ?_
  refine s_on rfl rfl rfl ?_
  refine s_rd (r_cload Tryd.isAgg9 rfl (j := 0) rfl rfl) rfl ?_
  refine s_on rfl rfl rfl ?_
  refine s_rd (r_faddr (fo := 1) Tryd.underlying35 rfl rfl Tryd.sizeOf9 rfl) rfl ?_
  refine s_on rfl rfl rfl ?_
  refine s_rd (r_cload Tryd.isAgg9 rfl (j := 1) rfl rfl) rfl ?_
  refine s_on rfl rfl rfl ?_
  refine s_rd (r_seql rfl rfl) rfl ?_
  refine s_on rfl rfl rfl ?_
  refine mv1 rfl rfl ?_
  refine b_split (t := 21) rfl (fun _ => ?_) (fun _ => ?_)
  · refine s_on rfl rfl rfl ?_
    refine s_rd (r_faddr (fo := 0) Tryd.underlying35 rfl rfl Tryd.sizeOf4 rfl) rfl ?_
    refine s_on rfl rfl rfl ?_
    refine s_rd (r_cload Tryd.isAgg4 rfl (j := 1) rfl rfl) rfl ?_
    refine s_on rfl rfl rfl ?_
    refine s_rd (r_pickT rfl rfl) rfl ?_
    refine s_rd (r_pickF rfl rfl) rfl ?_
    refine as1 rfl rfl ?_
    refine l_nil (n_then ?_)
    refine ref_cond rfl (fun hb5 => ?_) (fun hb5 => ?_)
    · refine ref_seq (ref_region ?_)
      refine as1 rfl rfl ?_
      refine l_nil (n_then (ref_ret (r_block (r_then ?_))))
      exact fin1 (.inl rfl) () [] rfl trivial rfl (rv_tmp rfl)
    refine ref_skip (n_block (n_then (ref_seq (ref_region ?_))))
    refine as1 rfl rfl ?_
    refine l_nil (n_then (ref_ret ?_))
    exact fin1 (.inl rfl) () [] rfl trivial rfl (rv_tmp rfl)
  refine s_off rfl rfl rfl rfl rfl ?_
  refine s_off rfl rfl rfl rfl rfl ?_
  refine s_on rfl rfl rfl ?_
  refine s_rd (r_pickF rfl rfl) rfl ?_
  refine s_rd (r_pickF rfl rfl) rfl ?_
  refine as1 rfl rfl ?_
  refine l_nil (n_then ?_)
  refine ref_condF rfl rfl ?_
  refine ref_skip (n_block (n_then (ref_seq (ref_region ?_))))
  refine as1 rfl rfl ?_
  refine l_nil (n_then (ref_ret ?_))
  exact fin1 (.inl rfl) () [] rfl trivial rfl (rv_tmp rfl)

/-! deliberation/deliberationref01.Insert -/
noncomputable def ref01_Insert_l1 (l_0 : (List T_api_Literal)) (x_1 : T_api_Literal) (s7 : Int) : Option (Sum (Int) (Int)) :=
  bif decide (s7 < (l_0.length : Int)) then
    Option.bind (idxM l_0 s7) fun t9 =>
    Option.bind (ref01_Compare_m t9 x_1) fun t10 =>
    bif decide (t10 < 0) then
      some (Sum.inr (iadd .i64 s7 1))
    else
      some (Sum.inl s7)
  else
    some (Sum.inl s7)

noncomputable def ref01_Insert_m (l_0 : (List T_api_Literal)) (x_1 : T_api_Literal) : Option (List T_api_Literal) :=
  Option.bind (loopC (ref01_Insert_l1 l_0 x_1) 0) fun q12 : Int =>
  joinM (fun j16 : Unit =>
      Option.bind (slM l_0 0 q12) fun t20 =>
      Option.bind (appM 24 [] t20) fun out21 =>
      Option.bind (slM l_0 q12 (l_0.length : Int)) fun t23 =>
      Option.bind (appM 24 out21 [x_1]) fun t24 =>
      Option.bind (appM 24 t24 t23) fun t26 =>
      some t26) fun k18 =>
  bif decide (q12 < (l_0.length : Int)) then
    Option.bind (idxM l_0 q12) fun t14 =>
    bif decide (t14 = x_1) then
      some l_0
    else
      k18 ()
  else
    k18 ()

theorem ref01_Insert_ok {l_0 : (List T_api_Literal)} {x_1 : T_api_Literal} {r : List T_api_Literal} (hm : ref01_Insert_m l_0 x_1 = some r) :
    FnOk prog 27 [slv rT_api_Literal l_0, ag [bv x_1.Neg, sv x_1.Name]] [] (fun (x : Unit) => [slv rT_api_Literal r]) (fun (x : Unit) => []) := by
  refine fn_ok (fn := Tryd.f27) (N := 48) (res := fun r x => [slv rT_api_Literal r]) (Ω1 := fun r x => []) Tryd.func27 rfl rfl hm rfl (fun E hM => ?_)
  unfold ref01_Insert_m
  refine ref_seq (ref_region ?_)
  refine s_st (s_box (part_agO (ψs := [bv x_1.Neg, sv x_1.Name]) rfl ⟨.inl bv_at, .inl sv_at, trivial⟩)) rfl (fun b1 => ?_)
  refine as1 rfl rfl ?_
  refine l_nil (n_then (ref_seq (ref_region ?_)))
  refine as1 rfl rfl ?_
  refine l_nil (n_then (ref_seq ?_))
  refine ref_loopB (f := (ref01_Insert_l1 l_0 x_1)) (Γl := (fun (s7 : Int) (x8 : Unit) => [(0, slv rT_api_Literal l_0), (3, pv (ptr b1 0)), (5, iv .i64 s7)])) (Ωl := (fun (s7 : Int) (x8 : Unit) => [oc b1 [bv x_1.Neg, sv x_1.Name]])) (Γb := (fun (q12 : Int) (y13 : Unit) => [(0, slv rT_api_Literal l_0), (3, pv (ptr b1 0)), (5, iv .i64 q12)])) (Ωb := (fun (q12 : Int) (y13 : Unit) => [oc b1 [bv x_1.Neg, sv x_1.Name]])) 0 () (weak [0] ⟨rfl, rfl, rfl, trivial⟩ ⟨rfl, trivial⟩) (fun s7 x8 => ?_) (fun q12 y13 => ?_)
  · unfold ref01_Insert_l1
    refine ref_seq (ref_seq ?_)
    refine ref_draw [0, 1, 2, 3, 4, 5, 6, 7, 8, 9, 11, 12] rfl (by kernel_rfl) (fun hok => ?_)
    refine a_rd (i := 0) hok rfl (by kernel_rfl) rfl (r_move rfl) rfl ?_
    refine a_rd (i := 1) hok rfl (by kernel_rfl) rfl (r_move rfl) rfl ?_
    refine a_rd (i := 2) hok rfl (by kernel_rfl) rfl (r_len Tryd.underlying31 rfl) rfl ?_
    refine a_rd (i := 3) hok rfl (by kernel_rfl) rfl (r_lss rfl rfl) rfl ?_
    refine a_rd (i := 4) hok rfl (by kernel_rfl) rfl (r_move rfl) rfl ?_
    refine b_split (t := 11) rfl (fun _ => ?_) (fun _ => ?_)
    · refine a_rdOn (i := 5) hok rfl rfl rfl rfl (by kernel_rfl) rfl (r_move rfl) rfl ?_
      refine a_rdOn (i := 6) hok rfl rfl rfl rfl (by kernel_rfl) rfl (r_move rfl) rfl ?_
      refine pull fun t9 h_t9 => ?_
      refine a_rdOn (i := 7) hok rfl rfl rfl rfl (by kernel_rfl) rfl (r_index h_t9 Tryd.underlying31 el_35 rfl rfl) rfl ?_
      refine a_rdOn (i := 8) hok rfl rfl rfl rfl (by kernel_rfl) rfl (r_load el_35 rfl) rfl ?_
      refine a_rdOn (i := 9) hok rfl rfl rfl rfl (by kernel_rfl) rfl (r_cloadS Tryd.isAgg35 Tryd.sizeOf35 rfl (j := 0) rfl rfl rfl) rfl ?_
      refine pull fun t10 h_t10 => ?_
      refine a_next hok 10 [] (by kernel_rfl) ?_ trivial
      refine a_stOn (i := 10) hok rfl rfl rfl rfl rfl (s_call (ψ := fun (_ : Unit) => iv .i64 t10) (args := [.tmp 15, .tmp 16]) Tryd.call44 rfl (ref01_Compare_ok h_t10) ⟨arg rfl, arg rfl, trivial⟩ (fun _ _ _ _ h => h)) (by intro _ h; cases h; rfl) (fun _ => ⟨trivial, ⟨trivial, ⟨trivial, ⟨trivial, ⟨trivial, ⟨trivial, ⟨trivial, ⟨trivial, ⟨trivial, ⟨trivial, trivial⟩⟩⟩⟩⟩⟩⟩⟩⟩⟩) (fun _ => ?_)
      refine a_rdOn (i := 11) hok rfl rfl rfl rfl (by kernel_rfl) rfl (r_lss rfl rfl) rfl ?_
      refine a_rd (i := 12) hok rfl (by kernel_rfl) rfl (r_pickT rfl rfl) rfl ?_
      refine a_fin hok (by kernel_rfl) ?_
      refine n_then ?_
      refine ref_cond rfl (fun hb11 => ?_) (fun hb11 => ?_)
      · refine ref_skip (n_then (ref_block (ref_region ?_)))
        refine mv1 rfl rfl ?_
        refine s_rd (r_add rfl rfl) rfl ?_
        refine as1 rfl rfl ?_
        refine l_nil (n_block ?_)
        exact goB () (weak [0] ⟨rfl, rfl, rfl, trivial⟩ ⟨rfl, trivial⟩)
      refine ref_exit (x_then ?_)
      exact brkB () (weak [0] ⟨rfl, rfl, rfl, trivial⟩ ⟨rfl, trivial⟩)
    refine a_off (i := 5) hok rfl rfl rfl rfl rfl (by kernel_rfl) rfl rfl ?_
    refine a_off (i := 6) hok rfl rfl rfl rfl rfl (by kernel_rfl) rfl rfl ?_
    refine a_off (i := 7) hok rfl rfl rfl rfl rfl (by kernel_rfl) rfl rfl ?_
    refine a_off (i := 8) hok rfl rfl rfl rfl rfl (by kernel_rfl) rfl rfl ?_
    refine a_off (i := 9) hok rfl rfl rfl rfl rfl (by kernel_rfl) rfl rfl ?_
    refine a_next hok 10 [] (by kernel_rfl) ?_ trivial
    refine a_stOff (i := 10) hok rfl rfl rfl rfl rfl rfl (by intro _ h; cases h; rfl) ⟨trivial, ⟨trivial, ⟨trivial, ⟨trivial, ⟨trivial, ⟨trivial, ⟨trivial, ⟨trivial, ⟨trivial, ⟨trivial, trivial⟩⟩⟩⟩⟩⟩⟩⟩⟩⟩ ?_
    refine a_off (i := 11) hok rfl rfl rfl rfl rfl (by kernel_rfl) rfl rfl ?_
    refine a_rd (i := 12) hok rfl (by kernel_rfl) rfl (r_pickF rfl rfl) rfl ?_
    refine a_fin hok (by kernel_rfl) ?_
    refine n_then ?_
    refine ref_condF rfl rfl ?_
    refine ref_exit (x_then ?_)
    exact brkB () (weak [0] ⟨rfl, rfl, rfl, trivial⟩ ⟨rfl, trivial⟩)
  refine n_then (ref_seq ?_)
  refine ref_join (fun (j16 : Unit) (x17 : Unit) => [(0, slv rT_api_Literal l_0), (3, pv (ptr b1 0)), (5, iv .i64 q12)]) (fun (j16 : Unit) (x17 : Unit) => [oc b1 [bv x_1.Neg, sv x_1.Name]]) (fun k18 hk18 => ?_) (fun j16 x17 => ?_)
  · refine ref_seq ?_
    refine ref_draw [0, 1, 2, 3, 4, 5, 6, 7, 8, 9, 10, 11] rfl (by kernel_rfl) (fun hok => ?_)
    refine a_rd (i := 0) hok rfl (by kernel_rfl) rfl (r_move rfl) rfl ?_
    refine a_rd (i := 1) hok rfl (by kernel_rfl) rfl (r_move rfl) rfl ?_
    refine a_rd (i := 2) hok rfl (by kernel_rfl) rfl (r_len Tryd.underlying31 rfl) rfl ?_
    refine a_rd (i := 3) hok rfl (by kernel_rfl) rfl (r_lss rfl rfl) rfl ?_
    refine a_rd (i := 4) hok rfl (by kernel_rfl) rfl (r_move rfl) rfl ?_
    refine b_split (t := 26) rfl (fun _ => ?_) (fun _ => ?_)
    · refine a_rdOn (i := 5) hok rfl rfl rfl rfl (by kernel_rfl) rfl (r_move rfl) rfl ?_
      refine a_rdOn (i := 6) hok rfl rfl rfl rfl (by kernel_rfl) rfl (r_move rfl) rfl ?_
      refine pull fun t14 h_t14 => ?_
      refine a_rdOn (i := 7) hok rfl rfl rfl rfl (by kernel_rfl) rfl (r_index h_t14 Tryd.underlying31 el_35 rfl rfl) rfl ?_
      refine a_rdOn (i := 8) hok rfl rfl rfl rfl (by kernel_rfl) rfl (r_load el_35 rfl) rfl ?_
      refine a_rdOn (i := 9) hok rfl rfl rfl rfl (by kernel_rfl) rfl (r_cloadS Tryd.isAgg35 Tryd.sizeOf35 rfl (j := 0) rfl rfl rfl) rfl ?_
      refine a_rdOn (i := 10) hok rfl rfl rfl rfl (by kernel_rfl) rfl (r_steql (u := t14) (v := x_1) eq_35 rfl rfl rfl rfl) rfl ?_
      refine a_rd (i := 11) hok rfl (by kernel_rfl) rfl (r_pickT rfl rfl) rfl ?_
      refine a_fin hok (by kernel_rfl) ?_
      refine n_then ?_
      refine ref_cond rfl (fun hb15 => ?_) (fun hb15 => ?_)
      · refine ref_seq (ref_region ?_)
        refine mv1 rfl rfl ?_
        refine as1 rfl rfl ?_
        refine l_nil (n_then (ref_ret (r_then ?_)))
        exact fin1 (.inl rfl) () [] rfl trivial rfl (rv_tmp rfl)
      refine ref_skip ?_
      exact b_to (hk18 () ()) (weak [0] ⟨rfl, rfl, rfl, trivial⟩ ⟨rfl, trivial⟩)
    refine a_off (i := 5) hok rfl rfl rfl rfl rfl (by kernel_rfl) rfl rfl ?_
    refine a_off (i := 6) hok rfl rfl rfl rfl rfl (by kernel_rfl) rfl rfl ?_
    refine a_off (i := 7) hok rfl rfl rfl rfl rfl (by kernel_rfl) rfl rfl ?_
    refine a_off (i := 8) hok rfl rfl rfl rfl rfl (by kernel_rfl) rfl rfl ?_
    refine a_off (i := 9) hok rfl rfl rfl rfl rfl (by kernel_rfl) rfl rfl ?_
    refine a_off (i := 10) hok rfl rfl rfl rfl rfl (by kernel_rfl) rfl rfl ?_
    refine a_rd (i := 11) hok rfl (by kernel_rfl) rfl (r_pickF rfl rfl) rfl ?_
    refine a_fin hok (by kernel_rfl) ?_
    refine n_then ?_
    refine ref_condF rfl rfl ?_
    refine ref_skip ?_
    exact b_to (hk18 () ()) (weak [0] ⟨rfl, rfl, rfl, trivial⟩ ⟨rfl, trivial⟩)
  refine n_then (ref_seq (ref_region ?_))
  refine s_st (s_bsliceO (xs := []) (ds := []) Tryd.underlying31 el_35 rfl (Nat.le_of_ble_eq_true rfl) trivial) rfl (fun o19 => ?_)
  refine mv1 rfl rfl ?_
  refine mv1 rfl rfl ?_
  refine pull fun t20 h_t20 => ?_
  refine s_rd (r_slice h_t20 Tryd.underlying31 el_35 rfl .dft (.of rfl)) rfl ?_
  refine pull fun out21 h_out21 => ?_
  refine s_st (s_append h_out21 Tryd.underlying31 el_35 rfl (j := 1) rfl rfl) rfl (fun o22 => ?_)
  refine as1 rfl rfl ?_
  refine l_nil (n_then (ref_seq ?_))
  refine ref_draw [0, 1, 4, 5, 6] rfl (by kernel_rfl) (fun hok => ?_)
  refine a_rd (i := 0) hok rfl (by kernel_rfl) rfl (r_move rfl) rfl ?_
  refine a_rd (i := 1) hok rfl (by kernel_rfl) rfl (r_cloadS Tryd.isAgg35 Tryd.sizeOf35 rfl (j := 0) rfl rfl rfl) rfl ?_
  refine a_rd (i := 4) hok rfl (by kernel_rfl) rfl (r_move rfl) rfl ?_
  refine a_rd (i := 5) hok rfl (by kernel_rfl) rfl (r_move rfl) rfl ?_
  refine pull fun t23 h_t23 => ?_
  refine a_rd (i := 6) hok rfl (by kernel_rfl) rfl (r_slice h_t23 Tryd.underlying31 el_35 rfl (.of rfl) .dft) rfl ?_
  refine a_next hok 2 [] (by kernel_rfl) ?_ trivial
  refine a_st (i := 2) hok rfl rfl (s_bslice (xs := [.tmp 41]) (ds := [x_1]) Tryd.underlying31 el_35 rfl (Nat.le_of_ble_eq_true rfl) ⟨(part_agO (ψs := [bv x_1.Neg, sv x_1.Name]) rfl ⟨.inl bv_at, .inl sv_at, trivial⟩), trivial⟩) (by intro _ h; cases h; rfl) (fun _ => ⟨trivial, ⟨trivial, ⟨trivial, ⟨trivial, ⟨trivial, trivial⟩⟩⟩⟩⟩) (fun _ => ?_)
  refine pull fun t24 h_t24 => ?_
  refine a_next hok 3 [] (by kernel_rfl) ?_ trivial
  refine a_st (i := 3) hok rfl rfl (s_append h_t24 Tryd.underlying31 el_35 rfl (j := 1) rfl rfl) (by intro _ h; cases h; rfl) (fun _ => ⟨trivial, ⟨trivial, ⟨trivial, ⟨⟨⟨rfl, rfl⟩, trivial⟩, ⟨trivial, trivial⟩⟩⟩⟩⟩) (fun o25 => ?_)
  refine pull fun t26 h_t26 => ?_
  refine a_next hok 7 [] (by kernel_rfl) ?_ trivial
  refine a_st (i := 7) hok rfl rfl (s_append h_t26 Tryd.underlying31 el_35 rfl (j := 1) rfl rfl) (by intro _ h; cases h; rfl) (fun _ => ⟨trivial, ⟨trivial, ⟨trivial, ⟨⟨⟨rfl, rfl⟩, trivial⟩, ⟨trivial, trivial⟩⟩⟩⟩⟩) (fun o27 => ?_)
  refine a_next hok 8 [] (by kernel_rfl) ?_ trivial
  refine a_st (i := 8) hok rfl rfl (St.ofRd (r_assign rfl)) (by intro _ h; cases h; rfl) (fun _ => ⟨trivial, ⟨trivial, ⟨trivial, ⟨trivial, ⟨trivial, trivial⟩⟩⟩⟩⟩) (fun _ => ?_)
  refine a_fin hok (by kernel_rfl) ?_
  refine b_of (nrm [oc b1 [bv x_1.Neg, sv x_1.Name], oa rT_api_Literal o27.1 o27.2 t26] rfl) ?_
  refine n_then (ref_ret ?_)
  refine b_of (frzL [47, 4] (j := 1) rfl ⟨rfl, rfl, trivial⟩) ?_
  exact fin1 (.inl rfl) () [] rfl trivial rfl (rv_tmp rfl)

/-! deliberation/deliberationref01.Normal -/
noncomputable def ref01_Normal_l1 (l_0 : (List T_api_Literal)) (s11 : (List T_api_Literal) × Int) : Option (Sum ((List T_api_Literal)) ((List T_api_Literal) × Int)) :=
  bif decide (s11.2 < (l_0.length : Int)) then
    Option.bind (idxM l_0 s11.2) fun t14 =>
    Option.bind (ref01_Insert_m s11.1 t14) fun out15 =>
    letM (iadd .i64 s11.2 1) fun i16x =>
    some (Sum.inr (out15, i16x))
  else
    some (Sum.inl s11.1)

noncomputable def ref01_Normal_m (l_0 : (List T_api_Literal)) : Option (List T_api_Literal) :=
  Option.bind (loopC (ref01_Normal_l1 l_0) ([], 0)) fun q17 : (List T_api_Literal) =>
  some q17

theorem ref01_Normal_ok {l_0 : (List T_api_Literal)} {r : List T_api_Literal} (hm : ref01_Normal_m l_0 = some r) :
    FnOk prog 25 [slv rT_api_Literal l_0] [] (fun (x : Unit) => [slv rT_api_Literal r]) (fun (x : Unit) => []) := by
  refine fn_ok (fn := Tryd.f25) (N := 18) (res := fun r x => [slv rT_api_Literal r]) (Ω1 := fun r x => []) Tryd.func25 rfl rfl hm rfl (fun E hM => ?_)
  unfold ref01_Normal_m
  refine ref_seq (ref_region ?_)
  refine as1 rfl rfl ?_
  refine l_nil (n_then (ref_seq (ref_region ?_)))
  refine as1 rfl rfl ?_
  refine l_nil (n_then (ref_seq (ref_seq (ref_region ?_))))
  refine as1 rfl rfl ?_
  refine l_nil (n_then ?_)
  refine b_of (sl_nil rT_api_Literal (t := 3) rfl) ?_
  refine ref_loopB (f := (ref01_Normal_l1 l_0)) (Γl := (fun (s11 : (List T_api_Literal) × Int) (x12 : Unit) => [(0, slv rT_api_Literal l_0), (3, slv rT_api_Literal s11.1), (4, iv .i64 s11.2)])) (Ωl := (fun (s11 : (List T_api_Literal) × Int) (x12 : Unit) => [])) (Γb := (fun (q17 : (List T_api_Literal)) (y18 : Unit) => [(3, slv rT_api_Literal q17)])) (Ωb := (fun (q17 : (List T_api_Literal)) (y18 : Unit) => [])) ([], 0) () (weak [] ⟨rfl, rfl, rfl, trivial⟩ trivial) (fun s11 x12 => ?_) (fun q17 y18 => ?_)
  · unfold ref01_Normal_l1
    refine ref_seq (ref_seq (ref_region ?_))
    refine mv1 rfl rfl ?_
    refine mv1 rfl rfl ?_
    refine s_rd (r_len Tryd.underlying31 rfl) rfl ?_
    refine s_rd (r_lss rfl rfl) rfl ?_
    refine l_nil (n_then ?_)
    refine ref_cond rfl (fun hb13 => ?_) (fun hb13 => ?_)
    · refine ref_skip (n_then (ref_seq (ref_block (ref_region ?_))))
      refine mv1 rfl rfl ?_
      refine mv1 rfl rfl ?_
      refine mv1 rfl rfl ?_
      refine pull fun t14 h_t14 => ?_
      refine s_rd (r_index h_t14 Tryd.underlying31 el_35 rfl rfl) rfl ?_
      refine s_rd (r_load el_35 rfl) rfl ?_
      refine pull fun out15 h_out15 => ?_
      refine s_st (s_call (ψ := fun (_ : Unit) => slv rT_api_Literal out15) (args := [.tmp 11, .tmp 15]) Tryd.call27 rfl (ref01_Insert_ok h_out15) ⟨arg rfl, arg rfl, trivial⟩ (fun _ _ _ _ h => h)) rfl (fun _ => ?_)
      refine as1 rfl rfl ?_
      refine l_nil (n_block (n_then (ref_region ?_)))
      refine mv1 rfl rfl ?_
      refine s_rd (r_add rfl rfl) rfl ?_
      refine as1 rfl rfl ?_
      refine b_let (f := iv .i64) (t := 4) rfl fun i16x => ?_
      refine l_nil ?_
      exact goB () (weak [] ⟨rfl, rfl, rfl, trivial⟩ trivial)
    refine ref_exit (x_then ?_)
    exact brkB () (weak [] ⟨rfl, trivial⟩ trivial)
  refine n_then (ref_seq (ref_region ?_))
  refine mv1 rfl rfl ?_
  refine as1 rfl rfl ?_
  refine l_nil (n_then (ref_ret ?_))
  exact fin1 (.inl rfl) () [] rfl trivial rfl (rv_tmp rfl)

/-! deliberation/deliberationref01.Has -/
noncomputable def ref01_Has_l1 (l_0 : (List T_api_Literal)) (x_1 : T_api_Literal) (s7 : Int) : Option (Sum ((Sum (Bool) (Unit))) (Int)) :=
  bif decide (s7 < (l_0.length : Int)) then
    Option.bind (idxM l_0 s7) fun t10 =>
    bif decide (t10 = x_1) then
      some (Sum.inl (Sum.inl true))
    else
      some (Sum.inr (iadd .i64 s7 1))
  else
    some (Sum.inl (Sum.inr ()))

noncomputable def ref01_Has_m (l_0 : (List T_api_Literal)) (x_1 : T_api_Literal) : Option (Bool) :=
  Option.bind (loopC (ref01_Has_l1 l_0 x_1) 0) (sumK (fun a : Bool => some a) fun q12 : Unit =>
    some false)

theorem ref01_Has_ok {l_0 : (List T_api_Literal)} {x_1 : T_api_Literal} {r : Bool} (hm : ref01_Has_m l_0 x_1 = some r) :
    FnOk prog 12 [slv rT_api_Literal l_0, ag [bv x_1.Neg, sv x_1.Name]] [] (fun (x : Unit) => [bv r]) (fun (x : Unit) => []) := by
  refine fn_ok (fn := Tryd.f12) (N := 18) (res := fun r x => [bv r]) (Ω1 := fun r x => []) Tryd.func12 rfl rfl hm rfl (fun E hM => ?_)
  unfold ref01_Has_m
  refine ref_seq (ref_region ?_)
  refine s_st (s_box (part_agO (ψs := [bv x_1.Neg, sv x_1.Name]) rfl ⟨.inl bv_at, .inl sv_at, trivial⟩)) rfl (fun b1 => ?_)
  refine as1 rfl rfl ?_
  refine l_nil (n_then (ref_seq (ref_seq (ref_region ?_))))
  refine as1 rfl rfl ?_
  refine l_nil (n_then ?_)
  refine ref_loopX (f := (ref01_Has_l1 l_0 x_1)) (Γl := (fun (s7 : Int) (x8 : Unit) => [(0, slv rT_api_Literal l_0), (3, pv (ptr b1 0)), (5, iv .i64 s7)])) (Ωl := (fun (s7 : Int) (x8 : Unit) => [oc b1 [bv x_1.Neg, sv x_1.Name]])) (Γb := (fun (q12 : Unit) (y13 : Unit) => [])) (Ωb := (fun (q12 : Unit) (y13 : Unit) => [])) (kr := (fun a : Bool => some a)) 0 () (weak [0] ⟨rfl, rfl, rfl, trivial⟩ ⟨rfl, trivial⟩) (fun s7 x8 => ?_) (fun q12 y13 => ?_)
  · unfold ref01_Has_l1
    refine ref_seq (ref_seq (ref_region ?_))
    refine mv1 rfl rfl ?_
    refine mv1 rfl rfl ?_
    refine s_rd (r_len Tryd.underlying31 rfl) rfl ?_
    refine s_rd (r_lss rfl rfl) rfl ?_
    refine l_nil (n_then ?_)
    refine ref_cond rfl (fun hb9 => ?_) (fun hb9 => ?_)
    · refine ref_skip (n_then (ref_seq (ref_block (ref_seq ?_))))
      refine ref_draw [0, 1, 2, 3, 4, 5] rfl (by kernel_rfl) (fun hok => ?_)
      refine a_rd (i := 0) hok rfl (by kernel_rfl) rfl (r_move rfl) rfl ?_
      refine a_rd (i := 1) hok rfl (by kernel_rfl) rfl (r_move rfl) rfl ?_
      refine pull fun t10 h_t10 => ?_
      refine a_rd (i := 2) hok rfl (by kernel_rfl) rfl (r_index h_t10 Tryd.underlying31 el_35 rfl rfl) rfl ?_
      refine a_rd (i := 3) hok rfl (by kernel_rfl) rfl (r_load el_35 rfl) rfl ?_
      refine a_rd (i := 4) hok rfl (by kernel_rfl) rfl (r_cloadS Tryd.isAgg35 Tryd.sizeOf35 rfl (j := 0) rfl rfl rfl) rfl ?_
      refine a_rd (i := 5) hok rfl (by kernel_rfl) rfl (r_steql (u := t10) (v := x_1) eq_35 rfl rfl rfl rfl) rfl ?_
      refine a_fin hok (by kernel_rfl) ?_
      refine n_then ?_
      refine ref_cond rfl (fun hb11 => ?_) (fun hb11 => ?_)
      · refine ref_seq (ref_region ?_)
        refine as1 rfl rfl ?_
        refine l_nil (n_then (ref_ret (r_block (r_then ?_))))
        refine retX ?_
        refine r_block (r_then ?_)
        exact fin1 (.inl rfl) () [] rfl trivial rfl (rv_tmp rfl)
      refine ref_skip (n_block (n_then (ref_region ?_)))
      refine mv1 rfl rfl ?_
      refine s_rd (r_add rfl rfl) rfl ?_
      refine as1 rfl rfl ?_
      refine l_nil ?_
      exact goX () (weak [0] ⟨rfl, rfl, rfl, trivial⟩ ⟨rfl, trivial⟩)
    refine ref_exit (x_then ?_)
    exact brkX () (weak [] trivial trivial)
  refine n_then (ref_seq (ref_region ?_))
  refine as1 rfl rfl ?_
  refine l_nil (n_then (ref_ret ?_))
  exact fin1 (.inl rfl) () [] rfl trivial rfl (rv_tmp rfl)

/-! deliberation/deliberationref06.all -/
noncomputable def ref06_all_l1 (l_0 : (List T_api_Literal)) (body_1 : (List T_api_Literal)) (s7 : Int) : Option (Sum ((Sum (Bool) (Unit))) (Int)) :=
  bif decide (s7 < (body_1.length : Int)) then
    Option.bind (idxM body_1 s7) fun t10 =>
    Option.bind (ref01_Has_m l_0 t10) fun t11 =>
    bif !t11 then
      some (Sum.inl (Sum.inl false))
    else
      some (Sum.inr (iadd .i64 s7 1))
  else
    some (Sum.inl (Sum.inr ()))

noncomputable def ref06_all_m (l_0 : (List T_api_Literal)) (body_1 : (List T_api_Literal)) : Option (Bool) :=
  Option.bind (loopC (ref06_all_l1 l_0 body_1) 0) (sumK (fun a : Bool => some a) fun q13 : Unit =>
    some true)

theorem ref06_all_ok {l_0 : (List T_api_Literal)} {body_1 : (List T_api_Literal)} {r : Bool} (hm : ref06_all_m l_0 body_1 = some r) :
    FnOk prog 26 [slv rT_api_Literal l_0, slv rT_api_Literal body_1] [] (fun (x : Unit) => [bv r]) (fun (x : Unit) => []) := by
  refine fn_ok (fn := Tryd.f26) (N := 19) (res := fun r x => [bv r]) (Ω1 := fun r x => []) Tryd.func26 rfl rfl hm rfl (fun E hM => ?_)
  unfold ref06_all_m
  refine ref_seq (ref_region ?_)
  refine as1 rfl rfl ?_
  refine l_nil (n_then (ref_seq (ref_seq (ref_region ?_))))
  refine as1 rfl rfl ?_
  refine l_nil (n_then ?_)
  refine ref_loopX (f := (ref06_all_l1 l_0 body_1)) (Γl := (fun (s7 : Int) (x8 : Unit) => [(0, slv rT_api_Literal l_0), (1, slv rT_api_Literal body_1), (5, iv .i64 s7)])) (Ωl := (fun (s7 : Int) (x8 : Unit) => [])) (Γb := (fun (q13 : Unit) (y14 : Unit) => [])) (Ωb := (fun (q13 : Unit) (y14 : Unit) => [])) (kr := (fun a : Bool => some a)) 0 () (weak [] ⟨rfl, rfl, rfl, trivial⟩ trivial) (fun s7 x8 => ?_) (fun q13 y14 => ?_)
  · unfold ref06_all_l1
    refine ref_seq (ref_seq (ref_region ?_))
    refine mv1 rfl rfl ?_
    refine mv1 rfl rfl ?_
    refine s_rd (r_len Tryd.underlying31 rfl) rfl ?_
    refine s_rd (r_lss rfl rfl) rfl ?_
    refine l_nil (n_then ?_)
    refine ref_cond rfl (fun hb9 => ?_) (fun hb9 => ?_)
    · refine ref_skip (n_then (ref_seq (ref_block (ref_seq (ref_region ?_)))))
      refine mv1 rfl rfl ?_
      refine mv1 rfl rfl ?_
      refine mv1 rfl rfl ?_
      refine pull fun t10 h_t10 => ?_
      refine s_rd (r_index h_t10 Tryd.underlying31 el_35 rfl rfl) rfl ?_
      refine s_rd (r_load el_35 rfl) rfl ?_
      refine pull fun t11 h_t11 => ?_
      refine s_st (s_call (ψ := fun (_ : Unit) => bv t11) (args := [.tmp 12, .tmp 16]) Tryd.call12 rfl (ref01_Has_ok h_t11) ⟨arg rfl, arg rfl, trivial⟩ (fun _ _ _ _ h => h)) rfl (fun _ => ?_)
      refine s_rd (r_not rfl) rfl ?_
      refine l_nil (n_then ?_)
      refine ref_cond rfl (fun hb12 => ?_) (fun hb12 => ?_)
      · refine ref_seq (ref_region ?_)
        refine as1 rfl rfl ?_
        refine l_nil (n_then (ref_ret (r_block (r_then ?_))))
        refine retX ?_
        refine r_block (r_then ?_)
        exact fin1 (.inl rfl) () [] rfl trivial rfl (rv_tmp rfl)
      refine ref_skip (n_block (n_then (ref_region ?_)))
      refine mv1 rfl rfl ?_
      refine s_rd (r_add rfl rfl) rfl ?_
      refine as1 rfl rfl ?_
      refine l_nil ?_
      exact goX () (weak [] ⟨rfl, rfl, rfl, trivial⟩ trivial)
    refine ref_exit (x_then ?_)
    exact brkX () (weak [] trivial trivial)
  refine n_then (ref_seq (ref_region ?_))
  refine as1 rfl rfl ?_
  refine l_nil (n_then (ref_ret ?_))
  exact fin1 (.inl rfl) () [] rfl trivial rfl (rv_tmp rfl)

/-! deliberation/deliberationref06.Closure -/
noncomputable def ref06_Closure_l2 (b_0 : T_api_Base) (s48 : (List T_api_Literal) × Bool × Int) : Option (Sum ((List T_api_Literal) × Bool) ((List T_api_Literal) × Bool × Int)) :=
  bif decide (s48.2.2 < (b_0.Rules.length : Int)) then
    Option.bind (idxM b_0.Rules s48.2.2) fun t51 =>
    joinM (fun j55 : Bool =>
        bif j55 then
          Option.bind (ref01_Insert_m s48.1 t51.Head) fun out59 =>
          letM (iadd .i64 s48.2.2 1) fun i60 =>
          some (Sum.inr (out59, true, i60))
        else
          letM (iadd .i64 s48.2.2 1) fun i61 =>
          some (Sum.inr (s48.1, s48.2.1, i61))) fun k57 =>
    bif t51.Strict then
      Option.bind (ref06_all_m s48.1 t51.Body) fun t53 =>
      bif t53 then
        Option.bind (ref01_Has_m s48.1 t51.Head) fun t54 =>
        k57 (!t54)
      else
        k57 false
    else
      k57 false
  else
    some (Sum.inl (s48.1, s48.2.1))

noncomputable def ref06_Closure_l1 (b_0 : T_api_Base) (s33 : (List T_api_Literal) × Bool) : Option (Sum ((List T_api_Literal)) ((List T_api_Literal) × Bool)) :=
  bif s33.2 then
    Option.bind (loopC (ref06_Closure_l2 b_0) (s33.1, false, 0)) fun q62 : (List T_api_Literal) × Bool =>
    some (Sum.inr (q62.1, q62.2))
  else
    some (Sum.inl s33.1)

noncomputable def ref06_Closure_m (b_0 : T_api_Base) (l_1 : (List T_api_Literal)) : Option (List T_api_Literal) :=
  Option.bind (ref01_Normal_m l_1) fun out2 =>
  Option.bind (loopC (ref06_Closure_l1 b_0) (out2, true)) fun q64 : (List T_api_Literal) =>
  some q64

theorem ref06_Closure_ok {b_0 : T_api_Base} {l_1 : (List T_api_Literal)} {r : List T_api_Literal} (hm : ref06_Closure_m b_0 l_1 = some r) :
    FnOk prog 10 [ag [slv rT_api_Premise b_0.Premises, slv rT_api_Rule b_0.Rules, slv rT_api_Promotion b_0.Promotions], slv rT_api_Literal l_1] [] (fun (x : Unit) => [slv rT_api_Literal r]) (fun (x : Unit) => []) := by
  refine fn_ok (fn := Tryd.f10) (N := 44) (res := fun r x => [slv rT_api_Literal r]) (Ω1 := fun r x => []) Tryd.func10 rfl rfl hm rfl (fun E hM => ?_)
  unfold ref06_Closure_m
  refine ref_seq (ref_region ?_)
  refine s_st (s_box (part_agO (ψs := [slv rT_api_Premise b_0.Premises, slv rT_api_Rule b_0.Rules, slv rT_api_Promotion b_0.Promotions]) rfl ⟨.inl slv_at, .inl slv_at, .inl slv_at, trivial⟩)) rfl (fun b1 => ?_)
  refine as1 rfl rfl ?_
  refine l_nil (n_then (ref_seq (ref_region ?_)))
  refine mv1 rfl rfl ?_
  refine pull fun out2 h_out2 => ?_
  refine s_st (s_call (ψ := fun (_ : Unit) => slv rT_api_Literal out2) (args := [.tmp 9]) Tryd.call25 rfl (ref01_Normal_ok h_out2) ⟨arg rfl, trivial⟩ (fun _ _ _ _ h => h)) rfl (fun _ => ?_)
  refine as1 rfl rfl ?_
  refine l_nil (n_then (ref_seq (ref_seq (ref_region ?_))))
  refine as1 rfl rfl ?_
  refine l_nil (n_then ?_)
  refine ref_loopB (f := (ref06_Closure_l1 b_0)) (Γl := (fun (s33 : (List T_api_Literal) × Bool) (x34 : Unit) => [(2, pv (ptr b1 0)), (5, slv rT_api_Literal s33.1), (6, bv s33.2)])) (Ωl := (fun (s33 : (List T_api_Literal) × Bool) (x34 : Unit) => [oc b1 [slv rT_api_Premise b_0.Premises, slv rT_api_Rule b_0.Rules, slv rT_api_Promotion b_0.Promotions]])) (Γb := (fun (q64 : (List T_api_Literal)) (y65 : Unit) => [(5, slv rT_api_Literal q64)])) (Ωb := (fun (q64 : (List T_api_Literal)) (y65 : Unit) => [])) (out2, true) () (weak [0] ⟨rfl, rfl, rfl, trivial⟩ ⟨rfl, trivial⟩) (fun s33 x34 => ?_) (fun q64 y65 => ?_)
  · unfold ref06_Closure_l1
    refine ref_seq (ref_seq (ref_region ?_))
    refine mv1 rfl rfl ?_
    refine l_nil (n_then ?_)
    refine ref_cond rfl (fun hb35 => ?_) (fun hb35 => ?_)
    · refine ref_skip (n_then (ref_block (ref_seq (ref_region ?_))))
      refine as1 rfl rfl ?_
      refine l_nil (n_then (ref_seq (ref_region ?_)))
      refine as1 rfl rfl ?_
      refine l_nil (n_then ?_)
      refine ref_loopB (f := (ref06_Closure_l2 b_0)) (Γl := (fun (s48 : (List T_api_Literal) × Bool × Int) (x49 : Unit) => [(2, pv (ptr b1 0)), (5, slv rT_api_Literal s48.1), (6, bv s48.2.1), (7, iv .i64 s48.2.2)])) (Ωl := (fun (s48 : (List T_api_Literal) × Bool × Int) (x49 : Unit) => [oc b1 [slv rT_api_Premise b_0.Premises, slv rT_api_Rule b_0.Rules, slv rT_api_Promotion b_0.Promotions]])) (Γb := (fun (q62 : (List T_api_Literal) × Bool) (y63 : Unit) => [(2, pv (ptr b1 0)), (5, slv rT_api_Literal q62.1), (6, bv q62.2)])) (Ωb := (fun (q62 : (List T_api_Literal) × Bool) (y63 : Unit) => [oc b1 [slv rT_api_Premise b_0.Premises, slv rT_api_Rule b_0.Rules, slv rT_api_Promotion b_0.Promotions]])) (s33.1, false, 0) () (weak [0] ⟨rfl, rfl, rfl, rfl, trivial⟩ ⟨rfl, trivial⟩) (fun s48 x49 => ?_) (fun q62 y63 => ?_)
      · unfold ref06_Closure_l2
        refine ref_seq (ref_seq (ref_region ?_))
        refine mv1 rfl rfl ?_
        refine s_rd (r_faddr (fo := 1) Tryd.underlying29 rfl rfl Tryd.sizeOf26 rfl) rfl ?_
        refine s_rd (r_cload Tryd.isAgg26 rfl (j := 0) rfl rfl) rfl ?_
        refine s_rd (r_len Tryd.underlying26 rfl) rfl ?_
        refine s_rd (r_lss rfl rfl) rfl ?_
        refine l_nil (n_then ?_)
        refine ref_cond rfl (fun hb50 => ?_) (fun hb50 => ?_)
        · refine ref_skip (n_then (ref_seq (ref_block (ref_seq (ref_region ?_)))))
          refine s_rd (r_faddr (fo := 1) Tryd.underlying29 rfl rfl Tryd.sizeOf26 rfl) rfl ?_
          refine s_rd (r_cload Tryd.isAgg26 rfl (j := 0) rfl rfl) rfl ?_
          refine mv1 rfl rfl ?_
          refine pull fun t51 h_t51 => ?_
          refine s_rd (r_index h_t51 Tryd.underlying26 el_40 rfl rfl) rfl ?_
          refine s_rd (r_load el_40 rfl) rfl ?_
          refine s_st (s_alloc zt_40) rfl (fun b52 => ?_)
          refine s_st0 (s_cstore (out := [sv t51.Name, bv t51.Strict, iv .i64 t51.Rank, slv rT_api_Literal t51.Body, bv t51.Head.Neg, sv t51.Head.Name]) Tryd.sizeOf40 rfl (j := 1) rfl (part_agO (ψs := [sv t51.Name, bv t51.Strict, iv .i64 t51.Rank, slv rT_api_Literal t51.Body, bv t51.Head.Neg, sv t51.Head.Name]) rfl ⟨.inl sv_at, .inl bv_at, .inl iv_at, .inl slv_at, .inl bv_at, .inl sv_at, trivial⟩) rfl rfl rfl) (fun _ => ?_)
          refine l_nil ?_
          refine b_of (nrm [oc b1 [slv rT_api_Premise b_0.Premises, slv rT_api_Rule b_0.Rules, slv rT_api_Promotion b_0.Promotions], oc b52 [sv t51.Name, bv t51.Strict, iv .i64 t51.Rank, slv rT_api_Literal t51.Body, bv t51.Head.Neg, sv t51.Head.Name]] rfl) ?_
          refine n_then (ref_seq ?_)
          refine ref_join (fun (j55 : Bool) (x56 : Unit) => [(2, pv (ptr b1 0)), (5, slv rT_api_Literal s48.1), (6, bv s48.2.1), (7, iv .i64 s48.2.2), (8, pv (ptr b52 0)), (38, bv j55)]) (fun (j55 : Bool) (x56 : Unit) => [oc b1 [slv rT_api_Premise b_0.Premises, slv rT_api_Rule b_0.Rules, slv rT_api_Promotion b_0.Promotions], oc b52 [sv t51.Name, bv t51.Strict, iv .i64 t51.Rank, slv rT_api_Literal t51.Body, bv t51.Head.Neg, sv t51.Head.Name]]) (fun k57 hk57 => ?_) (fun j55 x56 => ?_)
          · refine ref_region ?_
            refine s_rd (r_faddr (fo := 1) Tryd.underlying40 rfl rfl Tryd.sizeOf4 rfl) rfl ?_
            refine s_rd (r_cload Tryd.isAgg4 rfl (j := 1) rfl rfl) rfl ?_
            refine mv1 rfl rfl ?_
            refine b_split (t := 26) rfl (fun _ => ?_) (fun _ => ?_)
            · refine s_on rfl rfl rfl ?_
              refine mv1 rfl rfl ?_
              refine s_on rfl rfl rfl ?_
              refine s_rd (r_faddr (fo := 3) Tryd.underlying40 rfl rfl Tryd.sizeOf31 rfl) rfl ?_
              refine s_on rfl rfl rfl ?_
              refine s_rd (r_cload Tryd.isAgg31 rfl (j := 1) rfl rfl) rfl ?_
              refine s_on rfl rfl rfl ?_
              refine pull fun t53 h_t53 => ?_
              refine s_st (s_call (ψ := fun (_ : Unit) => bv t53) (args := [.tmp 27, .tmp 29]) Tryd.call26 rfl (ref06_all_ok h_t53) ⟨arg rfl, arg rfl, trivial⟩ (fun _ _ _ _ h => h)) rfl (fun _ => ?_)
              refine s_rd (r_pickT rfl rfl) rfl ?_
              refine mv1 rfl rfl ?_
              refine b_split (t := 32) rfl (fun _ => ?_) (fun _ => ?_)
              · refine s_on rfl rfl rfl ?_
                refine mv1 rfl rfl ?_
                refine s_on rfl rfl rfl ?_
                refine s_rd (r_faddr (fo := 4) Tryd.underlying40 rfl rfl Tryd.sizeOf35 rfl) rfl ?_
                refine s_on rfl rfl rfl ?_
                refine s_rd (r_cloadS Tryd.isAgg35 Tryd.sizeOf35 rfl (j := 1) rfl rfl rfl) rfl ?_
                refine s_on rfl rfl rfl ?_
                refine pull fun t54 h_t54 => ?_
                refine s_st (s_call (ψ := fun (_ : Unit) => bv t54) (args := [.tmp 33, .tmp 35]) Tryd.call12 rfl (ref01_Has_ok h_t54) ⟨arg rfl, arg rfl, trivial⟩ (fun _ _ _ _ h => h)) rfl (fun _ => ?_)
                refine s_on rfl rfl rfl ?_
                refine s_rd (r_not rfl) rfl ?_
                refine s_rd (r_pickT rfl rfl) rfl ?_
                refine l_nil ?_
                exact b_to (hk57 (!t54) ()) (weak [0, 1] ⟨rfl, rfl, rfl, rfl, rfl, rfl, trivial⟩ ⟨rfl, rfl, trivial⟩)
              refine s_off rfl rfl rfl rfl rfl ?_
              refine s_off rfl rfl rfl rfl rfl ?_
              refine s_off rfl rfl rfl rfl rfl ?_
              refine s_off rfl rfl rfl rfl rfl ?_
              refine s_off rfl rfl rfl rfl rfl ?_
              refine s_rd (r_pickF rfl rfl) rfl ?_
              refine l_nil ?_
              exact b_to (hk57 false ()) (weak [0, 1] ⟨rfl, rfl, rfl, rfl, rfl, rfl, trivial⟩ ⟨rfl, rfl, trivial⟩)
            refine s_off rfl rfl rfl rfl rfl ?_
            refine s_off rfl rfl rfl rfl rfl ?_
            refine s_off rfl rfl rfl rfl rfl ?_
            refine s_off rfl rfl rfl rfl rfl ?_
            refine s_rd (r_pickF rfl rfl) rfl ?_
            refine mv1 rfl rfl ?_
            refine s_off rfl rfl rfl rfl rfl ?_
            refine s_off rfl rfl rfl rfl rfl ?_
            refine s_off rfl rfl rfl rfl rfl ?_
            refine s_off rfl rfl rfl rfl rfl ?_
            refine s_off rfl rfl rfl rfl rfl ?_
            refine s_rd (r_pickF rfl rfl) rfl ?_
            refine l_nil ?_
            exact b_to (hk57 false ()) (weak [0, 1] ⟨rfl, rfl, rfl, rfl, rfl, rfl, trivial⟩ ⟨rfl, rfl, trivial⟩)
          refine n_then ?_
          refine ref_cond rfl (fun hb58 => ?_) (fun hb58 => ?_)
          · refine ref_region ?_
            refine mv1 rfl rfl ?_
            refine s_rd (r_faddr (fo := 4) Tryd.underlying40 rfl rfl Tryd.sizeOf35 rfl) rfl ?_
            refine s_rd (r_cloadS Tryd.isAgg35 Tryd.sizeOf35 rfl (j := 1) rfl rfl rfl) rfl ?_
            refine pull fun out59 h_out59 => ?_
            refine s_st (s_call (ψ := fun (_ : Unit) => slv rT_api_Literal out59) (args := [.tmp 39, .tmp 41]) Tryd.call27 rfl (ref01_Insert_ok h_out59) ⟨arg rfl, arg rfl, trivial⟩ (fun _ _ _ _ h => h)) rfl (fun _ => ?_)
            refine as1 rfl rfl ?_
            refine as1 rfl rfl ?_
            refine l_nil (n_block (n_then (ref_region ?_)))
            refine mv1 rfl rfl ?_
            refine s_rd (r_add rfl rfl) rfl ?_
            refine as1 rfl rfl ?_
            refine b_let (f := iv .i64) (t := 7) rfl fun i60 => ?_
            refine l_nil ?_
            exact goB () (weak [0] ⟨rfl, rfl, rfl, rfl, trivial⟩ ⟨rfl, trivial⟩)
          refine ref_skip (n_block (n_then (ref_region ?_)))
          refine mv1 rfl rfl ?_
          refine s_rd (r_add rfl rfl) rfl ?_
          refine as1 rfl rfl ?_
          refine b_let (f := iv .i64) (t := 7) rfl fun i61 => ?_
          refine l_nil ?_
          exact goB () (weak [0] ⟨rfl, rfl, rfl, rfl, trivial⟩ ⟨rfl, trivial⟩)
        refine ref_exit (x_then ?_)
        exact brkB () (weak [0] ⟨rfl, rfl, rfl, trivial⟩ ⟨rfl, trivial⟩)
      refine n_block ?_
      exact goB () (weak [0] ⟨rfl, rfl, rfl, trivial⟩ ⟨rfl, trivial⟩)
    refine ref_exit (x_then ?_)
    exact brkB () (weak [] ⟨rfl, trivial⟩ trivial)
  refine n_then (ref_seq (ref_region ?_))
  refine mv1 rfl rfl ?_
  refine as1 rfl rfl ?_
  refine l_nil (n_then (ref_ret ?_))
  exact fin1 (.inl rfl) () [] rfl trivial rfl (rv_tmp rfl)

/-! deliberation/deliberationref01.Same -/
noncomputable def ref01_Same_l1 (a__0 : (List T_api_Literal)) (b_1 : (List T_api_Literal)) (s8 : Int) : Option (Sum ((Sum (Bool) (Unit))) (Int)) :=
  bif decide (s8 < (a__0.length : Int)) then
    Option.bind (idxM a__0 s8) fun t11 =>
    Option.bind (idxM b_1 s8) fun t12 =>
    bif !decide (t11 = t12) then
      some (Sum.inl (Sum.inl false))
    else
      some (Sum.inr (iadd .i64 s8 1))
  else
    some (Sum.inl (Sum.inr ()))

noncomputable def ref01_Same_m (a__0 : (List T_api_Literal)) (b_1 : (List T_api_Literal)) : Option (Bool) :=
  bif (a__0.length : Int) != (b_1.length : Int) then
    some false
  else
    Option.bind (loopC (ref01_Same_l1 a__0 b_1) 0) (sumK (fun a : Bool => some a) fun q14 : Unit =>
      some true)

theorem ref01_Same_ok {a__0 : (List T_api_Literal)} {b_1 : (List T_api_Literal)} {r : Bool} (hm : ref01_Same_m a__0 b_1 = some r) :
    FnOk prog 11 [slv rT_api_Literal a__0, slv rT_api_Literal b_1] [] (fun (x : Unit) => [bv r]) (fun (x : Unit) => []) := by
  refine fn_ok (fn := Tryd.f11) (N := 26) (res := fun r x => [bv r]) (Ω1 := fun r x => []) Tryd.func11 rfl rfl hm rfl (fun E hM => ?_)
  unfold ref01_Same_m
  refine ref_seq (ref_region ?_)
  refine as1 rfl rfl ?_
  refine l_nil (n_then (ref_seq (ref_seq (ref_region ?_))))
  refine mv1 rfl rfl ?_
  refine s_rd (r_len Tryd.underlying31 rfl) rfl ?_
  refine mv1 rfl rfl ?_
  refine s_rd (r_len Tryd.underlying31 rfl) rfl ?_
  refine s_rd (r_neq rfl rfl) rfl ?_
  refine l_nil (n_then ?_)
  refine ref_cond rfl (fun hb1 => ?_) (fun hb1 => ?_)
  · refine ref_seq (ref_region ?_)
    refine as1 rfl rfl ?_
    refine l_nil (n_then (ref_ret (r_then ?_)))
    exact fin1 (.inl rfl) () [] rfl trivial rfl (rv_tmp rfl)
  refine ref_skip (n_then (ref_seq (ref_seq (ref_region ?_))))
  refine as1 rfl rfl ?_
  refine l_nil (n_then ?_)
  refine ref_loopX (f := (ref01_Same_l1 a__0 b_1)) (Γl := (fun (s8 : Int) (x9 : Unit) => [(0, slv rT_api_Literal a__0), (1, slv rT_api_Literal b_1), (5, iv .i64 s8)])) (Ωl := (fun (s8 : Int) (x9 : Unit) => [])) (Γb := (fun (q14 : Unit) (y15 : Unit) => [])) (Ωb := (fun (q14 : Unit) (y15 : Unit) => [])) (kr := (fun a : Bool => some a)) 0 () (weak [] ⟨rfl, rfl, rfl, trivial⟩ trivial) (fun s8 x9 => ?_) (fun q14 y15 => ?_)
  · unfold ref01_Same_l1
    refine ref_seq (ref_seq (ref_region ?_))
    refine mv1 rfl rfl ?_
    refine mv1 rfl rfl ?_
    refine s_rd (r_len Tryd.underlying31 rfl) rfl ?_
    refine s_rd (r_lss rfl rfl) rfl ?_
    refine l_nil (n_then ?_)
    refine ref_cond rfl (fun hb10 => ?_) (fun hb10 => ?_)
    · refine ref_skip (n_then (ref_seq (ref_block (ref_seq ?_))))
      refine ref_draw [0, 1, 2, 3, 4, 5, 6, 7, 8] rfl (by kernel_rfl) (fun hok => ?_)
      refine a_rd (i := 0) hok rfl (by kernel_rfl) rfl (r_move rfl) rfl ?_
      refine a_rd (i := 1) hok rfl (by kernel_rfl) rfl (r_move rfl) rfl ?_
      refine pull fun t11 h_t11 => ?_
      refine a_rd (i := 2) hok rfl (by kernel_rfl) rfl (r_index h_t11 Tryd.underlying31 el_35 rfl rfl) rfl ?_
      refine a_rd (i := 3) hok rfl (by kernel_rfl) rfl (r_load el_35 rfl) rfl ?_
      refine a_rd (i := 4) hok rfl (by kernel_rfl) rfl (r_move rfl) rfl ?_
      refine a_rd (i := 5) hok rfl (by kernel_rfl) rfl (r_move rfl) rfl ?_
      refine pull fun t12 h_t12 => ?_
      refine a_rd (i := 6) hok rfl (by kernel_rfl) rfl (r_index h_t12 Tryd.underlying31 el_35 rfl rfl) rfl ?_
      refine a_rd (i := 7) hok rfl (by kernel_rfl) rfl (r_load el_35 rfl) rfl ?_
      refine a_rd (i := 8) hok rfl (by kernel_rfl) rfl (r_stneq (u := t11) (v := t12) eq_35 rfl rfl rfl rfl) rfl ?_
      refine a_fin hok (by kernel_rfl) ?_
      refine n_then ?_
      refine ref_cond rfl (fun hb13 => ?_) (fun hb13 => ?_)
      · refine ref_seq (ref_region ?_)
        refine as1 rfl rfl ?_
        refine l_nil (n_then (ref_ret (r_block (r_then ?_))))
        refine retX ?_
        refine r_block (r_then ?_)
        exact fin1 (.inl rfl) () [] rfl trivial rfl (rv_tmp rfl)
      refine ref_skip (n_block (n_then (ref_region ?_)))
      refine mv1 rfl rfl ?_
      refine s_rd (r_add rfl rfl) rfl ?_
      refine as1 rfl rfl ?_
      refine l_nil ?_
      exact goX () (weak [] ⟨rfl, rfl, rfl, trivial⟩ trivial)
    refine ref_exit (x_then ?_)
    exact brkX () (weak [] trivial trivial)
  refine n_then (ref_seq (ref_region ?_))
  refine as1 rfl rfl ?_
  refine l_nil (n_then (ref_ret ?_))
  exact fin1 (.inl rfl) () [] rfl trivial rfl (rv_tmp rfl)

/-! deliberation/deliberationlaw06.one -/
noncomputable def law06_one_m  : Option (T_api_Base) :=
  some (T_api_Base.mk [] [(T_api_Rule.mk (ByteArray.mk #[115]) true 0 [(T_api_Literal.mk false (ByteArray.mk #[112])), (T_api_Literal.mk false (ByteArray.mk #[113]))] (T_api_Literal.mk false (ByteArray.mk #[114])))] [])

theorem law06_one_ok  {r : T_api_Base} (hm : law06_one_m  = some r) :
    FnOk prog 28 [] [] (fun (x : Unit) => [ag [slv rT_api_Premise r.Premises, slv rT_api_Rule r.Rules, slv rT_api_Promotion r.Promotions]]) (fun (x : Unit) => []) := by
  refine fn_ok (fn := Tryd.f28) (N := 14) (res := fun r x => [ag [slv rT_api_Premise r.Premises, slv rT_api_Rule r.Rules, slv rT_api_Promotion r.Promotions]]) (Ω1 := fun r x => []) Tryd.func28 rfl rfl hm rfl (fun E hM => ?_)
  unfold law06_one_m
  refine ref_seq (ref_region ?_)
  refine s_st (s_alloc zt_29) rfl (fun b1 => ?_)
  refine l_nil (n_then (ref_seq (ref_region ?_)))
  refine s_rd (r_build (ps := [(1, .const (.string (ByteArray.mk #[112])))]) (rs := [(1, [sv (ByteArray.mk #[112])])]) st_35 zs_35 ⟨rfl, (part_at rfl sv_at), trivial⟩ rfl rfl) rfl ?_
  refine s_rd (r_build (ps := [(1, .const (.string (ByteArray.mk #[113])))]) (rs := [(1, [sv (ByteArray.mk #[113])])]) st_35 zs_35 ⟨rfl, (part_at rfl sv_at), trivial⟩ rfl rfl) rfl ?_
  refine s_rd (r_build (ps := [(1, .const (.string (ByteArray.mk #[114])))]) (rs := [(1, [sv (ByteArray.mk #[114])])]) st_35 zs_35 ⟨rfl, (part_at rfl sv_at), trivial⟩ rfl rfl) rfl ?_
  refine s_st (s_alloc zt_35) rfl (fun b2 => ?_)
  refine s_st (s_alloc zt_35) rfl (fun b3 => ?_)
  refine s_st (s_alloc zt_35) rfl (fun b4 => ?_)
  refine s_st0 (s_cstore (out := [bv false, sv (ByteArray.mk #[112])]) Tryd.sizeOf35 rfl (j := 1) rfl (part_agO (ψs := [bv false, sv (ByteArray.mk #[112])]) rfl ⟨.inl bv_at, .inl sv_at, trivial⟩) rfl rfl rfl) (fun _ => ?_)
  refine s_st0 (s_cstore (out := [bv false, sv (ByteArray.mk #[113])]) Tryd.sizeOf35 rfl (j := 2) rfl (part_agO (ψs := [bv false, sv (ByteArray.mk #[113])]) rfl ⟨.inl bv_at, .inl sv_at, trivial⟩) rfl rfl rfl) (fun _ => ?_)
  refine s_st0 (s_cstore (out := [bv false, sv (ByteArray.mk #[114])]) Tryd.sizeOf35 rfl (j := 3) rfl (part_agO (ψs := [bv false, sv (ByteArray.mk #[114])]) rfl ⟨.inl bv_at, .inl sv_at, trivial⟩) rfl rfl rfl) (fun _ => ?_)
  refine l_nil ?_
  refine b_of (nrm [oc b1 [pv (.slice none 0 0), pv (.slice none 0 0), pv (.slice none 0 0)], oc b2 [bv false, sv (ByteArray.mk #[112])], oc b3 [bv false, sv (ByteArray.mk #[113])], oc b4 [bv false, sv (ByteArray.mk #[114])]] rfl) ?_
  refine n_then (ref_seq (ref_region ?_))
  refine s_rd (r_cloadS Tryd.isAgg35 Tryd.sizeOf35 rfl (j := 1) rfl rfl rfl) rfl ?_
  refine s_rd (r_cloadS Tryd.isAgg35 Tryd.sizeOf35 rfl (j := 2) rfl rfl rfl) rfl ?_
  refine s_st (s_bslice (xs := [.tmp 7, .tmp 8]) (ds := [(T_api_Literal.mk false (ByteArray.mk #[112])), (T_api_Literal.mk false (ByteArray.mk #[113]))]) Tryd.underlying31 el_35 rfl (Nat.le_of_ble_eq_true rfl) ⟨(part_agO (ψs := [bv false, sv (ByteArray.mk #[112])]) rfl ⟨.inl bv_at, .inl sv_at, trivial⟩), ⟨(part_agO (ψs := [bv false, sv (ByteArray.mk #[113])]) rfl ⟨.inl bv_at, .inl sv_at, trivial⟩), trivial⟩⟩) rfl (fun _ => ?_)
  refine s_rd (r_cloadS Tryd.isAgg35 Tryd.sizeOf35 rfl (j := 3) rfl rfl rfl) rfl ?_
  refine s_rd (r_build (ps := [(0, .const (.string (ByteArray.mk #[115]))), (1, .const (.bool true)), (3, .tmp 9), (4, .tmp 10)]) (rs := [(0, [sv (ByteArray.mk #[115])]), (1, [bv true]), (3, [slv rT_api_Literal [(T_api_Literal.mk false (ByteArray.mk #[112])), (T_api_Literal.mk false (ByteArray.mk #[113]))]]), (4, [bv false, sv (ByteArray.mk #[114])])]) st_40 zs_40 ⟨rfl, (part_at rfl sv_at), ⟨rfl, (part_at rfl bv_at), ⟨rfl, (part_at rfl slv_at), ⟨rfl, (part_agO (ψs := [bv false, sv (ByteArray.mk #[114])]) rfl ⟨.inl bv_at, .inl sv_at, trivial⟩), trivial⟩⟩⟩⟩ rfl rfl) rfl ?_
  refine s_st (s_bslice (xs := [.tmp 11]) (ds := [(T_api_Rule.mk (ByteArray.mk #[115]) true 0 [(T_api_Literal.mk false (ByteArray.mk #[112])), (T_api_Literal.mk false (ByteArray.mk #[113]))] (T_api_Literal.mk false (ByteArray.mk #[114])))]) Tryd.underlying26 el_40 rfl (Nat.le_of_ble_eq_true rfl) ⟨(part_agO (ψs := [sv (ByteArray.mk #[115]), bv true, iv .i64 0, slv rT_api_Literal [(T_api_Literal.mk false (ByteArray.mk #[112])), (T_api_Literal.mk false (ByteArray.mk #[113]))], bv false, sv (ByteArray.mk #[114])]) rfl ⟨.inl sv_at, .inl bv_at, .inl iv_at, .inl slv_at, .inl bv_at, .inl sv_at, trivial⟩), trivial⟩) rfl (fun _ => ?_)
  refine s_rd (r_build (ps := [(1, .tmp 12)]) (rs := [(1, [slv rT_api_Rule [(T_api_Rule.mk (ByteArray.mk #[115]) true 0 [(T_api_Literal.mk false (ByteArray.mk #[112])), (T_api_Literal.mk false (ByteArray.mk #[113]))] (T_api_Literal.mk false (ByteArray.mk #[114])))]])]) st_29 zs_29 ⟨rfl, (part_at rfl slv_at), trivial⟩ rfl rfl) rfl ?_
  refine s_st0 (s_cstore (out := [pv (.slice none 0 0), slv rT_api_Rule [(T_api_Rule.mk (ByteArray.mk #[115]) true 0 [(T_api_Literal.mk false (ByteArray.mk #[112])), (T_api_Literal.mk false (ByteArray.mk #[113]))] (T_api_Literal.mk false (ByteArray.mk #[114])))], pv (.slice none 0 0)]) Tryd.sizeOf29 rfl (j := 0) rfl (part_agO (ψs := [pv (.slice none 0 0), slv rT_api_Rule [(T_api_Rule.mk (ByteArray.mk #[115]) true 0 [(T_api_Literal.mk false (ByteArray.mk #[112])), (T_api_Literal.mk false (ByteArray.mk #[113]))] (T_api_Literal.mk false (ByteArray.mk #[114])))], pv (.slice none 0 0)]) rfl ⟨.inl (pv_at rfl), .inl slv_at, .inl (pv_at rfl), trivial⟩) rfl rfl rfl) (fun _ => ?_)
  refine l_nil (n_then (ref_ret ?_))
  refine b_of (ocW 0 [slv rT_api_Premise [], slv rT_api_Rule [(T_api_Rule.mk (ByteArray.mk #[115]) true 0 [(T_api_Literal.mk false (ByteArray.mk #[112])), (T_api_Literal.mk false (ByteArray.mk #[113]))] (T_api_Literal.mk false (ByteArray.mk #[114])))], slv rT_api_Promotion []] rfl ⟨nil_sl, imp_rfl, nil_sl, trivial⟩) ?_
  exact fin1 (.inl rfl) () [] rfl trivial rfl (rv_cell rfl (j := 0) rfl Tryd.isAgg29 Tryd.sizeOf29 rfl rfl)

/-! deliberation/rulebase.ranked -/
noncomputable def rulebase_ranked_m (n_0 : Int) : Option (Bool) :=
  bif decide (n_0 ≥ 0) then
    letM (decide (n_0 ≤ 9)) fun t1 =>
    some t1
  else
    some false

theorem rulebase_ranked_ok {n_0 : Int} {r : Bool} (hm : rulebase_ranked_m n_0 = some r) :
    FnOk prog 66 [iv .i64 n_0] [] (fun (x : Unit) => [bv r]) (fun (x : Unit) => []) := by
  refine fn_ok (fn := Tryd.f66) (N := 9) (res := fun r x => [bv r]) (Ω1 := fun r x => []) Tryd.func66 rfl rfl hm rfl (fun E hM => ?_)
  unfold rulebase_ranked_m
  refine ref_seq (ref_region ?_)
  refine as1 rfl rfl ?_
  refine l_nil (n_then (ref_seq (ref_region ?_)))
  refine mv1 rfl rfl ?_
  refine s_rd (r_geq rfl rfl) rfl ?_
  refine mv1 rfl rfl ?_
  refine b_split (t := 5) rfl (fun _ => ?_) (fun _ => ?_)
  · refine s_on rfl rfl rfl ?_
    refine mv1 rfl rfl ?_
    refine s_on rfl rfl rfl ?_
    refine s_rd (r_leq rfl rfl) rfl ?_
    refine s_rd (r_pickT rfl rfl) rfl ?_
    refine as1 rfl rfl ?_
    refine b_let (f := bv) (t := 2) rfl fun t1 => ?_
    refine l_nil (n_then (ref_ret ?_))
    exact fin1 (.inl rfl) () [] rfl trivial rfl (rv_tmp rfl)
  refine s_off rfl rfl rfl rfl rfl ?_
  refine s_off rfl rfl rfl rfl rfl ?_
  refine s_rd (r_pickF rfl rfl) rfl ?_
  refine as1 rfl rfl ?_
  refine l_nil (n_then (ref_ret ?_))
  exact fin1 (.inl rfl) () [] rfl trivial rfl (rv_tmp rfl)

end Go.Dc
