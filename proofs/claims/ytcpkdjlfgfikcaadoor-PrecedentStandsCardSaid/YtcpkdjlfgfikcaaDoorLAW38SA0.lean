/- Part LAW38S.A0 of a proof: lemmas. -/
import Derived.Test.YtcpkdjlfgfikcaaDoorLAW38SLay
import Derived.Test.YtcpkdjlfgfikcaaDoorProg
set_option linter.unusedVariables false
set_option maxRecDepth 100000
set_option maxHeartbeats 4000000
namespace Go.Dc
open Go.Proofs
open Go.Proofs.Tryd (prog)

/-! deliberation/deliberationkeep.New -/
noncomputable def keep_New_m (l_0 : (List Int)) : Option (T_deliberationkeep_Src) :=
  Option.bind (slM l_0 0 (imin (l_0.length : Int) 2000)) fun t1 =>
  some (T_deliberationkeep_Src.mk t1 0)

theorem keep_New_ok {l_0 : (List Int)} {r : T_deliberationkeep_Src} (hm : keep_New_m l_0 = some r) :
    FnOk prog 7 [slv (rI .i64) l_0] [] (fun (x : Nat) => [pv (ptr x 0)]) (fun (x : Nat) => [oc x [slv (rI .i64) r.L, iv .i64 r.At]]) := by
  refine fn_ok (X := Nat) (fn := Tryd.f7) (N := 10) (res := fun r x => [pv (ptr x 0)]) (Ω1 := fun r x => [oc x [slv (rI .i64) r.L, iv .i64 r.At]]) Tryd.func7 rfl rfl hm rfl (fun E hM => ?_)
  unfold keep_New_m
  refine ref_seq (ref_region ?_)
  refine as1 rfl rfl ?_
  refine l_nil (n_then (ref_seq (ref_region ?_)))
  refine mv1 rfl rfl ?_
  refine mv1 rfl rfl ?_
  refine s_rd (r_len Tryd.underlying22 rfl) rfl ?_
  refine s_rd (r_min rfl rfl) rfl ?_
  refine pull fun t1 h_t1 => ?_
  refine s_rd (r_slice h_t1 Tryd.underlying22 el_3 rfl .dft (.of rfl)) rfl ?_
  refine s_rd (r_build (ps := [(0, .tmp 7)]) (rs := [(0, [slv (rI .i64) t1])]) st_64 zs_64 ⟨rfl, (part_at rfl slv_at), trivial⟩ rfl rfl) rfl ?_
  refine s_st (s_box (part_agO (ψs := [slv (rI .i64) t1, iv .i64 0]) rfl ⟨.inl slv_at, .inl iv_at, trivial⟩)) rfl (fun b2 => ?_)
  refine as1 rfl rfl ?_
  refine l_nil (n_then (ref_ret ?_))
  exact fin1 (.inl rfl) b2 [0] rfl ⟨rfl, trivial⟩ rfl (rv_tmp rfl)

/-! deliberation/deliberationlaw38.sides -/
noncomputable def law38_sides_m  : Option (T_arr2_25) :=
  some (T_arr2_25.mk [(ByteArray.mk #[97]), (ByteArray.mk #[98]), (ByteArray.mk #[99])] [(ByteArray.mk #[120]), (ByteArray.mk #[121]), (ByteArray.mk #[122])])

theorem law38_sides_ok  {r : T_arr2_25} (hm : law38_sides_m  = some r) :
    FnOk prog 18 [] [] (fun (x : Unit) => [ag [slv rS r.i0, slv rS r.i1]]) (fun (x : Unit) => []) := by
  refine fn_ok (fn := Tryd.f18) (N := 4) (res := fun r x => [ag [slv rS r.i0, slv rS r.i1]]) (Ω1 := fun r x => []) Tryd.func18 rfl rfl hm rfl (fun E hM => ?_)
  unfold law38_sides_m
  refine ref_seq (ref_region ?_)
  refine s_st (s_alloc zt_26) rfl (fun b1 => ?_)
  refine l_nil (n_then (ref_seq (ref_region ?_)))
  refine s_st (s_bslice (xs := [.const (.string (ByteArray.mk #[97])), .const (.string (ByteArray.mk #[98])), .const (.string (ByteArray.mk #[99]))]) (ds := [(ByteArray.mk #[97]), (ByteArray.mk #[98]), (ByteArray.mk #[99])]) Tryd.underlying25 el_9 rfl (Nat.le_of_ble_eq_true rfl) ⟨(part_at rfl sv_at), ⟨(part_at rfl sv_at), ⟨(part_at rfl sv_at), trivial⟩⟩⟩) rfl (fun _ => ?_)
  refine s_st (s_bslice (xs := [.const (.string (ByteArray.mk #[120])), .const (.string (ByteArray.mk #[121])), .const (.string (ByteArray.mk #[122]))]) (ds := [(ByteArray.mk #[120]), (ByteArray.mk #[121]), (ByteArray.mk #[122])]) Tryd.underlying25 el_9 rfl (Nat.le_of_ble_eq_true rfl) ⟨(part_at rfl sv_at), ⟨(part_at rfl sv_at), ⟨(part_at rfl sv_at), trivial⟩⟩⟩) rfl (fun _ => ?_)
  refine s_rd (r_buildA (ps := [(0, .tmp 1), (1, .tmp 2)]) (rs := [(0, [slv rS [(ByteArray.mk #[97]), (ByteArray.mk #[98]), (ByteArray.mk #[99])]]), (1, [slv rS [(ByteArray.mk #[120]), (ByteArray.mk #[121]), (ByteArray.mk #[122])]])]) (sz := 1) Tryd.underlying26 Tryd.sizeOf25 ⟨_, _, Tryd.type26, rfl⟩ zs_26 ⟨rfl, (part_at rfl slv_at), ⟨rfl, (part_at rfl slv_at), trivial⟩⟩ rfl rfl) rfl ?_
  refine s_st0 (s_cstore (out := [slv rS [(ByteArray.mk #[97]), (ByteArray.mk #[98]), (ByteArray.mk #[99])], slv rS [(ByteArray.mk #[120]), (ByteArray.mk #[121]), (ByteArray.mk #[122])]]) Tryd.sizeOf26 rfl (j := 0) rfl (part_agO (ψs := [slv rS [(ByteArray.mk #[97]), (ByteArray.mk #[98]), (ByteArray.mk #[99])], slv rS [(ByteArray.mk #[120]), (ByteArray.mk #[121]), (ByteArray.mk #[122])]]) rfl ⟨.inl slv_at, .inl slv_at, trivial⟩) rfl rfl rfl) (fun _ => ?_)
  refine l_nil ?_
  refine b_of (nrm [oc b1 [slv rS [(ByteArray.mk #[97]), (ByteArray.mk #[98]), (ByteArray.mk #[99])], slv rS [(ByteArray.mk #[120]), (ByteArray.mk #[121]), (ByteArray.mk #[122])]]] rfl) ?_
  refine n_then (ref_ret ?_)
  exact fin1 (.inl rfl) () [] rfl trivial rfl (rv_cell rfl (j := 0) rfl Tryd.isAgg26 Tryd.sizeOf26 rfl rfl)

/-! (*deliberation/deliberationkeep.Src).Raw -/
noncomputable def keep_Src_Raw_m (s_0 : T_deliberationkeep_Src) : Option (Int × T_deliberationkeep_Src) :=
  bif decide (s_0.At ≥ (s_0.L.length : Int)) then
    some (0, s_0)
  else
    Option.bind (idxM s_0.L (isub .i64 (iadd .i64 s_0.At 1) 1)) fun t2 =>
    some (t2, (T_deliberationkeep_Src.mk s_0.L (iadd .i64 s_0.At 1)))

theorem keep_Src_Raw_ok {s_0 : T_deliberationkeep_Src} {b_0 : Nat} {r : Int × T_deliberationkeep_Src} (hm : keep_Src_Raw_m s_0 = some r) :
    FnOk prog 47 [pv (ptr b_0 0)] [oc b_0 [slv (rI .i64) s_0.L, iv .i64 s_0.At]] (fun (x : Unit) => [iv .i64 r.1]) (fun (x : Unit) => [oc b_0 [slv (rI .i64) r.2.L, iv .i64 r.2.At]]) := by
  refine fn_ok (fn := Tryd.f47) (N := 31) (res := fun r x => [iv .i64 r.1]) (Ω1 := fun r x => [oc b_0 [slv (rI .i64) r.2.L, iv .i64 r.2.At]]) Tryd.func47 rfl rfl hm rfl (fun E hM => ?_)
  unfold keep_Src_Raw_m
  refine ref_seq (ref_region ?_)
  refine as1 rfl rfl ?_
  refine l_nil (n_then (ref_seq (ref_seq ?_)))
  refine ref_draw [0, 1, 2, 3, 4, 5, 6, 7, 8, 9] rfl (by kernel_rfl) (fun hok => ?_)
  refine a_rd (i := 0) hok rfl (by kernel_rfl) rfl (r_move rfl) rfl ?_
  refine a_rd (i := 1) hok rfl (by kernel_rfl) rfl (r_nilc rfl) rfl ?_
  refine a_rd (i := 2) hok rfl (by kernel_rfl) rfl (r_faddr (fo := 1) Tryd.underlying64 rfl rfl Tryd.sizeOf3 rfl) rfl ?_
  refine a_rd (i := 3) hok rfl (by kernel_rfl) rfl (r_cload Tryd.isAgg3 rfl (j := 0) rfl rfl) rfl ?_
  refine a_rd (i := 4) hok rfl (by kernel_rfl) rfl (r_move rfl) rfl ?_
  refine a_rd (i := 5) hok rfl (by kernel_rfl) rfl (r_nilc rfl) rfl ?_
  refine a_rd (i := 6) hok rfl (by kernel_rfl) rfl (r_faddr (fo := 0) Tryd.underlying64 rfl rfl Tryd.sizeOf22 rfl) rfl ?_
  refine a_rd (i := 7) hok rfl (by kernel_rfl) rfl (r_cload Tryd.isAgg22 rfl (j := 0) rfl rfl) rfl ?_
  refine a_rd (i := 8) hok rfl (by kernel_rfl) rfl (r_len Tryd.underlying22 rfl) rfl ?_
  refine a_rd (i := 9) hok rfl (by kernel_rfl) rfl (r_geq rfl rfl) rfl ?_
  refine a_fin hok (by kernel_rfl) ?_
  refine n_then ?_
  refine ref_cond rfl (fun hb1 => ?_) (fun hb1 => ?_)
  · refine ref_seq (ref_region ?_)
    refine as1 rfl rfl ?_
    refine l_nil (n_then (ref_ret (r_then ?_)))
    exact fin1 (.inl rfl) () [0] rfl ⟨rfl, trivial⟩ rfl (rv_tmp rfl)
  refine ref_skip (n_then (ref_seq (ref_region ?_)))
  refine mv1 rfl rfl ?_
  refine s_rd (r_nilc rfl) rfl ?_
  refine s_rd (r_faddr (fo := 1) Tryd.underlying64 rfl rfl Tryd.sizeOf3 rfl) rfl ?_
  refine s_rd (r_cload Tryd.isAgg3 rfl (j := 0) rfl rfl) rfl ?_
  refine s_rd (r_add rfl rfl) rfl ?_
  refine s_rd (r_nilc rfl) rfl ?_
  refine s_rd (r_faddr (fo := 1) Tryd.underlying64 rfl rfl Tryd.sizeOf3 rfl) rfl ?_
  refine s_st0 (s_cstore (out := [slv (rI .i64) s_0.L, iv .i64 (iadd .i64 s_0.At 1)]) Tryd.sizeOf3 rfl (j := 0) rfl (part_at rfl iv_at) rfl rfl rfl) (fun _ => ?_)
  refine l_nil (n_then (ref_seq ?_))
  refine ref_draw [0, 1, 2, 3, 4, 5, 6, 7, 8, 9, 10] rfl (by kernel_rfl) (fun hok => ?_)
  refine a_rd (i := 0) hok rfl (by kernel_rfl) rfl (r_move rfl) rfl ?_
  refine a_rd (i := 1) hok rfl (by kernel_rfl) rfl (r_nilc rfl) rfl ?_
  refine a_rd (i := 2) hok rfl (by kernel_rfl) rfl (r_faddr (fo := 0) Tryd.underlying64 rfl rfl Tryd.sizeOf22 rfl) rfl ?_
  refine a_rd (i := 3) hok rfl (by kernel_rfl) rfl (r_cload Tryd.isAgg22 rfl (j := 0) rfl rfl) rfl ?_
  refine a_rd (i := 4) hok rfl (by kernel_rfl) rfl (r_move rfl) rfl ?_
  refine a_rd (i := 5) hok rfl (by kernel_rfl) rfl (r_nilc rfl) rfl ?_
  refine a_rd (i := 6) hok rfl (by kernel_rfl) rfl (r_faddr (fo := 1) Tryd.underlying64 rfl rfl Tryd.sizeOf3 rfl) rfl ?_
  refine a_rd (i := 7) hok rfl (by kernel_rfl) rfl (r_cload Tryd.isAgg3 rfl (j := 0) rfl rfl) rfl ?_
  refine a_rd (i := 8) hok rfl (by kernel_rfl) rfl (r_sub rfl rfl) rfl ?_
  refine pull fun t2 h_t2 => ?_
  refine a_rd (i := 9) hok rfl (by kernel_rfl) rfl (r_index h_t2 Tryd.underlying22 el_3 rfl rfl) rfl ?_
  refine a_rd (i := 10) hok rfl (by kernel_rfl) rfl (r_load el_3 rfl) rfl ?_
  refine a_next hok 11 [] (by kernel_rfl) ?_ trivial
  refine a_st (i := 11) hok rfl rfl (St.ofRd (r_assign rfl)) (by intro _ h; cases h; rfl) (fun _ => ⟨trivial, ⟨trivial, ⟨trivial, ⟨trivial, ⟨trivial, ⟨trivial, ⟨trivial, ⟨trivial, ⟨trivial, ⟨trivial, ⟨trivial, trivial⟩⟩⟩⟩⟩⟩⟩⟩⟩⟩⟩) (fun _ => ?_)
  refine a_fin hok (by kernel_rfl) ?_
  refine n_then (ref_ret ?_)
  exact fin1 (.inl rfl) () [0] rfl ⟨rfl, trivial⟩ rfl (rv_tmp rfl)

/-! deliberation/deliberationkeep.Mod -/
noncomputable def keep_Mod_m (x_0 : Int) (n_1 : Int) : Option (Int) :=
  bif decide (n_1 < 1) then
    some 0
  else
    Option.bind (iremM .i64 x_0 n_1) fun x2 =>
    bif decide (x2 < 0) then
      letM (iadd .i64 x2 n_1) fun x4 =>
      some x4
    else
      some x2

theorem keep_Mod_ok {x_0 : Int} {n_1 : Int} {r : Int} (hm : keep_Mod_m x_0 n_1 = some r) :
    FnOk prog 46 [iv .i64 x_0, iv .i64 n_1] [] (fun (x : Unit) => [iv .i64 r]) (fun (x : Unit) => []) := by
  refine fn_ok (fn := Tryd.f46) (N := 16) (res := fun r x => [iv .i64 r]) (Ω1 := fun r x => []) Tryd.func46 rfl rfl hm rfl (fun E hM => ?_)
  unfold keep_Mod_m
  refine ref_seq (ref_region ?_)
  refine as1 rfl rfl ?_
  refine l_nil (n_then (ref_seq (ref_seq (ref_region ?_))))
  refine mv1 rfl rfl ?_
  refine s_rd (r_lss rfl rfl) rfl ?_
  refine l_nil (n_then ?_)
  refine ref_cond rfl (fun hb1 => ?_) (fun hb1 => ?_)
  · refine ref_seq (ref_region ?_)
    refine as1 rfl rfl ?_
    refine l_nil (n_then (ref_ret (r_then ?_)))
    exact fin1 (.inl rfl) () [] rfl trivial rfl (rv_tmp rfl)
  refine ref_skip (n_then (ref_seq (ref_region ?_)))
  refine mv1 rfl rfl ?_
  refine mv1 rfl rfl ?_
  refine pull fun x2 h_x2 => ?_
  refine s_rd (r_remM h_x2 rfl rfl) rfl ?_
  refine as1 rfl rfl ?_
  refine l_nil (n_then (ref_seq (ref_seq (ref_region ?_))))
  refine mv1 rfl rfl ?_
  refine s_rd (r_lss rfl rfl) rfl ?_
  refine l_nil (n_then ?_)
  refine ref_cond rfl (fun hb3 => ?_) (fun hb3 => ?_)
  · refine ref_region ?_
    refine mv1 rfl rfl ?_
    refine mv1 rfl rfl ?_
    refine s_rd (r_add rfl rfl) rfl ?_
    refine as1 rfl rfl ?_
    refine b_let (f := iv .i64) (t := 0) rfl fun x4 => ?_
    refine l_nil (n_then (ref_seq (ref_region ?_)))
    refine mv1 rfl rfl ?_
    refine as1 rfl rfl ?_
    refine l_nil (n_then (ref_ret ?_))
    exact fin1 (.inl rfl) () [] rfl trivial rfl (rv_tmp rfl)
  refine ref_skip (n_then (ref_seq (ref_region ?_)))
  refine mv1 rfl rfl ?_
  refine as1 rfl rfl ?_
  refine l_nil (n_then (ref_ret ?_))
  exact fin1 (.inl rfl) () [] rfl trivial rfl (rv_tmp rfl)

/-! (*deliberation/deliberationkeep.Src).N -/
noncomputable def keep_Src_N_m (s_0 : T_deliberationkeep_Src) (n_1 : Int) : Option (Int × T_deliberationkeep_Src) :=
  Option.bind (keep_Src_Raw_m s_0) fun t1 =>
  Option.bind (keep_Mod_m t1.1 n_1) fun t2 =>
  some (t2, t1.2)

theorem keep_Src_N_ok {s_0 : T_deliberationkeep_Src} {n_1 : Int} {b_0 : Nat} {r : Int × T_deliberationkeep_Src} (hm : keep_Src_N_m s_0 n_1 = some r) :
    FnOk prog 24 [pv (ptr b_0 0), iv .i64 n_1] [oc b_0 [slv (rI .i64) s_0.L, iv .i64 s_0.At]] (fun (x : Unit) => [iv .i64 r.1]) (fun (x : Unit) => [oc b_0 [slv (rI .i64) r.2.L, iv .i64 r.2.At]]) := by
  refine fn_ok (fn := Tryd.f24) (N := 9) (res := fun r x => [iv .i64 r.1]) (Ω1 := fun r x => [oc b_0 [slv (rI .i64) r.2.L, iv .i64 r.2.At]]) Tryd.func24 rfl rfl hm rfl (fun E hM => ?_)
  unfold keep_Src_N_m
  refine ref_seq (ref_region ?_)
  refine as1 rfl rfl ?_
  refine l_nil (n_then (ref_seq (ref_region ?_)))
  refine mv1 rfl rfl ?_
  refine pull fun t1 h_t1 => ?_
  refine s_st (s_callC [0] [true] (fun (_ : Unit) => [oc b_0 [slv (rI .i64) t1.2.L, iv .i64 t1.2.At]]) (fun (_ : Unit) => []) (fun (_ : Unit) => iv .i64 t1.1) (args := [.tmp 5]) (caps := []) Tryd.call47 rfl (keep_Src_Raw_ok h_t1) ⟨rfl, rfl, trivial⟩ (fun _ => rfl) (fun _ => trivial) (fun _ => rfl) ⟨arg rfl, trivial⟩ (fun _ _ _ _ h => h)) rfl (fun _ => ?_)
  refine mv1 rfl rfl ?_
  refine pull fun t2 h_t2 => ?_
  refine s_st (s_call (ψ := fun (_ : Unit) => iv .i64 t2) (args := [.tmp 6, .tmp 7]) Tryd.call46 rfl (keep_Mod_ok h_t2) ⟨arg rfl, arg rfl, trivial⟩ (fun _ _ _ _ h => h)) rfl (fun _ => ?_)
  refine as1 rfl rfl ?_
  refine l_nil (n_then (ref_ret ?_))
  exact fin1 (.inl rfl) () [0] rfl ⟨rfl, trivial⟩ rfl (rv_tmp rfl)

/-! deliberation/deliberationlaw38.facts -/
noncomputable def law38_facts_l1  (s17 : Int × T_deliberationkeep_Src × (List ByteArray)) : Option (Sum (T_deliberationkeep_Src × (List ByteArray)) (Int × T_deliberationkeep_Src × (List ByteArray))) :=
  bif decide (s17.1 < ([(ByteArray.mk #[97]), (ByteArray.mk #[98]), (ByteArray.mk #[99]), (ByteArray.mk #[120]), (ByteArray.mk #[121]), (ByteArray.mk #[122])].length : Int)) then
    Option.bind (idxM [(ByteArray.mk #[97]), (ByteArray.mk #[98]), (ByteArray.mk #[99]), (ByteArray.mk #[120]), (ByteArray.mk #[121]), (ByteArray.mk #[122])] s17.1) fun x20 =>
    Option.bind (keep_Src_N_m s17.2.1 2) fun t21 =>
    bif t21.1 == 0 then
      Option.bind (appM 16 s17.2.2 [x20]) fun out23 =>
      some (Sum.inr (iadd .i64 s17.1 1, t21.2, out23))
    else
      some (Sum.inr (iadd .i64 s17.1 1, t21.2, s17.2.2))
  else
    some (Sum.inl (s17.2.1, s17.2.2))

noncomputable def law38_facts_m (s_0 : T_deliberationkeep_Src) : Option (List ByteArray × T_deliberationkeep_Src) :=
  Option.bind (loopC (law38_facts_l1) (0, s_0, [])) fun q25 : T_deliberationkeep_Src × (List ByteArray) =>
  some (q25.2, q25.1)

theorem law38_facts_ok {s_0 : T_deliberationkeep_Src} {b_0 : Nat} {r : List ByteArray × T_deliberationkeep_Src} (hm : law38_facts_m s_0 = some r) :
    FnOk prog 9 [pv (ptr b_0 0)] [oc b_0 [slv (rI .i64) s_0.L, iv .i64 s_0.At]] (fun (x : (Value × List Nat)) => [pv x.1]) (fun (x : (Value × List Nat)) => [oc b_0 [slv (rI .i64) r.2.L, iv .i64 r.2.At], oa rS x.1 x.2 r.1]) := by
  refine fn_ok (X := (Value × List Nat)) (fn := Tryd.f9) (N := 21) (res := fun r x => [pv x.1]) (Ω1 := fun r x => [oc b_0 [slv (rI .i64) r.2.L, iv .i64 r.2.At], oa rS x.1 x.2 r.1]) Tryd.func9 rfl rfl hm rfl (fun E hM => ?_)
  unfold law38_facts_m
  refine ref_seq (ref_region ?_)
  refine as1 rfl rfl ?_
  refine l_nil (n_then (ref_seq (ref_region ?_)))
  refine as1 rfl rfl ?_
  refine l_nil (n_then (ref_seq (ref_seq (ref_region ?_))))
  refine s_st (s_bslice (xs := [.const (.string (ByteArray.mk #[97])), .const (.string (ByteArray.mk #[98])), .const (.string (ByteArray.mk #[99])), .const (.string (ByteArray.mk #[120])), .const (.string (ByteArray.mk #[121])), .const (.string (ByteArray.mk #[122]))]) (ds := [(ByteArray.mk #[97]), (ByteArray.mk #[98]), (ByteArray.mk #[99]), (ByteArray.mk #[120]), (ByteArray.mk #[121]), (ByteArray.mk #[122])]) Tryd.underlying25 el_9 rfl (Nat.le_of_ble_eq_true rfl) ⟨(part_at rfl sv_at), ⟨(part_at rfl sv_at), ⟨(part_at rfl sv_at), ⟨(part_at rfl sv_at), ⟨(part_at rfl sv_at), ⟨(part_at rfl sv_at), trivial⟩⟩⟩⟩⟩⟩) rfl (fun _ => ?_)
  refine s_rd (r_len Tryd.underlying25 rfl) rfl ?_
  refine mv1 rfl rfl ?_
  refine l_nil (n_then ?_)
  refine b_of (own_nil rS) ?_
  refine ref_loopB (f := (law38_facts_l1)) (Γl := (fun (s17 : Int × T_deliberationkeep_Src × (List ByteArray)) (x18 : (Value × List Nat)) => [(0, pv (ptr b_0 0)), (3, pv x18.1), (6, slv rS [(ByteArray.mk #[97]), (ByteArray.mk #[98]), (ByteArray.mk #[99]), (ByteArray.mk #[120]), (ByteArray.mk #[121]), (ByteArray.mk #[122])]), (7, iv .i64 ([(ByteArray.mk #[97]), (ByteArray.mk #[98]), (ByteArray.mk #[99]), (ByteArray.mk #[120]), (ByteArray.mk #[121]), (ByteArray.mk #[122])].length : Int)), (8, iv .i64 s17.1)])) (Ωl := (fun (s17 : Int × T_deliberationkeep_Src × (List ByteArray)) (x18 : (Value × List Nat)) => [oc b_0 [slv (rI .i64) s17.2.1.L, iv .i64 s17.2.1.At], oa rS x18.1 x18.2 s17.2.2])) (Γb := (fun (q25 : T_deliberationkeep_Src × (List ByteArray)) (y26 : (Value × List Nat)) => [(0, pv (ptr b_0 0)), (3, pv y26.1)])) (Ωb := (fun (q25 : T_deliberationkeep_Src × (List ByteArray)) (y26 : (Value × List Nat)) => [oc b_0 [slv (rI .i64) q25.1.L, iv .i64 q25.1.At], oa rS y26.1 y26.2 q25.2])) (0, s_0, []) ((.slice none 0 0), []) (weak [0, 1] ⟨rfl, rfl, rfl, rfl, rfl, trivial⟩ ⟨rfl, rfl, trivial⟩) (fun s17 x18 => ?_) (fun q25 y26 => ?_)
  · unfold law38_facts_l1
    refine ref_seq (ref_region ?_)
    refine s_rd (r_lss rfl rfl) rfl ?_
    refine l_nil (n_then (ref_seq ?_))
    refine ref_cond rfl (fun hb19 => ?_) (fun hb19 => ?_)
    · refine ref_skip (n_then (ref_seq (ref_block (ref_seq (ref_region ?_)))))
      refine pull fun x20 h_x20 => ?_
      refine s_rd (r_index h_x20 Tryd.underlying25 el_9 rfl rfl) rfl ?_
      refine s_rd (r_load el_9 rfl) rfl ?_
      refine as1 rfl rfl ?_
      refine l_nil (n_then (ref_seq (ref_region ?_)))
      refine mv1 rfl rfl ?_
      refine pull fun t21 h_t21 => ?_
      refine s_st (s_callC [0] [true] (fun (_ : Unit) => [oc b_0 [slv (rI .i64) t21.2.L, iv .i64 t21.2.At]]) (fun (_ : Unit) => []) (fun (_ : Unit) => iv .i64 t21.1) (args := [.tmp 12, .const (.int .i64 (2))]) (caps := []) Tryd.call24 rfl (keep_Src_N_ok h_t21) ⟨rfl, rfl, trivial⟩ (fun _ => rfl) (fun _ => trivial) (fun _ => rfl) ⟨arg rfl, arg rfl, trivial⟩ (fun _ _ _ _ h => h)) rfl (fun _ => ?_)
      refine s_rd (r_eql rfl rfl) rfl ?_
      refine l_nil (n_then ?_)
      refine ref_cond rfl (fun hb22 => ?_) (fun hb22 => ?_)
      · refine ref_region ?_
        refine mv1 rfl rfl ?_
        refine mv1 rfl rfl ?_
        refine s_st (s_bslice (xs := [.tmp 16]) (ds := [x20]) Tryd.underlying25 el_9 rfl (Nat.le_of_ble_eq_true rfl) ⟨(part_at rfl sv_at), trivial⟩) rfl (fun _ => ?_)
        refine pull fun out23 h_out23 => ?_
        refine s_st (s_append h_out23 Tryd.underlying25 el_9 rfl (j := 1) rfl rfl) rfl (fun o24 => ?_)
        refine as1 rfl rfl ?_
        refine l_nil ?_
        refine b_of (nrm [oc b_0 [slv (rI .i64) t21.2.L, iv .i64 t21.2.At], oa rS o24.1 o24.2 out23] rfl) ?_
        refine n_block (n_then (ref_region ?_))
        refine s_rd (r_add rfl rfl) rfl ?_
        refine mv1 rfl rfl ?_
        refine l_nil ?_
        exact goB o24 (weak [0, 1] ⟨rfl, rfl, rfl, rfl, rfl, trivial⟩ ⟨rfl, rfl, trivial⟩)
      refine ref_skip (n_block (n_then (ref_region ?_)))
      refine s_rd (r_add rfl rfl) rfl ?_
      refine mv1 rfl rfl ?_
      refine l_nil ?_
      exact goB x18 (weak [0, 1] ⟨rfl, rfl, rfl, rfl, rfl, trivial⟩ ⟨rfl, rfl, trivial⟩)
    refine ref_exit (x_then ?_)
    exact brkB x18 (weak [0, 1] ⟨rfl, rfl, trivial⟩ ⟨rfl, rfl, trivial⟩)
  refine n_then (ref_seq (ref_region ?_))
  refine mv1 rfl rfl ?_
  refine as1 rfl rfl ?_
  refine l_nil (n_then (ref_ret ?_))
  exact fin1 (.inl rfl) y26 [0, 1] rfl ⟨rfl, rfl, trivial⟩ rfl (rv_tmp rfl)

/-! (*deliberation/deliberationkeep.Src).Range -/
noncomputable def keep_Src_Range_m (s_0 : T_deliberationkeep_Src) (lo_1 : Int) (hi_2 : Int) : Option (Int × T_deliberationkeep_Src) :=
  Option.bind (keep_Src_N_m s_0 (iadd .i64 (isub .i64 hi_2 lo_1) 1)) fun t1 =>
  letM (iadd .i64 lo_1 t1.1) fun t2 =>
  some (t2, t1.2)

theorem keep_Src_Range_ok {s_0 : T_deliberationkeep_Src} {lo_1 : Int} {hi_2 : Int} {b_0 : Nat} {r : Int × T_deliberationkeep_Src} (hm : keep_Src_Range_m s_0 lo_1 hi_2 = some r) :
    FnOk prog 25 [pv (ptr b_0 0), iv .i64 lo_1, iv .i64 hi_2] [oc b_0 [slv (rI .i64) s_0.L, iv .i64 s_0.At]] (fun (x : Unit) => [iv .i64 r.1]) (fun (x : Unit) => [oc b_0 [slv (rI .i64) r.2.L, iv .i64 r.2.At]]) := by
  refine fn_ok (fn := Tryd.f25) (N := 15) (res := fun r x => [iv .i64 r.1]) (Ω1 := fun r x => [oc b_0 [slv (rI .i64) r.2.L, iv .i64 r.2.At]]) Tryd.func25 rfl rfl hm rfl (fun E hM => ?_)
  unfold keep_Src_Range_m
  refine ref_seq (ref_region ?_)
  refine as1 rfl rfl ?_
  refine l_nil (n_then (ref_seq (ref_region ?_)))
  refine mv1 rfl rfl ?_
  refine mv1 rfl rfl ?_
  refine mv1 rfl rfl ?_
  refine mv1 rfl rfl ?_
  refine s_rd (r_sub rfl rfl) rfl ?_
  refine s_rd (r_add rfl rfl) rfl ?_
  refine pull fun t1 h_t1 => ?_
  refine s_st (s_callC [0] [true] (fun (_ : Unit) => [oc b_0 [slv (rI .i64) t1.2.L, iv .i64 t1.2.At]]) (fun (_ : Unit) => []) (fun (_ : Unit) => iv .i64 t1.1) (args := [.tmp 8, .tmp 12]) (caps := []) Tryd.call24 rfl (keep_Src_N_ok h_t1) ⟨rfl, rfl, trivial⟩ (fun _ => rfl) (fun _ => trivial) (fun _ => rfl) ⟨arg rfl, arg rfl, trivial⟩ (fun _ _ _ _ h => h)) rfl (fun _ => ?_)
  refine s_rd (r_add rfl rfl) rfl ?_
  refine as1 rfl rfl ?_
  refine b_let (f := iv .i64) (t := 6) rfl fun t2 => ?_
  refine l_nil (n_then (ref_ret ?_))
  exact fin1 (.inl rfl) () [0] rfl ⟨rfl, trivial⟩ rfl (rv_tmp rfl)

/-! deliberation/deliberationref38.In -/
noncomputable def ref38_In_l1 (l_0 : (List ByteArray)) (s_1 : ByteArray) (s6 : Int) : Option (Sum ((Sum (Bool) (Unit))) (Int)) :=
  bif decide (s6 < (l_0.length : Int)) then
    Option.bind (idxM l_0 s6) fun t9 =>
    bif t9.toList == s_1.toList then
      some (Sum.inl (Sum.inl true))
    else
      some (Sum.inr (iadd .i64 s6 1))
  else
    some (Sum.inl (Sum.inr ()))

noncomputable def ref38_In_m (l_0 : (List ByteArray)) (s_1 : ByteArray) : Option (Bool) :=
  Option.bind (loopC (ref38_In_l1 l_0 s_1) 0) (sumK (fun a : Bool => some a) fun q11 : Unit =>
    some false)

theorem ref38_In_ok {l_0 : (List ByteArray)} {s_1 : ByteArray} {r : Bool} (hm : ref38_In_m l_0 s_1 = some r) :
    FnOk prog 17 [slv rS l_0, sv s_1] [] (fun (x : Unit) => [bv r]) (fun (x : Unit) => []) := by
  refine fn_ok (fn := Tryd.f17) (N := 18) (res := fun r x => [bv r]) (Ω1 := fun r x => []) Tryd.func17 rfl rfl hm rfl (fun E hM => ?_)
  unfold ref38_In_m
  refine ref_seq (ref_region ?_)
  refine as1 rfl rfl ?_
  refine l_nil (n_then (ref_seq (ref_seq (ref_region ?_))))
  refine as1 rfl rfl ?_
  refine l_nil (n_then ?_)
  refine ref_loopX (f := (ref38_In_l1 l_0 s_1)) (Γl := (fun (s6 : Int) (x7 : Unit) => [(0, slv rS l_0), (1, sv s_1), (5, iv .i64 s6)])) (Ωl := (fun (s6 : Int) (x7 : Unit) => [])) (Γb := (fun (q11 : Unit) (y12 : Unit) => [])) (Ωb := (fun (q11 : Unit) (y12 : Unit) => [])) (kr := (fun a : Bool => some a)) 0 () (weak [] ⟨rfl, rfl, rfl, trivial⟩ trivial) (fun s6 x7 => ?_) (fun q11 y12 => ?_)
  · unfold ref38_In_l1
    refine ref_seq (ref_seq (ref_region ?_))
    refine mv1 rfl rfl ?_
    refine mv1 rfl rfl ?_
    refine s_rd (r_len Tryd.underlying25 rfl) rfl ?_
    refine s_rd (r_lss rfl rfl) rfl ?_
    refine l_nil (n_then ?_)
    refine ref_cond rfl (fun hb8 => ?_) (fun hb8 => ?_)
    · refine ref_skip (n_then (ref_seq (ref_block (ref_seq (ref_region ?_)))))
      refine mv1 rfl rfl ?_
      refine mv1 rfl rfl ?_
      refine pull fun t9 h_t9 => ?_
      refine s_rd (r_index h_t9 Tryd.underlying25 el_9 rfl rfl) rfl ?_
      refine s_rd (r_load el_9 rfl) rfl ?_
      refine mv1 rfl rfl ?_
      refine s_rd (r_seql rfl rfl) rfl ?_
      refine l_nil (n_then ?_)
      refine ref_cond rfl (fun hb10 => ?_) (fun hb10 => ?_)
      · refine ref_seq (ref_region ?_)
        refine as1 rfl rfl ?_
        refine l_nil (n_then (ref_ret (r_block (r_then ?_))))
        refine retX ?_
        refine r_block (r_then ?_)
        exact fin1 (.inl rfl) () [] rfl trivial rfl (rv_tmp rfl)
      refine ref_skip (n_block (n_then (ref_region ?_)))
      refine mv1 rfl rfl ?_
      refine s_rd (r_add rfl rfl) rfl ?_
      refine as1 rfl rfl ?_
      refine l_nil ?_
      exact goX () (weak [] ⟨rfl, rfl, rfl, trivial⟩ trivial)
    refine ref_exit (x_then ?_)
    exact brkX () (weak [] trivial trivial)
  refine n_then (ref_seq (ref_region ?_))
  refine as1 rfl rfl ?_
  refine l_nil (n_then (ref_ret ?_))
  exact fin1 (.inl rfl) () [] rfl trivial rfl (rv_tmp rfl)

/-! deliberation/deliberationref38.Own -/
noncomputable def ref38_Own_l1 (l_0 : T_api_Library) (s_1 : (List ByteArray)) (side_2 : Int) (s24 : Int × (List ByteArray)) : Option (Sum ((List ByteArray)) (Int × (List ByteArray))) :=
  bif decide (s24.1 < (s_1.length : Int)) then
    Option.bind (idxM [l_0.Sides.i0, l_0.Sides.i1] (isub .i64 side_2 1)) fun t27 =>
    Option.bind (idxM s_1 s24.1) fun t28 =>
    Option.bind (ref38_In_m t27 t28) fun t29 =>
    bif t29 then
      Option.bind (idxM s_1 s24.1) fun t31 =>
      Option.bind (appM 16 s24.2 [t31]) fun out32 =>
      letM (iadd .i64 s24.1 1) fun i34 =>
      some (Sum.inr (i34, out32))
    else
      letM (iadd .i64 s24.1 1) fun i35 =>
      some (Sum.inr (i35, s24.2))
  else
    some (Sum.inl s24.2)

noncomputable def ref38_Own_m (l_0 : T_api_Library) (s_1 : (List ByteArray)) (side_2 : Int) : Option (List ByteArray) :=
  Option.bind (loopC (ref38_Own_l1 l_0 s_1 side_2) (0, [])) fun q36 : (List ByteArray) =>
  some q36

theorem ref38_Own_ok {l_0 : T_api_Library} {s_1 : (List ByteArray)} {side_2 : Int} {r : List ByteArray} (hm : ref38_Own_m l_0 s_1 side_2 = some r) :
    FnOk prog 26 [ag [slv rS l_0.Sides.i0, slv rS l_0.Sides.i1, slv rT_api_Case l_0.Cases], slv rS s_1, iv .i64 side_2] [] (fun (x : (Value × List Nat)) => [pv x.1]) (fun (x : (Value × List Nat)) => [oa rS x.1 x.2 r]) := by
  refine fn_ok (X := (Value × List Nat)) (fn := Tryd.f26) (N := 33) (res := fun r x => [pv x.1]) (Ω1 := fun r x => [oa rS x.1 x.2 r]) Tryd.func26 rfl rfl hm rfl (fun E hM => ?_)
  unfold ref38_Own_m
  refine ref_seq (ref_region ?_)
  refine s_st (s_box (part_agO (ψs := [slv rS l_0.Sides.i0, slv rS l_0.Sides.i1, slv rT_api_Case l_0.Cases]) rfl ⟨.inl slv_at, .inl slv_at, .inl slv_at, trivial⟩)) rfl (fun b1 => ?_)
  refine as1 rfl rfl ?_
  refine l_nil (n_then (ref_seq (ref_region ?_)))
  refine as1 rfl rfl ?_
  refine l_nil (n_then (ref_seq (ref_seq (ref_region ?_))))
  refine as1 rfl rfl ?_
  refine l_nil (n_then ?_)
  refine b_of (own_nil rS) ?_
  refine ref_loopB (f := (ref38_Own_l1 l_0 s_1 side_2)) (Γl := (fun (s24 : Int × (List ByteArray)) (x25 : (Value × List Nat)) => [(1, slv rS s_1), (2, iv .i64 side_2), (3, pv (ptr b1 0)), (7, pv x25.1), (8, iv .i64 s24.1)])) (Ωl := (fun (s24 : Int × (List ByteArray)) (x25 : (Value × List Nat)) => [oc b1 [slv rS l_0.Sides.i0, slv rS l_0.Sides.i1, slv rT_api_Case l_0.Cases], oa rS x25.1 x25.2 s24.2])) (Γb := (fun (q36 : (List ByteArray)) (y37 : (Value × List Nat)) => [(7, pv y37.1)])) (Ωb := (fun (q36 : (List ByteArray)) (y37 : (Value × List Nat)) => [oa rS y37.1 y37.2 q36])) (0, []) ((.slice none 0 0), []) (weak [0, 1] ⟨rfl, rfl, rfl, rfl, rfl, trivial⟩ ⟨rfl, rfl, trivial⟩) (fun s24 x25 => ?_) (fun q36 y37 => ?_)
  · unfold ref38_Own_l1
    refine ref_seq (ref_seq (ref_region ?_))
    refine mv1 rfl rfl ?_
    refine mv1 rfl rfl ?_
    refine s_rd (r_len Tryd.underlying25 rfl) rfl ?_
    refine s_rd (r_lss rfl rfl) rfl ?_
    refine l_nil (n_then ?_)
    refine ref_cond rfl (fun hb26 => ?_) (fun hb26 => ?_)
    · refine ref_skip (n_then (ref_seq (ref_block (ref_seq ?_))))
      refine ref_draw [0, 1, 2, 3, 4, 5, 6, 7, 8] rfl (by kernel_rfl) (fun hok => ?_)
      refine a_rd (i := 0) hok rfl (by kernel_rfl) rfl (r_move rfl) rfl ?_
      refine a_rd (i := 1) hok rfl (by kernel_rfl) rfl (r_sub rfl rfl) rfl ?_
      refine a_rd (i := 2) hok rfl (by kernel_rfl) rfl (r_faddr (fo := 0) Tryd.underlying29 rfl rfl Tryd.sizeOf26 rfl) rfl ?_
      refine pull fun t27 h_t27 => ?_
      refine a_rd (i := 3) hok rfl (by kernel_rfl) rfl (r_aaddrV h_t27 rfl Tryd.underlying26 Tryd.sizeOf25 rfl rfl) rfl ?_
      refine a_rd (i := 4) hok rfl (by kernel_rfl) rfl (r_acload (ρ := (rSl rS)) (off := 0) h_t27 Tryd.isAgg25 rfl (j := 0) rfl rfl rfl rfl) rfl ?_
      refine a_rd (i := 5) hok rfl (by kernel_rfl) rfl (r_move rfl) rfl ?_
      refine a_rd (i := 6) hok rfl (by kernel_rfl) rfl (r_move rfl) rfl ?_
      refine pull fun t28 h_t28 => ?_
      refine a_rd (i := 7) hok rfl (by kernel_rfl) rfl (r_index h_t28 Tryd.underlying25 el_9 rfl rfl) rfl ?_
      refine a_rd (i := 8) hok rfl (by kernel_rfl) rfl (r_load el_9 rfl) rfl ?_
      refine pull fun t29 h_t29 => ?_
      refine a_next hok 9 [] (by kernel_rfl) ?_ trivial
      refine a_st (i := 9) hok rfl rfl (s_call (ψ := fun (_ : Unit) => bv t29) (args := [.tmp 19, .tmp 23]) Tryd.call17 rfl (ref38_In_ok h_t29) ⟨arg rfl, arg rfl, trivial⟩ (fun _ _ _ _ h => h)) (by intro _ h; cases h; rfl) (fun _ => ⟨trivial, ⟨trivial, ⟨trivial, ⟨trivial, ⟨trivial, ⟨trivial, ⟨trivial, ⟨trivial, ⟨trivial, trivial⟩⟩⟩⟩⟩⟩⟩⟩⟩) (fun _ => ?_)
      refine a_fin hok (by kernel_rfl) ?_
      refine n_then ?_
      refine ref_cond rfl (fun hb30 => ?_) (fun hb30 => ?_)
      · refine ref_region ?_
        refine mv1 rfl rfl ?_
        refine mv1 rfl rfl ?_
        refine mv1 rfl rfl ?_
        refine pull fun t31 h_t31 => ?_
        refine s_rd (r_index h_t31 Tryd.underlying25 el_9 rfl rfl) rfl ?_
        refine s_rd (r_load el_9 rfl) rfl ?_
        refine s_st (s_bslice (xs := [.tmp 29]) (ds := [t31]) Tryd.underlying25 el_9 rfl (Nat.le_of_ble_eq_true rfl) ⟨(part_at rfl sv_at), trivial⟩) rfl (fun _ => ?_)
        refine pull fun out32 h_out32 => ?_
        refine s_st (s_append h_out32 Tryd.underlying25 el_9 rfl (j := 1) rfl rfl) rfl (fun o33 => ?_)
        refine as1 rfl rfl ?_
        refine l_nil ?_
        refine b_of (nrm [oc b1 [slv rS l_0.Sides.i0, slv rS l_0.Sides.i1, slv rT_api_Case l_0.Cases], oa rS o33.1 o33.2 out32] rfl) ?_
        refine n_block (n_then (ref_region ?_))
        refine mv1 rfl rfl ?_
        refine s_rd (r_add rfl rfl) rfl ?_
        refine as1 rfl rfl ?_
        refine b_let (f := iv .i64) (t := 8) rfl fun i34 => ?_
        refine l_nil ?_
        exact goB o33 (weak [0, 1] ⟨rfl, rfl, rfl, rfl, rfl, trivial⟩ ⟨rfl, rfl, trivial⟩)
      refine ref_skip (n_block (n_then (ref_region ?_)))
      refine mv1 rfl rfl ?_
      refine s_rd (r_add rfl rfl) rfl ?_
      refine as1 rfl rfl ?_
      refine b_let (f := iv .i64) (t := 8) rfl fun i35 => ?_
      refine l_nil ?_
      exact goB x25 (weak [0, 1] ⟨rfl, rfl, rfl, rfl, rfl, trivial⟩ ⟨rfl, rfl, trivial⟩)
    refine ref_exit (x_then ?_)
    exact brkB x25 (weak [1] ⟨rfl, trivial⟩ ⟨rfl, trivial⟩)
  refine n_then (ref_seq (ref_region ?_))
  refine mv1 rfl rfl ?_
  refine as1 rfl rfl ?_
  refine l_nil (n_then (ref_ret ?_))
  exact fin1 (.inl rfl) y37 [0] rfl ⟨rfl, trivial⟩ rfl (rv_tmp rfl)

/-! deliberation/deliberationlaw38.library -/
noncomputable def law38_library_l2 (own124 : List ByteArray) (s150 : Int × T_deliberationkeep_Src × (List ByteArray)) : Option (Sum (T_deliberationkeep_Src × (List ByteArray)) (Int × T_deliberationkeep_Src × (List ByteArray))) :=
  bif decide (s150.1 < (own124.length : Int)) then
    Option.bind (idxM own124 s150.1) fun x153 =>
    Option.bind (keep_Src_N_m s150.2.1 2) fun t154 =>
    bif t154.1 == 0 then
      Option.bind (appM 16 s150.2.2 [x153]) fun t156 =>
      some (Sum.inr (iadd .i64 s150.1 1, t154.2, t156))
    else
      some (Sum.inr (iadd .i64 s150.1 1, t154.2, s150.2.2))
  else
    some (Sum.inl (s150.2.1, s150.2.2))

noncomputable def law38_library_l1 (t2 : T_arr2_25) (s115 : Int × T_deliberationkeep_Src × (List T_api_Case)) : Option (Sum (T_deliberationkeep_Src × (List T_api_Case)) (Int × T_deliberationkeep_Src × (List T_api_Case))) :=
  bif decide (s115.1 > 0) then
    Option.bind (sconM (ByteArray.mk #[110]) (bstr [IntKind.wrap .u8 (iadd .i64 97 (s115.2.2.length : Int))])) fun t119 =>
    Option.bind (law38_facts_m s115.2.1) fun t120 =>
    Option.bind (keep_Src_Range_m t120.2 1 2) fun t122 =>
    Option.bind (ref38_Own_m (T_api_Library.mk t2 s115.2.2) t120.1 t122.1) fun own124 =>
    Option.bind (loopC (law38_library_l2 own124) (0, t122.2, [])) fun q158 : T_deliberationkeep_Src × (List ByteArray) =>
    bif (own124.length : Int) == 0 then
      letM (isub .i64 s115.1 1) fun i168 =>
      some (Sum.inr (i168, q158.1, s115.2.2))
    else
      joinM (fun j163 : (List ByteArray) =>
          Option.bind (appM 72 s115.2.2 [(T_api_Case.mk t119 t120.1 t122.1 j163)]) fun t166 =>
          letM (isub .i64 s115.1 1) fun i169 =>
          some (Sum.inr (i169, q158.1, t166))) fun k165 =>
      bif (q158.2.length : Int) == 0 then
        Option.bind (slM own124 0 1) fun t162 =>
        k165 t162
      else
        k165 q158.2
  else
    some (Sum.inl (s115.2.1, s115.2.2))

noncomputable def law38_library_m (s_0 : T_deliberationkeep_Src) (most_1 : Int) : Option (T_api_Library × T_deliberationkeep_Src) :=
  Option.bind (law38_sides_m ) fun t2 =>
  Option.bind (keep_Src_N_m s_0 (iadd .i64 most_1 1)) fun i4 =>
  Option.bind (loopC (law38_library_l1 t2) (i4.1, i4.2, [])) fun q170 : T_deliberationkeep_Src × (List T_api_Case) =>
  some ((T_api_Library.mk t2 q170.2), q170.1)

theorem law38_library_ok {s_0 : T_deliberationkeep_Src} {most_1 : Int} {b_0 : Nat} {r : T_api_Library × T_deliberationkeep_Src} (hm : law38_library_m s_0 most_1 = some r) :
    FnOk prog 8 [pv (ptr b_0 0), iv .i64 most_1] [oc b_0 [slv (rI .i64) s_0.L, iv .i64 s_0.At]] (fun (x : Unit) => [ag [slv rS r.1.Sides.i0, slv rS r.1.Sides.i1, slv rT_api_Case r.1.Cases]]) (fun (x : Unit) => [oc b_0 [slv (rI .i64) r.2.L, iv .i64 r.2.At]]) := by
  refine fn_ok (fn := Tryd.f8) (N := 73) (res := fun r x => [ag [slv rS r.1.Sides.i0, slv rS r.1.Sides.i1, slv rT_api_Case r.1.Cases]]) (Ω1 := fun r x => [oc b_0 [slv (rI .i64) r.2.L, iv .i64 r.2.At]]) Tryd.func8 rfl rfl hm rfl (fun E hM => ?_)
  unfold law38_library_m
  refine ref_seq (ref_region ?_)
  refine s_st (s_alloc zt_29) rfl (fun b1 => ?_)
  refine l_nil (n_then (ref_seq (ref_region ?_)))
  refine pull fun t2 h_t2 => ?_
  refine s_st (s_call (ψ := fun (_ : Unit) => ag [slv rS t2.i0, slv rS t2.i1]) (args := []) Tryd.call18 rfl (law38_sides_ok h_t2) trivial (fun _ _ _ _ h => h)) rfl (fun _ => ?_)
  refine s_rd (r_build (ps := [(0, .tmp 11)]) (rs := [(0, [slv rS t2.i0, slv rS t2.i1])]) st_29 zs_29 ⟨rfl, (part_agO (ψs := [slv rS t2.i0, slv rS t2.i1]) rfl ⟨.inl slv_at, .inl slv_at, trivial⟩), trivial⟩ rfl rfl) rfl ?_
  refine s_st (s_alloc zt_29) rfl (fun b3 => ?_)
  refine s_st0 (s_cstore (out := [slv rS t2.i0, slv rS t2.i1, pv (.slice none 0 0)]) Tryd.sizeOf29 rfl (j := 2) rfl (part_agO (ψs := [slv rS t2.i0, slv rS t2.i1, pv (.slice none 0 0)]) rfl ⟨.inl slv_at, .inl slv_at, .inl (pv_at rfl), trivial⟩) rfl rfl rfl) (fun _ => ?_)
  refine l_nil ?_
  refine b_of (nrm [oc b_0 [slv (rI .i64) s_0.L, iv .i64 s_0.At], oc b1 [pv (.slice none 0 0), pv (.slice none 0 0), pv (.slice none 0 0)], oc b3 [slv rS t2.i0, slv rS t2.i1, pv (.slice none 0 0)]] rfl) ?_
  refine n_then (ref_seq (ref_seq (ref_region ?_)))
  refine mv1 rfl rfl ?_
  refine mv1 rfl rfl ?_
  refine s_rd (r_add rfl rfl) rfl ?_
  refine pull fun i4 h_i4 => ?_
  refine s_st (s_callC [0] [true] (fun (_ : Unit) => [oc b_0 [slv (rI .i64) i4.2.L, iv .i64 i4.2.At]]) (fun (_ : Unit) => []) (fun (_ : Unit) => iv .i64 i4.1) (args := [.tmp 13, .tmp 15]) (caps := []) Tryd.call24 rfl (keep_Src_N_ok h_i4) ⟨rfl, rfl, trivial⟩ (fun _ => rfl) (fun _ => trivial) (fun _ => rfl) ⟨arg rfl, arg rfl, trivial⟩ (fun _ _ _ _ h => h)) rfl (fun _ => ?_)
  refine as1 rfl rfl ?_
  refine l_nil (n_then ?_)
  refine b_of (own_nil rT_api_Case) ?_
  refine ref_loopB (f := (law38_library_l1 t2)) (Γl := (fun (s115 : Int × T_deliberationkeep_Src × (List T_api_Case)) (x116 : (Value × List Nat)) => [(0, pv (ptr b_0 0)), (4, pv (ptr b1 0)), (5, pv (ptr b3 0)), (6, iv .i64 s115.1)])) (Ωl := (fun (s115 : Int × T_deliberationkeep_Src × (List T_api_Case)) (x116 : (Value × List Nat)) => [oc b_0 [slv (rI .i64) s115.2.1.L, iv .i64 s115.2.1.At], oc b1 [pv (.slice none 0 0), pv (.slice none 0 0), pv (.slice none 0 0)], oc b3 [slv rS t2.i0, slv rS t2.i1, pv x116.1], oa rT_api_Case x116.1 x116.2 s115.2.2])) (Γb := (fun (q170 : T_deliberationkeep_Src × (List T_api_Case)) (y171 : (Value × List Nat)) => [(0, pv (ptr b_0 0)), (4, pv (ptr b1 0)), (5, pv (ptr b3 0))])) (Ωb := (fun (q170 : T_deliberationkeep_Src × (List T_api_Case)) (y171 : (Value × List Nat)) => [oc b_0 [slv (rI .i64) q170.1.L, iv .i64 q170.1.At], oc b1 [pv (.slice none 0 0), pv (.slice none 0 0), pv (.slice none 0 0)], oc b3 [slv rS t2.i0, slv rS t2.i1, pv y171.1], oa rT_api_Case y171.1 y171.2 q170.2])) (i4.1, i4.2, []) ((.slice none 0 0), []) (weak [0, 1, 2, 3] ⟨rfl, rfl, rfl, rfl, trivial⟩ ⟨rfl, rfl, rfl, rfl, trivial⟩) (fun s115 x116 => ?_) (fun q170 y171 => ?_)
  · unfold law38_library_l1
    refine ref_seq (ref_seq (ref_region ?_))
    refine mv1 rfl rfl ?_
    refine s_rd (r_gtr rfl rfl) rfl ?_
    refine l_nil (n_then ?_)
    refine ref_cond rfl (fun hb117 => ?_) (fun hb117 => ?_)
    · refine ref_skip (n_then (ref_seq (ref_block (ref_seq ?_))))
      refine pull fun t119 h_t119 => ?_
      refine pull fun t120 h_t120 => ?_
      refine pull fun t122 h_t122 => ?_
      refine ref_drawI 2 [⟨[], [], [], [], [], fun us u => pv (ptr b3 2), fun us u => []⟩, ⟨[0], [], [], [2], [], fun us u => pv x116.1, fun us u => []⟩, ⟨[0, 1], [], [], [3], [], fun us u => iv .i64 (s115.2.2.length : Int), fun us u => []⟩, ⟨[0, 1, 2], [], [], [], [], fun us u => iv .i64 (iadd .i64 97 (s115.2.2.length : Int)), fun us u => []⟩, ⟨[0, 1, 2, 3], [], [], [], [], fun us u => iv .u8 (IntKind.wrap .u8 (iadd .i64 97 (s115.2.2.length : Int))), fun us u => []⟩, ⟨[0, 1, 2, 3, 4], [], [], [], [], fun us u => slv (rI .u8) [IntKind.wrap .u8 (iadd .i64 97 (s115.2.2.length : Int))], fun us u => []⟩, ⟨[0, 1, 2, 3, 4, 5], [], [], [], [], fun us u => sv (bstr [IntKind.wrap .u8 (iadd .i64 97 (s115.2.2.length : Int))]), fun us u => []⟩, ⟨[0, 1, 2, 3, 4, 5, 6], [], [], [], [], fun us u => sv t119, fun us u => []⟩, ⟨[], [], [], [], [], fun us u => pv (ptr b_0 0), fun us u => []⟩, ⟨[8], [], [0, 4], [0, 4], [0], fun us u => pv u.V.1, fun us u => [oc b_0 [slv (rI .i64) t120.2.L, iv .i64 t120.2.At], oa rS u.V.1 u.V.2 t120.1]⟩, ⟨[], [], [], [], [], fun us u => pv (ptr b_0 0), fun us u => []⟩, ⟨[8, 9, 10], [], [0], [0], [0], fun us u => iv .i64 t122.1, fun us u => [oc b_0 [slv (rI .i64) t122.2.L, iv .i64 t122.2.At]]⟩, ⟨[0, 1, 2, 3, 4, 5, 6, 7, 8, 9, 10, 11], [9], [], [4], [], fun us u => ag [sv t119, pv (us.getD 0 .none).V.1, iv .i64 t122.1, pv (.slice none 0 0)], fun us u => []⟩, ⟨[], [], [5], [5], [], fun us u => pv (ptr u.Nn 0), fun us u => [oc u.Nn [sv ByteArray.empty, pv (.slice none 0 0), iv .i64 0, pv (.slice none 0 0)]]⟩, ⟨[0, 1, 2, 3, 4, 5, 6, 7, 8, 9, 10, 11, 12, 13], [9, 13], [5], [4, 5], [5], fun us u => pv undef, fun us u => [oc (us.getD 1 .none).Nn [sv t119, pv (us.getD 0 .none).V.1, iv .i64 t122.1, pv (.slice none 0 0)]]⟩] (fun χ118 => [(0, pv (ptr b_0 0)), (4, pv (ptr b1 0)), (5, pv (ptr b3 0)), (6, iv .i64 s115.1), (7, pv (ptr (χ118 13).Nn 0))]) (fun χ118 => [oc b_0 [slv (rI .i64) t122.2.L, iv .i64 t122.2.At], oc b1 [pv (.slice none 0 0), pv (.slice none 0 0), pv (.slice none 0 0)], oc b3 [slv rS t2.i0, slv rS t2.i1, pv x116.1], oa rT_api_Case x116.1 x116.2 s115.2.2, oa rS (χ118 9).V.1 (χ118 9).V.2 t120.1, oc (χ118 13).Nn [sv t119, pv (χ118 9).V.1, iv .i64 t122.1, pv (.slice none 0 0)]]) rfl (by kernel_rfl) ⟨fun χ118 Ω _ => St.toR (r_faddr (fo := 2) Tryd.underlying29 rfl rfl Tryd.sizeOf27 rfl) (fun _ => rfl) (fun _ => rfl), (by intro _ h; cases h; rfl), ⟨fun χ118 Ω ⟨h2, _⟩ => St.toR (r_cload Tryd.isAgg27 rfl (j := 2) h2 rfl) (fun _ => rfl) (fun _ => rfl), (by intro _ h; cases h; rfl), ⟨fun χ118 Ω ⟨h3, _⟩ => St.toR (r_olen Tryd.underlying27 rfl (j := 3) h3) (fun _ => rfl) (fun _ => rfl), (by intro _ h; cases h; rfl), ⟨fun χ118 Ω _ => St.toR (r_add rfl rfl) (fun _ => rfl) (fun _ => rfl), (by intro _ h; cases h; rfl), ⟨fun χ118 Ω _ => St.toR (r_conv (k' := .u8) rfl rfl rfl) (fun _ => rfl) (fun _ => rfl), (by intro _ h; cases h; rfl), ⟨fun χ118 Ω _ => St.to XU.U XU.hU (s_bslice (xs := [.tmp 25]) (ds := [IntKind.wrap .u8 (iadd .i64 97 (s115.2.2.length : Int))]) Tryd.underlying66 el_5 rfl (Nat.le_of_ble_eq_true rfl) ⟨(part_at rfl iv_at), trivial⟩) (fun _ => rfl) (fun _ => rfl), (by intro _ h; cases h; rfl), ⟨fun χ118 Ω _ => St.toR (r_b2s Tryd.underlying66 Tryd.underlying9 Tryd.underlying5 rfl) (fun _ => rfl) (fun _ => rfl), (by intro _ h; cases h; rfl), ⟨fun χ118 Ω _ => St.toR (r_sadd h_t119 rfl rfl) (fun _ => rfl) (fun _ => rfl), (by intro _ h; cases h; rfl), ⟨fun χ118 Ω _ => St.toR (r_move rfl) (fun _ => rfl) (fun _ => rfl), (by intro _ h; cases h; rfl), ⟨fun χ118 Ω ⟨h0, h4, _⟩ => St.to XU.V XU.hV (St.placeL [4] (s_callC [0] [true] (fun (x121 : (Value × List Nat)) => [oc b_0 [slv (rI .i64) t120.2.L, iv .i64 t120.2.At]]) (fun (x121 : (Value × List Nat)) => [oa rS x121.1 x121.2 t120.1]) (fun (x121 : (Value × List Nat)) => pv x121.1) (args := [.tmp 29]) (caps := []) Tryd.call9 rfl (law38_facts_ok h_t120) ⟨h0, rfl, trivial⟩ (fun _ => rfl) (fun _ => trivial) (fun _ => rfl) ⟨arg rfl, trivial⟩ (fun _ _ _ _ h => h)) (fun _ => rfl) (fun _ => ⟨(room_setAll (ks := [0]) h4 rfl), rfl, trivial⟩)) (fun _ => rfl) (fun _ => rfl), (by intro _ h; cases h; rfl), ⟨fun χ118 Ω _ => St.toR (r_move rfl) (fun _ => rfl) (fun _ => rfl), (by intro _ h; cases h; rfl), ⟨fun χ118 Ω ⟨h0, _⟩ => St.to XU.U XU.hU (St.placeL [] (s_callC [0] [true] (fun (_ : Unit) => [oc b_0 [slv (rI .i64) t122.2.L, iv .i64 t122.2.At]]) (fun (_ : Unit) => []) (fun (_ : Unit) => iv .i64 t122.1) (args := [.tmp 31, .const (.int .i64 (1)), .const (.int .i64 (2))]) (caps := []) Tryd.call25 rfl (keep_Src_Range_ok h_t122) ⟨h0, rfl, trivial⟩ (fun _ => rfl) (fun _ => trivial) (fun _ => rfl) ⟨arg rfl, arg rfl, arg rfl, trivial⟩ (fun _ _ _ _ h => h)) (fun _ => rfl) (fun _ => trivial)) (fun _ => rfl) (fun _ => rfl), (by intro _ h; cases h; rfl), ⟨fun χ118 Ω ⟨h4, _⟩ => St.toR (r_build (ps := [(0, .tmp 28), (1, .tmp 30), (2, .tmp 32)]) (rs := [(0, [sv t119]), (1, [pv (χ118 9).V.1]), (2, [iv .i64 t122.1])]) st_39 zs_39 ⟨rfl, (part_at rfl sv_at), ⟨rfl, (part_own rfl (j := 4) h4), ⟨rfl, (part_at rfl iv_at), trivial⟩⟩⟩ rfl rfl) (fun _ => rfl) (fun _ => rfl), (by intro _ h; cases h; rfl), ⟨fun χ118 Ω ⟨h5, _⟩ => St.to XU.Nn XU.hN (St.placeL (os := fun _ => [_]) [5] (s_alloc zt_39) (fun _ => rfl) (fun _ => ⟨h5, rfl, trivial⟩)) (fun _ => rfl) (fun _ => rfl), (by intro _ h; cases h; rfl), ⟨fun χ118 Ω ⟨h4, h5, _⟩ => St.to XU.U XU.hU (s_cstore (out := [sv t119, pv (χ118 9).V.1, iv .i64 t122.1, pv (.slice none 0 0)]) Tryd.sizeOf39 rfl (j := 5) h5 (part_agO (ψs := [sv t119, pv (χ118 9).V.1, iv .i64 t122.1, pv (.slice none 0 0)]) rfl ⟨.inl sv_at, .inr ⟨_, _, _, _, _, 4, rfl, h4⟩, .inl iv_at, .inl (pv_at rfl), trivial⟩) rfl rfl rfl) (fun _ => rfl) (fun _ => rfl), (by intro _ h; cases h), trivial⟩⟩⟩⟩⟩⟩⟩⟩⟩⟩⟩⟩⟩⟩⟩ (fun _ => ⟨rfl, rfl, rfl, rfl, rfl, trivial⟩) (fun _ => rfl) (fun χ118 => ?_)
      refine n_then (ref_seq (ref_region ?_))
      refine s_rd (r_cloadS Tryd.isAgg29 Tryd.sizeOf29 rfl (j := 2) rfl rfl rfl) rfl ?_
      refine s_rd (r_faddr (fo := 1) Tryd.underlying39 rfl rfl Tryd.sizeOf25 rfl) rfl ?_
      refine s_rd (r_cload Tryd.isAgg25 rfl (j := 5) rfl rfl) rfl ?_
      refine s_rd (r_faddr (fo := 2) Tryd.underlying39 rfl rfl Tryd.sizeOf3 rfl) rfl ?_
      refine s_rd (r_cload Tryd.isAgg3 rfl (j := 5) rfl rfl) rfl ?_
      refine pull fun own124 h_own124 => ?_
      refine s_st (s_callBO (ψ := fun (x125 : (Value × List Nat)) => pv x125.1) (args := [.tmp 34, .tmp 36, .tmp 38]) Tryd.call26 rfl (ref38_Own_ok h_own124) (fun _ => ⟨oa_free free_S, trivial⟩) ⟨argAG (ψs := [slv rS t2.i0, slv rS t2.i1, slv rT_api_Case s115.2.2]) rfl ⟨.inl rfl, .inl rfl, .inr (.inl ⟨_, _, _, _, _, 3, rfl, rfl, rfl⟩), trivial⟩, argO rfl (j := 4) rfl, argB rfl, trivial⟩ (fun _ _ _ _ _ h => h)) rfl (fun x125 => ?_)
      refine as1 rfl rfl ?_
      refine l_nil (n_then (ref_seq (ref_seq (ref_region ?_))))
      refine mv1 rfl rfl ?_
      refine s_rd (r_olen Tryd.underlying25 rfl (j := 6) rfl) rfl ?_
      refine mv1 rfl rfl ?_
      refine l_nil (n_then ?_)
      refine b_of (own_nil rS) ?_
      refine ref_loopB (f := (law38_library_l2 own124)) (Γl := (fun (s150 : Int × T_deliberationkeep_Src × (List ByteArray)) (x151 : (Value × List Nat)) => [(0, pv (ptr b_0 0)), (4, pv (ptr b1 0)), (5, pv (ptr b3 0)), (6, iv .i64 s115.1), (7, pv (ptr (χ118 13).Nn 0)), (8, pv x125.1), (40, pv x125.1), (41, iv .i64 (own124.length : Int)), (42, iv .i64 s150.1)])) (Ωl := (fun (s150 : Int × T_deliberationkeep_Src × (List ByteArray)) (x151 : (Value × List Nat)) => [oc b_0 [slv (rI .i64) s150.2.1.L, iv .i64 s150.2.1.At], oc b1 [pv (.slice none 0 0), pv (.slice none 0 0), pv (.slice none 0 0)], oc b3 [slv rS t2.i0, slv rS t2.i1, pv x116.1], oa rT_api_Case x116.1 x116.2 s115.2.2, oc (χ118 13).Nn [sv t119, pv (χ118 9).V.1, iv .i64 t122.1, pv x151.1], oa rS (χ118 9).V.1 (χ118 9).V.2 t120.1, oa rS x151.1 x151.2 s150.2.2, oa rS x125.1 x125.2 own124])) (Γb := (fun (q158 : T_deliberationkeep_Src × (List ByteArray)) (y159 : (Value × List Nat)) => [(0, pv (ptr b_0 0)), (4, pv (ptr b1 0)), (5, pv (ptr b3 0)), (6, iv .i64 s115.1), (7, pv (ptr (χ118 13).Nn 0)), (8, pv x125.1)])) (Ωb := (fun (q158 : T_deliberationkeep_Src × (List ByteArray)) (y159 : (Value × List Nat)) => [oc b_0 [slv (rI .i64) q158.1.L, iv .i64 q158.1.At], oc b1 [pv (.slice none 0 0), pv (.slice none 0 0), pv (.slice none 0 0)], oc b3 [slv rS t2.i0, slv rS t2.i1, pv x116.1], oa rT_api_Case x116.1 x116.2 s115.2.2, oc (χ118 13).Nn [sv t119, pv (χ118 9).V.1, iv .i64 t122.1, pv y159.1], oa rS (χ118 9).V.1 (χ118 9).V.2 t120.1, oa rS y159.1 y159.2 q158.2, oa rS x125.1 x125.2 own124])) (0, t122.2, []) ((.slice none 0 0), []) (weak [0, 1, 2, 3, 5, 4, 7, 6] ⟨rfl, rfl, rfl, rfl, rfl, rfl, rfl, rfl, rfl, trivial⟩ ⟨rfl, rfl, rfl, rfl, rfl, rfl, rfl, rfl, trivial⟩) (fun s150 x151 => ?_) (fun q158 y159 => ?_)
      · unfold law38_library_l2
        refine ref_seq (ref_region ?_)
        refine s_rd (r_lss rfl rfl) rfl ?_
        refine l_nil (n_then (ref_seq ?_))
        refine ref_cond rfl (fun hb152 => ?_) (fun hb152 => ?_)
        · refine ref_skip (n_then (ref_seq (ref_block (ref_seq (ref_region ?_)))))
          refine pull fun x153 h_x153 => ?_
          refine s_rd (r_oindex h_x153 Tryd.underlying25 el_9 rfl (j := 7) rfl rfl) rfl ?_
          refine s_rd (r_oload h_x153 el_9 rfl (j := 7) rfl) rfl ?_
          refine as1 rfl rfl ?_
          refine l_nil (n_then (ref_seq (ref_region ?_)))
          refine mv1 rfl rfl ?_
          refine pull fun t154 h_t154 => ?_
          refine s_st (s_callC [0] [true] (fun (_ : Unit) => [oc b_0 [slv (rI .i64) t154.2.L, iv .i64 t154.2.At]]) (fun (_ : Unit) => []) (fun (_ : Unit) => iv .i64 t154.1) (args := [.tmp 46, .const (.int .i64 (2))]) (caps := []) Tryd.call24 rfl (keep_Src_N_ok h_t154) ⟨rfl, rfl, trivial⟩ (fun _ => rfl) (fun _ => trivial) (fun _ => rfl) ⟨arg rfl, arg rfl, trivial⟩ (fun _ _ _ _ h => h)) rfl (fun _ => ?_)
          refine s_rd (r_eql rfl rfl) rfl ?_
          refine l_nil (n_then ?_)
          refine ref_cond rfl (fun hb155 => ?_) (fun hb155 => ?_)
          · refine ref_region ?_
            refine s_rd (r_faddr (fo := 3) Tryd.underlying39 rfl rfl Tryd.sizeOf25 rfl) rfl ?_
            refine s_rd (r_cload Tryd.isAgg25 rfl (j := 4) rfl rfl) rfl ?_
            refine mv1 rfl rfl ?_
            refine s_st (s_bslice (xs := [.tmp 51]) (ds := [x153]) Tryd.underlying25 el_9 rfl (Nat.le_of_ble_eq_true rfl) ⟨(part_at rfl sv_at), trivial⟩) rfl (fun _ => ?_)
            refine pull fun t156 h_t156 => ?_
            refine s_st (s_append h_t156 Tryd.underlying25 el_9 rfl (j := 6) rfl rfl) rfl (fun o157 => ?_)
            refine s_rd (r_faddr (fo := 3) Tryd.underlying39 rfl rfl Tryd.sizeOf25 rfl) rfl ?_
            refine s_st0 (s_cstore (out := [sv t119, pv (χ118 9).V.1, iv .i64 t122.1, pv o157.1]) Tryd.sizeOf25 rfl (j := 4) rfl (part_own rfl (j := 6) rfl) rfl rfl rfl) (fun _ => ?_)
            refine l_nil ?_
            refine b_of (nrm [oc b_0 [slv (rI .i64) t154.2.L, iv .i64 t154.2.At], oc b1 [pv (.slice none 0 0), pv (.slice none 0 0), pv (.slice none 0 0)], oc b3 [slv rS t2.i0, slv rS t2.i1, pv x116.1], oa rT_api_Case x116.1 x116.2 s115.2.2, oc (χ118 13).Nn [sv t119, pv (χ118 9).V.1, iv .i64 t122.1, pv o157.1], oa rS (χ118 9).V.1 (χ118 9).V.2 t120.1, oa rS o157.1 o157.2 t156, oa rS x125.1 x125.2 own124] rfl) ?_
            refine n_block (n_then (ref_region ?_))
            refine s_rd (r_add rfl rfl) rfl ?_
            refine mv1 rfl rfl ?_
            refine l_nil ?_
            exact goB o157 (weak [0, 1, 2, 3, 4, 5, 6, 7] ⟨rfl, rfl, rfl, rfl, rfl, rfl, rfl, rfl, rfl, trivial⟩ ⟨rfl, rfl, rfl, rfl, rfl, rfl, rfl, rfl, trivial⟩)
          refine ref_skip (n_block (n_then (ref_region ?_)))
          refine s_rd (r_add rfl rfl) rfl ?_
          refine mv1 rfl rfl ?_
          refine l_nil ?_
          exact goB x151 (weak [0, 1, 2, 3, 4, 5, 6, 7] ⟨rfl, rfl, rfl, rfl, rfl, rfl, rfl, rfl, rfl, trivial⟩ ⟨rfl, rfl, rfl, rfl, rfl, rfl, rfl, rfl, trivial⟩)
        refine ref_exit (x_then ?_)
        exact brkB x151 (weak [0, 1, 2, 3, 4, 5, 6, 7] ⟨rfl, rfl, rfl, rfl, rfl, rfl, trivial⟩ ⟨rfl, rfl, rfl, rfl, rfl, rfl, rfl, rfl, trivial⟩)
      refine n_then (ref_seq (ref_seq (ref_region ?_)))
      refine mv1 rfl rfl ?_
      refine s_rd (r_olen Tryd.underlying25 rfl (j := 7) rfl) rfl ?_
      refine s_rd (r_eql rfl rfl) rfl ?_
      refine l_nil (n_then ?_)
      refine ref_cond rfl (fun hb160 => ?_) (fun hb160 => ?_)
      · refine ref_exit (x_then (x_eq (n_then (ref_region ?_))))
        refine mv1 rfl rfl ?_
        refine s_rd (r_sub rfl rfl) rfl ?_
        refine as1 rfl rfl ?_
        refine b_let (f := iv .i64) (t := 6) rfl fun i168 => ?_
        refine l_nil ?_
        exact goB x116 (weak [0, 1, 2, 3] ⟨rfl, rfl, rfl, rfl, trivial⟩ ⟨rfl, rfl, rfl, rfl, trivial⟩)
      refine ref_skip (n_then (ref_seq ?_))
      refine ref_join (fun (j163 : (List ByteArray)) (x164 : Unit) => [(0, pv (ptr b_0 0)), (4, pv (ptr b1 0)), (5, pv (ptr b3 0)), (6, iv .i64 s115.1), (7, pv (ptr (χ118 13).Nn 0))]) (fun (j163 : (List ByteArray)) (x164 : Unit) => [oc b_0 [slv (rI .i64) q158.1.L, iv .i64 q158.1.At], oc b1 [pv (.slice none 0 0), pv (.slice none 0 0), pv (.slice none 0 0)], oc b3 [slv rS t2.i0, slv rS t2.i1, pv x116.1], oa rT_api_Case x116.1 x116.2 s115.2.2, oc (χ118 13).Nn [sv t119, pv (χ118 9).V.1, iv .i64 t122.1, slv rS j163], oa rS (χ118 9).V.1 (χ118 9).V.2 t120.1]) (fun k165 hk165 => ?_) (fun j163 x164 => ?_)
      · refine ref_seq (ref_region ?_)
        refine s_rd (r_faddr (fo := 3) Tryd.underlying39 rfl rfl Tryd.sizeOf25 rfl) rfl ?_
        refine s_rd (r_cload Tryd.isAgg25 rfl (j := 4) rfl rfl) rfl ?_
        refine s_rd (r_olen Tryd.underlying25 rfl (j := 6) rfl) rfl ?_
        refine s_rd (r_eql rfl rfl) rfl ?_
        refine l_nil (n_then ?_)
        refine ref_cond rfl (fun hb161 => ?_) (fun hb161 => ?_)
        · refine ref_region ?_
          refine mv1 rfl rfl ?_
          refine b_of (frzL [8, 56, 63] (j := 7) rfl ⟨rfl, rfl, rfl, trivial⟩) ?_
          refine pull fun t162 h_t162 => ?_
          refine s_rd (r_slice h_t162 Tryd.underlying25 el_9 rfl .dft (.of rfl)) rfl ?_
          refine s_rd (r_faddr (fo := 3) Tryd.underlying39 rfl rfl Tryd.sizeOf25 rfl) rfl ?_
          refine s_st0 (s_cstore (out := [sv t119, pv (χ118 9).V.1, iv .i64 t122.1, slv rS t162]) Tryd.sizeOf25 rfl (j := 4) rfl (part_at rfl slv_at) rfl rfl rfl) (fun _ => ?_)
          refine l_nil ?_
          exact b_to (hk165 t162 ()) (weak [0, 1, 2, 3, 4, 5] ⟨rfl, rfl, rfl, rfl, rfl, trivial⟩ ⟨rfl, rfl, rfl, rfl, rfl, rfl, trivial⟩)
        refine ref_skip ?_
        refine b_of (frzGL [(60, slv rS q158.2)] [(4, (χ118 13).Nn, [sv t119, pv (χ118 9).V.1, iv .i64 t122.1, slv rS q158.2])] (j := 6) rfl ⟨⟨_, rfl, .inl ⟨rfl, rfl⟩⟩, trivial⟩ ⟨⟨_, rfl, ⟨.inl rfl, .inl rfl, .inl rfl, .inr ⟨rfl, rfl⟩, trivial⟩⟩, trivial⟩) ?_
        exact b_to (hk165 q158.2 ()) (weak [0, 1, 2, 3, 4, 5] ⟨rfl, rfl, rfl, rfl, rfl, trivial⟩ ⟨rfl, rfl, rfl, rfl, rfl, rfl, trivial⟩)
      refine n_then (ref_region ?_)
      refine s_rd (r_faddr (fo := 2) Tryd.underlying29 rfl rfl Tryd.sizeOf27 rfl) rfl ?_
      refine s_rd (r_cload Tryd.isAgg27 rfl (j := 2) rfl rfl) rfl ?_
      refine s_rd (r_cloadS Tryd.isAgg39 Tryd.sizeOf39 rfl (j := 4) rfl rfl rfl) rfl ?_
      refine b_of (frzGL [(68, ag [sv t119, slv rS t120.1, iv .i64 t122.1, slv rS j163])] [(4, (χ118 13).Nn, [sv t119, slv rS t120.1, iv .i64 t122.1, slv rS j163])] (j := 5) rfl ⟨⟨_, rfl, .inr ⟨_, _, rfl, rfl, ⟨.inl rfl, .inr ⟨rfl, rfl⟩, .inl rfl, .inl rfl, trivial⟩⟩⟩, trivial⟩ ⟨⟨_, rfl, ⟨.inl rfl, .inr ⟨rfl, rfl⟩, .inl rfl, .inl rfl, trivial⟩⟩, trivial⟩) ?_
      refine s_st (s_bslice (xs := [.tmp 68]) (ds := [(T_api_Case.mk t119 t120.1 t122.1 j163)]) Tryd.underlying27 el_39 rfl (Nat.le_of_ble_eq_true rfl) ⟨(part_agO (ψs := [sv t119, slv rS t120.1, iv .i64 t122.1, slv rS j163]) rfl ⟨.inl sv_at, .inl slv_at, .inl iv_at, .inl slv_at, trivial⟩), trivial⟩) rfl (fun _ => ?_)
      refine pull fun t166 h_t166 => ?_
      refine s_st (s_append h_t166 Tryd.underlying27 el_39 rfl (j := 3) rfl rfl) rfl (fun o167 => ?_)
      refine s_rd (r_faddr (fo := 2) Tryd.underlying29 rfl rfl Tryd.sizeOf27 rfl) rfl ?_
      refine s_st0 (s_cstore (out := [slv rS t2.i0, slv rS t2.i1, pv o167.1]) Tryd.sizeOf27 rfl (j := 2) rfl (part_own rfl (j := 3) rfl) rfl rfl rfl) (fun _ => ?_)
      refine l_nil (n_block (n_then (ref_region ?_)))
      refine mv1 rfl rfl ?_
      refine s_rd (r_sub rfl rfl) rfl ?_
      refine as1 rfl rfl ?_
      refine b_let (f := iv .i64) (t := 6) rfl fun i169 => ?_
      refine l_nil ?_
      exact goB o167 (weak [0, 1, 2, 3] ⟨rfl, rfl, rfl, rfl, trivial⟩ ⟨rfl, rfl, rfl, rfl, trivial⟩)
    refine ref_exit (x_then ?_)
    exact brkB x116 (weak [0, 1, 2, 3] ⟨rfl, rfl, rfl, trivial⟩ ⟨rfl, rfl, rfl, rfl, trivial⟩)
  refine n_then (ref_seq (ref_region ?_))
  refine s_rd (r_cloadS Tryd.isAgg29 Tryd.sizeOf29 rfl (j := 2) rfl rfl rfl) rfl ?_
  refine s_st0 (s_cstore (out := [slv rS t2.i0, slv rS t2.i1, pv y171.1]) Tryd.sizeOf29 rfl (j := 1) rfl (part_agO (ψs := [slv rS t2.i0, slv rS t2.i1, pv y171.1]) rfl ⟨.inl slv_at, .inl slv_at, .inr ⟨_, _, _, _, _, 3, rfl, rfl⟩, trivial⟩) rfl rfl rfl) (fun _ => ?_)
  refine l_nil (n_then (ref_ret ?_))
  refine b_of (frzGL [(72, ag [slv rS t2.i0, slv rS t2.i1, slv rT_api_Case q170.2])] [(1, b1, [slv rS t2.i0, slv rS t2.i1, slv rT_api_Case q170.2]), (2, b3, [slv rS t2.i0, slv rS t2.i1, slv rT_api_Case q170.2])] (j := 3) rfl ⟨⟨_, rfl, .inr ⟨_, _, rfl, rfl, ⟨.inl rfl, .inl rfl, .inr ⟨rfl, rfl⟩, trivial⟩⟩⟩, trivial⟩ ⟨⟨_, rfl, ⟨.inl rfl, .inl rfl, .inr ⟨rfl, rfl⟩, trivial⟩⟩, ⟨_, rfl, ⟨.inl rfl, .inl rfl, .inr ⟨rfl, rfl⟩, trivial⟩⟩, trivial⟩) ?_
  refine b_of (nrm [oc b_0 [slv (rI .i64) q170.1.L, iv .i64 q170.1.At], oc b1 [slv rS t2.i0, slv rS t2.i1, slv rT_api_Case q170.2], oc b3 [slv rS t2.i0, slv rS t2.i1, slv rT_api_Case q170.2], dead] rfl) ?_
  exact fin1 (.inl rfl) () [0] rfl ⟨rfl, trivial⟩ rfl (rv_cell rfl (j := 1) rfl Tryd.isAgg29 Tryd.sizeOf29 rfl rfl)

/-! slices.Clone[[]string,string] -/
def slices_Clone_string_string_m (d_0 : List ByteArray) : Option (List ByteArray) := appM 16 [] d_0

theorem slices_Clone_string_string_ok {d_0 r : List ByteArray} (hm : slices_Clone_string_string_m d_0 = some r) : FnOk prog 48 [slv rS d_0] [] (fun (x : Value × List Nat) => [pv x.1]) (fun (x : Value × List Nat) => [oa rS x.1 x.2 r]) := by
  have hm' : appM 16 [] d_0 = some r := hm
  have hr : r = d_0 := by have := (appM_some hm').2; simpa using this
  subst hr
  refine fn_ok (X := Value × List Nat) (fn := Tryd.f48) (N := 8) (m := some ()) (r := ()) (res := fun _ x => [pv x.1]) (Ω1 := fun _ x => [oa rS x.1 x.2 r]) Tryd.func48 rfl rfl rfl rfl (fun E hM => ?_)
  refine ref_seq ?_
  refine ref_region ?_
  refine s_rd (r_assign rfl) rfl ?_
  refine l_nil ?_
  refine n_then ?_
  refine ref_seq ?_
  refine ref_seq ?_
  refine ref_region ?_
  refine s_rd (r_move rfl) rfl ?_
  refine s_st (s_isnil Tryd.underlying25 rfl) rfl (fun b => ?_)
  refine l_nil ?_
  refine n_then ?_
  refine ref_condE (b := b.1) rfl (fun hb => ?_) (fun hb => ?_)
  · refine ref_seq ?_
    refine ref_region ?_
    refine s_rd (r_assign rfl) rfl ?_
    refine l_nil ?_
    refine n_then ?_
    refine ref_ret ?_
    refine r_then ?_
    have hd := b.2 hb
    subst hd
    refine b_of (own_nil rS) ?_
    exact fin1 (.inl rfl) (.slice none 0 0, []) [0] rfl ⟨rfl, trivial⟩ rfl (rv_tmp rfl)
  · refine ref_skip ?_
    refine n_then ?_
    refine ref_seq ?_
    refine ref_region ?_
    refine s_st (s_bsliceO (xs := []) (ds := []) Tryd.underlying25 el_9 rfl (Nat.le_of_ble_eq_true rfl) trivial) rfl (fun o => ?_)
    refine s_rd (r_move rfl) rfl ?_
    refine s_st (s_append hm' Tryd.underlying25 el_9 rfl (j := 0) rfl rfl) rfl (fun o2 => ?_)
    refine s_rd (r_assign rfl) rfl ?_
    refine l_nil ?_
    refine n_then ?_
    refine ref_ret ?_
    exact fin1 (.inl rfl) o2 [0] rfl ⟨rfl, trivial⟩ rfl (rv_tmp rfl)

/-! slices.Index[[]string,string] -/
noncomputable def slices_Index_string_string_l1 (s_0 : (List ByteArray)) (v_1 : ByteArray) (s6 : Int) : Option (Sum ((Sum (Int) (Unit))) (Int)) :=
  bif decide (s6 < (s_0.length : Int)) then
    Option.bind (idxM s_0 s6) fun t9 =>
    bif v_1.toList == t9.toList then
      some (Sum.inl (Sum.inl s6))
    else
      some (Sum.inr (iadd .i64 s6 1))
  else
    some (Sum.inl (Sum.inr ()))

noncomputable def slices_Index_string_string_m (s_0 : (List ByteArray)) (v_1 : ByteArray) : Option (Int) :=
  Option.bind (loopC (slices_Index_string_string_l1 s_0 v_1) 0) (sumK (fun a : Int => some a) fun q11 : Unit =>
    some (-1))

theorem slices_Index_string_string_ok {s_0 : (List ByteArray)} {v_1 : ByteArray} {r : Int} (hm : slices_Index_string_string_m s_0 v_1 = some r) :
    FnOk prog 62 [slv rS s_0, sv v_1] [] (fun (x : Unit) => [iv .i64 r]) (fun (x : Unit) => []) := by
  refine fn_ok (fn := Tryd.f62) (N := 19) (res := fun r x => [iv .i64 r]) (Ω1 := fun r x => []) Tryd.func62 rfl rfl hm rfl (fun E hM => ?_)
  unfold slices_Index_string_string_m
  refine ref_seq (ref_region ?_)
  refine as1 rfl rfl ?_
  refine l_nil (n_then (ref_seq (ref_seq (ref_region ?_))))
  refine mv1 rfl rfl ?_
  refine s_rd (r_len Tryd.underlying25 rfl) rfl ?_
  refine mv1 rfl rfl ?_
  refine l_nil (n_then ?_)
  refine ref_loopX (f := (slices_Index_string_string_l1 s_0 v_1)) (Γl := (fun (s6 : Int) (x7 : Unit) => [(0, slv rS s_0), (1, sv v_1), (7, iv .i64 (s_0.length : Int)), (8, iv .i64 s6)])) (Ωl := (fun (s6 : Int) (x7 : Unit) => [])) (Γb := (fun (q11 : Unit) (y12 : Unit) => [])) (Ωb := (fun (q11 : Unit) (y12 : Unit) => [])) (kr := (fun a : Int => some a)) 0 () (weak [] ⟨rfl, rfl, rfl, rfl, trivial⟩ trivial) (fun s6 x7 => ?_) (fun q11 y12 => ?_)
  · unfold slices_Index_string_string_l1
    refine ref_seq (ref_region ?_)
    refine s_rd (r_lss rfl rfl) rfl ?_
    refine l_nil (n_then (ref_seq ?_))
    refine ref_cond rfl (fun hb8 => ?_) (fun hb8 => ?_)
    · refine ref_skip (n_then (ref_seq (ref_block (ref_seq (ref_region ?_)))))
      refine mv1 rfl rfl ?_
      refine as1 rfl rfl ?_
      refine l_nil (n_then (ref_seq (ref_region ?_)))
      refine mv1 rfl rfl ?_
      refine mv1 rfl rfl ?_
      refine mv1 rfl rfl ?_
      refine pull fun t9 h_t9 => ?_
      refine s_rd (r_index h_t9 Tryd.underlying25 el_9 rfl rfl) rfl ?_
      refine s_rd (r_load el_9 rfl) rfl ?_
      refine s_rd (r_seql rfl rfl) rfl ?_
      refine l_nil (n_then ?_)
      refine ref_cond rfl (fun hb10 => ?_) (fun hb10 => ?_)
      · refine ref_seq (ref_region ?_)
        refine mv1 rfl rfl ?_
        refine as1 rfl rfl ?_
        refine l_nil (n_then (ref_ret (r_block (r_then ?_))))
        refine retX ?_
        refine r_block (r_then ?_)
        exact fin1 (.inl rfl) () [] rfl trivial rfl (rv_tmp rfl)
      refine ref_skip (n_block (n_then (ref_region ?_)))
      refine s_rd (r_add rfl rfl) rfl ?_
      refine mv1 rfl rfl ?_
      refine l_nil ?_
      exact goX () (weak [] ⟨rfl, rfl, rfl, rfl, trivial⟩ trivial)
    refine ref_exit (x_then ?_)
    exact brkX () (weak [] trivial trivial)
  refine n_then (ref_seq (ref_region ?_))
  refine as1 rfl rfl ?_
  refine l_nil (n_then (ref_ret ?_))
  exact fin1 (.inl rfl) () [] rfl trivial rfl (rv_tmp rfl)

/-! slices.Contains[[]string,string] -/
noncomputable def slices_Contains_string_string_m (s_0 : (List ByteArray)) (v_1 : ByteArray) : Option (Bool) :=
  Option.bind (slices_Index_string_string_m s_0 v_1) fun t1 =>
  letM (decide (t1 ≥ 0)) fun t2 =>
  some t2

theorem slices_Contains_string_string_ok {s_0 : (List ByteArray)} {v_1 : ByteArray} {r : Bool} (hm : slices_Contains_string_string_m s_0 v_1 = some r) :
    FnOk prog 35 [slv rS s_0, sv v_1] [] (fun (x : Unit) => [bv r]) (fun (x : Unit) => []) := by
  refine fn_ok (fn := Tryd.f35) (N := 9) (res := fun r x => [bv r]) (Ω1 := fun r x => []) Tryd.func35 rfl rfl hm rfl (fun E hM => ?_)
  unfold slices_Contains_string_string_m
  refine ref_seq (ref_region ?_)
  refine as1 rfl rfl ?_
  refine l_nil (n_then (ref_seq (ref_region ?_)))
  refine mv1 rfl rfl ?_
  refine mv1 rfl rfl ?_
  refine pull fun t1 h_t1 => ?_
  refine s_st (s_call (ψ := fun (_ : Unit) => iv .i64 t1) (args := [.tmp 5, .tmp 6]) Tryd.call62 rfl (slices_Index_string_string_ok h_t1) ⟨arg rfl, arg rfl, trivial⟩ (fun _ _ _ _ h => h)) rfl (fun _ => ?_)
  refine s_rd (r_geq rfl rfl) rfl ?_
  refine as1 rfl rfl ?_
  refine b_let (f := bv) (t := 4) rfl fun t2 => ?_
  refine l_nil (n_then (ref_ret ?_))
  exact fin1 (.inl rfl) () [] rfl trivial rfl (rv_tmp rfl)

/-! deliberation/precedent.own$1 -/
noncomputable def precedent_own_1_m (s_0 : ByteArray) (p_1 : T_api_Library) (p_2 : Int) : Option (Bool) :=
  Option.bind (idxM [p_1.Sides.i0, p_1.Sides.i1] (isub .i64 p_2 1)) fun t1 =>
  Option.bind (slices_Contains_string_string_m t1 s_0) fun t2 =>
  some (!t2)

theorem precedent_own_1_ok {s_0 : ByteArray} {p_1 : T_api_Library} {p_2 : Int} {b_1 : Nat} {b_2 : Nat} {r : Bool} (hm : precedent_own_1_m s_0 p_1 p_2 = some r) :
    FnOk prog 49 [sv s_0, pv (ptr b_1 0), pv (ptr b_2 0)] [oc b_1 [slv rS p_1.Sides.i0, slv rS p_1.Sides.i1, slv rT_api_Case p_1.Cases], oc b_2 [iv .i64 p_2]] (fun (x : Unit) => [bv r]) (fun (x : Unit) => [oc b_1 [slv rS p_1.Sides.i0, slv rS p_1.Sides.i1, slv rT_api_Case p_1.Cases], oc b_2 [iv .i64 p_2]]) := by
  refine fn_ok (fn := Tryd.f49) (N := 13) (res := fun r x => [bv r]) (Ω1 := fun r x => [oc b_1 [slv rS p_1.Sides.i0, slv rS p_1.Sides.i1, slv rT_api_Case p_1.Cases], oc b_2 [iv .i64 p_2]]) Tryd.func49 rfl rfl hm rfl (fun E hM => ?_)
  unfold precedent_own_1_m
  refine ref_seq (ref_region ?_)
  refine as1 rfl rfl ?_
  refine l_nil (n_then (ref_seq (ref_region ?_)))
  refine s_rd (r_cload Tryd.isAgg3 rfl (j := 1) rfl rfl) rfl ?_
  refine s_rd (r_sub rfl rfl) rfl ?_
  refine s_rd (r_faddr (fo := 0) Tryd.underlying29 rfl rfl Tryd.sizeOf26 rfl) rfl ?_
  refine pull fun t1 h_t1 => ?_
  refine s_rd (r_aaddrV h_t1 rfl Tryd.underlying26 Tryd.sizeOf25 rfl rfl) rfl ?_
  refine s_rd (r_acload (ρ := (rSl rS)) (off := 0) h_t1 Tryd.isAgg25 rfl (j := 0) rfl rfl rfl rfl) rfl ?_
  refine mv1 rfl rfl ?_
  refine pull fun t2 h_t2 => ?_
  refine s_st (s_call (ψ := fun (_ : Unit) => bv t2) (args := [.tmp 9, .tmp 10]) Tryd.call35 rfl (slices_Contains_string_string_ok h_t2) ⟨arg rfl, arg rfl, trivial⟩ (fun _ _ _ _ h => h)) rfl (fun _ => ?_)
  refine s_rd (r_not rfl) rfl ?_
  refine as1 rfl rfl ?_
  refine l_nil (n_then (ref_ret ?_))
  exact fin1 (.inl rfl) () [0, 1] rfl ⟨rfl, rfl, trivial⟩ rfl (rv_tmp rfl)

/-! slices.IndexFunc[[]string,string] -/
noncomputable def slices_IndexFunc_string_string_l1 (s_0 : (List ByteArray)) (e_1 : T_api_Library) (e_2 : Int) (s7 : Int) : Option (Sum ((Sum (Int) (Unit))) (Int)) :=
  bif decide (s7 < (s_0.length : Int)) then
    Option.bind (idxM s_0 s7) fun t10 =>
    Option.bind (precedent_own_1_m t10 e_1 e_2) fun t11 =>
    bif t11 then
      some (Sum.inl (Sum.inl s7))
    else
      some (Sum.inr (iadd .i64 s7 1))
  else
    some (Sum.inl (Sum.inr ()))

noncomputable def slices_IndexFunc_string_string_m (s_0 : (List ByteArray)) (e_1 : T_api_Library) (e_2 : Int) : Option (Int) :=
  Option.bind (loopC (slices_IndexFunc_string_string_l1 s_0 e_1 e_2) 0) (sumK (fun a : Int => some a) fun q13 : Unit =>
    some (-1))

theorem slices_IndexFunc_string_string_ok {s_0 : (List ByteArray)} {e_1 : T_api_Library} {e_2 : Int} {h_0 : Value × List Nat} {be_1 : Nat} {be_2 : Nat} {r : Int} (hm : slices_IndexFunc_string_string_m s_0 e_1 e_2 = some r) :
    FnOk prog 61 [pv h_0.1, pv (.func (.func 49) #[] #[(ptr be_1 0), (ptr be_2 0)])] [oa rS h_0.1 h_0.2 s_0, oc be_1 [slv rS e_1.Sides.i0, slv rS e_1.Sides.i1, slv rT_api_Case e_1.Cases], oc be_2 [iv .i64 e_2]] (fun (x : Unit) => [iv .i64 r]) (fun (x : Unit) => [oa rS h_0.1 h_0.2 s_0, oc be_1 [slv rS e_1.Sides.i0, slv rS e_1.Sides.i1, slv rT_api_Case e_1.Cases], oc be_2 [iv .i64 e_2]]) := by
  refine fn_ok (fn := Tryd.f61) (N := 19) (res := fun r x => [iv .i64 r]) (Ω1 := fun r x => [oa rS h_0.1 h_0.2 s_0, oc be_1 [slv rS e_1.Sides.i0, slv rS e_1.Sides.i1, slv rT_api_Case e_1.Cases], oc be_2 [iv .i64 e_2]]) Tryd.func61 rfl rfl hm rfl (fun E hM => ?_)
  unfold slices_IndexFunc_string_string_m
  refine ref_seq (ref_region ?_)
  refine as1 rfl rfl ?_
  refine l_nil (n_then (ref_seq (ref_seq (ref_region ?_))))
  refine mv1 rfl rfl ?_
  refine s_rd (r_olen Tryd.underlying25 rfl (j := 0) rfl) rfl ?_
  refine mv1 rfl rfl ?_
  refine l_nil (n_then ?_)
  refine ref_loopX (f := (slices_IndexFunc_string_string_l1 s_0 e_1 e_2)) (Γl := (fun (s7 : Int) (x8 : Unit) => [(0, pv h_0.1), (1, pv (.func (.func 49) #[] #[(ptr be_1 0), (ptr be_2 0)])), (7, iv .i64 (s_0.length : Int)), (8, iv .i64 s7)])) (Ωl := (fun (s7 : Int) (x8 : Unit) => [oa rS h_0.1 h_0.2 s_0, oc be_1 [slv rS e_1.Sides.i0, slv rS e_1.Sides.i1, slv rT_api_Case e_1.Cases], oc be_2 [iv .i64 e_2]])) (Γb := (fun (q13 : Unit) (y14 : Unit) => [(0, pv h_0.1), (1, pv (.func (.func 49) #[] #[(ptr be_1 0), (ptr be_2 0)]))])) (Ωb := (fun (q13 : Unit) (y14 : Unit) => [oa rS h_0.1 h_0.2 s_0, oc be_1 [slv rS e_1.Sides.i0, slv rS e_1.Sides.i1, slv rT_api_Case e_1.Cases], oc be_2 [iv .i64 e_2]])) (kr := (fun a : Int => some a)) 0 () (weak [0, 1, 2] ⟨rfl, rfl, rfl, rfl, trivial⟩ ⟨rfl, rfl, rfl, trivial⟩) (fun s7 x8 => ?_) (fun q13 y14 => ?_)
  · unfold slices_IndexFunc_string_string_l1
    refine ref_seq (ref_region ?_)
    refine s_rd (r_lss rfl rfl) rfl ?_
    refine l_nil (n_then (ref_seq ?_))
    refine ref_cond rfl (fun hb9 => ?_) (fun hb9 => ?_)
    · refine ref_skip (n_then (ref_seq (ref_block (ref_seq (ref_region ?_)))))
      refine mv1 rfl rfl ?_
      refine as1 rfl rfl ?_
      refine l_nil (n_then (ref_seq (ref_region ?_)))
      refine mv1 rfl rfl ?_
      refine mv1 rfl rfl ?_
      refine mv1 rfl rfl ?_
      refine pull fun t10 h_t10 => ?_
      refine s_rd (r_oindex h_t10 Tryd.underlying25 el_9 rfl (j := 0) rfl rfl) rfl ?_
      refine s_rd (r_oload h_t10 el_9 rfl (j := 0) rfl) rfl ?_
      refine pull fun t11 h_t11 => ?_
      refine s_st (s_callC [1, 2] [true, true] (fun (_ : Unit) => [oc be_1 [slv rS e_1.Sides.i0, slv rS e_1.Sides.i1, slv rT_api_Case e_1.Cases], oc be_2 [iv .i64 e_2]]) (fun (_ : Unit) => []) (fun (_ : Unit) => bv t11) (args := [.tmp 15]) (caps := [(ptr be_1 0), (ptr be_2 0)]) Tryd.call49 rfl (precedent_own_1_ok h_t11) ⟨rfl, rfl, ⟨rfl, rfl, trivial⟩⟩ (fun _ => rfl) (fun _ => trivial) (fun _ => rfl) ⟨arg rfl, arg rfl, arg rfl, trivial⟩ (fun _ _ _ _ h => h)) rfl (fun _ => ?_)
      refine l_nil (n_then ?_)
      refine ref_cond rfl (fun hb12 => ?_) (fun hb12 => ?_)
      · refine ref_seq (ref_region ?_)
        refine mv1 rfl rfl ?_
        refine as1 rfl rfl ?_
        refine l_nil (n_then (ref_ret (r_block (r_then ?_))))
        refine retX ?_
        refine r_block (r_then ?_)
        exact fin1 (.inl rfl) () [0, 1, 2] rfl ⟨rfl, rfl, rfl, trivial⟩ rfl (rv_tmp rfl)
      refine ref_skip (n_block (n_then (ref_region ?_)))
      refine s_rd (r_add rfl rfl) rfl ?_
      refine mv1 rfl rfl ?_
      refine l_nil ?_
      exact goX () (weak [0, 1, 2] ⟨rfl, rfl, rfl, rfl, trivial⟩ ⟨rfl, rfl, rfl, trivial⟩)
    refine ref_exit (x_then ?_)
    exact brkX () (weak [0, 1, 2] ⟨rfl, rfl, trivial⟩ ⟨rfl, rfl, rfl, trivial⟩)
  refine n_then (ref_seq (ref_region ?_))
  refine as1 rfl rfl ?_
  refine l_nil (n_then (ref_ret ?_))
  exact fin1 (.inl rfl) () [0, 1, 2] rfl ⟨rfl, rfl, rfl, trivial⟩ rfl (rv_tmp rfl)

/-! slices.DeleteFunc[[]string,string] -/
noncomputable def slices_DeleteFunc_string_string_l1 (e_1 : T_api_Library) (e_2 : Int) (s22 : Int × Int × (List ByteArray)) : Option (Sum ((List ByteArray) × Int) (Int × Int × (List ByteArray))) :=
  bif decide (s22.2.1 < (s22.2.2.length : Int)) then
    Option.bind (idxM s22.2.2 s22.2.1) fun v25 =>
    Option.bind (precedent_own_1_m v25 e_1 e_2) fun t26 =>
    bif !t26 then
      Option.bind (idxM s22.2.2 s22.1) fun t28 =>
      letM (iadd .i64 s22.1 1) fun i29 =>
      letM (iadd .i64 s22.2.1 1) fun j30 =>
      some (Sum.inr (i29, j30, s22.2.2.set (Int.toNat s22.1) v25))
    else
      letM (iadd .i64 s22.2.1 1) fun j31 =>
      some (Sum.inr (s22.1, j31, s22.2.2))
  else
    some (Sum.inl (s22.2.2, s22.1))

noncomputable def slices_DeleteFunc_string_string_m (s_0 : (List ByteArray)) (e_1 : T_api_Library) (e_2 : Int) : Option (List ByteArray) :=
  Option.bind (slices_IndexFunc_string_string_m s_0 e_1 e_2) fun i1 =>
  bif i1 == (-1) then
    some s_0
  else
    Option.bind (loopC (slices_DeleteFunc_string_string_l1 e_1 e_2) (i1, iadd .i64 i1 1, s_0)) fun q32 : (List ByteArray) × Int =>
    Option.bind (slM q32.1 q32.2 (q32.1.length : Int)) fun t34 =>
    Option.bind (slM (q32.1.take (Int.toNat q32.2) ++ List.replicate (Int.toNat (q32.1.length : Int) - Int.toNat q32.2) ByteArray.empty ++ q32.1.drop (Int.toNat (q32.1.length : Int))) 0 q32.2) fun t35 =>
    some t35

theorem slices_DeleteFunc_string_string_ok {s_0 : (List ByteArray)} {e_1 : T_api_Library} {e_2 : Int} {h_0 : Value × List Nat} {be_1 : Nat} {be_2 : Nat} {r : List ByteArray} (hm : slices_DeleteFunc_string_string_m s_0 e_1 e_2 = some r) :
    FnOk prog 33 [pv h_0.1, pv (.func (.func 49) #[] #[(ptr be_1 0), (ptr be_2 0)])] [oa rS h_0.1 h_0.2 s_0, oc be_1 [slv rS e_1.Sides.i0, slv rS e_1.Sides.i1, slv rT_api_Case e_1.Cases], oc be_2 [iv .i64 e_2]] (fun (x : (Value × List Nat)) => [pv x.1]) (fun (x : (Value × List Nat)) => [oc be_1 [slv rS e_1.Sides.i0, slv rS e_1.Sides.i1, slv rT_api_Case e_1.Cases], oc be_2 [iv .i64 e_2], oa rS x.1 x.2 r]) := by
  refine fn_ok (X := (Value × List Nat)) (fn := Tryd.f33) (N := 42) (res := fun r x => [pv x.1]) (Ω1 := fun r x => [oc be_1 [slv rS e_1.Sides.i0, slv rS e_1.Sides.i1, slv rT_api_Case e_1.Cases], oc be_2 [iv .i64 e_2], oa rS x.1 x.2 r]) Tryd.func33 rfl rfl hm rfl (fun E hM => ?_)
  unfold slices_DeleteFunc_string_string_m
  refine ref_seq (ref_region ?_)
  refine as1 rfl rfl ?_
  refine l_nil (n_then (ref_seq (ref_region ?_)))
  refine mv1 rfl rfl ?_
  refine mv1 rfl rfl ?_
  refine pull fun i1 h_i1 => ?_
  refine s_st (s_callC [0, 1, 2] [true, true, true] (fun (_ : Unit) => [oa rS h_0.1 h_0.2 s_0, oc be_1 [slv rS e_1.Sides.i0, slv rS e_1.Sides.i1, slv rT_api_Case e_1.Cases], oc be_2 [iv .i64 e_2]]) (fun (_ : Unit) => []) (fun (_ : Unit) => iv .i64 i1) (args := [.tmp 8, .tmp 9]) (caps := []) Tryd.call61 rfl (slices_IndexFunc_string_string_ok h_i1) ⟨rfl, rfl, ⟨rfl, rfl, ⟨rfl, rfl, trivial⟩⟩⟩ (fun _ => rfl) (fun _ => trivial) (fun _ => rfl) ⟨arg rfl, arg rfl, trivial⟩ (fun _ _ _ _ h => h)) rfl (fun _ => ?_)
  refine as1 rfl rfl ?_
  refine l_nil ?_
  refine b_of (nrm [oa rS h_0.1 h_0.2 s_0, oc be_1 [slv rS e_1.Sides.i0, slv rS e_1.Sides.i1, slv rT_api_Case e_1.Cases], oc be_2 [iv .i64 e_2]] rfl) ?_
  refine n_then (ref_seq (ref_seq (ref_region ?_)))
  refine mv1 rfl rfl ?_
  refine s_rd (r_eql rfl rfl) rfl ?_
  refine l_nil (n_then ?_)
  refine ref_cond rfl (fun hb2 => ?_) (fun hb2 => ?_)
  · refine ref_seq (ref_region ?_)
    refine mv1 rfl rfl ?_
    refine as1 rfl rfl ?_
    refine l_nil (n_then (ref_ret (r_then ?_)))
    exact fin1 (.inl rfl) h_0 [1, 2, 0] rfl ⟨rfl, rfl, rfl, trivial⟩ rfl (rv_tmp rfl)
  refine ref_skip (n_then (ref_seq (ref_seq (ref_region ?_))))
  refine mv1 rfl rfl ?_
  refine s_rd (r_add rfl rfl) rfl ?_
  refine as1 rfl rfl ?_
  refine l_nil (n_then ?_)
  refine ref_loopB (f := (slices_DeleteFunc_string_string_l1 e_1 e_2)) (Γl := (fun (s22 : Int × Int × (List ByteArray)) (x23 : Unit) => [(0, pv h_0.1), (1, pv (.func (.func 49) #[] #[(ptr be_1 0), (ptr be_2 0)])), (5, iv .i64 s22.1), (6, iv .i64 s22.2.1)])) (Ωl := (fun (s22 : Int × Int × (List ByteArray)) (x23 : Unit) => [oa rS h_0.1 h_0.2 s22.2.2, oc be_1 [slv rS e_1.Sides.i0, slv rS e_1.Sides.i1, slv rT_api_Case e_1.Cases], oc be_2 [iv .i64 e_2]])) (Γb := (fun (q32 : (List ByteArray) × Int) (y33 : Unit) => [(0, pv h_0.1), (1, pv (.func (.func 49) #[] #[(ptr be_1 0), (ptr be_2 0)])), (5, iv .i64 q32.2)])) (Ωb := (fun (q32 : (List ByteArray) × Int) (y33 : Unit) => [oa rS h_0.1 h_0.2 q32.1, oc be_1 [slv rS e_1.Sides.i0, slv rS e_1.Sides.i1, slv rT_api_Case e_1.Cases], oc be_2 [iv .i64 e_2]])) (i1, iadd .i64 i1 1, s_0) () (weak [0, 1, 2] ⟨rfl, rfl, rfl, rfl, trivial⟩ ⟨rfl, rfl, rfl, trivial⟩) (fun s22 x23 => ?_) (fun q32 y33 => ?_)
  · unfold slices_DeleteFunc_string_string_l1
    refine ref_seq (ref_seq (ref_region ?_))
    refine mv1 rfl rfl ?_
    refine mv1 rfl rfl ?_
    refine s_rd (r_olen Tryd.underlying25 rfl (j := 0) rfl) rfl ?_
    refine s_rd (r_lss rfl rfl) rfl ?_
    refine l_nil (n_then ?_)
    refine ref_cond rfl (fun hb24 => ?_) (fun hb24 => ?_)
    · refine ref_skip (n_then (ref_seq (ref_block (ref_seq (ref_region ?_)))))
      refine mv1 rfl rfl ?_
      refine mv1 rfl rfl ?_
      refine pull fun v25 h_v25 => ?_
      refine s_rd (r_oindex h_v25 Tryd.underlying25 el_9 rfl (j := 0) rfl rfl) rfl ?_
      refine s_rd (r_oload h_v25 el_9 rfl (j := 0) rfl) rfl ?_
      refine as1 rfl rfl ?_
      refine l_nil (n_then (ref_seq (ref_region ?_)))
      refine mv1 rfl rfl ?_
      refine mv1 rfl rfl ?_
      refine pull fun t26 h_t26 => ?_
      refine s_st (s_callC [1, 2] [true, true] (fun (_ : Unit) => [oc be_1 [slv rS e_1.Sides.i0, slv rS e_1.Sides.i1, slv rT_api_Case e_1.Cases], oc be_2 [iv .i64 e_2]]) (fun (_ : Unit) => []) (fun (_ : Unit) => bv t26) (args := [.tmp 27]) (caps := [(ptr be_1 0), (ptr be_2 0)]) Tryd.call49 rfl (precedent_own_1_ok h_t26) ⟨rfl, rfl, ⟨rfl, rfl, trivial⟩⟩ (fun _ => rfl) (fun _ => trivial) (fun _ => rfl) ⟨arg rfl, arg rfl, arg rfl, trivial⟩ (fun _ _ _ _ h => h)) rfl (fun _ => ?_)
      refine s_rd (r_not rfl) rfl ?_
      refine l_nil (n_then ?_)
      refine ref_cond rfl (fun hb27 => ?_) (fun hb27 => ?_)
      · refine ref_seq (ref_region ?_)
        refine mv1 rfl rfl ?_
        refine mv1 rfl rfl ?_
        refine mv1 rfl rfl ?_
        refine pull fun t28 h_t28 => ?_
        refine s_rd (r_oindex h_t28 Tryd.underlying25 el_9 rfl (j := 0) rfl rfl) rfl ?_
        refine s_st0 (s_ostore (u := v25) h_t28 el_9 rfl (j := 0) rfl (part_at rfl sv_at)) (fun _ => ?_)
        refine l_nil (n_then (ref_region ?_))
        refine mv1 rfl rfl ?_
        refine s_rd (r_add rfl rfl) rfl ?_
        refine as1 rfl rfl ?_
        refine b_let (f := iv .i64) (t := 5) rfl fun i29 => ?_
        refine l_nil (n_block (n_then (ref_region ?_)))
        refine mv1 rfl rfl ?_
        refine s_rd (r_add rfl rfl) rfl ?_
        refine as1 rfl rfl ?_
        refine b_let (f := iv .i64) (t := 6) rfl fun j30 => ?_
        refine l_nil ?_
        exact goB () (weak [0, 1, 2] ⟨rfl, rfl, rfl, rfl, trivial⟩ ⟨rfl, rfl, rfl, trivial⟩)
      refine ref_skip (n_block (n_then (ref_region ?_)))
      refine mv1 rfl rfl ?_
      refine s_rd (r_add rfl rfl) rfl ?_
      refine as1 rfl rfl ?_
      refine b_let (f := iv .i64) (t := 6) rfl fun j31 => ?_
      refine l_nil ?_
      exact goB () (weak [0, 1, 2] ⟨rfl, rfl, rfl, rfl, trivial⟩ ⟨rfl, rfl, rfl, trivial⟩)
    refine ref_exit (x_then ?_)
    exact brkB () (weak [0, 1, 2] ⟨rfl, rfl, rfl, trivial⟩ ⟨rfl, rfl, rfl, trivial⟩)
  refine n_then (ref_seq (ref_region ?_))
  refine mv1 rfl rfl ?_
  refine mv1 rfl rfl ?_
  refine pull fun t34 h_t34 => ?_
  refine s_rd (r_osub h_t34 Tryd.underlying25 el_9 rfl (j := 0) rfl (.of rfl) .dft) rfl ?_
  refine s_st0 (s_clear h_t34 Tryd.underlying25 el_9 ze_9 rfl (j := 0) rfl) (fun _ => ?_)
  refine l_nil (n_then (ref_seq (ref_region ?_)))
  refine mv1 rfl rfl ?_
  refine mv1 rfl rfl ?_
  refine pull fun t35 h_t35 => ?_
  refine s_st (s_oslice h_t35 Tryd.underlying25 el_9 rfl (j := 0) rfl .dft (.of rfl)) rfl (fun o36 => ?_)
  refine as1 rfl rfl ?_
  refine l_nil (n_then (ref_ret ?_))
  exact fin1 (.inl rfl) o36 [1, 2, 0] rfl ⟨rfl, rfl, rfl, trivial⟩ rfl (rv_tmp rfl)

/-! deliberation/precedent.own -/
noncomputable def precedent_own_m (l_0 : T_api_Library) (facts_1 : (List ByteArray)) (side_2 : Int) : Option (List ByteArray) :=
  Option.bind (slices_Clone_string_string_m facts_1) fun t3 =>
  Option.bind (slices_DeleteFunc_string_string_m t3 l_0 side_2) fun t5 =>
  some t5

theorem precedent_own_ok {l_0 : T_api_Library} {facts_1 : (List ByteArray)} {side_2 : Int} {r : List ByteArray} (hm : precedent_own_m l_0 facts_1 side_2 = some r) :
    FnOk prog 29 [ag [slv rS l_0.Sides.i0, slv rS l_0.Sides.i1, slv rT_api_Case l_0.Cases], slv rS facts_1, iv .i64 side_2] [] (fun (x : (Value × List Nat)) => [pv x.1]) (fun (x : (Value × List Nat)) => [oa rS x.1 x.2 r]) := by
  refine fn_ok (X := (Value × List Nat)) (fn := Tryd.f29) (N := 11) (res := fun r x => [pv x.1]) (Ω1 := fun r x => [oa rS x.1 x.2 r]) Tryd.func29 rfl rfl hm rfl (fun E hM => ?_)
  unfold precedent_own_m
  refine ref_seq (ref_region ?_)
  refine s_st (s_box (part_agO (ψs := [slv rS l_0.Sides.i0, slv rS l_0.Sides.i1, slv rT_api_Case l_0.Cases]) rfl ⟨.inl slv_at, .inl slv_at, .inl slv_at, trivial⟩)) rfl (fun b1 => ?_)
  refine s_st (s_box (part_at rfl iv_at)) rfl (fun b2 => ?_)
  refine as1 rfl rfl ?_
  refine l_nil (n_then (ref_seq (ref_region ?_)))
  refine mv1 rfl rfl ?_
  refine pull fun t3 h_t3 => ?_
  refine s_st (s_call (ψ := fun (x4 : (Value × List Nat)) => pv x4.1) (args := [.tmp 7]) Tryd.call48 rfl (slices_Clone_string_string_ok h_t3) ⟨arg rfl, trivial⟩ (fun _ _ _ _ h => h)) rfl (fun x4 => ?_)
  refine s_rd (r_mkfn (xs := [.tmp 3, .tmp 5]) (vs := [(ptr b1 0), (ptr b2 0)]) ⟨rfl, rfl, trivial⟩) rfl ?_
  refine pull fun t5 h_t5 => ?_
  refine s_st (s_callC [2, 0, 1] [false, true, true] (fun (x6 : (Value × List Nat)) => [dead, oc b1 [slv rS l_0.Sides.i0, slv rS l_0.Sides.i1, slv rT_api_Case l_0.Cases], oc b2 [iv .i64 side_2]]) (fun (x6 : (Value × List Nat)) => [oa rS x6.1 x6.2 t5]) (fun (x6 : (Value × List Nat)) => pv x6.1) (args := [.tmp 8, .tmp 9]) (caps := []) Tryd.call33 rfl (slices_DeleteFunc_string_string_ok h_t5) ⟨rfl, rfl, ⟨rfl, rfl, ⟨rfl, rfl, trivial⟩⟩⟩ (fun _ => rfl) (fun _ => ⟨rfl, trivial⟩) (fun _ => rfl) ⟨arg rfl, arg rfl, trivial⟩ (fun _ _ _ _ h => h)) rfl (fun x6 => ?_)
  refine as1 rfl rfl ?_
  refine l_nil ?_
  refine b_of (nrm [oc b1 [slv rS l_0.Sides.i0, slv rS l_0.Sides.i1, slv rT_api_Case l_0.Cases], oc b2 [iv .i64 side_2], dead, oa rS x6.1 x6.2 t5] rfl) ?_
  refine n_then (ref_ret ?_)
  exact fin1 (.inl rfl) x6 [3] rfl ⟨rfl, trivial⟩ rfl (rv_tmp rfl)

/-! deliberation/literal.ValidName -/
noncomputable def literal_ValidName_l1 (s_0 : ByteArray) (s13 : Int) : Option (Sum ((Sum (Bool) (Unit))) (Int)) :=
  bif decide (s13 < (s_0.size : Int)) then
    Option.bind (sidxM s_0 s13) fun c16 =>
    joinM (fun j18 : Bool =>
        bif j18 then
          some (Sum.inr (iadd .i64 s13 1))
        else
          bif decide (s13 > 0) then
            bif decide (c16 ≥ 48) then
              bif decide (c16 ≤ 57) then
                some (Sum.inr (iadd .i64 s13 1))
              else
                bif c16 == 95 then
                  some (Sum.inr (iadd .i64 s13 1))
                else
                  some (Sum.inl (Sum.inl false))
            else
              bif c16 == 95 then
                some (Sum.inr (iadd .i64 s13 1))
              else
                some (Sum.inl (Sum.inl false))
          else
            some (Sum.inl (Sum.inl false))) fun k20 =>
    bif decide (c16 ≥ 97) then
      letM (decide (c16 ≤ 122)) fun t17 =>
      k20 t17
    else
      k20 false
  else
    some (Sum.inl (Sum.inr ()))

noncomputable def literal_ValidName_m (s_0 : ByteArray) : Option (Bool) :=
  bif (s_0.size : Int) == 0 then
    some false
  else
    bif decide ((s_0.size : Int) > 12) then
      some false
    else
      Option.bind (loopC (literal_ValidName_l1 s_0) 0) (sumK (fun a : Bool => some a) fun q24 : Unit =>
        some true)

theorem literal_ValidName_ok {s_0 : ByteArray} {r : Bool} (hm : literal_ValidName_m s_0 = some r) :
    FnOk prog 53 [sv s_0] [] (fun (x : Unit) => [bv r]) (fun (x : Unit) => []) := by
  refine fn_ok (fn := Tryd.f53) (N := 44) (res := fun r x => [bv r]) (Ω1 := fun r x => []) Tryd.func53 rfl rfl hm rfl (fun E hM => ?_)
  unfold literal_ValidName_m
  refine ref_seq (ref_region ?_)
  refine as1 rfl rfl ?_
  refine l_nil (n_then (ref_seq (ref_seq (ref_region ?_))))
  refine mv1 rfl rfl ?_
  refine s_rd (r_slen Tryd.underlying9 rfl) rfl ?_
  refine s_rd (r_eql rfl rfl) rfl ?_
  refine mv1 rfl rfl ?_
  refine b_split (t := 8) rfl (fun _ => ?_) (fun _ => ?_)
  · refine s_off rfl rfl rfl rfl rfl ?_
    refine s_off rfl rfl rfl rfl rfl ?_
    refine s_off rfl rfl rfl rfl rfl ?_
    refine s_rd (r_pickT rfl rfl) rfl ?_
    refine l_nil (n_then ?_)
    refine ref_condT rfl rfl ?_
    refine ref_seq (ref_region ?_)
    refine as1 rfl rfl ?_
    refine l_nil (n_then (ref_ret (r_then ?_)))
    exact fin1 (.inl rfl) () [] rfl trivial rfl (rv_tmp rfl)
  refine s_on rfl rfl rfl ?_
  refine mv1 rfl rfl ?_
  refine s_on rfl rfl rfl ?_
  refine s_rd (r_slen Tryd.underlying9 rfl) rfl ?_
  refine s_on rfl rfl rfl ?_
  refine s_rd (r_gtr rfl rfl) rfl ?_
  refine s_rd (r_pickF rfl rfl) rfl ?_
  refine l_nil (n_then ?_)
  refine ref_cond rfl (fun hb1 => ?_) (fun hb1 => ?_)
  · refine ref_seq (ref_region ?_)
    refine as1 rfl rfl ?_
    refine l_nil (n_then (ref_ret (r_then ?_)))
    exact fin1 (.inl rfl) () [] rfl trivial rfl (rv_tmp rfl)
  refine ref_skip (n_then (ref_seq (ref_seq (ref_region ?_))))
  refine mv1 rfl rfl ?_
  refine s_rd (r_slen Tryd.underlying9 rfl) rfl ?_
  refine mv1 rfl rfl ?_
  refine l_nil (n_then ?_)
  refine ref_loopX (f := (literal_ValidName_l1 s_0)) (Γl := (fun (s13 : Int) (x14 : Unit) => [(0, sv s_0), (14, iv .i64 (s_0.size : Int)), (15, iv .i64 s13)])) (Ωl := (fun (s13 : Int) (x14 : Unit) => [])) (Γb := (fun (q24 : Unit) (y25 : Unit) => [])) (Ωb := (fun (q24 : Unit) (y25 : Unit) => [])) (kr := (fun a : Bool => some a)) 0 () (weak [] ⟨rfl, rfl, rfl, trivial⟩ trivial) (fun s13 x14 => ?_) (fun q24 y25 => ?_)
  · unfold literal_ValidName_l1
    refine ref_seq (ref_region ?_)
    refine s_rd (r_lss rfl rfl) rfl ?_
    refine l_nil (n_then (ref_seq ?_))
    refine ref_cond rfl (fun hb15 => ?_) (fun hb15 => ?_)
    · refine ref_skip (n_then (ref_seq (ref_block (ref_seq (ref_region ?_)))))
      refine mv1 rfl rfl ?_
      refine as1 rfl rfl ?_
      refine l_nil (n_then (ref_seq (ref_region ?_)))
      refine mv1 rfl rfl ?_
      refine mv1 rfl rfl ?_
      refine pull fun c16 h_c16 => ?_
      refine s_rd (r_sidx h_c16 Tryd.underlying9 rfl rfl) rfl ?_
      refine as1 rfl rfl ?_
      refine l_nil (n_then (ref_block (ref_seq ?_)))
      refine ref_join (fun (j18 : Bool) (x19 : Unit) => [(0, sv s_0), (3, iv .i64 s13), (4, iv .u8 c16), (14, iv .i64 (s_0.size : Int)), (15, iv .i64 s13), (21, bv j18)]) (fun (j18 : Bool) (x19 : Unit) => []) (fun k20 hk20 => ?_) (fun j18 x19 => ?_)
      · refine ref_region ?_
        refine mv1 rfl rfl ?_
        refine s_rd (r_geq rfl rfl) rfl ?_
        refine mv1 rfl rfl ?_
        refine b_split (t := 24) rfl (fun _ => ?_) (fun _ => ?_)
        · refine s_on rfl rfl rfl ?_
          refine mv1 rfl rfl ?_
          refine s_on rfl rfl rfl ?_
          refine s_rd (r_leq rfl rfl) rfl ?_
          refine s_rd (r_pickT rfl rfl) rfl ?_
          refine as1 rfl rfl ?_
          refine b_let (f := bv) (t := 21) rfl fun t17 => ?_
          refine l_nil ?_
          exact b_to (hk20 t17 ()) (weak [] ⟨rfl, rfl, rfl, rfl, rfl, rfl, trivial⟩ trivial)
        refine s_off rfl rfl rfl rfl rfl ?_
        refine s_off rfl rfl rfl rfl rfl ?_
        refine s_rd (r_pickF rfl rfl) rfl ?_
        refine as1 rfl rfl ?_
        refine l_nil ?_
        exact b_to (hk20 false ()) (weak [] ⟨rfl, rfl, rfl, rfl, rfl, rfl, trivial⟩ trivial)
      refine n_then ?_
      refine ref_cond rfl (fun hb21 => ?_) (fun hb21 => ?_)
      · refine ref_skip (n_block (n_block (n_then (ref_region ?_))))
        refine s_rd (r_add rfl rfl) rfl ?_
        refine mv1 rfl rfl ?_
        refine l_nil ?_
        exact goX () (weak [] ⟨rfl, rfl, rfl, trivial⟩ trivial)
      refine ref_seq (ref_region ?_)
      refine mv1 rfl rfl ?_
      refine s_rd (r_gtr rfl rfl) rfl ?_
      refine mv1 rfl rfl ?_
      refine b_split (t := 31) rfl (fun _ => ?_) (fun _ => ?_)
      · refine s_on rfl rfl rfl ?_
        refine mv1 rfl rfl ?_
        refine s_on rfl rfl rfl ?_
        refine s_rd (r_geq rfl rfl) rfl ?_
        refine s_on rfl rfl rfl ?_
        refine mv1 rfl rfl ?_
        refine b_split (t := 34) rfl (fun _ => ?_) (fun _ => ?_)
        · refine s_on rfl rfl rfl ?_
          refine mv1 rfl rfl ?_
          refine s_on rfl rfl rfl ?_
          refine s_rd (r_leq rfl rfl) rfl ?_
          refine s_on rfl rfl rfl ?_
          refine s_rd (r_pickT rfl rfl) rfl ?_
          refine s_on rfl rfl rfl ?_
          refine mv1 rfl rfl ?_
          refine b_split (t := 38) rfl (fun _ => ?_) (fun _ => ?_)
          · refine s_off rfl rfl rfl rfl rfl ?_
            refine s_off rfl rfl rfl rfl rfl ?_
            refine s_on rfl rfl rfl ?_
            refine s_rd (r_pickT rfl rfl) rfl ?_
            refine s_rd (r_pickT rfl rfl) rfl ?_
            refine as1 rfl rfl ?_
            refine l_nil (n_then ?_)
            refine ref_condT rfl rfl ?_
            refine ref_skip (n_block (n_block (n_then (ref_region ?_))))
            refine s_rd (r_add rfl rfl) rfl ?_
            refine mv1 rfl rfl ?_
            refine l_nil ?_
            exact goX () (weak [] ⟨rfl, rfl, rfl, trivial⟩ trivial)
          refine s_on rfl rfl rfl ?_
          refine mv1 rfl rfl ?_
          refine s_on rfl rfl rfl ?_
          refine s_rd (r_eql rfl rfl) rfl ?_
          refine s_on rfl rfl rfl ?_
          refine s_rd (r_pickF rfl rfl) rfl ?_
          refine s_rd (r_pickT rfl rfl) rfl ?_
          refine as1 rfl rfl ?_
          refine l_nil (n_then ?_)
          refine ref_cond rfl (fun hb22 => ?_) (fun hb22 => ?_)
          · refine ref_skip (n_block (n_block (n_then (ref_region ?_))))
            refine s_rd (r_add rfl rfl) rfl ?_
            refine mv1 rfl rfl ?_
            refine l_nil ?_
            exact goX () (weak [] ⟨rfl, rfl, rfl, trivial⟩ trivial)
          refine ref_seq (ref_region ?_)
          refine as1 rfl rfl ?_
          refine l_nil (n_then (ref_ret (r_block (r_block (r_then ?_)))))
          refine retX ?_
          refine r_block (r_then ?_)
          exact fin1 (.inl rfl) () [] rfl trivial rfl (rv_tmp rfl)
        refine s_off rfl rfl rfl rfl rfl ?_
        refine s_off rfl rfl rfl rfl rfl ?_
        refine s_on rfl rfl rfl ?_
        refine s_rd (r_pickF rfl rfl) rfl ?_
        refine s_on rfl rfl rfl ?_
        refine mv1 rfl rfl ?_
        refine s_on rfl rfl rfl ?_
        refine mv1 rfl rfl ?_
        refine s_on rfl rfl rfl ?_
        refine s_rd (r_eql rfl rfl) rfl ?_
        refine s_on rfl rfl rfl ?_
        refine s_rd (r_pickF rfl rfl) rfl ?_
        refine s_rd (r_pickT rfl rfl) rfl ?_
        refine as1 rfl rfl ?_
        refine l_nil (n_then ?_)
        refine ref_cond rfl (fun hb23 => ?_) (fun hb23 => ?_)
        · refine ref_skip (n_block (n_block (n_then (ref_region ?_))))
          refine s_rd (r_add rfl rfl) rfl ?_
          refine mv1 rfl rfl ?_
          refine l_nil ?_
          exact goX () (weak [] ⟨rfl, rfl, rfl, trivial⟩ trivial)
        refine ref_seq (ref_region ?_)
        refine as1 rfl rfl ?_
        refine l_nil (n_then (ref_ret (r_block (r_block (r_then ?_)))))
        refine retX ?_
        refine r_block (r_then ?_)
        exact fin1 (.inl rfl) () [] rfl trivial rfl (rv_tmp rfl)
      refine s_off rfl rfl rfl rfl rfl ?_
      refine s_off rfl rfl rfl rfl rfl ?_
      refine s_off rfl rfl rfl rfl rfl ?_
      refine s_offU rfl rfl rfl ?_
      refine s_offU rfl rfl rfl ?_
      refine s_off rfl rfl rfl rfl rfl ?_
      refine s_off rfl rfl rfl rfl rfl ?_
      refine s_offU rfl rfl rfl ?_
      refine s_offU rfl rfl rfl ?_
      refine s_off rfl rfl rfl rfl rfl ?_
      refine s_rd (r_pickF rfl rfl) rfl ?_
      refine as1 rfl rfl ?_
      refine l_nil (n_then ?_)
      refine ref_condF rfl rfl ?_
      refine ref_seq (ref_region ?_)
      refine as1 rfl rfl ?_
      refine l_nil (n_then (ref_ret (r_block (r_block (r_then ?_)))))
      refine retX ?_
      refine r_block (r_then ?_)
      exact fin1 (.inl rfl) () [] rfl trivial rfl (rv_tmp rfl)
    refine ref_exit (x_then ?_)
    exact brkX () (weak [] trivial trivial)
  refine n_then (ref_seq (ref_region ?_))
  refine as1 rfl rfl ?_
  refine l_nil (n_then (ref_ret ?_))
  exact fin1 (.inl rfl) () [] rfl trivial rfl (rv_tmp rfl)

/-! deliberation/precedent.named$1 -/
noncomputable def precedent_named_1_m (s_0 : ByteArray) : Option (Bool) :=
  Option.bind (literal_ValidName_m s_0) fun t1 =>
  some (!t1)

theorem precedent_named_1_ok {s_0 : ByteArray} {r : Bool} (hm : precedent_named_1_m s_0 = some r) :
    FnOk prog 68 [sv s_0] [] (fun (x : Unit) => [bv r]) (fun (x : Unit) => []) := by
  refine fn_ok (fn := Tryd.f68) (N := 6) (res := fun r x => [bv r]) (Ω1 := fun r x => []) Tryd.func68 rfl rfl hm rfl (fun E hM => ?_)
  unfold precedent_named_1_m
  refine ref_seq (ref_region ?_)
  refine as1 rfl rfl ?_
  refine l_nil (n_then (ref_seq (ref_region ?_)))
  refine mv1 rfl rfl ?_
  refine pull fun t1 h_t1 => ?_
  refine s_st (s_call (ψ := fun (_ : Unit) => bv t1) (args := [.tmp 3]) Tryd.call53 rfl (literal_ValidName_ok h_t1) ⟨arg rfl, trivial⟩ (fun _ _ _ _ h => h)) rfl (fun _ => ?_)
  refine s_rd (r_not rfl) rfl ?_
  refine as1 rfl rfl ?_
  refine l_nil (n_then (ref_ret ?_))
  exact fin1 (.inl rfl) () [] rfl trivial rfl (rv_tmp rfl)

/-! slices.IndexFunc[[]string,string] -/
noncomputable def slices_IndexFunc_string_string_1_l1 (s_0 : (List ByteArray)) (s7 : Int) : Option (Sum ((Sum (Int) (Unit))) (Int)) :=
  bif decide (s7 < (s_0.length : Int)) then
    Option.bind (idxM s_0 s7) fun t10 =>
    Option.bind (precedent_named_1_m t10) fun t11 =>
    bif t11 then
      some (Sum.inl (Sum.inl s7))
    else
      some (Sum.inr (iadd .i64 s7 1))
  else
    some (Sum.inl (Sum.inr ()))

noncomputable def slices_IndexFunc_string_string_1_m (s_0 : (List ByteArray)) : Option (Int) :=
  Option.bind (loopC (slices_IndexFunc_string_string_1_l1 s_0) 0) (sumK (fun a : Int => some a) fun q13 : Unit =>
    some (-1))

theorem slices_IndexFunc_string_string_1_ok {s_0 : (List ByteArray)} {r : Int} (hm : slices_IndexFunc_string_string_1_m s_0 = some r) :
    FnOk prog 61 [slv rS s_0, pv (.func (.func 68) #[] #[])] [] (fun (x : Unit) => [iv .i64 r]) (fun (x : Unit) => []) := by
  refine fn_ok (fn := Tryd.f61) (N := 19) (res := fun r x => [iv .i64 r]) (Ω1 := fun r x => []) Tryd.func61 rfl rfl hm rfl (fun E hM => ?_)
  unfold slices_IndexFunc_string_string_1_m
  refine ref_seq (ref_region ?_)
  refine as1 rfl rfl ?_
  refine l_nil (n_then (ref_seq (ref_seq (ref_region ?_))))
  refine mv1 rfl rfl ?_
  refine s_rd (r_len Tryd.underlying25 rfl) rfl ?_
  refine mv1 rfl rfl ?_
  refine l_nil (n_then ?_)
  refine ref_loopX (f := (slices_IndexFunc_string_string_1_l1 s_0)) (Γl := (fun (s7 : Int) (x8 : Unit) => [(0, slv rS s_0), (1, pv (.func (.func 68) #[] #[])), (7, iv .i64 (s_0.length : Int)), (8, iv .i64 s7)])) (Ωl := (fun (s7 : Int) (x8 : Unit) => [])) (Γb := (fun (q13 : Unit) (y14 : Unit) => [(1, pv (.func (.func 68) #[] #[]))])) (Ωb := (fun (q13 : Unit) (y14 : Unit) => [])) (kr := (fun a : Int => some a)) 0 () (weak [] ⟨rfl, rfl, rfl, rfl, trivial⟩ trivial) (fun s7 x8 => ?_) (fun q13 y14 => ?_)
  · unfold slices_IndexFunc_string_string_1_l1
    refine ref_seq (ref_region ?_)
    refine s_rd (r_lss rfl rfl) rfl ?_
    refine l_nil (n_then (ref_seq ?_))
    refine ref_cond rfl (fun hb9 => ?_) (fun hb9 => ?_)
    · refine ref_skip (n_then (ref_seq (ref_block (ref_seq (ref_region ?_)))))
      refine mv1 rfl rfl ?_
      refine as1 rfl rfl ?_
      refine l_nil (n_then (ref_seq (ref_region ?_)))
      refine mv1 rfl rfl ?_
      refine mv1 rfl rfl ?_
      refine mv1 rfl rfl ?_
      refine pull fun t10 h_t10 => ?_
      refine s_rd (r_index h_t10 Tryd.underlying25 el_9 rfl rfl) rfl ?_
      refine s_rd (r_load el_9 rfl) rfl ?_
      refine pull fun t11 h_t11 => ?_
      refine s_st (s_call (ψ := fun (_ : Unit) => bv t11) (args := [.tmp 15]) Tryd.call68 rfl (precedent_named_1_ok h_t11) ⟨arg rfl, trivial⟩ (fun _ _ _ _ h => h)) rfl (fun _ => ?_)
      refine l_nil (n_then ?_)
      refine ref_cond rfl (fun hb12 => ?_) (fun hb12 => ?_)
      · refine ref_seq (ref_region ?_)
        refine mv1 rfl rfl ?_
        refine as1 rfl rfl ?_
        refine l_nil (n_then (ref_ret (r_block (r_then ?_))))
        refine retX ?_
        refine r_block (r_then ?_)
        exact fin1 (.inl rfl) () [] rfl trivial rfl (rv_tmp rfl)
      refine ref_skip (n_block (n_then (ref_region ?_)))
      refine s_rd (r_add rfl rfl) rfl ?_
      refine mv1 rfl rfl ?_
      refine l_nil ?_
      exact goX () (weak [] ⟨rfl, rfl, rfl, rfl, trivial⟩ trivial)
    refine ref_exit (x_then ?_)
    exact brkX () (weak [] ⟨rfl, trivial⟩ trivial)
  refine n_then (ref_seq (ref_region ?_))
  refine as1 rfl rfl ?_
  refine l_nil (n_then (ref_ret ?_))
  exact fin1 (.inl rfl) () [] rfl trivial rfl (rv_tmp rfl)

/-! slices.ContainsFunc[[]string,string] -/
noncomputable def slices_ContainsFunc_string_string_m (s_0 : (List ByteArray)) : Option (Bool) :=
  Option.bind (slices_IndexFunc_string_string_1_m s_0) fun t1 =>
  letM (decide (t1 ≥ 0)) fun t2 =>
  some t2

theorem slices_ContainsFunc_string_string_ok {s_0 : (List ByteArray)} {r : Bool} (hm : slices_ContainsFunc_string_string_m s_0 = some r) :
    FnOk prog 56 [slv rS s_0, pv (.func (.func 68) #[] #[])] [] (fun (x : Unit) => [bv r]) (fun (x : Unit) => []) := by
  refine fn_ok (fn := Tryd.f56) (N := 9) (res := fun r x => [bv r]) (Ω1 := fun r x => []) Tryd.func56 rfl rfl hm rfl (fun E hM => ?_)
  unfold slices_ContainsFunc_string_string_m
  refine ref_seq (ref_region ?_)
  refine as1 rfl rfl ?_
  refine l_nil (n_then (ref_seq (ref_region ?_)))
  refine mv1 rfl rfl ?_
  refine mv1 rfl rfl ?_
  refine pull fun t1 h_t1 => ?_
  refine s_st (s_call (ψ := fun (_ : Unit) => iv .i64 t1) (args := [.tmp 5, .tmp 6]) Tryd.call61 rfl (slices_IndexFunc_string_string_1_ok h_t1) ⟨arg rfl, arg rfl, trivial⟩ (fun _ _ _ _ h => h)) rfl (fun _ => ?_)
  refine s_rd (r_geq rfl rfl) rfl ?_
  refine as1 rfl rfl ?_
  refine b_let (f := bv) (t := 4) rfl fun t2 => ?_
  refine l_nil (n_then (ref_ret ?_))
  exact fin1 (.inl rfl) () [] rfl trivial rfl (rv_tmp rfl)

/-! deliberation/precedent.named -/
noncomputable def precedent_named_m (l_0 : (List ByteArray)) : Option (Bool) :=
  Option.bind (slices_ContainsFunc_string_string_m l_0) fun t1 =>
  some (!t1)

theorem precedent_named_ok {l_0 : (List ByteArray)} {r : Bool} (hm : precedent_named_m l_0 = some r) :
    FnOk prog 50 [slv rS l_0] [] (fun (x : Unit) => [bv r]) (fun (x : Unit) => []) := by
  refine fn_ok (fn := Tryd.f50) (N := 6) (res := fun r x => [bv r]) (Ω1 := fun r x => []) Tryd.func50 rfl rfl hm rfl (fun E hM => ?_)
  unfold precedent_named_m
  refine ref_seq (ref_region ?_)
  refine as1 rfl rfl ?_
  refine l_nil (n_then (ref_seq (ref_region ?_)))
  refine mv1 rfl rfl ?_
  refine pull fun t1 h_t1 => ?_
  refine s_st (s_call (ψ := fun (_ : Unit) => bv t1) (args := [.tmp 3, .func 68]) Tryd.call56 rfl (slices_ContainsFunc_string_string_ok h_t1) ⟨arg rfl, arg rfl, trivial⟩ (fun _ _ _ _ h => h)) rfl (fun _ => ?_)
  refine s_rd (r_not rfl) rfl ?_
  refine as1 rfl rfl ?_
  refine l_nil (n_then (ref_ret ?_))
  exact fin1 (.inl rfl) () [] rfl trivial rfl (rv_tmp rfl)

/-! deliberation/precedent.Validate$1 -/
noncomputable def precedent_Validate_1_m (c_0 : T_api_Case) : Option (Bool) :=
  Option.bind (literal_ValidName_m c_0.Name) fun t2 =>
  some (!t2)

theorem precedent_Validate_1_ok {c_0 : T_api_Case} {r : Bool} (hm : precedent_Validate_1_m c_0 = some r) :
    FnOk prog 52 [ag [sv c_0.Name, slv rS c_0.Facts, iv .i64 c_0.Winner, slv rS c_0.Reason]] [] (fun (x : Unit) => [bv r]) (fun (x : Unit) => []) := by
  refine fn_ok (fn := Tryd.f52) (N := 7) (res := fun r x => [bv r]) (Ω1 := fun r x => []) Tryd.func52 rfl rfl hm rfl (fun E hM => ?_)
  unfold precedent_Validate_1_m
  refine ref_seq (ref_region ?_)
  refine s_st (s_box (part_agO (ψs := [sv c_0.Name, slv rS c_0.Facts, iv .i64 c_0.Winner, slv rS c_0.Reason]) rfl ⟨.inl sv_at, .inl slv_at, .inl iv_at, .inl slv_at, trivial⟩)) rfl (fun b1 => ?_)
  refine as1 rfl rfl ?_
  refine l_nil (n_then (ref_seq (ref_region ?_)))
  refine s_rd (r_faddr (fo := 0) Tryd.underlying39 rfl rfl Tryd.sizeOf9 rfl) rfl ?_
  refine s_rd (r_cload Tryd.isAgg9 rfl (j := 0) rfl rfl) rfl ?_
  refine pull fun t2 h_t2 => ?_
  refine s_st (s_call (ψ := fun (_ : Unit) => bv t2) (args := [.tmp 4]) Tryd.call53 rfl (literal_ValidName_ok h_t2) ⟨arg rfl, trivial⟩ (fun _ _ _ _ h => h)) rfl (fun _ => ?_)
  refine s_rd (r_not rfl) rfl ?_
  refine as1 rfl rfl ?_
  refine l_nil (n_then (ref_ret ?_))
  exact fin1 (.inl rfl) () [] rfl trivial rfl (rv_tmp rfl)

/-! deliberation/precedent.rising -/
noncomputable def precedent_rising_l1 (l_0 : (List ByteArray)) (s7 : Int) : Option (Sum ((Sum (Bool) (Unit))) (Int)) :=
  bif decide (s7 < (l_0.length : Int)) then
    Option.bind (idxM l_0 (isub .i64 s7 1)) fun t10 =>
    Option.bind (idxM l_0 s7) fun t11 =>
    bif !Op.bytesLess t10.toList t11.toList then
      some (Sum.inl (Sum.inl false))
    else
      some (Sum.inr (iadd .i64 s7 1))
  else
    some (Sum.inl (Sum.inr ()))

noncomputable def precedent_rising_m (l_0 : (List ByteArray)) : Option (Bool) :=
  Option.bind (loopC (precedent_rising_l1 l_0) 1) (sumK (fun a : Bool => some a) fun q13 : Unit =>
    some true)

theorem precedent_rising_ok {l_0 : (List ByteArray)} {r : Bool} (hm : precedent_rising_m l_0 = some r) :
    FnOk prog 54 [slv rS l_0] [] (fun (x : Unit) => [bv r]) (fun (x : Unit) => []) := by
  refine fn_ok (fn := Tryd.f54) (N := 20) (res := fun r x => [bv r]) (Ω1 := fun r x => []) Tryd.func54 rfl rfl hm rfl (fun E hM => ?_)
  unfold precedent_rising_m
  refine ref_seq (ref_region ?_)
  refine as1 rfl rfl ?_
  refine l_nil (n_then (ref_seq (ref_seq (ref_region ?_))))
  refine as1 rfl rfl ?_
  refine l_nil (n_then ?_)
  refine ref_loopX (f := (precedent_rising_l1 l_0)) (Γl := (fun (s7 : Int) (x8 : Unit) => [(0, slv rS l_0), (3, iv .i64 s7)])) (Ωl := (fun (s7 : Int) (x8 : Unit) => [])) (Γb := (fun (q13 : Unit) (y14 : Unit) => [])) (Ωb := (fun (q13 : Unit) (y14 : Unit) => [])) (kr := (fun a : Bool => some a)) 1 () (weak [] ⟨rfl, rfl, trivial⟩ trivial) (fun s7 x8 => ?_) (fun q13 y14 => ?_)
  · unfold precedent_rising_l1
    refine ref_seq (ref_seq (ref_region ?_))
    refine mv1 rfl rfl ?_
    refine mv1 rfl rfl ?_
    refine s_rd (r_len Tryd.underlying25 rfl) rfl ?_
    refine s_rd (r_lss rfl rfl) rfl ?_
    refine l_nil (n_then ?_)
    refine ref_cond rfl (fun hb9 => ?_) (fun hb9 => ?_)
    · refine ref_skip (n_then (ref_seq (ref_block (ref_seq ?_))))
      refine ref_draw [0, 1, 2, 3, 4, 5, 6, 7, 8, 9] rfl (by kernel_rfl) (fun hok => ?_)
      refine a_rd (i := 0) hok rfl (by kernel_rfl) rfl (r_move rfl) rfl ?_
      refine a_rd (i := 1) hok rfl (by kernel_rfl) rfl (r_move rfl) rfl ?_
      refine a_rd (i := 2) hok rfl (by kernel_rfl) rfl (r_sub rfl rfl) rfl ?_
      refine pull fun t10 h_t10 => ?_
      refine a_rd (i := 3) hok rfl (by kernel_rfl) rfl (r_index h_t10 Tryd.underlying25 el_9 rfl rfl) rfl ?_
      refine a_rd (i := 4) hok rfl (by kernel_rfl) rfl (r_load el_9 rfl) rfl ?_
      refine a_rd (i := 5) hok rfl (by kernel_rfl) rfl (r_move rfl) rfl ?_
      refine a_rd (i := 6) hok rfl (by kernel_rfl) rfl (r_move rfl) rfl ?_
      refine pull fun t11 h_t11 => ?_
      refine a_rd (i := 7) hok rfl (by kernel_rfl) rfl (r_index h_t11 Tryd.underlying25 el_9 rfl rfl) rfl ?_
      refine a_rd (i := 8) hok rfl (by kernel_rfl) rfl (r_load el_9 rfl) rfl ?_
      refine a_rd (i := 9) hok rfl (by kernel_rfl) rfl (r_sgeq rfl rfl) rfl ?_
      refine a_fin hok (by kernel_rfl) ?_
      refine n_then ?_
      refine ref_cond rfl (fun hb12 => ?_) (fun hb12 => ?_)
      · refine ref_seq (ref_region ?_)
        refine as1 rfl rfl ?_
        refine l_nil (n_then (ref_ret (r_block (r_then ?_))))
        refine retX ?_
        refine r_block (r_then ?_)
        exact fin1 (.inl rfl) () [] rfl trivial rfl (rv_tmp rfl)
      refine ref_skip (n_block (n_then (ref_region ?_)))
      refine mv1 rfl rfl ?_
      refine s_rd (r_add rfl rfl) rfl ?_
      refine as1 rfl rfl ?_
      refine l_nil ?_
      exact goX () (weak [] ⟨rfl, rfl, trivial⟩ trivial)
    refine ref_exit (x_then ?_)
    exact brkX () (weak [] trivial trivial)
  refine n_then (ref_seq (ref_region ?_))
  refine as1 rfl rfl ?_
  refine l_nil (n_then (ref_ret ?_))
  exact fin1 (.inl rfl) () [] rfl trivial rfl (rv_tmp rfl)

/-! deliberation/precedent.Validate$2 -/
noncomputable def precedent_Validate_2_m (c_0 : T_api_Case) : Option (Bool) :=
  Option.bind (precedent_rising_m c_0.Facts) fun t2 =>
  bif !t2 then
    some true
  else
    Option.bind (precedent_rising_m c_0.Reason) fun t3 =>
    some (!t3)

theorem precedent_Validate_2_ok {c_0 : T_api_Case} {r : Bool} (hm : precedent_Validate_2_m c_0 = some r) :
    FnOk prog 55 [ag [sv c_0.Name, slv rS c_0.Facts, iv .i64 c_0.Winner, slv rS c_0.Reason]] [] (fun (x : Unit) => [bv r]) (fun (x : Unit) => []) := by
  refine fn_ok (fn := Tryd.f55) (N := 13) (res := fun r x => [bv r]) (Ω1 := fun r x => []) Tryd.func55 rfl rfl hm rfl (fun E hM => ?_)
  unfold precedent_Validate_2_m
  refine ref_seq (ref_region ?_)
  refine s_st (s_box (part_agO (ψs := [sv c_0.Name, slv rS c_0.Facts, iv .i64 c_0.Winner, slv rS c_0.Reason]) rfl ⟨.inl sv_at, .inl slv_at, .inl iv_at, .inl slv_at, trivial⟩)) rfl (fun b1 => ?_)
  refine as1 rfl rfl ?_
  refine l_nil (n_then (ref_seq (ref_region ?_)))
  refine s_rd (r_faddr (fo := 1) Tryd.underlying39 rfl rfl Tryd.sizeOf25 rfl) rfl ?_
  refine s_rd (r_cload Tryd.isAgg25 rfl (j := 0) rfl rfl) rfl ?_
  refine pull fun t2 h_t2 => ?_
  refine s_st (s_call (ψ := fun (_ : Unit) => bv t2) (args := [.tmp 4]) Tryd.call54 rfl (precedent_rising_ok h_t2) ⟨arg rfl, trivial⟩ (fun _ _ _ _ h => h)) rfl (fun _ => ?_)
  refine s_rd (r_not rfl) rfl ?_
  refine mv1 rfl rfl ?_
  refine b_split (t := 7) rfl (fun _ => ?_) (fun _ => ?_)
  · refine s_off rfl rfl rfl rfl rfl ?_
    refine s_off rfl rfl rfl rfl rfl ?_
    refine s_off rfl rfl rfl rfl rfl ?_
    refine s_off rfl rfl rfl rfl rfl ?_
    refine s_rd (r_pickT rfl rfl) rfl ?_
    refine as1 rfl rfl ?_
    refine l_nil (n_then (ref_ret ?_))
    exact fin1 (.inl rfl) () [] rfl trivial rfl (rv_tmp rfl)
  refine s_on rfl rfl rfl ?_
  refine s_rd (r_faddr (fo := 3) Tryd.underlying39 rfl rfl Tryd.sizeOf25 rfl) rfl ?_
  refine s_on rfl rfl rfl ?_
  refine s_rd (r_cload Tryd.isAgg25 rfl (j := 0) rfl rfl) rfl ?_
  refine s_on rfl rfl rfl ?_
  refine pull fun t3 h_t3 => ?_
  refine s_st (s_call (ψ := fun (_ : Unit) => bv t3) (args := [.tmp 9]) Tryd.call54 rfl (precedent_rising_ok h_t3) ⟨arg rfl, trivial⟩ (fun _ _ _ _ h => h)) rfl (fun _ => ?_)
  refine s_on rfl rfl rfl ?_
  refine s_rd (r_not rfl) rfl ?_
  refine s_rd (r_pickF rfl rfl) rfl ?_
  refine as1 rfl rfl ?_
  refine l_nil (n_then (ref_ret ?_))
  exact fin1 (.inl rfl) () [] rfl trivial rfl (rv_tmp rfl)

/-! deliberation/precedent.Validate$4 -/
noncomputable def precedent_Validate_4_m (c_0 : T_api_Case) : Option (Bool) :=
  bif c_0.Winner != 1 then
    letM (c_0.Winner != 2) fun t2 =>
    some t2
  else
    some false

theorem precedent_Validate_4_ok {c_0 : T_api_Case} {r : Bool} (hm : precedent_Validate_4_m c_0 = some r) :
    FnOk prog 58 [ag [sv c_0.Name, slv rS c_0.Facts, iv .i64 c_0.Winner, slv rS c_0.Reason]] [] (fun (x : Unit) => [bv r]) (fun (x : Unit) => []) := by
  refine fn_ok (fn := Tryd.f58) (N := 11) (res := fun r x => [bv r]) (Ω1 := fun r x => []) Tryd.func58 rfl rfl hm rfl (fun E hM => ?_)
  unfold precedent_Validate_4_m
  refine ref_seq (ref_region ?_)
  refine s_st (s_box (part_agO (ψs := [sv c_0.Name, slv rS c_0.Facts, iv .i64 c_0.Winner, slv rS c_0.Reason]) rfl ⟨.inl sv_at, .inl slv_at, .inl iv_at, .inl slv_at, trivial⟩)) rfl (fun b1 => ?_)
  refine as1 rfl rfl ?_
  refine l_nil (n_then (ref_seq (ref_region ?_)))
  refine s_rd (r_faddr (fo := 2) Tryd.underlying39 rfl rfl Tryd.sizeOf3 rfl) rfl ?_
  refine s_rd (r_cload Tryd.isAgg3 rfl (j := 0) rfl rfl) rfl ?_
  refine s_rd (r_neq rfl rfl) rfl ?_
  refine mv1 rfl rfl ?_
  refine b_split (t := 6) rfl (fun _ => ?_) (fun _ => ?_)
  · refine s_on rfl rfl rfl ?_
    refine s_rd (r_faddr (fo := 2) Tryd.underlying39 rfl rfl Tryd.sizeOf3 rfl) rfl ?_
    refine s_on rfl rfl rfl ?_
    refine s_rd (r_cload Tryd.isAgg3 rfl (j := 0) rfl rfl) rfl ?_
    refine s_on rfl rfl rfl ?_
    refine s_rd (r_neq rfl rfl) rfl ?_
    refine s_rd (r_pickT rfl rfl) rfl ?_
    refine as1 rfl rfl ?_
    refine b_let (f := bv) (t := 2) rfl fun t2 => ?_
    refine l_nil (n_then (ref_ret ?_))
    exact fin1 (.inl rfl) () [] rfl trivial rfl (rv_tmp rfl)
  refine s_off rfl rfl rfl rfl rfl ?_
  refine s_off rfl rfl rfl rfl rfl ?_
  refine s_off rfl rfl rfl rfl rfl ?_
  refine s_rd (r_pickF rfl rfl) rfl ?_
  refine as1 rfl rfl ?_
  refine l_nil (n_then (ref_ret ?_))
  exact fin1 (.inl rfl) () [] rfl trivial rfl (rv_tmp rfl)

/-! slices.Grow[[]string,string] -/
noncomputable def slices_Grow_string_string_m (n_1 : Int) : Option (List ByteArray) :=
  bif decide (n_1 < 0) then
    none
  else
    letM (isub .i64 n_1 (isub .i64 0 0)) fun n2 =>
    bif decide (n2 > 0) then
      Option.bind (mkM 16 ByteArray.empty n2) fun t4 =>
      Option.bind (slM t4 0 0) fun s6 =>
      some s6
    else
      some []

theorem slices_Grow_string_string_ok {n_1 : Int} {r : List ByteArray} (hm : slices_Grow_string_string_m n_1 = some r) :
    FnOk prog 85 [pv (.slice none 0 0), iv .i64 n_1] [] (fun (x : (Value × List Nat)) => [pv x.1]) (fun (x : (Value × List Nat)) => [oa rS x.1 x.2 r]) := by
  refine fn_ok (X := (Value × List Nat)) (fn := Tryd.f85) (N := 27) (res := fun r x => [pv x.1]) (Ω1 := fun r x => [oa rS x.1 x.2 r]) Tryd.func85 rfl rfl hm rfl (fun E hM => ?_)
  unfold slices_Grow_string_string_m
  refine ref_seq (ref_region ?_)
  refine as1 rfl rfl ?_
  refine l_nil (n_then (ref_seq (ref_seq (ref_region ?_))))
  refine mv1 rfl rfl ?_
  refine s_rd (r_lss rfl rfl) rfl ?_
  refine l_nil (n_then ?_)
  refine ref_cond rfl (fun hb1 => ?_) (fun hb1 => ?_)
  · refine ref_region ?_
    exact pnone
  refine ref_skip (n_then (ref_seq (ref_seq (ref_region ?_))))
  refine mv1 rfl rfl ?_
  refine mv1 rfl rfl ?_
  refine s_rd (r_capN Tryd.underlying25 rfl) rfl ?_
  refine mv1 rfl rfl ?_
  refine s_rd (r_lenN Tryd.underlying25 rfl) rfl ?_
  refine s_rd (r_sub rfl rfl) rfl ?_
  refine s_rd (r_sub rfl rfl) rfl ?_
  refine as1 rfl rfl ?_
  refine b_let (f := iv .i64) (t := 1) rfl fun n2 => ?_
  refine l_nil (n_then (ref_seq (ref_region ?_)))
  refine mv1 rfl rfl ?_
  refine s_rd (r_gtr rfl rfl) rfl ?_
  refine l_nil (n_then ?_)
  refine ref_cond rfl (fun hb3 => ?_) (fun hb3 => ?_)
  · refine ref_region ?_
    refine mv1 rfl rfl ?_
    refine mv1 rfl rfl ?_
    refine s_rd (r_capN Tryd.underlying25 rfl) rfl ?_
    refine s_rd (r_sliceN Tryd.underlying25 el_9 rfl rfl) rfl ?_
    refine mv1 rfl rfl ?_
    refine pull fun t4 h_t4 => ?_
    refine s_st (s_appendZ h_t4 (of_decide_eq_true hb3) Tryd.underlying25 Tryd.underlying3 el_9 ze_9 rfl rfl) rfl (fun o5 => ?_)
    refine mv1 rfl rfl ?_
    refine s_rd (r_lenN Tryd.underlying25 rfl) rfl ?_
    refine pull fun s6 h_s6 => ?_
    refine s_st (s_oslice h_s6 Tryd.underlying25 el_9 rfl (j := 0) rfl .dft (.of rfl)) rfl (fun o7 => ?_)
    refine as1 rfl rfl ?_
    refine l_nil (n_then (ref_seq (ref_region ?_)))
    refine mv1 rfl rfl ?_
    refine as1 rfl rfl ?_
    refine l_nil (n_then (ref_ret ?_))
    exact fin1 (.inl rfl) o7 [0] rfl ⟨rfl, trivial⟩ rfl (rv_tmp rfl)
  refine ref_skip (n_then (ref_seq (ref_region ?_)))
  refine mv1 rfl rfl ?_
  refine as1 rfl rfl ?_
  refine l_nil (n_then (ref_ret ?_))
  refine b_of (own_nil rS) ?_
  exact fin1 (.inl rfl) ((.slice none 0 0), []) [0] rfl ⟨rfl, trivial⟩ rfl (rv_tmp rfl)

/-! slices.Concat[[]string,string] -/
noncomputable def slices_Concat_string_string_l1 (slices_0 : (List (List ByteArray))) (s7 : Int × Int) : Option (Sum (Int) (Int × Int)) :=
  bif decide (s7.2 < (slices_0.length : Int)) then
    Option.bind (idxM slices_0 s7.2) fun s10 =>
    letM (iadd .i64 s7.1 (s10.length : Int)) fun size11 =>
    bif decide (size11 < 0) then
      none
    else
      some (Sum.inr (size11, iadd .i64 s7.2 1))
  else
    some (Sum.inl s7.1)

noncomputable def slices_Concat_string_string_l2 (slices_0 : (List (List ByteArray))) (s29 : Int × (List ByteArray)) : Option (Sum ((List ByteArray)) (Int × (List ByteArray))) :=
  bif decide (s29.1 < (slices_0.length : Int)) then
    Option.bind (idxM slices_0 s29.1) fun s32 =>
    Option.bind (appM 16 s29.2 s32) fun newslice33 =>
    some (Sum.inr (iadd .i64 s29.1 1, newslice33))
  else
    some (Sum.inl s29.2)

noncomputable def slices_Concat_string_string_m (slices_0 : (List (List ByteArray))) : Option (List ByteArray) :=
  Option.bind (loopC (slices_Concat_string_string_l1 slices_0) (0, 0)) fun q13 : Int =>
  Option.bind (slices_Grow_string_string_m q13) fun newslice15 =>
  Option.bind (loopC (slices_Concat_string_string_l2 slices_0) (0, newslice15)) fun q35 : (List ByteArray) =>
  some q35

theorem slices_Concat_string_string_ok {slices_0 : (List (List ByteArray))} {r : List ByteArray} (hm : slices_Concat_string_string_m slices_0 = some r) :
    FnOk prog 70 [slv (rSl rS) slices_0] [] (fun (x : (Value × List Nat)) => [pv x.1]) (fun (x : (Value × List Nat)) => [oa rS x.1 x.2 r]) := by
  refine fn_ok (X := (Value × List Nat)) (fn := Tryd.f70) (N := 36) (res := fun r x => [pv x.1]) (Ω1 := fun r x => [oa rS x.1 x.2 r]) Tryd.func70 rfl rfl hm rfl (fun E hM => ?_)
  unfold slices_Concat_string_string_m
  refine ref_seq (ref_region ?_)
  refine as1 rfl rfl ?_
  refine l_nil (n_then (ref_seq (ref_region ?_)))
  refine as1 rfl rfl ?_
  refine l_nil (n_then (ref_seq (ref_seq (ref_region ?_))))
  refine mv1 rfl rfl ?_
  refine s_rd (r_len Tryd.underlying112 rfl) rfl ?_
  refine mv1 rfl rfl ?_
  refine l_nil (n_then ?_)
  refine ref_loopB (f := (slices_Concat_string_string_l1 slices_0)) (Γl := (fun (s7 : Int × Int) (x8 : Unit) => [(0, slv (rSl rS) slices_0), (3, iv .i64 s7.1), (9, slv (rSl rS) slices_0), (10, iv .i64 (slices_0.length : Int)), (11, iv .i64 s7.2)])) (Ωl := (fun (s7 : Int × Int) (x8 : Unit) => [])) (Γb := (fun (q13 : Int) (y14 : Unit) => [(0, slv (rSl rS) slices_0), (3, iv .i64 q13)])) (Ωb := (fun (q13 : Int) (y14 : Unit) => [])) (0, 0) () (weak [] ⟨rfl, rfl, rfl, rfl, rfl, trivial⟩ trivial) (fun s7 x8 => ?_) (fun q13 y14 => ?_)
  · unfold slices_Concat_string_string_l1
    refine ref_seq (ref_region ?_)
    refine s_rd (r_lss rfl rfl) rfl ?_
    refine l_nil (n_then (ref_seq ?_))
    refine ref_cond rfl (fun hb9 => ?_) (fun hb9 => ?_)
    · refine ref_skip (n_then (ref_seq (ref_block (ref_seq (ref_region ?_)))))
      refine pull fun s10 h_s10 => ?_
      refine s_rd (r_index h_s10 Tryd.underlying112 el_25 rfl rfl) rfl ?_
      refine s_rd (r_load el_25 rfl) rfl ?_
      refine as1 rfl rfl ?_
      refine l_nil (n_then (ref_seq (ref_region ?_)))
      refine mv1 rfl rfl ?_
      refine mv1 rfl rfl ?_
      refine s_rd (r_len Tryd.underlying25 rfl) rfl ?_
      refine s_rd (r_add rfl rfl) rfl ?_
      refine as1 rfl rfl ?_
      refine b_let (f := iv .i64) (t := 3) rfl fun size11 => ?_
      refine l_nil (n_then (ref_seq (ref_region ?_)))
      refine mv1 rfl rfl ?_
      refine s_rd (r_lss rfl rfl) rfl ?_
      refine l_nil (n_then ?_)
      refine ref_cond rfl (fun hb12 => ?_) (fun hb12 => ?_)
      · refine ref_region ?_
        exact pnone
      refine ref_skip (n_block (n_then (ref_region ?_)))
      refine s_rd (r_add rfl rfl) rfl ?_
      refine mv1 rfl rfl ?_
      refine l_nil ?_
      exact goB () (weak [] ⟨rfl, rfl, rfl, rfl, rfl, trivial⟩ trivial)
    refine ref_exit (x_then ?_)
    exact brkB () (weak [] ⟨rfl, rfl, trivial⟩ trivial)
  refine n_then (ref_seq (ref_region ?_))
  refine mv1 rfl rfl ?_
  refine pull fun newslice15 h_newslice15 => ?_
  refine s_st (s_call (ψ := fun (x16 : (Value × List Nat)) => pv x16.1) (args := [.const (.slice none 0 0), .tmp 23]) Tryd.call85 rfl (slices_Grow_string_string_ok h_newslice15) ⟨arg rfl, arg rfl, trivial⟩ (fun _ _ _ _ h => h)) rfl (fun x16 => ?_)
  refine as1 rfl rfl ?_
  refine l_nil (n_then (ref_seq (ref_seq (ref_region ?_))))
  refine mv1 rfl rfl ?_
  refine s_rd (r_len Tryd.underlying112 rfl) rfl ?_
  refine mv1 rfl rfl ?_
  refine l_nil (n_then ?_)
  refine ref_loopB (f := (slices_Concat_string_string_l2 slices_0)) (Γl := (fun (s29 : Int × (List ByteArray)) (x30 : (Value × List Nat)) => [(6, pv x30.1), (25, slv (rSl rS) slices_0), (26, iv .i64 (slices_0.length : Int)), (27, iv .i64 s29.1)])) (Ωl := (fun (s29 : Int × (List ByteArray)) (x30 : (Value × List Nat)) => [oa rS x30.1 x30.2 s29.2])) (Γb := (fun (q35 : (List ByteArray)) (y36 : (Value × List Nat)) => [(6, pv y36.1)])) (Ωb := (fun (q35 : (List ByteArray)) (y36 : (Value × List Nat)) => [oa rS y36.1 y36.2 q35])) (0, newslice15) x16 (weak [0] ⟨rfl, rfl, rfl, rfl, trivial⟩ ⟨rfl, trivial⟩) (fun s29 x30 => ?_) (fun q35 y36 => ?_)
  · unfold slices_Concat_string_string_l2
    refine ref_seq (ref_region ?_)
    refine s_rd (r_lss rfl rfl) rfl ?_
    refine l_nil (n_then (ref_seq ?_))
    refine ref_cond rfl (fun hb31 => ?_) (fun hb31 => ?_)
    · refine ref_skip (n_then (ref_seq (ref_block (ref_seq (ref_region ?_)))))
      refine pull fun s32 h_s32 => ?_
      refine s_rd (r_index h_s32 Tryd.underlying112 el_25 rfl rfl) rfl ?_
      refine s_rd (r_load el_25 rfl) rfl ?_
      refine as1 rfl rfl ?_
      refine l_nil (n_then (ref_region ?_))
      refine mv1 rfl rfl ?_
      refine mv1 rfl rfl ?_
      refine pull fun newslice33 h_newslice33 => ?_
      refine s_st (s_append h_newslice33 Tryd.underlying25 el_9 rfl (j := 0) rfl rfl) rfl (fun o34 => ?_)
      refine as1 rfl rfl ?_
      refine l_nil (n_block (n_then (ref_region ?_)))
      refine s_rd (r_add rfl rfl) rfl ?_
      refine mv1 rfl rfl ?_
      refine l_nil ?_
      exact goB o34 (weak [0] ⟨rfl, rfl, rfl, rfl, trivial⟩ ⟨rfl, trivial⟩)
    refine ref_exit (x_then ?_)
    exact brkB x30 (weak [0] ⟨rfl, trivial⟩ ⟨rfl, trivial⟩)
  refine n_then (ref_seq (ref_region ?_))
  refine mv1 rfl rfl ?_
  refine as1 rfl rfl ?_
  refine l_nil (n_then (ref_ret ?_))
  exact fin1 (.inl rfl) y36 [0] rfl ⟨rfl, trivial⟩ rfl (rv_tmp rfl)

/-! deliberation/precedent.factors -/
noncomputable def precedent_factors_m (l_0 : T_api_Library) : Option (List ByteArray) :=
  Option.bind (slices_Concat_string_string_m [l_0.Sides.i0, l_0.Sides.i1]) fun t2 =>
  some t2

theorem precedent_factors_ok {l_0 : T_api_Library} {r : List ByteArray} (hm : precedent_factors_m l_0 = some r) :
    FnOk prog 60 [ag [slv rS l_0.Sides.i0, slv rS l_0.Sides.i1, slv rT_api_Case l_0.Cases]] [] (fun (x : (Value × List Nat)) => [pv x.1]) (fun (x : (Value × List Nat)) => [oa rS x.1 x.2 r]) := by
  refine fn_ok (X := (Value × List Nat)) (fn := Tryd.f60) (N := 11) (res := fun r x => [pv x.1]) (Ω1 := fun r x => [oa rS x.1 x.2 r]) Tryd.func60 rfl rfl hm rfl (fun E hM => ?_)
  unfold precedent_factors_m
  refine ref_seq (ref_region ?_)
  refine s_st (s_box (part_agO (ψs := [slv rS l_0.Sides.i0, slv rS l_0.Sides.i1, slv rT_api_Case l_0.Cases]) rfl ⟨.inl slv_at, .inl slv_at, .inl slv_at, trivial⟩)) rfl (fun b1 => ?_)
  refine as1 rfl rfl ?_
  refine l_nil (n_then (ref_seq (ref_region ?_)))
  refine s_rd (r_faddr (fo := 0) Tryd.underlying29 rfl rfl Tryd.sizeOf26 rfl) rfl ?_
  refine s_rd (r_aaddr (sz := 1) ⟨by decide, by decide⟩ Tryd.underlying26 Tryd.sizeOf25 rfl rfl) rfl ?_
  refine s_rd (r_cload Tryd.isAgg25 rfl (j := 0) rfl rfl) rfl ?_
  refine s_rd (r_faddr (fo := 0) Tryd.underlying29 rfl rfl Tryd.sizeOf26 rfl) rfl ?_
  refine s_rd (r_aaddr (sz := 1) ⟨by decide, by decide⟩ Tryd.underlying26 Tryd.sizeOf25 rfl rfl) rfl ?_
  refine s_rd (r_cload Tryd.isAgg25 rfl (j := 0) rfl rfl) rfl ?_
  refine s_st (s_bslice (xs := [.tmp 5, .tmp 8]) (ds := [l_0.Sides.i0, l_0.Sides.i1]) Tryd.underlying112 el_25 rfl (Nat.le_of_ble_eq_true rfl) ⟨(part_at rfl slv_at), ⟨(part_at rfl slv_at), trivial⟩⟩) rfl (fun _ => ?_)
  refine pull fun t2 h_t2 => ?_
  refine s_st (s_call (ψ := fun (x3 : (Value × List Nat)) => pv x3.1) (args := [.tmp 9]) Tryd.call70 rfl (slices_Concat_string_string_ok h_t2) ⟨arg rfl, trivial⟩ (fun _ _ _ _ h => h)) rfl (fun x3 => ?_)
  refine as1 rfl rfl ?_
  refine l_nil (n_then (ref_ret ?_))
  exact fin1 (.inl rfl) x3 [1] rfl ⟨rfl, trivial⟩ rfl (rv_tmp rfl)

/-! deliberation/precedent.within$1 -/
noncomputable def precedent_within_1_m (s_0 : ByteArray) (p_1 : (List ByteArray)) : Option (Bool) :=
  Option.bind (slices_Contains_string_string_m p_1 s_0) fun t1 =>
  some (!t1)

theorem precedent_within_1_ok {s_0 : ByteArray} {p_1 : (List ByteArray)} {b_1 : Nat} {r : Bool} (hm : precedent_within_1_m s_0 p_1 = some r) :
    FnOk prog 66 [sv s_0, pv (ptr b_1 0)] [oc b_1 [slv rS p_1]] (fun (x : Unit) => [bv r]) (fun (x : Unit) => [oc b_1 [slv rS p_1]]) := by
  refine fn_ok (fn := Tryd.f66) (N := 8) (res := fun r x => [bv r]) (Ω1 := fun r x => [oc b_1 [slv rS p_1]]) Tryd.func66 rfl rfl hm rfl (fun E hM => ?_)
  unfold precedent_within_1_m
  refine ref_seq (ref_region ?_)
  refine as1 rfl rfl ?_
  refine l_nil (n_then (ref_seq (ref_region ?_)))
  refine s_rd (r_cload Tryd.isAgg25 rfl (j := 0) rfl rfl) rfl ?_
  refine mv1 rfl rfl ?_
  refine pull fun t1 h_t1 => ?_
  refine s_st (s_call (ψ := fun (_ : Unit) => bv t1) (args := [.tmp 4, .tmp 5]) Tryd.call35 rfl (slices_Contains_string_string_ok h_t1) ⟨arg rfl, arg rfl, trivial⟩ (fun _ _ _ _ h => h)) rfl (fun _ => ?_)
  refine s_rd (r_not rfl) rfl ?_
  refine as1 rfl rfl ?_
  refine l_nil (n_then (ref_ret ?_))
  exact fin1 (.inl rfl) () [0] rfl ⟨rfl, trivial⟩ rfl (rv_tmp rfl)

/-! slices.IndexFunc[[]string,string] -/
noncomputable def slices_IndexFunc_string_string_2_l1 (s_0 : (List ByteArray)) (e_0 : (List ByteArray)) (s7 : Int) : Option (Sum ((Sum (Int) (Unit))) (Int)) :=
  bif decide (s7 < (s_0.length : Int)) then
    Option.bind (idxM s_0 s7) fun t10 =>
    Option.bind (precedent_within_1_m t10 e_0) fun t11 =>
    bif t11 then
      some (Sum.inl (Sum.inl s7))
    else
      some (Sum.inr (iadd .i64 s7 1))
  else
    some (Sum.inl (Sum.inr ()))

noncomputable def slices_IndexFunc_string_string_2_m (s_0 : (List ByteArray)) (e_0 : (List ByteArray)) : Option (Int) :=
  Option.bind (loopC (slices_IndexFunc_string_string_2_l1 s_0 e_0) 0) (sumK (fun a : Int => some a) fun q13 : Unit =>
    some (-1))

theorem slices_IndexFunc_string_string_2_ok {s_0 : (List ByteArray)} {e_0 : (List ByteArray)} {be_0 : Nat} {r : Int} (hm : slices_IndexFunc_string_string_2_m s_0 e_0 = some r) :
    FnOk prog 61 [slv rS s_0, pv (.func (.func 66) #[] #[(ptr be_0 0)])] [oc be_0 [slv rS e_0]] (fun (x : Unit) => [iv .i64 r]) (fun (x : Unit) => [oc be_0 [slv rS e_0]]) := by
  refine fn_ok (fn := Tryd.f61) (N := 19) (res := fun r x => [iv .i64 r]) (Ω1 := fun r x => [oc be_0 [slv rS e_0]]) Tryd.func61 rfl rfl hm rfl (fun E hM => ?_)
  unfold slices_IndexFunc_string_string_2_m
  refine ref_seq (ref_region ?_)
  refine as1 rfl rfl ?_
  refine l_nil (n_then (ref_seq (ref_seq (ref_region ?_))))
  refine mv1 rfl rfl ?_
  refine s_rd (r_len Tryd.underlying25 rfl) rfl ?_
  refine mv1 rfl rfl ?_
  refine l_nil (n_then ?_)
  refine ref_loopX (f := (slices_IndexFunc_string_string_2_l1 s_0 e_0)) (Γl := (fun (s7 : Int) (x8 : Unit) => [(0, slv rS s_0), (1, pv (.func (.func 66) #[] #[(ptr be_0 0)])), (7, iv .i64 (s_0.length : Int)), (8, iv .i64 s7)])) (Ωl := (fun (s7 : Int) (x8 : Unit) => [oc be_0 [slv rS e_0]])) (Γb := (fun (q13 : Unit) (y14 : Unit) => [(1, pv (.func (.func 66) #[] #[(ptr be_0 0)]))])) (Ωb := (fun (q13 : Unit) (y14 : Unit) => [oc be_0 [slv rS e_0]])) (kr := (fun a : Int => some a)) 0 () (weak [0] ⟨rfl, rfl, rfl, rfl, trivial⟩ ⟨rfl, trivial⟩) (fun s7 x8 => ?_) (fun q13 y14 => ?_)
  · unfold slices_IndexFunc_string_string_2_l1
    refine ref_seq (ref_region ?_)
    refine s_rd (r_lss rfl rfl) rfl ?_
    refine l_nil (n_then (ref_seq ?_))
    refine ref_cond rfl (fun hb9 => ?_) (fun hb9 => ?_)
    · refine ref_skip (n_then (ref_seq (ref_block (ref_seq (ref_region ?_)))))
      refine mv1 rfl rfl ?_
      refine as1 rfl rfl ?_
      refine l_nil (n_then (ref_seq (ref_region ?_)))
      refine mv1 rfl rfl ?_
      refine mv1 rfl rfl ?_
      refine mv1 rfl rfl ?_
      refine pull fun t10 h_t10 => ?_
      refine s_rd (r_index h_t10 Tryd.underlying25 el_9 rfl rfl) rfl ?_
      refine s_rd (r_load el_9 rfl) rfl ?_
      refine pull fun t11 h_t11 => ?_
      refine s_st (s_callC [0] [true] (fun (_ : Unit) => [oc be_0 [slv rS e_0]]) (fun (_ : Unit) => []) (fun (_ : Unit) => bv t11) (args := [.tmp 15]) (caps := [(ptr be_0 0)]) Tryd.call66 rfl (precedent_within_1_ok h_t11) ⟨rfl, rfl, trivial⟩ (fun _ => rfl) (fun _ => trivial) (fun _ => rfl) ⟨arg rfl, arg rfl, trivial⟩ (fun _ _ _ _ h => h)) rfl (fun _ => ?_)
      refine l_nil (n_then ?_)
      refine ref_cond rfl (fun hb12 => ?_) (fun hb12 => ?_)
      · refine ref_seq (ref_region ?_)
        refine mv1 rfl rfl ?_
        refine as1 rfl rfl ?_
        refine l_nil (n_then (ref_ret (r_block (r_then ?_))))
        refine retX ?_
        refine r_block (r_then ?_)
        exact fin1 (.inl rfl) () [0] rfl ⟨rfl, trivial⟩ rfl (rv_tmp rfl)
      refine ref_skip (n_block (n_then (ref_region ?_)))
      refine s_rd (r_add rfl rfl) rfl ?_
      refine mv1 rfl rfl ?_
      refine l_nil ?_
      exact goX () (weak [0] ⟨rfl, rfl, rfl, rfl, trivial⟩ ⟨rfl, trivial⟩)
    refine ref_exit (x_then ?_)
    exact brkX () (weak [0] ⟨rfl, trivial⟩ ⟨rfl, trivial⟩)
  refine n_then (ref_seq (ref_region ?_))
  refine as1 rfl rfl ?_
  refine l_nil (n_then (ref_ret ?_))
  exact fin1 (.inl rfl) () [0] rfl ⟨rfl, trivial⟩ rfl (rv_tmp rfl)

/-! slices.ContainsFunc[[]string,string] -/
noncomputable def slices_ContainsFunc_string_string_1_m (s_0 : (List ByteArray)) (e_0 : (List ByteArray)) : Option (Bool) :=
  Option.bind (slices_IndexFunc_string_string_2_m s_0 e_0) fun t1 =>
  letM (decide (t1 ≥ 0)) fun t2 =>
  some t2

theorem slices_ContainsFunc_string_string_1_ok {s_0 : (List ByteArray)} {e_0 : (List ByteArray)} {be_0 : Nat} {r : Bool} (hm : slices_ContainsFunc_string_string_1_m s_0 e_0 = some r) :
    FnOk prog 56 [slv rS s_0, pv (.func (.func 66) #[] #[(ptr be_0 0)])] [oc be_0 [slv rS e_0]] (fun (x : Unit) => [bv r]) (fun (x : Unit) => [oc be_0 [slv rS e_0]]) := by
  refine fn_ok (fn := Tryd.f56) (N := 9) (res := fun r x => [bv r]) (Ω1 := fun r x => [oc be_0 [slv rS e_0]]) Tryd.func56 rfl rfl hm rfl (fun E hM => ?_)
  unfold slices_ContainsFunc_string_string_1_m
  refine ref_seq (ref_region ?_)
  refine as1 rfl rfl ?_
  refine l_nil (n_then (ref_seq (ref_region ?_)))
  refine mv1 rfl rfl ?_
  refine mv1 rfl rfl ?_
  refine pull fun t1 h_t1 => ?_
  refine s_st (s_callC [0] [true] (fun (_ : Unit) => [oc be_0 [slv rS e_0]]) (fun (_ : Unit) => []) (fun (_ : Unit) => iv .i64 t1) (args := [.tmp 5, .tmp 6]) (caps := []) Tryd.call61 rfl (slices_IndexFunc_string_string_2_ok h_t1) ⟨rfl, rfl, trivial⟩ (fun _ => rfl) (fun _ => trivial) (fun _ => rfl) ⟨arg rfl, arg rfl, trivial⟩ (fun _ _ _ _ h => h)) rfl (fun _ => ?_)
  refine s_rd (r_geq rfl rfl) rfl ?_
  refine as1 rfl rfl ?_
  refine b_let (f := bv) (t := 4) rfl fun t2 => ?_
  refine l_nil (n_then (ref_ret ?_))
  exact fin1 (.inl rfl) () [0] rfl ⟨rfl, trivial⟩ rfl (rv_tmp rfl)

/-! deliberation/precedent.within -/
noncomputable def precedent_within_m (a__0 : (List ByteArray)) (b_1 : (List ByteArray)) : Option (Bool) :=
  Option.bind (slices_ContainsFunc_string_string_1_m a__0 b_1) fun t2 =>
  some (!t2)

theorem precedent_within_ok {a__0 : (List ByteArray)} {b_1 : (List ByteArray)} {r : Bool} (hm : precedent_within_m a__0 b_1 = some r) :
    FnOk prog 42 [slv rS a__0, slv rS b_1] [] (fun (x : Unit) => [bv r]) (fun (x : Unit) => []) := by
  refine fn_ok (fn := Tryd.f42) (N := 9) (res := fun r x => [bv r]) (Ω1 := fun r x => []) Tryd.func42 rfl rfl hm rfl (fun E hM => ?_)
  unfold precedent_within_m
  refine ref_seq (ref_region ?_)
  refine s_st (s_box (part_at rfl slv_at)) rfl (fun b1 => ?_)
  refine as1 rfl rfl ?_
  refine l_nil (n_then (ref_seq (ref_region ?_)))
  refine mv1 rfl rfl ?_
  refine s_rd (r_mkfn (xs := [.tmp 3]) (vs := [(ptr b1 0)]) ⟨rfl, trivial⟩) rfl ?_
  refine pull fun t2 h_t2 => ?_
  refine s_st (s_callC [0] [true] (fun (_ : Unit) => [oc b1 [slv rS b_1]]) (fun (_ : Unit) => []) (fun (_ : Unit) => bv t2) (args := [.tmp 5, .tmp 6]) (caps := []) Tryd.call56 rfl (slices_ContainsFunc_string_string_1_ok h_t2) ⟨rfl, rfl, trivial⟩ (fun _ => rfl) (fun _ => trivial) (fun _ => rfl) ⟨arg rfl, arg rfl, trivial⟩ (fun _ _ _ _ h => h)) rfl (fun _ => ?_)
  refine s_rd (r_not rfl) rfl ?_
  refine as1 rfl rfl ?_
  refine l_nil (n_then (ref_ret ?_))
  exact fin1 (.inl rfl) () [] rfl trivial rfl (rv_tmp rfl)

/-! slices.IndexFunc[[]deliberation/api.Case,deliberation/api.Case] -/
noncomputable def slices_IndexFunc_api_Case_api_Case_l1 (s_0 : (List T_api_Case)) (s7 : Int) : Option (Sum ((Sum (Int) (Unit))) (Int)) :=
  bif decide (s7 < (s_0.length : Int)) then
    Option.bind (idxM s_0 s7) fun t10 =>
    Option.bind (precedent_Validate_1_m t10) fun t11 =>
    bif t11 then
      some (Sum.inl (Sum.inl s7))
    else
      some (Sum.inr (iadd .i64 s7 1))
  else
    some (Sum.inl (Sum.inr ()))

noncomputable def slices_IndexFunc_api_Case_api_Case_m (s_0 : (List T_api_Case)) : Option (Int) :=
  Option.bind (loopC (slices_IndexFunc_api_Case_api_Case_l1 s_0) 0) (sumK (fun a : Int => some a) fun q13 : Unit =>
    some (-1))

theorem slices_IndexFunc_api_Case_api_Case_ok {s_0 : (List T_api_Case)} {r : Int} (hm : slices_IndexFunc_api_Case_api_Case_m s_0 = some r) :
    FnOk prog 84 [slv rT_api_Case s_0, pv (.func (.func 52) #[] #[])] [] (fun (x : Unit) => [iv .i64 r]) (fun (x : Unit) => []) := by
  refine fn_ok (fn := Tryd.f84) (N := 19) (res := fun r x => [iv .i64 r]) (Ω1 := fun r x => []) Tryd.func84 rfl rfl hm rfl (fun E hM => ?_)
  unfold slices_IndexFunc_api_Case_api_Case_m
  refine ref_seq (ref_region ?_)
  refine as1 rfl rfl ?_
  refine l_nil (n_then (ref_seq (ref_seq (ref_region ?_))))
  refine mv1 rfl rfl ?_
  refine s_rd (r_len Tryd.underlying27 rfl) rfl ?_
  refine mv1 rfl rfl ?_
  refine l_nil (n_then ?_)
  refine ref_loopX (f := (slices_IndexFunc_api_Case_api_Case_l1 s_0)) (Γl := (fun (s7 : Int) (x8 : Unit) => [(0, slv rT_api_Case s_0), (1, pv (.func (.func 52) #[] #[])), (7, iv .i64 (s_0.length : Int)), (8, iv .i64 s7)])) (Ωl := (fun (s7 : Int) (x8 : Unit) => [])) (Γb := (fun (q13 : Unit) (y14 : Unit) => [(1, pv (.func (.func 52) #[] #[]))])) (Ωb := (fun (q13 : Unit) (y14 : Unit) => [])) (kr := (fun a : Int => some a)) 0 () (weak [] ⟨rfl, rfl, rfl, rfl, trivial⟩ trivial) (fun s7 x8 => ?_) (fun q13 y14 => ?_)
  · unfold slices_IndexFunc_api_Case_api_Case_l1
    refine ref_seq (ref_region ?_)
    refine s_rd (r_lss rfl rfl) rfl ?_
    refine l_nil (n_then (ref_seq ?_))
    refine ref_cond rfl (fun hb9 => ?_) (fun hb9 => ?_)
    · refine ref_skip (n_then (ref_seq (ref_block (ref_seq (ref_region ?_)))))
      refine mv1 rfl rfl ?_
      refine as1 rfl rfl ?_
      refine l_nil (n_then (ref_seq (ref_region ?_)))
      refine mv1 rfl rfl ?_
      refine mv1 rfl rfl ?_
      refine mv1 rfl rfl ?_
      refine pull fun t10 h_t10 => ?_
      refine s_rd (r_index h_t10 Tryd.underlying27 el_39 rfl rfl) rfl ?_
      refine s_rd (r_load el_39 rfl) rfl ?_
      refine pull fun t11 h_t11 => ?_
      refine s_st (s_call (ψ := fun (_ : Unit) => bv t11) (args := [.tmp 15]) Tryd.call52 rfl (precedent_Validate_1_ok h_t11) ⟨arg rfl, trivial⟩ (fun _ _ _ _ h => h)) rfl (fun _ => ?_)
      refine l_nil (n_then ?_)
      refine ref_cond rfl (fun hb12 => ?_) (fun hb12 => ?_)
      · refine ref_seq (ref_region ?_)
        refine mv1 rfl rfl ?_
        refine as1 rfl rfl ?_
        refine l_nil (n_then (ref_ret (r_block (r_then ?_))))
        refine retX ?_
        refine r_block (r_then ?_)
        exact fin1 (.inl rfl) () [] rfl trivial rfl (rv_tmp rfl)
      refine ref_skip (n_block (n_then (ref_region ?_)))
      refine s_rd (r_add rfl rfl) rfl ?_
      refine mv1 rfl rfl ?_
      refine l_nil ?_
      exact goX () (weak [] ⟨rfl, rfl, rfl, rfl, trivial⟩ trivial)
    refine ref_exit (x_then ?_)
    exact brkX () (weak [] ⟨rfl, trivial⟩ trivial)
  refine n_then (ref_seq (ref_region ?_))
  refine as1 rfl rfl ?_
  refine l_nil (n_then (ref_ret ?_))
  exact fin1 (.inl rfl) () [] rfl trivial rfl (rv_tmp rfl)

/-! slices.ContainsFunc[[]deliberation/api.Case,deliberation/api.Case] -/
noncomputable def slices_ContainsFunc_api_Case_api_Case_m (s_0 : (List T_api_Case)) : Option (Bool) :=
  Option.bind (slices_IndexFunc_api_Case_api_Case_m s_0) fun t1 =>
  letM (decide (t1 ≥ 0)) fun t2 =>
  some t2

theorem slices_ContainsFunc_api_Case_api_Case_ok {s_0 : (List T_api_Case)} {r : Bool} (hm : slices_ContainsFunc_api_Case_api_Case_m s_0 = some r) :
    FnOk prog 69 [slv rT_api_Case s_0, pv (.func (.func 52) #[] #[])] [] (fun (x : Unit) => [bv r]) (fun (x : Unit) => []) := by
  refine fn_ok (fn := Tryd.f69) (N := 9) (res := fun r x => [bv r]) (Ω1 := fun r x => []) Tryd.func69 rfl rfl hm rfl (fun E hM => ?_)
  unfold slices_ContainsFunc_api_Case_api_Case_m
  refine ref_seq (ref_region ?_)
  refine as1 rfl rfl ?_
  refine l_nil (n_then (ref_seq (ref_region ?_)))
  refine mv1 rfl rfl ?_
  refine mv1 rfl rfl ?_
  refine pull fun t1 h_t1 => ?_
  refine s_st (s_call (ψ := fun (_ : Unit) => iv .i64 t1) (args := [.tmp 5, .tmp 6]) Tryd.call84 rfl (slices_IndexFunc_api_Case_api_Case_ok h_t1) ⟨arg rfl, arg rfl, trivial⟩ (fun _ _ _ _ h => h)) rfl (fun _ => ?_)
  refine s_rd (r_geq rfl rfl) rfl ?_
  refine as1 rfl rfl ?_
  refine b_let (f := bv) (t := 4) rfl fun t2 => ?_
  refine l_nil (n_then (ref_ret ?_))
  exact fin1 (.inl rfl) () [] rfl trivial rfl (rv_tmp rfl)

/-! deliberation/precedent.some -/
noncomputable def precedent_some_m (l_0 : T_api_Library) : Option (Bool) :=
  Option.bind (slices_ContainsFunc_api_Case_api_Case_m l_0.Cases) fun t2 =>
  some t2

theorem precedent_some_ok {l_0 : T_api_Library} {r : Bool} (hm : precedent_some_m l_0 = some r) :
    FnOk prog 51 [ag [slv rS l_0.Sides.i0, slv rS l_0.Sides.i1, slv rT_api_Case l_0.Cases], pv (.func (.func 52) #[] #[])] [] (fun (x : Unit) => [bv r]) (fun (x : Unit) => []) := by
  refine fn_ok (fn := Tryd.f51) (N := 9) (res := fun r x => [bv r]) (Ω1 := fun r x => []) Tryd.func51 rfl rfl hm rfl (fun E hM => ?_)
  unfold precedent_some_m
  refine ref_seq (ref_region ?_)
  refine s_st (s_box (part_agO (ψs := [slv rS l_0.Sides.i0, slv rS l_0.Sides.i1, slv rT_api_Case l_0.Cases]) rfl ⟨.inl slv_at, .inl slv_at, .inl slv_at, trivial⟩)) rfl (fun b1 => ?_)
  refine as1 rfl rfl ?_
  refine l_nil (n_then (ref_seq (ref_region ?_)))
  refine s_rd (r_faddr (fo := 2) Tryd.underlying29 rfl rfl Tryd.sizeOf27 rfl) rfl ?_
  refine s_rd (r_cload Tryd.isAgg27 rfl (j := 0) rfl rfl) rfl ?_
  refine mv1 rfl rfl ?_
  refine pull fun t2 h_t2 => ?_
  refine s_st (s_call (ψ := fun (_ : Unit) => bv t2) (args := [.tmp 6, .tmp 7]) Tryd.call69 rfl (slices_ContainsFunc_api_Case_api_Case_ok h_t2) ⟨arg rfl, arg rfl, trivial⟩ (fun _ _ _ _ h => h)) rfl (fun _ => ?_)
  refine as1 rfl rfl ?_
  refine l_nil (n_then (ref_ret ?_))
  exact fin1 (.inl rfl) () [] rfl trivial rfl (rv_tmp rfl)

/-! slices.IndexFunc[[]deliberation/api.Case,deliberation/api.Case] -/
noncomputable def slices_IndexFunc_api_Case_api_Case_1_l1 (s_0 : (List T_api_Case)) (s7 : Int) : Option (Sum ((Sum (Int) (Unit))) (Int)) :=
  bif decide (s7 < (s_0.length : Int)) then
    Option.bind (idxM s_0 s7) fun t10 =>
    Option.bind (precedent_Validate_2_m t10) fun t11 =>
    bif t11 then
      some (Sum.inl (Sum.inl s7))
    else
      some (Sum.inr (iadd .i64 s7 1))
  else
    some (Sum.inl (Sum.inr ()))

noncomputable def slices_IndexFunc_api_Case_api_Case_1_m (s_0 : (List T_api_Case)) : Option (Int) :=
  Option.bind (loopC (slices_IndexFunc_api_Case_api_Case_1_l1 s_0) 0) (sumK (fun a : Int => some a) fun q13 : Unit =>
    some (-1))

theorem slices_IndexFunc_api_Case_api_Case_1_ok {s_0 : (List T_api_Case)} {r : Int} (hm : slices_IndexFunc_api_Case_api_Case_1_m s_0 = some r) :
    FnOk prog 84 [slv rT_api_Case s_0, pv (.func (.func 55) #[] #[])] [] (fun (x : Unit) => [iv .i64 r]) (fun (x : Unit) => []) := by
  refine fn_ok (fn := Tryd.f84) (N := 19) (res := fun r x => [iv .i64 r]) (Ω1 := fun r x => []) Tryd.func84 rfl rfl hm rfl (fun E hM => ?_)
  unfold slices_IndexFunc_api_Case_api_Case_1_m
  refine ref_seq (ref_region ?_)
  refine as1 rfl rfl ?_
  refine l_nil (n_then (ref_seq (ref_seq (ref_region ?_))))
  refine mv1 rfl rfl ?_
  refine s_rd (r_len Tryd.underlying27 rfl) rfl ?_
  refine mv1 rfl rfl ?_
  refine l_nil (n_then ?_)
  refine ref_loopX (f := (slices_IndexFunc_api_Case_api_Case_1_l1 s_0)) (Γl := (fun (s7 : Int) (x8 : Unit) => [(0, slv rT_api_Case s_0), (1, pv (.func (.func 55) #[] #[])), (7, iv .i64 (s_0.length : Int)), (8, iv .i64 s7)])) (Ωl := (fun (s7 : Int) (x8 : Unit) => [])) (Γb := (fun (q13 : Unit) (y14 : Unit) => [(1, pv (.func (.func 55) #[] #[]))])) (Ωb := (fun (q13 : Unit) (y14 : Unit) => [])) (kr := (fun a : Int => some a)) 0 () (weak [] ⟨rfl, rfl, rfl, rfl, trivial⟩ trivial) (fun s7 x8 => ?_) (fun q13 y14 => ?_)
  · unfold slices_IndexFunc_api_Case_api_Case_1_l1
    refine ref_seq (ref_region ?_)
    refine s_rd (r_lss rfl rfl) rfl ?_
    refine l_nil (n_then (ref_seq ?_))
    refine ref_cond rfl (fun hb9 => ?_) (fun hb9 => ?_)
    · refine ref_skip (n_then (ref_seq (ref_block (ref_seq (ref_region ?_)))))
      refine mv1 rfl rfl ?_
      refine as1 rfl rfl ?_
      refine l_nil (n_then (ref_seq (ref_region ?_)))
      refine mv1 rfl rfl ?_
      refine mv1 rfl rfl ?_
      refine mv1 rfl rfl ?_
      refine pull fun t10 h_t10 => ?_
      refine s_rd (r_index h_t10 Tryd.underlying27 el_39 rfl rfl) rfl ?_
      refine s_rd (r_load el_39 rfl) rfl ?_
      refine pull fun t11 h_t11 => ?_
      refine s_st (s_call (ψ := fun (_ : Unit) => bv t11) (args := [.tmp 15]) Tryd.call55 rfl (precedent_Validate_2_ok h_t11) ⟨arg rfl, trivial⟩ (fun _ _ _ _ h => h)) rfl (fun _ => ?_)
      refine l_nil (n_then ?_)
      refine ref_cond rfl (fun hb12 => ?_) (fun hb12 => ?_)
      · refine ref_seq (ref_region ?_)
        refine mv1 rfl rfl ?_
        refine as1 rfl rfl ?_
        refine l_nil (n_then (ref_ret (r_block (r_then ?_))))
        refine retX ?_
        refine r_block (r_then ?_)
        exact fin1 (.inl rfl) () [] rfl trivial rfl (rv_tmp rfl)
      refine ref_skip (n_block (n_then (ref_region ?_)))
      refine s_rd (r_add rfl rfl) rfl ?_
      refine mv1 rfl rfl ?_
      refine l_nil ?_
      exact goX () (weak [] ⟨rfl, rfl, rfl, rfl, trivial⟩ trivial)
    refine ref_exit (x_then ?_)
    exact brkX () (weak [] ⟨rfl, trivial⟩ trivial)
  refine n_then (ref_seq (ref_region ?_))
  refine as1 rfl rfl ?_
  refine l_nil (n_then (ref_ret ?_))
  exact fin1 (.inl rfl) () [] rfl trivial rfl (rv_tmp rfl)

/-! slices.ContainsFunc[[]deliberation/api.Case,deliberation/api.Case] -/
noncomputable def slices_ContainsFunc_api_Case_api_Case_1_m (s_0 : (List T_api_Case)) : Option (Bool) :=
  Option.bind (slices_IndexFunc_api_Case_api_Case_1_m s_0) fun t1 =>
  letM (decide (t1 ≥ 0)) fun t2 =>
  some t2

theorem slices_ContainsFunc_api_Case_api_Case_1_ok {s_0 : (List T_api_Case)} {r : Bool} (hm : slices_ContainsFunc_api_Case_api_Case_1_m s_0 = some r) :
    FnOk prog 69 [slv rT_api_Case s_0, pv (.func (.func 55) #[] #[])] [] (fun (x : Unit) => [bv r]) (fun (x : Unit) => []) := by
  refine fn_ok (fn := Tryd.f69) (N := 9) (res := fun r x => [bv r]) (Ω1 := fun r x => []) Tryd.func69 rfl rfl hm rfl (fun E hM => ?_)
  unfold slices_ContainsFunc_api_Case_api_Case_1_m
  refine ref_seq (ref_region ?_)
  refine as1 rfl rfl ?_
  refine l_nil (n_then (ref_seq (ref_region ?_)))
  refine mv1 rfl rfl ?_
  refine mv1 rfl rfl ?_
  refine pull fun t1 h_t1 => ?_
  refine s_st (s_call (ψ := fun (_ : Unit) => iv .i64 t1) (args := [.tmp 5, .tmp 6]) Tryd.call84 rfl (slices_IndexFunc_api_Case_api_Case_1_ok h_t1) ⟨arg rfl, arg rfl, trivial⟩ (fun _ _ _ _ h => h)) rfl (fun _ => ?_)
  refine s_rd (r_geq rfl rfl) rfl ?_
  refine as1 rfl rfl ?_
  refine b_let (f := bv) (t := 4) rfl fun t2 => ?_
  refine l_nil (n_then (ref_ret ?_))
  exact fin1 (.inl rfl) () [] rfl trivial rfl (rv_tmp rfl)

/-! deliberation/precedent.some -/
noncomputable def precedent_some_1_m (l_0 : T_api_Library) : Option (Bool) :=
  Option.bind (slices_ContainsFunc_api_Case_api_Case_1_m l_0.Cases) fun t2 =>
  some t2

theorem precedent_some_1_ok {l_0 : T_api_Library} {r : Bool} (hm : precedent_some_1_m l_0 = some r) :
    FnOk prog 51 [ag [slv rS l_0.Sides.i0, slv rS l_0.Sides.i1, slv rT_api_Case l_0.Cases], pv (.func (.func 55) #[] #[])] [] (fun (x : Unit) => [bv r]) (fun (x : Unit) => []) := by
  refine fn_ok (fn := Tryd.f51) (N := 9) (res := fun r x => [bv r]) (Ω1 := fun r x => []) Tryd.func51 rfl rfl hm rfl (fun E hM => ?_)
  unfold precedent_some_1_m
  refine ref_seq (ref_region ?_)
  refine s_st (s_box (part_agO (ψs := [slv rS l_0.Sides.i0, slv rS l_0.Sides.i1, slv rT_api_Case l_0.Cases]) rfl ⟨.inl slv_at, .inl slv_at, .inl slv_at, trivial⟩)) rfl (fun b1 => ?_)
  refine as1 rfl rfl ?_
  refine l_nil (n_then (ref_seq (ref_region ?_)))
  refine s_rd (r_faddr (fo := 2) Tryd.underlying29 rfl rfl Tryd.sizeOf27 rfl) rfl ?_
  refine s_rd (r_cload Tryd.isAgg27 rfl (j := 0) rfl rfl) rfl ?_
  refine mv1 rfl rfl ?_
  refine pull fun t2 h_t2 => ?_
  refine s_st (s_call (ψ := fun (_ : Unit) => bv t2) (args := [.tmp 6, .tmp 7]) Tryd.call69 rfl (slices_ContainsFunc_api_Case_api_Case_1_ok h_t2) ⟨arg rfl, arg rfl, trivial⟩ (fun _ _ _ _ h => h)) rfl (fun _ => ?_)
  refine as1 rfl rfl ?_
  refine l_nil (n_then (ref_ret ?_))
  exact fin1 (.inl rfl) () [] rfl trivial rfl (rv_tmp rfl)

/-! deliberation/precedent.Validate$3 -/
noncomputable def precedent_Validate_3_m (s_0 : ByteArray) (p_1 : (List ByteArray)) : Option (Bool) :=
  Option.bind (slices_Contains_string_string_m p_1 s_0) fun t1 =>
  some t1

theorem precedent_Validate_3_ok {s_0 : ByteArray} {p_1 : (List ByteArray)} {b_1 : Nat} {r : Bool} (hm : precedent_Validate_3_m s_0 p_1 = some r) :
    FnOk prog 57 [sv s_0, pv (ptr b_1 0)] [oc b_1 [slv rS p_1]] (fun (x : Unit) => [bv r]) (fun (x : Unit) => [oc b_1 [slv rS p_1]]) := by
  refine fn_ok (fn := Tryd.f57) (N := 7) (res := fun r x => [bv r]) (Ω1 := fun r x => [oc b_1 [slv rS p_1]]) Tryd.func57 rfl rfl hm rfl (fun E hM => ?_)
  unfold precedent_Validate_3_m
  refine ref_seq (ref_region ?_)
  refine as1 rfl rfl ?_
  refine l_nil (n_then (ref_seq (ref_region ?_)))
  refine s_rd (r_cload Tryd.isAgg25 rfl (j := 0) rfl rfl) rfl ?_
  refine mv1 rfl rfl ?_
  refine pull fun t1 h_t1 => ?_
  refine s_st (s_call (ψ := fun (_ : Unit) => bv t1) (args := [.tmp 4, .tmp 5]) Tryd.call35 rfl (slices_Contains_string_string_ok h_t1) ⟨arg rfl, arg rfl, trivial⟩ (fun _ _ _ _ h => h)) rfl (fun _ => ?_)
  refine as1 rfl rfl ?_
  refine l_nil (n_then (ref_ret ?_))
  exact fin1 (.inl rfl) () [0] rfl ⟨rfl, trivial⟩ rfl (rv_tmp rfl)

/-! slices.IndexFunc[[]string,string] -/
noncomputable def slices_IndexFunc_string_string_3_l1 (s_0 : (List ByteArray)) (e_0 : (List ByteArray)) (s7 : Int) : Option (Sum ((Sum (Int) (Unit))) (Int)) :=
  bif decide (s7 < (s_0.length : Int)) then
    Option.bind (idxM s_0 s7) fun t10 =>
    Option.bind (precedent_Validate_3_m t10 e_0) fun t11 =>
    bif t11 then
      some (Sum.inl (Sum.inl s7))
    else
      some (Sum.inr (iadd .i64 s7 1))
  else
    some (Sum.inl (Sum.inr ()))

noncomputable def slices_IndexFunc_string_string_3_m (s_0 : (List ByteArray)) (e_0 : (List ByteArray)) : Option (Int) :=
  Option.bind (loopC (slices_IndexFunc_string_string_3_l1 s_0 e_0) 0) (sumK (fun a : Int => some a) fun q13 : Unit =>
    some (-1))

theorem slices_IndexFunc_string_string_3_ok {s_0 : (List ByteArray)} {e_0 : (List ByteArray)} {be_0 : Nat} {r : Int} (hm : slices_IndexFunc_string_string_3_m s_0 e_0 = some r) :
    FnOk prog 61 [slv rS s_0, pv (.func (.func 57) #[] #[(ptr be_0 0)])] [oc be_0 [slv rS e_0]] (fun (x : Unit) => [iv .i64 r]) (fun (x : Unit) => [oc be_0 [slv rS e_0]]) := by
  refine fn_ok (fn := Tryd.f61) (N := 19) (res := fun r x => [iv .i64 r]) (Ω1 := fun r x => [oc be_0 [slv rS e_0]]) Tryd.func61 rfl rfl hm rfl (fun E hM => ?_)
  unfold slices_IndexFunc_string_string_3_m
  refine ref_seq (ref_region ?_)
  refine as1 rfl rfl ?_
  refine l_nil (n_then (ref_seq (ref_seq (ref_region ?_))))
  refine mv1 rfl rfl ?_
  refine s_rd (r_len Tryd.underlying25 rfl) rfl ?_
  refine mv1 rfl rfl ?_
  refine l_nil (n_then ?_)
  refine ref_loopX (f := (slices_IndexFunc_string_string_3_l1 s_0 e_0)) (Γl := (fun (s7 : Int) (x8 : Unit) => [(0, slv rS s_0), (1, pv (.func (.func 57) #[] #[(ptr be_0 0)])), (7, iv .i64 (s_0.length : Int)), (8, iv .i64 s7)])) (Ωl := (fun (s7 : Int) (x8 : Unit) => [oc be_0 [slv rS e_0]])) (Γb := (fun (q13 : Unit) (y14 : Unit) => [(1, pv (.func (.func 57) #[] #[(ptr be_0 0)]))])) (Ωb := (fun (q13 : Unit) (y14 : Unit) => [oc be_0 [slv rS e_0]])) (kr := (fun a : Int => some a)) 0 () (weak [0] ⟨rfl, rfl, rfl, rfl, trivial⟩ ⟨rfl, trivial⟩) (fun s7 x8 => ?_) (fun q13 y14 => ?_)
  · unfold slices_IndexFunc_string_string_3_l1
    refine ref_seq (ref_region ?_)
    refine s_rd (r_lss rfl rfl) rfl ?_
    refine l_nil (n_then (ref_seq ?_))
    refine ref_cond rfl (fun hb9 => ?_) (fun hb9 => ?_)
    · refine ref_skip (n_then (ref_seq (ref_block (ref_seq (ref_region ?_)))))
      refine mv1 rfl rfl ?_
      refine as1 rfl rfl ?_
      refine l_nil (n_then (ref_seq (ref_region ?_)))
      refine mv1 rfl rfl ?_
      refine mv1 rfl rfl ?_
      refine mv1 rfl rfl ?_
      refine pull fun t10 h_t10 => ?_
      refine s_rd (r_index h_t10 Tryd.underlying25 el_9 rfl rfl) rfl ?_
      refine s_rd (r_load el_9 rfl) rfl ?_
      refine pull fun t11 h_t11 => ?_
      refine s_st (s_callC [0] [true] (fun (_ : Unit) => [oc be_0 [slv rS e_0]]) (fun (_ : Unit) => []) (fun (_ : Unit) => bv t11) (args := [.tmp 15]) (caps := [(ptr be_0 0)]) Tryd.call57 rfl (precedent_Validate_3_ok h_t11) ⟨rfl, rfl, trivial⟩ (fun _ => rfl) (fun _ => trivial) (fun _ => rfl) ⟨arg rfl, arg rfl, trivial⟩ (fun _ _ _ _ h => h)) rfl (fun _ => ?_)
      refine l_nil (n_then ?_)
      refine ref_cond rfl (fun hb12 => ?_) (fun hb12 => ?_)
      · refine ref_seq (ref_region ?_)
        refine mv1 rfl rfl ?_
        refine as1 rfl rfl ?_
        refine l_nil (n_then (ref_ret (r_block (r_then ?_))))
        refine retX ?_
        refine r_block (r_then ?_)
        exact fin1 (.inl rfl) () [0] rfl ⟨rfl, trivial⟩ rfl (rv_tmp rfl)
      refine ref_skip (n_block (n_then (ref_region ?_)))
      refine s_rd (r_add rfl rfl) rfl ?_
      refine mv1 rfl rfl ?_
      refine l_nil ?_
      exact goX () (weak [0] ⟨rfl, rfl, rfl, rfl, trivial⟩ ⟨rfl, trivial⟩)
    refine ref_exit (x_then ?_)
    exact brkX () (weak [0] ⟨rfl, trivial⟩ ⟨rfl, trivial⟩)
  refine n_then (ref_seq (ref_region ?_))
  refine as1 rfl rfl ?_
  refine l_nil (n_then (ref_ret ?_))
  exact fin1 (.inl rfl) () [0] rfl ⟨rfl, trivial⟩ rfl (rv_tmp rfl)

/-! slices.ContainsFunc[[]string,string] -/
noncomputable def slices_ContainsFunc_string_string_2_m (s_0 : (List ByteArray)) (e_0 : (List ByteArray)) : Option (Bool) :=
  Option.bind (slices_IndexFunc_string_string_3_m s_0 e_0) fun t1 =>
  letM (decide (t1 ≥ 0)) fun t2 =>
  some t2

theorem slices_ContainsFunc_string_string_2_ok {s_0 : (List ByteArray)} {e_0 : (List ByteArray)} {be_0 : Nat} {r : Bool} (hm : slices_ContainsFunc_string_string_2_m s_0 e_0 = some r) :
    FnOk prog 56 [slv rS s_0, pv (.func (.func 57) #[] #[(ptr be_0 0)])] [oc be_0 [slv rS e_0]] (fun (x : Unit) => [bv r]) (fun (x : Unit) => [oc be_0 [slv rS e_0]]) := by
  refine fn_ok (fn := Tryd.f56) (N := 9) (res := fun r x => [bv r]) (Ω1 := fun r x => [oc be_0 [slv rS e_0]]) Tryd.func56 rfl rfl hm rfl (fun E hM => ?_)
  unfold slices_ContainsFunc_string_string_2_m
  refine ref_seq (ref_region ?_)
  refine as1 rfl rfl ?_
  refine l_nil (n_then (ref_seq (ref_region ?_)))
  refine mv1 rfl rfl ?_
  refine mv1 rfl rfl ?_
  refine pull fun t1 h_t1 => ?_
  refine s_st (s_callC [0] [true] (fun (_ : Unit) => [oc be_0 [slv rS e_0]]) (fun (_ : Unit) => []) (fun (_ : Unit) => iv .i64 t1) (args := [.tmp 5, .tmp 6]) (caps := []) Tryd.call61 rfl (slices_IndexFunc_string_string_3_ok h_t1) ⟨rfl, rfl, trivial⟩ (fun _ => rfl) (fun _ => trivial) (fun _ => rfl) ⟨arg rfl, arg rfl, trivial⟩ (fun _ _ _ _ h => h)) rfl (fun _ => ?_)
  refine s_rd (r_geq rfl rfl) rfl ?_
  refine as1 rfl rfl ?_
  refine b_let (f := bv) (t := 4) rfl fun t2 => ?_
  refine l_nil (n_then (ref_ret ?_))
  exact fin1 (.inl rfl) () [0] rfl ⟨rfl, trivial⟩ rfl (rv_tmp rfl)

/-! slices.IndexFunc[[]deliberation/api.Case,deliberation/api.Case] -/
noncomputable def slices_IndexFunc_api_Case_api_Case_2_l1 (s_0 : (List T_api_Case)) (s7 : Int) : Option (Sum ((Sum (Int) (Unit))) (Int)) :=
  bif decide (s7 < (s_0.length : Int)) then
    Option.bind (idxM s_0 s7) fun t10 =>
    Option.bind (precedent_Validate_4_m t10) fun t11 =>
    bif t11 then
      some (Sum.inl (Sum.inl s7))
    else
      some (Sum.inr (iadd .i64 s7 1))
  else
    some (Sum.inl (Sum.inr ()))

noncomputable def slices_IndexFunc_api_Case_api_Case_2_m (s_0 : (List T_api_Case)) : Option (Int) :=
  Option.bind (loopC (slices_IndexFunc_api_Case_api_Case_2_l1 s_0) 0) (sumK (fun a : Int => some a) fun q13 : Unit =>
    some (-1))

theorem slices_IndexFunc_api_Case_api_Case_2_ok {s_0 : (List T_api_Case)} {r : Int} (hm : slices_IndexFunc_api_Case_api_Case_2_m s_0 = some r) :
    FnOk prog 84 [slv rT_api_Case s_0, pv (.func (.func 58) #[] #[])] [] (fun (x : Unit) => [iv .i64 r]) (fun (x : Unit) => []) := by
  refine fn_ok (fn := Tryd.f84) (N := 19) (res := fun r x => [iv .i64 r]) (Ω1 := fun r x => []) Tryd.func84 rfl rfl hm rfl (fun E hM => ?_)
  unfold slices_IndexFunc_api_Case_api_Case_2_m
  refine ref_seq (ref_region ?_)
  refine as1 rfl rfl ?_
  refine l_nil (n_then (ref_seq (ref_seq (ref_region ?_))))
  refine mv1 rfl rfl ?_
  refine s_rd (r_len Tryd.underlying27 rfl) rfl ?_
  refine mv1 rfl rfl ?_
  refine l_nil (n_then ?_)
  refine ref_loopX (f := (slices_IndexFunc_api_Case_api_Case_2_l1 s_0)) (Γl := (fun (s7 : Int) (x8 : Unit) => [(0, slv rT_api_Case s_0), (1, pv (.func (.func 58) #[] #[])), (7, iv .i64 (s_0.length : Int)), (8, iv .i64 s7)])) (Ωl := (fun (s7 : Int) (x8 : Unit) => [])) (Γb := (fun (q13 : Unit) (y14 : Unit) => [(1, pv (.func (.func 58) #[] #[]))])) (Ωb := (fun (q13 : Unit) (y14 : Unit) => [])) (kr := (fun a : Int => some a)) 0 () (weak [] ⟨rfl, rfl, rfl, rfl, trivial⟩ trivial) (fun s7 x8 => ?_) (fun q13 y14 => ?_)
  · unfold slices_IndexFunc_api_Case_api_Case_2_l1
    refine ref_seq (ref_region ?_)
    refine s_rd (r_lss rfl rfl) rfl ?_
    refine l_nil (n_then (ref_seq ?_))
    refine ref_cond rfl (fun hb9 => ?_) (fun hb9 => ?_)
    · refine ref_skip (n_then (ref_seq (ref_block (ref_seq (ref_region ?_)))))
      refine mv1 rfl rfl ?_
      refine as1 rfl rfl ?_
      refine l_nil (n_then (ref_seq (ref_region ?_)))
      refine mv1 rfl rfl ?_
      refine mv1 rfl rfl ?_
      refine mv1 rfl rfl ?_
      refine pull fun t10 h_t10 => ?_
      refine s_rd (r_index h_t10 Tryd.underlying27 el_39 rfl rfl) rfl ?_
      refine s_rd (r_load el_39 rfl) rfl ?_
      refine pull fun t11 h_t11 => ?_
      refine s_st (s_call (ψ := fun (_ : Unit) => bv t11) (args := [.tmp 15]) Tryd.call58 rfl (precedent_Validate_4_ok h_t11) ⟨arg rfl, trivial⟩ (fun _ _ _ _ h => h)) rfl (fun _ => ?_)
      refine l_nil (n_then ?_)
      refine ref_cond rfl (fun hb12 => ?_) (fun hb12 => ?_)
      · refine ref_seq (ref_region ?_)
        refine mv1 rfl rfl ?_
        refine as1 rfl rfl ?_
        refine l_nil (n_then (ref_ret (r_block (r_then ?_))))
        refine retX ?_
        refine r_block (r_then ?_)
        exact fin1 (.inl rfl) () [] rfl trivial rfl (rv_tmp rfl)
      refine ref_skip (n_block (n_then (ref_region ?_)))
      refine s_rd (r_add rfl rfl) rfl ?_
      refine mv1 rfl rfl ?_
      refine l_nil ?_
      exact goX () (weak [] ⟨rfl, rfl, rfl, rfl, trivial⟩ trivial)
    refine ref_exit (x_then ?_)
    exact brkX () (weak [] ⟨rfl, trivial⟩ trivial)
  refine n_then (ref_seq (ref_region ?_))
  refine as1 rfl rfl ?_
  refine l_nil (n_then (ref_ret ?_))
  exact fin1 (.inl rfl) () [] rfl trivial rfl (rv_tmp rfl)

/-! slices.ContainsFunc[[]deliberation/api.Case,deliberation/api.Case] -/
noncomputable def slices_ContainsFunc_api_Case_api_Case_2_m (s_0 : (List T_api_Case)) : Option (Bool) :=
  Option.bind (slices_IndexFunc_api_Case_api_Case_2_m s_0) fun t1 =>
  letM (decide (t1 ≥ 0)) fun t2 =>
  some t2

theorem slices_ContainsFunc_api_Case_api_Case_2_ok {s_0 : (List T_api_Case)} {r : Bool} (hm : slices_ContainsFunc_api_Case_api_Case_2_m s_0 = some r) :
    FnOk prog 69 [slv rT_api_Case s_0, pv (.func (.func 58) #[] #[])] [] (fun (x : Unit) => [bv r]) (fun (x : Unit) => []) := by
  refine fn_ok (fn := Tryd.f69) (N := 9) (res := fun r x => [bv r]) (Ω1 := fun r x => []) Tryd.func69 rfl rfl hm rfl (fun E hM => ?_)
  unfold slices_ContainsFunc_api_Case_api_Case_2_m
  refine ref_seq (ref_region ?_)
  refine as1 rfl rfl ?_
  refine l_nil (n_then (ref_seq (ref_region ?_)))
  refine mv1 rfl rfl ?_
  refine mv1 rfl rfl ?_
  refine pull fun t1 h_t1 => ?_
  refine s_st (s_call (ψ := fun (_ : Unit) => iv .i64 t1) (args := [.tmp 5, .tmp 6]) Tryd.call84 rfl (slices_IndexFunc_api_Case_api_Case_2_ok h_t1) ⟨arg rfl, arg rfl, trivial⟩ (fun _ _ _ _ h => h)) rfl (fun _ => ?_)
  refine s_rd (r_geq rfl rfl) rfl ?_
  refine as1 rfl rfl ?_
  refine b_let (f := bv) (t := 4) rfl fun t2 => ?_
  refine l_nil (n_then (ref_ret ?_))
  exact fin1 (.inl rfl) () [] rfl trivial rfl (rv_tmp rfl)

/-! deliberation/precedent.some -/
noncomputable def precedent_some_2_m (l_0 : T_api_Library) : Option (Bool) :=
  Option.bind (slices_ContainsFunc_api_Case_api_Case_2_m l_0.Cases) fun t2 =>
  some t2

theorem precedent_some_2_ok {l_0 : T_api_Library} {r : Bool} (hm : precedent_some_2_m l_0 = some r) :
    FnOk prog 51 [ag [slv rS l_0.Sides.i0, slv rS l_0.Sides.i1, slv rT_api_Case l_0.Cases], pv (.func (.func 58) #[] #[])] [] (fun (x : Unit) => [bv r]) (fun (x : Unit) => []) := by
  refine fn_ok (fn := Tryd.f51) (N := 9) (res := fun r x => [bv r]) (Ω1 := fun r x => []) Tryd.func51 rfl rfl hm rfl (fun E hM => ?_)
  unfold precedent_some_2_m
  refine ref_seq (ref_region ?_)
  refine s_st (s_box (part_agO (ψs := [slv rS l_0.Sides.i0, slv rS l_0.Sides.i1, slv rT_api_Case l_0.Cases]) rfl ⟨.inl slv_at, .inl slv_at, .inl slv_at, trivial⟩)) rfl (fun b1 => ?_)
  refine as1 rfl rfl ?_
  refine l_nil (n_then (ref_seq (ref_region ?_)))
  refine s_rd (r_faddr (fo := 2) Tryd.underlying29 rfl rfl Tryd.sizeOf27 rfl) rfl ?_
  refine s_rd (r_cload Tryd.isAgg27 rfl (j := 0) rfl rfl) rfl ?_
  refine mv1 rfl rfl ?_
  refine pull fun t2 h_t2 => ?_
  refine s_st (s_call (ψ := fun (_ : Unit) => bv t2) (args := [.tmp 6, .tmp 7]) Tryd.call69 rfl (slices_ContainsFunc_api_Case_api_Case_2_ok h_t2) ⟨arg rfl, arg rfl, trivial⟩ (fun _ _ _ _ h => h)) rfl (fun _ => ?_)
  refine as1 rfl rfl ?_
  refine l_nil (n_then (ref_ret ?_))
  exact fin1 (.inl rfl) () [] rfl trivial rfl (rv_tmp rfl)

/-! deliberation/precedent.Validate$5 -/
noncomputable def precedent_Validate_5_m (c_0 : T_api_Case) (p_1 : T_api_Library) : Option (Bool) :=
  Option.bind (precedent_factors_m p_1) fun t2 =>
  Option.bind (precedent_within_m c_0.Facts t2) fun t4 =>
  bif !t4 then
    some true
  else
    bif (c_0.Reason.length : Int) == 0 then
      some true
    else
      Option.bind (precedent_own_m p_1 c_0.Facts c_0.Winner) fun t5 =>
      Option.bind (precedent_within_m c_0.Reason t5) fun t7 =>
      some (!t7)

theorem precedent_Validate_5_ok {c_0 : T_api_Case} {p_1 : T_api_Library} {b_1 : Nat} {r : Bool} (hm : precedent_Validate_5_m c_0 p_1 = some r) :
    FnOk prog 59 [ag [sv c_0.Name, slv rS c_0.Facts, iv .i64 c_0.Winner, slv rS c_0.Reason], pv (ptr b_1 0)] [oc b_1 [slv rS p_1.Sides.i0, slv rS p_1.Sides.i1, slv rT_api_Case p_1.Cases]] (fun (x : Unit) => [bv r]) (fun (x : Unit) => [oc b_1 [slv rS p_1.Sides.i0, slv rS p_1.Sides.i1, slv rT_api_Case p_1.Cases]]) := by
  refine fn_ok (fn := Tryd.f59) (N := 28) (res := fun r x => [bv r]) (Ω1 := fun r x => [oc b_1 [slv rS p_1.Sides.i0, slv rS p_1.Sides.i1, slv rT_api_Case p_1.Cases]]) Tryd.func59 rfl rfl hm rfl (fun E hM => ?_)
  unfold precedent_Validate_5_m
  refine ref_seq (ref_region ?_)
  refine s_st (s_box (part_agO (ψs := [sv c_0.Name, slv rS c_0.Facts, iv .i64 c_0.Winner, slv rS c_0.Reason]) rfl ⟨.inl sv_at, .inl slv_at, .inl iv_at, .inl slv_at, trivial⟩)) rfl (fun b1 => ?_)
  refine as1 rfl rfl ?_
  refine l_nil (n_then (ref_seq ?_))
  refine ref_draw [0, 1, 2, 5, 6, 7, 8, 9, 10, 11, 12, 13, 14, 15, 16, 17, 18, 19, 22, 23] rfl (by kernel_rfl) (fun hok => ?_)
  refine a_rd (i := 0) hok rfl (by kernel_rfl) rfl (r_faddr (fo := 1) Tryd.underlying39 rfl rfl Tryd.sizeOf25 rfl) rfl ?_
  refine a_rd (i := 1) hok rfl (by kernel_rfl) rfl (r_cload Tryd.isAgg25 rfl (j := 1) rfl rfl) rfl ?_
  refine a_rd (i := 2) hok rfl (by kernel_rfl) rfl (r_cloadS Tryd.isAgg29 Tryd.sizeOf29 rfl (j := 0) rfl rfl rfl) rfl ?_
  refine pull fun t2 h_t2 => ?_
  refine a_next hok 3 [] (by kernel_rfl) ?_ trivial
  refine a_st (i := 3) hok rfl rfl (s_call (ψ := fun (x3 : (Value × List Nat)) => pv x3.1) (args := [.tmp 6]) Tryd.call60 rfl (precedent_factors_ok h_t2) ⟨arg rfl, trivial⟩ (fun _ _ _ _ h => h)) (by intro _ h; cases h; rfl) (fun _ => ⟨trivial, ⟨⟨⟨rfl, rfl⟩, trivial⟩, ⟨trivial, trivial⟩⟩⟩) (fun x3 => ?_)
  refine pull fun t4 h_t4 => ?_
  refine a_next hok 4 [] (by kernel_rfl) ?_ trivial
  refine a_st (i := 4) hok rfl rfl (s_callB (ψ := fun (_ : Unit) => bv t4) (args := [.tmp 5, .tmp 7]) Tryd.call42 rfl (precedent_within_ok h_t4) ⟨argB rfl, argO rfl (j := 2) rfl, trivial⟩ (fun _ _ _ _ _ h => h)) (by intro _ h; cases h; rfl) (fun _ => ⟨⟨⟨rfl, rfl⟩, trivial⟩, ⟨trivial, ⟨trivial, trivial⟩⟩⟩) (fun _ => ?_)
  refine a_rd (i := 5) hok rfl (by kernel_rfl) rfl (r_not rfl) rfl ?_
  refine a_rd (i := 6) hok rfl (by kernel_rfl) rfl (r_move rfl) rfl ?_
  refine b_split (t := 10) rfl (fun _ => ?_) (fun _ => ?_)
  · refine a_off (i := 7) hok rfl rfl rfl rfl rfl (by kernel_rfl) rfl rfl ?_
    refine a_off (i := 8) hok rfl rfl rfl rfl rfl (by kernel_rfl) rfl rfl ?_
    refine a_off (i := 9) hok rfl rfl rfl rfl rfl (by kernel_rfl) rfl rfl ?_
    refine a_off (i := 10) hok rfl rfl rfl rfl rfl (by kernel_rfl) rfl rfl ?_
    refine a_rd (i := 11) hok rfl (by kernel_rfl) rfl (r_pickT rfl rfl) rfl ?_
    refine a_rd (i := 12) hok rfl (by kernel_rfl) rfl (r_move rfl) rfl ?_
    refine a_off (i := 13) hok rfl rfl rfl rfl rfl (by kernel_rfl) rfl rfl ?_
    refine a_off (i := 14) hok rfl rfl rfl rfl rfl (by kernel_rfl) rfl rfl ?_
    refine a_off (i := 15) hok rfl rfl rfl rfl rfl (by kernel_rfl) rfl rfl ?_
    refine a_off (i := 16) hok rfl rfl rfl rfl rfl (by kernel_rfl) rfl rfl ?_
    refine a_off (i := 17) hok rfl rfl rfl rfl rfl (by kernel_rfl) rfl rfl ?_
    refine a_off (i := 18) hok rfl rfl rfl rfl rfl (by kernel_rfl) rfl rfl ?_
    refine a_off (i := 19) hok rfl rfl rfl rfl rfl (by kernel_rfl) rfl rfl ?_
    refine a_next hok 20 [] (by kernel_rfl) ?_ trivial
    refine a_stOff (i := 20) hok rfl rfl rfl rfl rfl rfl (by intro _ h; cases h; rfl) ⟨trivial, ⟨trivial, ⟨trivial, ⟨trivial, ⟨trivial, ⟨trivial, ⟨trivial, ⟨trivial, ⟨trivial, ⟨trivial, ⟨trivial, ⟨trivial, ⟨trivial, ⟨trivial, ⟨trivial, ⟨⟨⟨rfl, rfl⟩, trivial⟩, ⟨⟨⟨rfl, rfl⟩, trivial⟩, ⟨trivial, trivial⟩⟩⟩⟩⟩⟩⟩⟩⟩⟩⟩⟩⟩⟩⟩⟩⟩⟩ ?_
    refine a_next hok 21 [] (by kernel_rfl) ?_ trivial
    refine a_stOff (i := 21) hok rfl rfl rfl rfl rfl rfl (by intro _ h; cases h; rfl) ⟨trivial, ⟨trivial, ⟨trivial, ⟨trivial, ⟨trivial, ⟨trivial, ⟨trivial, ⟨trivial, ⟨trivial, ⟨trivial, ⟨trivial, ⟨trivial, ⟨trivial, ⟨trivial, ⟨trivial, ⟨⟨⟨rfl, rfl⟩, trivial⟩, ⟨⟨⟨rfl, rfl⟩, trivial⟩, ⟨trivial, trivial⟩⟩⟩⟩⟩⟩⟩⟩⟩⟩⟩⟩⟩⟩⟩⟩⟩⟩ ?_
    refine a_off (i := 22) hok rfl rfl rfl rfl rfl (by kernel_rfl) rfl rfl ?_
    refine a_rd (i := 23) hok rfl (by kernel_rfl) rfl (r_pickT rfl rfl) rfl ?_
    refine a_next hok 24 [] (by kernel_rfl) ?_ trivial
    refine a_st (i := 24) hok rfl rfl (St.ofRd (r_assign rfl)) (by intro _ h; cases h; rfl) (fun _ => ⟨trivial, ⟨trivial, ⟨trivial, ⟨trivial, ⟨trivial, ⟨trivial, ⟨trivial, ⟨trivial, ⟨trivial, ⟨trivial, ⟨trivial, ⟨trivial, ⟨trivial, ⟨trivial, ⟨trivial, ⟨trivial, ⟨trivial, ⟨trivial, ⟨trivial, ⟨trivial, trivial⟩⟩⟩⟩⟩⟩⟩⟩⟩⟩⟩⟩⟩⟩⟩⟩⟩⟩⟩⟩) (fun _ => ?_)
    refine a_fin hok (by kernel_rfl) ?_
    refine b_of (nrm [oc b_1 [slv rS p_1.Sides.i0, slv rS p_1.Sides.i1, slv rT_api_Case p_1.Cases], oc b1 [sv c_0.Name, slv rS c_0.Facts, iv .i64 c_0.Winner, slv rS c_0.Reason], oa rS x3.1 x3.2 t2] rfl) ?_
    refine n_then (ref_ret ?_)
    exact fin1 (.inl rfl) () [0] rfl ⟨rfl, trivial⟩ rfl (rv_tmp rfl)
  refine a_rdOn (i := 7) hok rfl rfl rfl rfl (by kernel_rfl) rfl (r_faddr (fo := 3) Tryd.underlying39 rfl rfl Tryd.sizeOf25 rfl) rfl ?_
  refine a_rdOn (i := 8) hok rfl rfl rfl rfl (by kernel_rfl) rfl (r_cload Tryd.isAgg25 rfl (j := 1) rfl rfl) rfl ?_
  refine a_rdOn (i := 9) hok rfl rfl rfl rfl (by kernel_rfl) rfl (r_len Tryd.underlying25 rfl) rfl ?_
  refine a_rdOn (i := 10) hok rfl rfl rfl rfl (by kernel_rfl) rfl (r_eql rfl rfl) rfl ?_
  refine a_rd (i := 11) hok rfl (by kernel_rfl) rfl (r_pickF rfl rfl) rfl ?_
  refine a_rd (i := 12) hok rfl (by kernel_rfl) rfl (r_move rfl) rfl ?_
  refine b_split (t := 16) rfl (fun _ => ?_) (fun _ => ?_)
  · refine a_off (i := 13) hok rfl rfl rfl rfl rfl (by kernel_rfl) rfl rfl ?_
    refine a_off (i := 14) hok rfl rfl rfl rfl rfl (by kernel_rfl) rfl rfl ?_
    refine a_off (i := 15) hok rfl rfl rfl rfl rfl (by kernel_rfl) rfl rfl ?_
    refine a_off (i := 16) hok rfl rfl rfl rfl rfl (by kernel_rfl) rfl rfl ?_
    refine a_off (i := 17) hok rfl rfl rfl rfl rfl (by kernel_rfl) rfl rfl ?_
    refine a_off (i := 18) hok rfl rfl rfl rfl rfl (by kernel_rfl) rfl rfl ?_
    refine a_off (i := 19) hok rfl rfl rfl rfl rfl (by kernel_rfl) rfl rfl ?_
    refine a_next hok 20 [] (by kernel_rfl) ?_ trivial
    refine a_stOff (i := 20) hok rfl rfl rfl rfl rfl rfl (by intro _ h; cases h; rfl) ⟨trivial, ⟨trivial, ⟨trivial, ⟨trivial, ⟨trivial, ⟨trivial, ⟨trivial, ⟨trivial, ⟨trivial, ⟨trivial, ⟨trivial, ⟨⟨⟨rfl, rfl⟩, trivial⟩, ⟨trivial, ⟨trivial, ⟨trivial, ⟨⟨⟨rfl, rfl⟩, trivial⟩, ⟨⟨⟨rfl, rfl⟩, trivial⟩, ⟨trivial, trivial⟩⟩⟩⟩⟩⟩⟩⟩⟩⟩⟩⟩⟩⟩⟩⟩⟩⟩ ?_
    refine a_next hok 21 [] (by kernel_rfl) ?_ trivial
    refine a_stOff (i := 21) hok rfl rfl rfl rfl rfl rfl (by intro _ h; cases h; rfl) ⟨trivial, ⟨trivial, ⟨trivial, ⟨trivial, ⟨trivial, ⟨trivial, ⟨trivial, ⟨trivial, ⟨trivial, ⟨trivial, ⟨trivial, ⟨⟨⟨rfl, rfl⟩, trivial⟩, ⟨trivial, ⟨trivial, ⟨trivial, ⟨⟨⟨rfl, rfl⟩, trivial⟩, ⟨⟨⟨rfl, rfl⟩, trivial⟩, ⟨trivial, trivial⟩⟩⟩⟩⟩⟩⟩⟩⟩⟩⟩⟩⟩⟩⟩⟩⟩⟩ ?_
    refine a_off (i := 22) hok rfl rfl rfl rfl rfl (by kernel_rfl) rfl rfl ?_
    refine a_rd (i := 23) hok rfl (by kernel_rfl) rfl (r_pickT rfl rfl) rfl ?_
    refine a_next hok 24 [] (by kernel_rfl) ?_ trivial
    refine a_st (i := 24) hok rfl rfl (St.ofRd (r_assign rfl)) (by intro _ h; cases h; rfl) (fun _ => ⟨trivial, ⟨trivial, ⟨trivial, ⟨trivial, ⟨trivial, ⟨trivial, ⟨trivial, ⟨trivial, ⟨trivial, ⟨trivial, ⟨trivial, ⟨trivial, ⟨trivial, ⟨trivial, ⟨trivial, ⟨trivial, ⟨trivial, ⟨trivial, ⟨trivial, ⟨trivial, trivial⟩⟩⟩⟩⟩⟩⟩⟩⟩⟩⟩⟩⟩⟩⟩⟩⟩⟩⟩⟩) (fun _ => ?_)
    refine a_fin hok (by kernel_rfl) ?_
    refine b_of (nrm [oc b_1 [slv rS p_1.Sides.i0, slv rS p_1.Sides.i1, slv rT_api_Case p_1.Cases], oc b1 [sv c_0.Name, slv rS c_0.Facts, iv .i64 c_0.Winner, slv rS c_0.Reason], oa rS x3.1 x3.2 t2] rfl) ?_
    refine n_then (ref_ret ?_)
    exact fin1 (.inl rfl) () [0] rfl ⟨rfl, trivial⟩ rfl (rv_tmp rfl)
  refine a_rdOn (i := 13) hok rfl rfl rfl rfl (by kernel_rfl) rfl (r_faddr (fo := 3) Tryd.underlying39 rfl rfl Tryd.sizeOf25 rfl) rfl ?_
  refine a_rdOn (i := 14) hok rfl rfl rfl rfl (by kernel_rfl) rfl (r_cload Tryd.isAgg25 rfl (j := 1) rfl rfl) rfl ?_
  refine a_rdOn (i := 15) hok rfl rfl rfl rfl (by kernel_rfl) rfl (r_cloadS Tryd.isAgg29 Tryd.sizeOf29 rfl (j := 0) rfl rfl rfl) rfl ?_
  refine a_rdOn (i := 16) hok rfl rfl rfl rfl (by kernel_rfl) rfl (r_faddr (fo := 1) Tryd.underlying39 rfl rfl Tryd.sizeOf25 rfl) rfl ?_
  refine a_rdOn (i := 17) hok rfl rfl rfl rfl (by kernel_rfl) rfl (r_cload Tryd.isAgg25 rfl (j := 1) rfl rfl) rfl ?_
  refine a_rdOn (i := 18) hok rfl rfl rfl rfl (by kernel_rfl) rfl (r_faddr (fo := 2) Tryd.underlying39 rfl rfl Tryd.sizeOf3 rfl) rfl ?_
  refine a_rdOn (i := 19) hok rfl rfl rfl rfl (by kernel_rfl) rfl (r_cload Tryd.isAgg3 rfl (j := 1) rfl rfl) rfl ?_
  refine pull fun t5 h_t5 => ?_
  refine a_next hok 20 [] (by kernel_rfl) ?_ trivial
  refine a_stOn (i := 20) hok rfl rfl rfl rfl rfl (s_call (ψ := fun (x6 : (Value × List Nat)) => pv x6.1) (args := [.tmp 19, .tmp 21, .tmp 23]) Tryd.call29 rfl (precedent_own_ok h_t5) ⟨arg rfl, arg rfl, arg rfl, trivial⟩ (fun _ _ _ _ h => h)) (by intro _ h; cases h; rfl) (fun _ => ⟨trivial, ⟨trivial, ⟨trivial, ⟨trivial, ⟨trivial, ⟨⟨⟨rfl, rfl⟩, trivial⟩, ⟨trivial, ⟨trivial, ⟨trivial, ⟨trivial, ⟨trivial, ⟨⟨⟨rfl, rfl⟩, trivial⟩, ⟨trivial, ⟨trivial, ⟨trivial, ⟨⟨⟨rfl, rfl⟩, trivial⟩, ⟨⟨⟨rfl, rfl⟩, trivial⟩, ⟨trivial, trivial⟩⟩⟩⟩⟩⟩⟩⟩⟩⟩⟩⟩⟩⟩⟩⟩⟩⟩) (fun x6 => ?_)
  refine pull fun t7 h_t7 => ?_
  refine a_next hok 21 [] (by kernel_rfl) ?_ trivial
  refine a_stOn (i := 21) hok rfl rfl rfl rfl rfl (s_callB (ψ := fun (_ : Unit) => bv t7) (args := [.tmp 18, .tmp 24]) Tryd.call42 rfl (precedent_within_ok h_t7) ⟨argB rfl, argO rfl (j := 3) rfl, trivial⟩ (fun _ _ _ _ _ h => h)) (by intro _ h; cases h; rfl) (fun _ => ⟨⟨⟨rfl, rfl⟩, trivial⟩, ⟨trivial, ⟨⟨⟨rfl, rfl⟩, trivial⟩, ⟨trivial, ⟨⟨⟨rfl, rfl⟩, trivial⟩, ⟨trivial, ⟨trivial, ⟨trivial, ⟨trivial, ⟨trivial, ⟨trivial, ⟨⟨⟨rfl, rfl⟩, trivial⟩, ⟨trivial, ⟨trivial, ⟨trivial, ⟨⟨⟨rfl, rfl⟩, trivial⟩, ⟨⟨⟨rfl, rfl⟩, trivial⟩, ⟨trivial, trivial⟩⟩⟩⟩⟩⟩⟩⟩⟩⟩⟩⟩⟩⟩⟩⟩⟩⟩) (fun _ => ?_)
  refine a_rdOn (i := 22) hok rfl rfl rfl rfl (by kernel_rfl) rfl (r_not rfl) rfl ?_
  refine a_rd (i := 23) hok rfl (by kernel_rfl) rfl (r_pickF rfl rfl) rfl ?_
  refine a_next hok 24 [] (by kernel_rfl) ?_ trivial
  refine a_st (i := 24) hok rfl rfl (St.ofRd (r_assign rfl)) (by intro _ h; cases h; rfl) (fun _ => ⟨trivial, ⟨trivial, ⟨trivial, ⟨trivial, ⟨trivial, ⟨trivial, ⟨trivial, ⟨trivial, ⟨trivial, ⟨trivial, ⟨trivial, ⟨trivial, ⟨trivial, ⟨trivial, ⟨trivial, ⟨trivial, ⟨trivial, ⟨trivial, ⟨trivial, ⟨trivial, trivial⟩⟩⟩⟩⟩⟩⟩⟩⟩⟩⟩⟩⟩⟩⟩⟩⟩⟩⟩⟩) (fun _ => ?_)
  refine a_fin hok (by kernel_rfl) ?_
  refine b_of (nrm [oc b_1 [slv rS p_1.Sides.i0, slv rS p_1.Sides.i1, slv rT_api_Case p_1.Cases], oc b1 [sv c_0.Name, slv rS c_0.Facts, iv .i64 c_0.Winner, slv rS c_0.Reason], oa rS x3.1 x3.2 t2, oa rS x6.1 x6.2 t5] rfl) ?_
  refine n_then (ref_ret ?_)
  exact fin1 (.inl rfl) () [0] rfl ⟨rfl, trivial⟩ rfl (rv_tmp rfl)

/-! slices.IndexFunc[[]deliberation/api.Case,deliberation/api.Case] -/
noncomputable def slices_IndexFunc_api_Case_api_Case_3_l1 (s_0 : (List T_api_Case)) (e_0 : T_api_Library) (s7 : Int) : Option (Sum ((Sum (Int) (Unit))) (Int)) :=
  bif decide (s7 < (s_0.length : Int)) then
    Option.bind (idxM s_0 s7) fun t10 =>
    Option.bind (precedent_Validate_5_m t10 e_0) fun t11 =>
    bif t11 then
      some (Sum.inl (Sum.inl s7))
    else
      some (Sum.inr (iadd .i64 s7 1))
  else
    some (Sum.inl (Sum.inr ()))

noncomputable def slices_IndexFunc_api_Case_api_Case_3_m (s_0 : (List T_api_Case)) (e_0 : T_api_Library) : Option (Int) :=
  Option.bind (loopC (slices_IndexFunc_api_Case_api_Case_3_l1 s_0 e_0) 0) (sumK (fun a : Int => some a) fun q13 : Unit =>
    some (-1))

theorem slices_IndexFunc_api_Case_api_Case_3_ok {s_0 : (List T_api_Case)} {e_0 : T_api_Library} {be_0 : Nat} {r : Int} (hm : slices_IndexFunc_api_Case_api_Case_3_m s_0 e_0 = some r) :
    FnOk prog 84 [slv rT_api_Case s_0, pv (.func (.func 59) #[] #[(ptr be_0 0)])] [oc be_0 [slv rS e_0.Sides.i0, slv rS e_0.Sides.i1, slv rT_api_Case e_0.Cases]] (fun (x : Unit) => [iv .i64 r]) (fun (x : Unit) => [oc be_0 [slv rS e_0.Sides.i0, slv rS e_0.Sides.i1, slv rT_api_Case e_0.Cases]]) := by
  refine fn_ok (fn := Tryd.f84) (N := 19) (res := fun r x => [iv .i64 r]) (Ω1 := fun r x => [oc be_0 [slv rS e_0.Sides.i0, slv rS e_0.Sides.i1, slv rT_api_Case e_0.Cases]]) Tryd.func84 rfl rfl hm rfl (fun E hM => ?_)
  unfold slices_IndexFunc_api_Case_api_Case_3_m
  refine ref_seq (ref_region ?_)
  refine as1 rfl rfl ?_
  refine l_nil (n_then (ref_seq (ref_seq (ref_region ?_))))
  refine mv1 rfl rfl ?_
  refine s_rd (r_len Tryd.underlying27 rfl) rfl ?_
  refine mv1 rfl rfl ?_
  refine l_nil (n_then ?_)
  refine ref_loopX (f := (slices_IndexFunc_api_Case_api_Case_3_l1 s_0 e_0)) (Γl := (fun (s7 : Int) (x8 : Unit) => [(0, slv rT_api_Case s_0), (1, pv (.func (.func 59) #[] #[(ptr be_0 0)])), (7, iv .i64 (s_0.length : Int)), (8, iv .i64 s7)])) (Ωl := (fun (s7 : Int) (x8 : Unit) => [oc be_0 [slv rS e_0.Sides.i0, slv rS e_0.Sides.i1, slv rT_api_Case e_0.Cases]])) (Γb := (fun (q13 : Unit) (y14 : Unit) => [(1, pv (.func (.func 59) #[] #[(ptr be_0 0)]))])) (Ωb := (fun (q13 : Unit) (y14 : Unit) => [oc be_0 [slv rS e_0.Sides.i0, slv rS e_0.Sides.i1, slv rT_api_Case e_0.Cases]])) (kr := (fun a : Int => some a)) 0 () (weak [0] ⟨rfl, rfl, rfl, rfl, trivial⟩ ⟨rfl, trivial⟩) (fun s7 x8 => ?_) (fun q13 y14 => ?_)
  · unfold slices_IndexFunc_api_Case_api_Case_3_l1
    refine ref_seq (ref_region ?_)
    refine s_rd (r_lss rfl rfl) rfl ?_
    refine l_nil (n_then (ref_seq ?_))
    refine ref_cond rfl (fun hb9 => ?_) (fun hb9 => ?_)
    · refine ref_skip (n_then (ref_seq (ref_block (ref_seq (ref_region ?_)))))
      refine mv1 rfl rfl ?_
      refine as1 rfl rfl ?_
      refine l_nil (n_then (ref_seq (ref_region ?_)))
      refine mv1 rfl rfl ?_
      refine mv1 rfl rfl ?_
      refine mv1 rfl rfl ?_
      refine pull fun t10 h_t10 => ?_
      refine s_rd (r_index h_t10 Tryd.underlying27 el_39 rfl rfl) rfl ?_
      refine s_rd (r_load el_39 rfl) rfl ?_
      refine pull fun t11 h_t11 => ?_
      refine s_st (s_callC [0] [true] (fun (_ : Unit) => [oc be_0 [slv rS e_0.Sides.i0, slv rS e_0.Sides.i1, slv rT_api_Case e_0.Cases]]) (fun (_ : Unit) => []) (fun (_ : Unit) => bv t11) (args := [.tmp 15]) (caps := [(ptr be_0 0)]) Tryd.call59 rfl (precedent_Validate_5_ok h_t11) ⟨rfl, rfl, trivial⟩ (fun _ => rfl) (fun _ => trivial) (fun _ => rfl) ⟨arg rfl, arg rfl, trivial⟩ (fun _ _ _ _ h => h)) rfl (fun _ => ?_)
      refine l_nil (n_then ?_)
      refine ref_cond rfl (fun hb12 => ?_) (fun hb12 => ?_)
      · refine ref_seq (ref_region ?_)
        refine mv1 rfl rfl ?_
        refine as1 rfl rfl ?_
        refine l_nil (n_then (ref_ret (r_block (r_then ?_))))
        refine retX ?_
        refine r_block (r_then ?_)
        exact fin1 (.inl rfl) () [0] rfl ⟨rfl, trivial⟩ rfl (rv_tmp rfl)
      refine ref_skip (n_block (n_then (ref_region ?_)))
      refine s_rd (r_add rfl rfl) rfl ?_
      refine mv1 rfl rfl ?_
      refine l_nil ?_
      exact goX () (weak [0] ⟨rfl, rfl, rfl, rfl, trivial⟩ ⟨rfl, trivial⟩)
    refine ref_exit (x_then ?_)
    exact brkX () (weak [0] ⟨rfl, trivial⟩ ⟨rfl, trivial⟩)
  refine n_then (ref_seq (ref_region ?_))
  refine as1 rfl rfl ?_
  refine l_nil (n_then (ref_ret ?_))
  exact fin1 (.inl rfl) () [0] rfl ⟨rfl, trivial⟩ rfl (rv_tmp rfl)

/-! slices.ContainsFunc[[]deliberation/api.Case,deliberation/api.Case] -/
noncomputable def slices_ContainsFunc_api_Case_api_Case_3_m (s_0 : (List T_api_Case)) (e_0 : T_api_Library) : Option (Bool) :=
  Option.bind (slices_IndexFunc_api_Case_api_Case_3_m s_0 e_0) fun t1 =>
  letM (decide (t1 ≥ 0)) fun t2 =>
  some t2

theorem slices_ContainsFunc_api_Case_api_Case_3_ok {s_0 : (List T_api_Case)} {e_0 : T_api_Library} {be_0 : Nat} {r : Bool} (hm : slices_ContainsFunc_api_Case_api_Case_3_m s_0 e_0 = some r) :
    FnOk prog 69 [slv rT_api_Case s_0, pv (.func (.func 59) #[] #[(ptr be_0 0)])] [oc be_0 [slv rS e_0.Sides.i0, slv rS e_0.Sides.i1, slv rT_api_Case e_0.Cases]] (fun (x : Unit) => [bv r]) (fun (x : Unit) => [oc be_0 [slv rS e_0.Sides.i0, slv rS e_0.Sides.i1, slv rT_api_Case e_0.Cases]]) := by
  refine fn_ok (fn := Tryd.f69) (N := 9) (res := fun r x => [bv r]) (Ω1 := fun r x => [oc be_0 [slv rS e_0.Sides.i0, slv rS e_0.Sides.i1, slv rT_api_Case e_0.Cases]]) Tryd.func69 rfl rfl hm rfl (fun E hM => ?_)
  unfold slices_ContainsFunc_api_Case_api_Case_3_m
  refine ref_seq (ref_region ?_)
  refine as1 rfl rfl ?_
  refine l_nil (n_then (ref_seq (ref_region ?_)))
  refine mv1 rfl rfl ?_
  refine mv1 rfl rfl ?_
  refine pull fun t1 h_t1 => ?_
  refine s_st (s_callC [0] [true] (fun (_ : Unit) => [oc be_0 [slv rS e_0.Sides.i0, slv rS e_0.Sides.i1, slv rT_api_Case e_0.Cases]]) (fun (_ : Unit) => []) (fun (_ : Unit) => iv .i64 t1) (args := [.tmp 5, .tmp 6]) (caps := []) Tryd.call84 rfl (slices_IndexFunc_api_Case_api_Case_3_ok h_t1) ⟨rfl, rfl, trivial⟩ (fun _ => rfl) (fun _ => trivial) (fun _ => rfl) ⟨arg rfl, arg rfl, trivial⟩ (fun _ _ _ _ h => h)) rfl (fun _ => ?_)
  refine s_rd (r_geq rfl rfl) rfl ?_
  refine as1 rfl rfl ?_
  refine b_let (f := bv) (t := 4) rfl fun t2 => ?_
  refine l_nil (n_then (ref_ret ?_))
  exact fin1 (.inl rfl) () [0] rfl ⟨rfl, trivial⟩ rfl (rv_tmp rfl)

/-! deliberation/precedent.some -/
noncomputable def precedent_some_3_m (l_0 : T_api_Library) (e_0 : T_api_Library) : Option (Bool) :=
  Option.bind (slices_ContainsFunc_api_Case_api_Case_3_m l_0.Cases e_0) fun t2 =>
  some t2

theorem precedent_some_3_ok {l_0 : T_api_Library} {e_0 : T_api_Library} {be_0 : Nat} {r : Bool} (hm : precedent_some_3_m l_0 e_0 = some r) :
    FnOk prog 51 [ag [slv rS l_0.Sides.i0, slv rS l_0.Sides.i1, slv rT_api_Case l_0.Cases], pv (.func (.func 59) #[] #[(ptr be_0 0)])] [oc be_0 [slv rS e_0.Sides.i0, slv rS e_0.Sides.i1, slv rT_api_Case e_0.Cases]] (fun (x : Unit) => [bv r]) (fun (x : Unit) => [oc be_0 [slv rS e_0.Sides.i0, slv rS e_0.Sides.i1, slv rT_api_Case e_0.Cases]]) := by
  refine fn_ok (fn := Tryd.f51) (N := 9) (res := fun r x => [bv r]) (Ω1 := fun r x => [oc be_0 [slv rS e_0.Sides.i0, slv rS e_0.Sides.i1, slv rT_api_Case e_0.Cases]]) Tryd.func51 rfl rfl hm rfl (fun E hM => ?_)
  unfold precedent_some_3_m
  refine ref_seq (ref_region ?_)
  refine s_st (s_box (part_agO (ψs := [slv rS l_0.Sides.i0, slv rS l_0.Sides.i1, slv rT_api_Case l_0.Cases]) rfl ⟨.inl slv_at, .inl slv_at, .inl slv_at, trivial⟩)) rfl (fun b1 => ?_)
  refine as1 rfl rfl ?_
  refine l_nil (n_then (ref_seq (ref_region ?_)))
  refine s_rd (r_faddr (fo := 2) Tryd.underlying29 rfl rfl Tryd.sizeOf27 rfl) rfl ?_
  refine s_rd (r_cload Tryd.isAgg27 rfl (j := 1) rfl rfl) rfl ?_
  refine mv1 rfl rfl ?_
  refine pull fun t2 h_t2 => ?_
  refine s_st (s_callC [0] [true] (fun (_ : Unit) => [oc be_0 [slv rS e_0.Sides.i0, slv rS e_0.Sides.i1, slv rT_api_Case e_0.Cases]]) (fun (_ : Unit) => []) (fun (_ : Unit) => bv t2) (args := [.tmp 6, .tmp 7]) (caps := []) Tryd.call69 rfl (slices_ContainsFunc_api_Case_api_Case_3_ok h_t2) ⟨rfl, rfl, trivial⟩ (fun _ => rfl) (fun _ => trivial) (fun _ => rfl) ⟨arg rfl, arg rfl, trivial⟩ (fun _ _ _ _ h => h)) rfl (fun _ => ?_)
  refine as1 rfl rfl ?_
  refine l_nil (n_then (ref_ret ?_))
  exact fin1 (.inl rfl) () [0] rfl ⟨rfl, trivial⟩ rfl (rv_tmp rfl)

/-! deliberation/precedent.Validate -/
noncomputable def precedent_Validate_l1 (l_0 : T_api_Library) (s14 : Int × (List (ByteArray × Bool))) : Option (Sum ((List (ByteArray × Bool))) (Int × (List (ByteArray × Bool)))) :=
  bif decide (s14.1 < (l_0.Cases.length : Int)) then
    Option.bind (idxM l_0.Cases s14.1) fun t17 =>
    some (Sum.inr (iadd .i64 s14.1 1, mapPut s14.2 t17.Name true))
  else
    some (Sum.inl s14.2)

noncomputable def precedent_Validate_m (l_0 : T_api_Library) : Option (Int) :=
  Option.bind (loopC (precedent_Validate_l1 l_0) (0, [])) fun q19 : (List (ByteArray × Bool)) =>
  joinM (fun j22 : Bool =>
      bif j22 then
        some 2
      else
        joinM (fun j29 : Bool =>
            bif j29 then
              some 3
            else
              joinM (fun j36 : Bool =>
                  bif j36 then
                    some 8
                  else
                    Option.bind (slices_ContainsFunc_string_string_2_m l_0.Sides.i0 l_0.Sides.i1) fun t40 =>
                    bif t40 then
                      some 10
                    else
                      letM (decide ((q19.length : Int) < (l_0.Cases.length : Int))) fun t42 =>
                      bif t42 then
                        some 5
                      else
                        Option.bind (precedent_some_2_m l_0) fun t44 =>
                        bif t44 then
                          some 1
                        else
                          Option.bind (precedent_some_3_m l_0 l_0) fun t46 =>
                          bif t46 then
                            some 6
                          else
                            some 0) fun k38 =>
              Option.bind (precedent_rising_m l_0.Sides.i0) fun t33 =>
              bif !t33 then
                k38 true
              else
                Option.bind (precedent_rising_m l_0.Sides.i1) fun t34 =>
                bif !t34 then
                  k38 true
                else
                  Option.bind (precedent_some_1_m l_0) fun t35 =>
                  k38 t35) fun k31 =>
        Option.bind (precedent_named_m l_0.Sides.i0) fun t26 =>
        bif !t26 then
          k31 true
        else
          Option.bind (precedent_named_m l_0.Sides.i1) fun t27 =>
          bif !t27 then
            k31 true
          else
            Option.bind (precedent_some_m l_0) fun t28 =>
            k31 t28) fun k24 =>
  bif decide ((l_0.Sides.i0.length : Int) > 12) then
    k24 true
  else
    bif decide ((l_0.Sides.i1.length : Int) > 12) then
      k24 true
    else
      letM (decide ((l_0.Cases.length : Int) > 16)) fun t21 =>
      k24 t21

theorem precedent_Validate_ok {l_0 : T_api_Library} {r : Int} (hm : precedent_Validate_m l_0 = some r) :
    FnOk prog 31 [ag [slv rS l_0.Sides.i0, slv rS l_0.Sides.i1, slv rT_api_Case l_0.Cases]] [] (fun (x : Unit) => [iv .i64 r]) (fun (x : Unit) => []) := by
  refine fn_ok (fn := Tryd.f31) (N := 85) (res := fun r x => [iv .i64 r]) (Ω1 := fun r x => []) Tryd.func31 rfl rfl hm rfl (fun E hM => ?_)
  unfold precedent_Validate_m
  refine ref_seq (ref_region ?_)
  refine s_st (s_box (part_agO (ψs := [slv rS l_0.Sides.i0, slv rS l_0.Sides.i1, slv rT_api_Case l_0.Cases]) rfl ⟨.inl slv_at, .inl slv_at, .inl slv_at, trivial⟩)) rfl (fun b1 => ?_)
  refine as1 rfl rfl ?_
  refine l_nil (n_then (ref_seq ?_))
  refine ref_draw [0, 1, 2, 3, 4, 5] rfl (by kernel_rfl) (fun hok => ?_)
  refine a_rd (i := 0) hok rfl (by kernel_rfl) rfl (r_faddr (fo := 0) Tryd.underlying29 rfl rfl Tryd.sizeOf26 rfl) rfl ?_
  refine a_rd (i := 1) hok rfl (by kernel_rfl) rfl (r_aaddr (sz := 1) ⟨by decide, by decide⟩ Tryd.underlying26 Tryd.sizeOf25 rfl rfl) rfl ?_
  refine a_rd (i := 2) hok rfl (by kernel_rfl) rfl (r_cload Tryd.isAgg25 rfl (j := 0) rfl rfl) rfl ?_
  refine a_rd (i := 3) hok rfl (by kernel_rfl) rfl (r_faddr (fo := 0) Tryd.underlying29 rfl rfl Tryd.sizeOf26 rfl) rfl ?_
  refine a_rd (i := 4) hok rfl (by kernel_rfl) rfl (r_aaddr (sz := 1) ⟨by decide, by decide⟩ Tryd.underlying26 Tryd.sizeOf25 rfl rfl) rfl ?_
  refine a_rd (i := 5) hok rfl (by kernel_rfl) rfl (r_cload Tryd.isAgg25 rfl (j := 0) rfl rfl) rfl ?_
  refine a_next hok 6 [] (by kernel_rfl) ?_ trivial
  refine a_st (i := 6) hok rfl rfl (s_alloc zt_25) (by intro _ h; cases h; rfl) (fun _ => ⟨⟨⟨rfl, rfl⟩, trivial⟩, ⟨trivial, ⟨trivial, ⟨⟨⟨rfl, rfl⟩, trivial⟩, ⟨trivial, ⟨trivial, trivial⟩⟩⟩⟩⟩⟩) (fun b2 => ?_)
  refine a_next hok 7 [] (by kernel_rfl) ?_ trivial
  refine a_st (i := 7) hok rfl rfl (St.ofRd (r_assign rfl)) (by intro _ h; cases h; rfl) (fun _ => ⟨⟨⟨rfl, rfl⟩, trivial⟩, ⟨trivial, ⟨trivial, ⟨trivial, ⟨trivial, ⟨trivial, trivial⟩⟩⟩⟩⟩⟩) (fun _ => ?_)
  refine a_next hok 8 [] (by kernel_rfl) ?_ trivial
  refine a_st (i := 8) hok rfl rfl (s_cstore (out := [slv rS l_0.Sides.i1]) Tryd.sizeOf25 rfl (j := 1) rfl (part_at rfl slv_at) rfl rfl rfl) (by intro _ h; cases h) (fun _ => ⟨trivial, ⟨trivial, ⟨trivial, ⟨trivial, ⟨trivial, ⟨trivial, trivial⟩⟩⟩⟩⟩⟩) (fun _ => ?_)
  refine a_fin hok (by kernel_rfl) ?_
  refine b_of (nrm [oc b1 [slv rS l_0.Sides.i0, slv rS l_0.Sides.i1, slv rT_api_Case l_0.Cases], oc b2 [slv rS l_0.Sides.i1]] rfl) ?_
  refine n_then (ref_seq (ref_region ?_))
  refine s_st (s_mkmap rS rB) rfl (fun b3 => ?_)
  refine as1 rfl rfl ?_
  refine l_nil (n_then (ref_seq (ref_seq (ref_region ?_))))
  refine s_rd (r_faddr (fo := 2) Tryd.underlying29 rfl rfl Tryd.sizeOf27 rfl) rfl ?_
  refine s_rd (r_cload Tryd.isAgg27 rfl (j := 0) rfl rfl) rfl ?_
  refine s_rd (r_len Tryd.underlying27 rfl) rfl ?_
  refine mv1 rfl rfl ?_
  refine l_nil (n_then ?_)
  refine ref_loopB (f := (precedent_Validate_l1 l_0)) (Γl := (fun (s14 : Int × (List (ByteArray × Bool))) (x15 : Unit) => [(1, pv (ptr b1 0)), (3, slv rS l_0.Sides.i0), (4, pv (ptr b2 0)), (5, pv (.map (some b3))), (16, slv rT_api_Case l_0.Cases), (17, iv .i64 (l_0.Cases.length : Int)), (18, iv .i64 s14.1)])) (Ωl := (fun (s14 : Int × (List (ByteArray × Bool))) (x15 : Unit) => [oc b1 [slv rS l_0.Sides.i0, slv rS l_0.Sides.i1, slv rT_api_Case l_0.Cases], oc b2 [slv rS l_0.Sides.i1], om rS rB b3 s14.2])) (Γb := (fun (q19 : (List (ByteArray × Bool))) (y20 : Unit) => [(1, pv (ptr b1 0)), (3, slv rS l_0.Sides.i0), (4, pv (ptr b2 0)), (5, pv (.map (some b3)))])) (Ωb := (fun (q19 : (List (ByteArray × Bool))) (y20 : Unit) => [oc b1 [slv rS l_0.Sides.i0, slv rS l_0.Sides.i1, slv rT_api_Case l_0.Cases], oc b2 [slv rS l_0.Sides.i1], om rS rB b3 q19])) (0, []) () (weak [0, 1, 2] ⟨rfl, rfl, rfl, rfl, rfl, rfl, rfl, trivial⟩ ⟨rfl, rfl, rfl, trivial⟩) (fun s14 x15 => ?_) (fun q19 y20 => ?_)
  · unfold precedent_Validate_l1
    refine ref_seq (ref_region ?_)
    refine s_rd (r_lss rfl rfl) rfl ?_
    refine l_nil (n_then (ref_seq ?_))
    refine ref_cond rfl (fun hb16 => ?_) (fun hb16 => ?_)
    · refine ref_skip (n_then (ref_seq (ref_block (ref_seq (ref_region ?_)))))
      refine pull fun t17 h_t17 => ?_
      refine s_rd (r_index h_t17 Tryd.underlying27 el_39 rfl rfl) rfl ?_
      refine s_rd (r_load el_39 rfl) rfl ?_
      refine s_st (s_alloc zt_39) rfl (fun b18 => ?_)
      refine s_st0 (s_cstore (out := [sv t17.Name, slv rS t17.Facts, iv .i64 t17.Winner, slv rS t17.Reason]) Tryd.sizeOf39 rfl (j := 3) rfl (part_agO (ψs := [sv t17.Name, slv rS t17.Facts, iv .i64 t17.Winner, slv rS t17.Reason]) rfl ⟨.inl sv_at, .inl slv_at, .inl iv_at, .inl slv_at, trivial⟩) rfl rfl rfl) (fun _ => ?_)
      refine l_nil (n_then (ref_region ?_))
      refine mv1 rfl rfl ?_
      refine s_rd (r_faddr (fo := 0) Tryd.underlying39 rfl rfl Tryd.sizeOf9 rfl) rfl ?_
      refine s_rd (r_cload Tryd.isAgg9 rfl (j := 3) rfl rfl) rfl ?_
      refine s_st0 (s_mput (x := t17.Name) (y := true) Tryd.underlying83 (keyT_str Tryd.underlying9) rfl (j := 2) rfl rfl rfl) (fun _ => ?_)
      refine l_nil ?_
      refine b_of (nrm [oc b1 [slv rS l_0.Sides.i0, slv rS l_0.Sides.i1, slv rT_api_Case l_0.Cases], oc b2 [slv rS l_0.Sides.i1], om rS rB b3 (mapPut s14.2 t17.Name true), oc b18 [sv t17.Name, slv rS t17.Facts, iv .i64 t17.Winner, slv rS t17.Reason]] rfl) ?_
      refine n_block (n_then (ref_region ?_))
      refine s_rd (r_add rfl rfl) rfl ?_
      refine mv1 rfl rfl ?_
      refine l_nil ?_
      exact goB () (weak [0, 1, 2] ⟨rfl, rfl, rfl, rfl, rfl, rfl, rfl, trivial⟩ ⟨rfl, rfl, rfl, trivial⟩)
    refine ref_exit (x_then ?_)
    exact brkB () (weak [0, 1, 2] ⟨rfl, rfl, rfl, rfl, trivial⟩ ⟨rfl, rfl, rfl, trivial⟩)
  refine n_then (ref_seq (ref_block (ref_seq ?_)))
  refine ref_join (fun (j22 : Bool) (x23 : Unit) => [(1, pv (ptr b1 0)), (3, slv rS l_0.Sides.i0), (4, pv (ptr b2 0)), (5, pv (.map (some b3))), (26, bv j22)]) (fun (j22 : Bool) (x23 : Unit) => [oc b1 [slv rS l_0.Sides.i0, slv rS l_0.Sides.i1, slv rT_api_Case l_0.Cases], oc b2 [slv rS l_0.Sides.i1], om rS rB b3 q19]) (fun k24 hk24 => ?_) (fun j22 x23 => ?_)
  · refine ref_region ?_
    refine mv1 rfl rfl ?_
    refine s_rd (r_len Tryd.underlying25 rfl) rfl ?_
    refine s_rd (r_gtr rfl rfl) rfl ?_
    refine mv1 rfl rfl ?_
    refine b_split (t := 30) rfl (fun _ => ?_) (fun _ => ?_)
    · refine s_off rfl rfl rfl rfl rfl ?_
      refine s_off rfl rfl rfl rfl rfl ?_
      refine s_off rfl rfl rfl rfl rfl ?_
      refine s_rd (r_pickT rfl rfl) rfl ?_
      refine mv1 rfl rfl ?_
      refine s_off rfl rfl rfl rfl rfl ?_
      refine s_off rfl rfl rfl rfl rfl ?_
      refine s_off rfl rfl rfl rfl rfl ?_
      refine s_off rfl rfl rfl rfl rfl ?_
      refine s_rd (r_pickT rfl rfl) rfl ?_
      refine as1 rfl rfl ?_
      refine l_nil ?_
      exact b_to (hk24 true ()) (weak [0, 1, 2] ⟨rfl, rfl, rfl, rfl, rfl, trivial⟩ ⟨rfl, rfl, rfl, trivial⟩)
    refine s_on rfl rfl rfl ?_
    refine s_rd (r_cload Tryd.isAgg25 rfl (j := 1) rfl rfl) rfl ?_
    refine s_on rfl rfl rfl ?_
    refine s_rd (r_len Tryd.underlying25 rfl) rfl ?_
    refine s_on rfl rfl rfl ?_
    refine s_rd (r_gtr rfl rfl) rfl ?_
    refine s_rd (r_pickF rfl rfl) rfl ?_
    refine mv1 rfl rfl ?_
    refine b_split (t := 35) rfl (fun _ => ?_) (fun _ => ?_)
    · refine s_off rfl rfl rfl rfl rfl ?_
      refine s_off rfl rfl rfl rfl rfl ?_
      refine s_off rfl rfl rfl rfl rfl ?_
      refine s_off rfl rfl rfl rfl rfl ?_
      refine s_rd (r_pickT rfl rfl) rfl ?_
      refine as1 rfl rfl ?_
      refine l_nil ?_
      exact b_to (hk24 true ()) (weak [0, 1, 2] ⟨rfl, rfl, rfl, rfl, rfl, trivial⟩ ⟨rfl, rfl, rfl, trivial⟩)
    refine s_on rfl rfl rfl ?_
    refine s_rd (r_faddr (fo := 2) Tryd.underlying29 rfl rfl Tryd.sizeOf27 rfl) rfl ?_
    refine s_on rfl rfl rfl ?_
    refine s_rd (r_cload Tryd.isAgg27 rfl (j := 0) rfl rfl) rfl ?_
    refine s_on rfl rfl rfl ?_
    refine s_rd (r_len Tryd.underlying27 rfl) rfl ?_
    refine s_on rfl rfl rfl ?_
    refine s_rd (r_gtr rfl rfl) rfl ?_
    refine s_rd (r_pickF rfl rfl) rfl ?_
    refine as1 rfl rfl ?_
    refine b_let (f := bv) (t := 26) rfl fun t21 => ?_
    refine l_nil ?_
    exact b_to (hk24 t21 ()) (weak [0, 1, 2] ⟨rfl, rfl, rfl, rfl, rfl, trivial⟩ ⟨rfl, rfl, rfl, trivial⟩)
  refine n_then ?_
  refine ref_cond rfl (fun hb25 => ?_) (fun hb25 => ?_)
  · refine ref_seq (ref_region ?_)
    refine as1 rfl rfl ?_
    refine l_nil (n_then (ref_ret (r_block (r_then ?_))))
    exact fin1 (.inl rfl) () [] rfl trivial rfl (rv_tmp rfl)
  refine ref_seq ?_
  refine ref_join (fun (j29 : Bool) (x30 : Unit) => [(1, pv (ptr b1 0)), (3, slv rS l_0.Sides.i0), (4, pv (ptr b2 0)), (5, pv (.map (some b3))), (41, bv j29)]) (fun (j29 : Bool) (x30 : Unit) => [oc b1 [slv rS l_0.Sides.i0, slv rS l_0.Sides.i1, slv rT_api_Case l_0.Cases], oc b2 [slv rS l_0.Sides.i1], om rS rB b3 q19]) (fun k31 hk31 => ?_) (fun j29 x30 => ?_)
  · refine ref_region ?_
    refine mv1 rfl rfl ?_
    refine pull fun t26 h_t26 => ?_
    refine s_st (s_call (ψ := fun (_ : Unit) => bv t26) (args := [.tmp 42]) Tryd.call50 rfl (precedent_named_ok h_t26) ⟨arg rfl, trivial⟩ (fun _ _ _ _ h => h)) rfl (fun _ => ?_)
    refine s_rd (r_not rfl) rfl ?_
    refine mv1 rfl rfl ?_
    refine b_split (t := 45) rfl (fun _ => ?_) (fun _ => ?_)
    · refine s_off rfl rfl rfl rfl rfl ?_
      refine s_off rfl rfl rfl rfl rfl ?_
      refine s_off rfl rfl rfl rfl rfl ?_
      refine s_rd (r_pickT rfl rfl) rfl ?_
      refine mv1 rfl rfl ?_
      refine s_off rfl rfl rfl rfl rfl ?_
      refine s_off rfl rfl rfl rfl rfl ?_
      refine s_rd (r_pickT rfl rfl) rfl ?_
      refine as1 rfl rfl ?_
      refine l_nil ?_
      exact b_to (hk31 true ()) (weak [0, 1, 2] ⟨rfl, rfl, rfl, rfl, rfl, trivial⟩ ⟨rfl, rfl, rfl, trivial⟩)
    refine s_on rfl rfl rfl ?_
    refine s_rd (r_cload Tryd.isAgg25 rfl (j := 1) rfl rfl) rfl ?_
    refine s_on rfl rfl rfl ?_
    refine pull fun t27 h_t27 => ?_
    refine s_st (s_call (ψ := fun (_ : Unit) => bv t27) (args := [.tmp 46]) Tryd.call50 rfl (precedent_named_ok h_t27) ⟨arg rfl, trivial⟩ (fun _ _ _ _ h => h)) rfl (fun _ => ?_)
    refine s_on rfl rfl rfl ?_
    refine s_rd (r_not rfl) rfl ?_
    refine s_rd (r_pickF rfl rfl) rfl ?_
    refine mv1 rfl rfl ?_
    refine b_split (t := 50) rfl (fun _ => ?_) (fun _ => ?_)
    · refine s_off rfl rfl rfl rfl rfl ?_
      refine s_off rfl rfl rfl rfl rfl ?_
      refine s_rd (r_pickT rfl rfl) rfl ?_
      refine as1 rfl rfl ?_
      refine l_nil ?_
      exact b_to (hk31 true ()) (weak [0, 1, 2] ⟨rfl, rfl, rfl, rfl, rfl, trivial⟩ ⟨rfl, rfl, rfl, trivial⟩)
    refine s_on rfl rfl rfl ?_
    refine s_rd (r_cloadS Tryd.isAgg29 Tryd.sizeOf29 rfl (j := 0) rfl rfl rfl) rfl ?_
    refine s_on rfl rfl rfl ?_
    refine pull fun t28 h_t28 => ?_
    refine s_st (s_call (ψ := fun (_ : Unit) => bv t28) (args := [.tmp 51, .func 52]) Tryd.call51 rfl (precedent_some_ok h_t28) ⟨arg rfl, arg rfl, trivial⟩ (fun _ _ _ _ h => h)) rfl (fun _ => ?_)
    refine s_rd (r_pickF rfl rfl) rfl ?_
    refine as1 rfl rfl ?_
    refine l_nil ?_
    exact b_to (hk31 t28 ()) (weak [0, 1, 2] ⟨rfl, rfl, rfl, rfl, rfl, trivial⟩ ⟨rfl, rfl, rfl, trivial⟩)
  refine n_then ?_
  refine ref_cond rfl (fun hb32 => ?_) (fun hb32 => ?_)
  · refine ref_seq (ref_region ?_)
    refine as1 rfl rfl ?_
    refine l_nil (n_then (ref_ret (r_block (r_then ?_))))
    exact fin1 (.inl rfl) () [] rfl trivial rfl (rv_tmp rfl)
  refine ref_seq ?_
  refine ref_join (fun (j36 : Bool) (x37 : Unit) => [(1, pv (ptr b1 0)), (3, slv rS l_0.Sides.i0), (4, pv (ptr b2 0)), (5, pv (.map (some b3))), (54, bv j36)]) (fun (j36 : Bool) (x37 : Unit) => [oc b1 [slv rS l_0.Sides.i0, slv rS l_0.Sides.i1, slv rT_api_Case l_0.Cases], oc b2 [slv rS l_0.Sides.i1], om rS rB b3 q19]) (fun k38 hk38 => ?_) (fun j36 x37 => ?_)
  · refine ref_region ?_
    refine mv1 rfl rfl ?_
    refine pull fun t33 h_t33 => ?_
    refine s_st (s_call (ψ := fun (_ : Unit) => bv t33) (args := [.tmp 55]) Tryd.call54 rfl (precedent_rising_ok h_t33) ⟨arg rfl, trivial⟩ (fun _ _ _ _ h => h)) rfl (fun _ => ?_)
    refine s_rd (r_not rfl) rfl ?_
    refine mv1 rfl rfl ?_
    refine b_split (t := 58) rfl (fun _ => ?_) (fun _ => ?_)
    · refine s_off rfl rfl rfl rfl rfl ?_
      refine s_off rfl rfl rfl rfl rfl ?_
      refine s_off rfl rfl rfl rfl rfl ?_
      refine s_rd (r_pickT rfl rfl) rfl ?_
      refine mv1 rfl rfl ?_
      refine s_off rfl rfl rfl rfl rfl ?_
      refine s_off rfl rfl rfl rfl rfl ?_
      refine s_rd (r_pickT rfl rfl) rfl ?_
      refine as1 rfl rfl ?_
      refine l_nil ?_
      exact b_to (hk38 true ()) (weak [0, 1, 2] ⟨rfl, rfl, rfl, rfl, rfl, trivial⟩ ⟨rfl, rfl, rfl, trivial⟩)
    refine s_on rfl rfl rfl ?_
    refine s_rd (r_cload Tryd.isAgg25 rfl (j := 1) rfl rfl) rfl ?_
    refine s_on rfl rfl rfl ?_
    refine pull fun t34 h_t34 => ?_
    refine s_st (s_call (ψ := fun (_ : Unit) => bv t34) (args := [.tmp 59]) Tryd.call54 rfl (precedent_rising_ok h_t34) ⟨arg rfl, trivial⟩ (fun _ _ _ _ h => h)) rfl (fun _ => ?_)
    refine s_on rfl rfl rfl ?_
    refine s_rd (r_not rfl) rfl ?_
    refine s_rd (r_pickF rfl rfl) rfl ?_
    refine mv1 rfl rfl ?_
    refine b_split (t := 63) rfl (fun _ => ?_) (fun _ => ?_)
    · refine s_off rfl rfl rfl rfl rfl ?_
      refine s_off rfl rfl rfl rfl rfl ?_
      refine s_rd (r_pickT rfl rfl) rfl ?_
      refine as1 rfl rfl ?_
      refine l_nil ?_
      exact b_to (hk38 true ()) (weak [0, 1, 2] ⟨rfl, rfl, rfl, rfl, rfl, trivial⟩ ⟨rfl, rfl, rfl, trivial⟩)
    refine s_on rfl rfl rfl ?_
    refine s_rd (r_cloadS Tryd.isAgg29 Tryd.sizeOf29 rfl (j := 0) rfl rfl rfl) rfl ?_
    refine s_on rfl rfl rfl ?_
    refine pull fun t35 h_t35 => ?_
    refine s_st (s_call (ψ := fun (_ : Unit) => bv t35) (args := [.tmp 64, .func 55]) Tryd.call51 rfl (precedent_some_1_ok h_t35) ⟨arg rfl, arg rfl, trivial⟩ (fun _ _ _ _ h => h)) rfl (fun _ => ?_)
    refine s_rd (r_pickF rfl rfl) rfl ?_
    refine as1 rfl rfl ?_
    refine l_nil ?_
    exact b_to (hk38 t35 ()) (weak [0, 1, 2] ⟨rfl, rfl, rfl, rfl, rfl, trivial⟩ ⟨rfl, rfl, rfl, trivial⟩)
  refine n_then ?_
  refine ref_cond rfl (fun hb39 => ?_) (fun hb39 => ?_)
  · refine ref_seq (ref_region ?_)
    refine as1 rfl rfl ?_
    refine l_nil (n_then (ref_ret (r_block (r_then ?_))))
    exact fin1 (.inl rfl) () [] rfl trivial rfl (rv_tmp rfl)
  refine ref_seq (ref_region ?_)
  refine mv1 rfl rfl ?_
  refine s_rd (r_mkfn (xs := [.tmp 4]) (vs := [(ptr b2 0)]) ⟨rfl, trivial⟩) rfl ?_
  refine pull fun t40 h_t40 => ?_
  refine s_st (s_callC [1] [true] (fun (_ : Unit) => [oc b2 [slv rS l_0.Sides.i1]]) (fun (_ : Unit) => []) (fun (_ : Unit) => bv t40) (args := [.tmp 68, .tmp 69]) (caps := []) Tryd.call56 rfl (slices_ContainsFunc_string_string_2_ok h_t40) ⟨rfl, rfl, trivial⟩ (fun _ => rfl) (fun _ => trivial) (fun _ => rfl) ⟨arg rfl, arg rfl, trivial⟩ (fun _ _ _ _ h => h)) rfl (fun _ => ?_)
  refine as1 rfl rfl ?_
  refine l_nil (n_then ?_)
  refine ref_cond rfl (fun hb41 => ?_) (fun hb41 => ?_)
  · refine ref_seq (ref_region ?_)
    refine as1 rfl rfl ?_
    refine l_nil (n_then (ref_ret (r_block (r_then ?_))))
    exact fin1 (.inl rfl) () [] rfl trivial rfl (rv_tmp rfl)
  refine ref_seq (ref_region ?_)
  refine mv1 rfl rfl ?_
  refine s_rd (r_mlen (κ := rS) (ν := rB) Tryd.underlying83 rfl (j := 2) rfl) rfl ?_
  refine s_rd (r_faddr (fo := 2) Tryd.underlying29 rfl rfl Tryd.sizeOf27 rfl) rfl ?_
  refine s_rd (r_cload Tryd.isAgg27 rfl (j := 0) rfl rfl) rfl ?_
  refine s_rd (r_len Tryd.underlying27 rfl) rfl ?_
  refine s_rd (r_lss rfl rfl) rfl ?_
  refine as1 rfl rfl ?_
  refine b_let (f := bv) (t := 71) rfl fun t42 => ?_
  refine l_nil (n_then ?_)
  refine ref_cond rfl (fun hb43 => ?_) (fun hb43 => ?_)
  · refine ref_seq (ref_region ?_)
    refine as1 rfl rfl ?_
    refine l_nil (n_then (ref_ret (r_block (r_then ?_))))
    exact fin1 (.inl rfl) () [] rfl trivial rfl (rv_tmp rfl)
  refine ref_seq (ref_region ?_)
  refine s_rd (r_cloadS Tryd.isAgg29 Tryd.sizeOf29 rfl (j := 0) rfl rfl rfl) rfl ?_
  refine pull fun t44 h_t44 => ?_
  refine s_st (s_call (ψ := fun (_ : Unit) => bv t44) (args := [.tmp 79, .func 58]) Tryd.call51 rfl (precedent_some_2_ok h_t44) ⟨arg rfl, arg rfl, trivial⟩ (fun _ _ _ _ h => h)) rfl (fun _ => ?_)
  refine as1 rfl rfl ?_
  refine l_nil (n_then ?_)
  refine ref_cond rfl (fun hb45 => ?_) (fun hb45 => ?_)
  · refine ref_seq (ref_region ?_)
    refine as1 rfl rfl ?_
    refine l_nil (n_then (ref_ret (r_block (r_then ?_))))
    exact fin1 (.inl rfl) () [] rfl trivial rfl (rv_tmp rfl)
  refine ref_seq (ref_region ?_)
  refine s_rd (r_cloadS Tryd.isAgg29 Tryd.sizeOf29 rfl (j := 0) rfl rfl rfl) rfl ?_
  refine s_rd (r_mkfn (xs := [.tmp 1]) (vs := [(ptr b1 0)]) ⟨rfl, trivial⟩) rfl ?_
  refine pull fun t46 h_t46 => ?_
  refine s_st (s_callC [0] [true] (fun (_ : Unit) => [oc b1 [slv rS l_0.Sides.i0, slv rS l_0.Sides.i1, slv rT_api_Case l_0.Cases]]) (fun (_ : Unit) => []) (fun (_ : Unit) => bv t46) (args := [.tmp 82, .tmp 83]) (caps := []) Tryd.call51 rfl (precedent_some_3_ok h_t46) ⟨rfl, rfl, trivial⟩ (fun _ => rfl) (fun _ => trivial) (fun _ => rfl) ⟨arg rfl, arg rfl, trivial⟩ (fun _ _ _ _ h => h)) rfl (fun _ => ?_)
  refine as1 rfl rfl ?_
  refine l_nil (n_then ?_)
  refine ref_cond rfl (fun hb47 => ?_) (fun hb47 => ?_)
  · refine ref_seq (ref_region ?_)
    refine as1 rfl rfl ?_
    refine l_nil (n_then (ref_ret (r_block (r_then ?_))))
    exact fin1 (.inl rfl) () [] rfl trivial rfl (rv_tmp rfl)
  refine ref_skip (n_block (n_then (ref_seq (ref_region ?_))))
  refine as1 rfl rfl ?_
  refine l_nil (n_then (ref_ret ?_))
  exact fin1 (.inl rfl) () [] rfl trivial rfl (rv_tmp rfl)

/-! deliberation/precedent.known -/
noncomputable def precedent_known_m (l_0 : T_api_Library) (facts_1 : (List ByteArray)) : Option (Int) :=
  Option.bind (precedent_rising_m facts_1) fun t2 =>
  bif !t2 then
    some 8
  else
    Option.bind (precedent_factors_m l_0) fun t4 =>
    Option.bind (precedent_within_m facts_1 t4) fun t6 =>
    bif !t6 then
      some 6
    else
      some 0

theorem precedent_known_ok {l_0 : T_api_Library} {facts_1 : (List ByteArray)} {r : Int} (hm : precedent_known_m l_0 facts_1 = some r) :
    FnOk prog 32 [ag [slv rS l_0.Sides.i0, slv rS l_0.Sides.i1, slv rT_api_Case l_0.Cases], slv rS facts_1] [] (fun (x : Unit) => [iv .i64 r]) (fun (x : Unit) => []) := by
  refine fn_ok (fn := Tryd.f32) (N := 15) (res := fun r x => [iv .i64 r]) (Ω1 := fun r x => []) Tryd.func32 rfl rfl hm rfl (fun E hM => ?_)
  unfold precedent_known_m
  refine ref_seq (ref_region ?_)
  refine s_st (s_box (part_agO (ψs := [slv rS l_0.Sides.i0, slv rS l_0.Sides.i1, slv rT_api_Case l_0.Cases]) rfl ⟨.inl slv_at, .inl slv_at, .inl slv_at, trivial⟩)) rfl (fun b1 => ?_)
  refine as1 rfl rfl ?_
  refine l_nil (n_then (ref_seq (ref_block (ref_seq (ref_region ?_)))))
  refine mv1 rfl rfl ?_
  refine pull fun t2 h_t2 => ?_
  refine s_st (s_call (ψ := fun (_ : Unit) => bv t2) (args := [.tmp 6]) Tryd.call54 rfl (precedent_rising_ok h_t2) ⟨arg rfl, trivial⟩ (fun _ _ _ _ h => h)) rfl (fun _ => ?_)
  refine s_rd (r_not rfl) rfl ?_
  refine as1 rfl rfl ?_
  refine l_nil (n_then ?_)
  refine ref_cond rfl (fun hb3 => ?_) (fun hb3 => ?_)
  · refine ref_seq (ref_region ?_)
    refine as1 rfl rfl ?_
    refine l_nil (n_then (ref_ret (r_block (r_then ?_))))
    exact fin1 (.inl rfl) () [] rfl trivial rfl (rv_tmp rfl)
  refine ref_seq (ref_region ?_)
  refine mv1 rfl rfl ?_
  refine s_rd (r_cloadS Tryd.isAgg29 Tryd.sizeOf29 rfl (j := 0) rfl rfl rfl) rfl ?_
  refine pull fun t4 h_t4 => ?_
  refine s_st (s_call (ψ := fun (x5 : (Value × List Nat)) => pv x5.1) (args := [.tmp 11]) Tryd.call60 rfl (precedent_factors_ok h_t4) ⟨arg rfl, trivial⟩ (fun _ _ _ _ h => h)) rfl (fun x5 => ?_)
  refine pull fun t6 h_t6 => ?_
  refine s_st (s_callB (ψ := fun (_ : Unit) => bv t6) (args := [.tmp 10, .tmp 12]) Tryd.call42 rfl (precedent_within_ok h_t6) ⟨argB rfl, argO rfl (j := 1) rfl, trivial⟩ (fun _ _ _ _ _ h => h)) rfl (fun _ => ?_)
  refine s_rd (r_not rfl) rfl ?_
  refine as1 rfl rfl ?_
  refine l_nil ?_
  refine b_of (nrm [oc b1 [slv rS l_0.Sides.i0, slv rS l_0.Sides.i1, slv rT_api_Case l_0.Cases], oa rS x5.1 x5.2 t4] rfl) ?_
  refine n_then ?_
  refine ref_cond rfl (fun hb7 => ?_) (fun hb7 => ?_)
  · refine ref_seq (ref_region ?_)
    refine as1 rfl rfl ?_
    refine l_nil (n_then (ref_ret (r_block (r_then ?_))))
    exact fin1 (.inl rfl) () [] rfl trivial rfl (rv_tmp rfl)
  refine ref_skip (n_block (n_then (ref_seq (ref_region ?_))))
  refine as1 rfl rfl ?_
  refine l_nil (n_then (ref_ret ?_))
  exact fin1 (.inl rfl) () [] rfl trivial rfl (rv_tmp rfl)

/-! deliberation/precedent.situation -/
noncomputable def precedent_situation_m (l_0 : T_api_Library) (facts_1 : (List ByteArray)) : Option (Int) :=
  Option.bind (precedent_Validate_m l_0) fun e2 =>
  bif e2 != 0 then
    some e2
  else
    Option.bind (precedent_known_m l_0 facts_1) fun t4 =>
    some t4

theorem precedent_situation_ok {l_0 : T_api_Library} {facts_1 : (List ByteArray)} {r : Int} (hm : precedent_situation_m l_0 facts_1 = some r) :
    FnOk prog 40 [ag [slv rS l_0.Sides.i0, slv rS l_0.Sides.i1, slv rT_api_Case l_0.Cases], slv rS facts_1] [] (fun (x : Unit) => [iv .i64 r]) (fun (x : Unit) => []) := by
  refine fn_ok (fn := Tryd.f40) (N := 14) (res := fun r x => [iv .i64 r]) (Ω1 := fun r x => []) Tryd.func40 rfl rfl hm rfl (fun E hM => ?_)
  unfold precedent_situation_m
  refine ref_seq (ref_region ?_)
  refine s_st (s_box (part_agO (ψs := [slv rS l_0.Sides.i0, slv rS l_0.Sides.i1, slv rT_api_Case l_0.Cases]) rfl ⟨.inl slv_at, .inl slv_at, .inl slv_at, trivial⟩)) rfl (fun b1 => ?_)
  refine as1 rfl rfl ?_
  refine l_nil (n_then (ref_seq (ref_seq (ref_region ?_))))
  refine s_rd (r_cloadS Tryd.isAgg29 Tryd.sizeOf29 rfl (j := 0) rfl rfl rfl) rfl ?_
  refine pull fun e2 h_e2 => ?_
  refine s_st (s_call (ψ := fun (_ : Unit) => iv .i64 e2) (args := [.tmp 6]) Tryd.call31 rfl (precedent_Validate_ok h_e2) ⟨arg rfl, trivial⟩ (fun _ _ _ _ h => h)) rfl (fun _ => ?_)
  refine as1 rfl rfl ?_
  refine l_nil (n_then (ref_seq (ref_region ?_)))
  refine mv1 rfl rfl ?_
  refine s_rd (r_neq rfl rfl) rfl ?_
  refine l_nil (n_then ?_)
  refine ref_cond rfl (fun hb3 => ?_) (fun hb3 => ?_)
  · refine ref_seq (ref_region ?_)
    refine mv1 rfl rfl ?_
    refine as1 rfl rfl ?_
    refine l_nil (n_then (ref_ret (r_then ?_)))
    exact fin1 (.inl rfl) () [] rfl trivial rfl (rv_tmp rfl)
  refine ref_skip (n_then (ref_seq (ref_region ?_)))
  refine s_rd (r_cloadS Tryd.isAgg29 Tryd.sizeOf29 rfl (j := 0) rfl rfl rfl) rfl ?_
  refine mv1 rfl rfl ?_
  refine pull fun t4 h_t4 => ?_
  refine s_st (s_call (ψ := fun (_ : Unit) => iv .i64 t4) (args := [.tmp 11, .tmp 12]) Tryd.call32 rfl (precedent_known_ok h_t4) ⟨arg rfl, arg rfl, trivial⟩ (fun _ _ _ _ h => h)) rfl (fun _ => ?_)
  refine as1 rfl rfl ?_
  refine l_nil (n_then (ref_ret ?_))
  exact fin1 (.inl rfl) () [] rfl trivial rfl (rv_tmp rfl)

/-! deliberation/precedent.counter -/
noncomputable def precedent_counter_m (l_0 : T_api_Library) (facts_1 : (List ByteArray)) (side_2 : Int) : Option (List ByteArray) :=
  Option.bind (precedent_own_m l_0 facts_1 (isub .i64 3 side_2)) fun t2 =>
  some t2

theorem precedent_counter_ok {l_0 : T_api_Library} {facts_1 : (List ByteArray)} {side_2 : Int} {r : List ByteArray} (hm : precedent_counter_m l_0 facts_1 side_2 = some r) :
    FnOk prog 36 [ag [slv rS l_0.Sides.i0, slv rS l_0.Sides.i1, slv rT_api_Case l_0.Cases], slv rS facts_1, iv .i64 side_2] [] (fun (x : (Value × List Nat)) => [pv x.1]) (fun (x : (Value × List Nat)) => [oa rS x.1 x.2 r]) := by
  refine fn_ok (X := (Value × List Nat)) (fn := Tryd.f36) (N := 12) (res := fun r x => [pv x.1]) (Ω1 := fun r x => [oa rS x.1 x.2 r]) Tryd.func36 rfl rfl hm rfl (fun E hM => ?_)
  unfold precedent_counter_m
  refine ref_seq (ref_region ?_)
  refine s_st (s_box (part_agO (ψs := [slv rS l_0.Sides.i0, slv rS l_0.Sides.i1, slv rT_api_Case l_0.Cases]) rfl ⟨.inl slv_at, .inl slv_at, .inl slv_at, trivial⟩)) rfl (fun b1 => ?_)
  refine as1 rfl rfl ?_
  refine l_nil (n_then (ref_seq (ref_region ?_)))
  refine s_rd (r_cloadS Tryd.isAgg29 Tryd.sizeOf29 rfl (j := 0) rfl rfl rfl) rfl ?_
  refine mv1 rfl rfl ?_
  refine mv1 rfl rfl ?_
  refine s_rd (r_sub rfl rfl) rfl ?_
  refine pull fun t2 h_t2 => ?_
  refine s_st (s_call (ψ := fun (x3 : (Value × List Nat)) => pv x3.1) (args := [.tmp 7, .tmp 8, .tmp 10]) Tryd.call29 rfl (precedent_own_ok h_t2) ⟨arg rfl, arg rfl, arg rfl, trivial⟩ (fun _ _ _ _ h => h)) rfl (fun x3 => ?_)
  refine as1 rfl rfl ?_
  refine l_nil (n_then (ref_ret ?_))
  exact fin1 (.inl rfl) x3 [1] rfl ⟨rfl, trivial⟩ rfl (rv_tmp rfl)

/-! deliberation/precedent.Strong$1 -/
noncomputable def precedent_Strong_1_m (c_0 : T_api_Case) (p_1 : T_api_Library) : Option (List ByteArray) :=
  Option.bind (precedent_own_m p_1 c_0.Facts c_0.Winner) fun t2 =>
  some t2

theorem precedent_Strong_1_ok {c_0 : T_api_Case} {p_1 : T_api_Library} {b_1 : Nat} {r : List ByteArray} (hm : precedent_Strong_1_m c_0 p_1 = some r) :
    FnOk prog 28 [ag [sv c_0.Name, slv rS c_0.Facts, iv .i64 c_0.Winner, slv rS c_0.Reason], pv (ptr b_1 0)] [oc b_1 [slv rS p_1.Sides.i0, slv rS p_1.Sides.i1, slv rT_api_Case p_1.Cases]] (fun (x : (Value × List Nat)) => [pv x.1]) (fun (x : (Value × List Nat)) => [oc b_1 [slv rS p_1.Sides.i0, slv rS p_1.Sides.i1, slv rT_api_Case p_1.Cases], oa rS x.1 x.2 r]) := by
  refine fn_ok (X := (Value × List Nat)) (fn := Tryd.f28) (N := 10) (res := fun r x => [pv x.1]) (Ω1 := fun r x => [oc b_1 [slv rS p_1.Sides.i0, slv rS p_1.Sides.i1, slv rT_api_Case p_1.Cases], oa rS x.1 x.2 r]) Tryd.func28 rfl rfl hm rfl (fun E hM => ?_)
  unfold precedent_Strong_1_m
  refine ref_seq (ref_region ?_)
  refine s_st (s_box (part_agO (ψs := [sv c_0.Name, slv rS c_0.Facts, iv .i64 c_0.Winner, slv rS c_0.Reason]) rfl ⟨.inl sv_at, .inl slv_at, .inl iv_at, .inl slv_at, trivial⟩)) rfl (fun b1 => ?_)
  refine as1 rfl rfl ?_
  refine l_nil (n_then (ref_seq (ref_region ?_)))
  refine s_rd (r_cloadS Tryd.isAgg29 Tryd.sizeOf29 rfl (j := 0) rfl rfl rfl) rfl ?_
  refine s_rd (r_faddr (fo := 1) Tryd.underlying39 rfl rfl Tryd.sizeOf25 rfl) rfl ?_
  refine s_rd (r_cload Tryd.isAgg25 rfl (j := 1) rfl rfl) rfl ?_
  refine s_rd (r_faddr (fo := 2) Tryd.underlying39 rfl rfl Tryd.sizeOf3 rfl) rfl ?_
  refine s_rd (r_cload Tryd.isAgg3 rfl (j := 1) rfl rfl) rfl ?_
  refine pull fun t2 h_t2 => ?_
  refine s_st (s_call (ψ := fun (x3 : (Value × List Nat)) => pv x3.1) (args := [.tmp 4, .tmp 6, .tmp 8]) Tryd.call29 rfl (precedent_own_ok h_t2) ⟨arg rfl, arg rfl, arg rfl, trivial⟩ (fun _ _ _ _ h => h)) rfl (fun x3 => ?_)
  refine as1 rfl rfl ?_
  refine l_nil (n_then (ref_ret ?_))
  exact fin1 (.inl rfl) x3 [0, 2] rfl ⟨rfl, rfl, trivial⟩ rfl (rv_tmp rfl)

/-! deliberation/precedent.forced -/
noncomputable def precedent_forced_l1 (l_0 : T_api_Library) (facts_1 : (List ByteArray)) (e_0 : T_api_Library) (s40 : Int × (List Int) × (List Int)) : Option (Sum ((List Int) × (List Int)) (Int × (List Int) × (List Int))) :=
  bif decide (s40.1 < (l_0.Cases.length : Int)) then
    Option.bind (idxM l_0.Cases s40.1) fun t43 =>
    Option.bind (precedent_Strong_1_m t43 e_0) fun t45 =>
    Option.bind (precedent_within_m t45 facts_1) fun t47 =>
    bif !t47 then
      some (Sum.inr (iadd .i64 s40.1 1, s40.2.1, s40.2.2))
    else
      Option.bind (precedent_counter_m l_0 facts_1 t43.Winner) fun t48 =>
      Option.bind (precedent_within_m t48 t43.Facts) fun t50 =>
      bif !t50 then
        some (Sum.inr (iadd .i64 s40.1 1, s40.2.1, s40.2.2))
      else
        bif t43.Winner == 1 then
          Option.bind (appM 8 s40.2.1 [s40.1]) fun t53 =>
          some (Sum.inr (iadd .i64 s40.1 1, t53, s40.2.2))
        else
          Option.bind (appM 8 s40.2.2 [s40.1]) fun t55 =>
          some (Sum.inr (iadd .i64 s40.1 1, s40.2.1, t55))
  else
    some (Sum.inl (s40.2.1, s40.2.2))

noncomputable def precedent_forced_m (l_0 : T_api_Library) (facts_1 : (List ByteArray)) (e_0 : T_api_Library) : Option (T_api_Force × Int) :=
  Option.bind (precedent_situation_m l_0 facts_1) fun e3 =>
  bif e3 != 0 then
    some ((T_api_Force.mk [] []), e3)
  else
    Option.bind (loopC (precedent_forced_l1 l_0 facts_1 e_0) (0, [], [])) fun q57 : (List Int) × (List Int) =>
    some ((T_api_Force.mk q57.1 q57.2), 0)

theorem precedent_forced_ok {l_0 : T_api_Library} {facts_1 : (List ByteArray)} {e_0 : T_api_Library} {be_0 : Nat} {r : T_api_Force × Int} (hm : precedent_forced_m l_0 facts_1 e_0 = some r) :
    FnOk prog 27 [ag [slv rS l_0.Sides.i0, slv rS l_0.Sides.i1, slv rT_api_Case l_0.Cases], slv rS facts_1, pv (.func (.func 28) #[] #[(ptr be_0 0)])] [oc be_0 [slv rS e_0.Sides.i0, slv rS e_0.Sides.i1, slv rT_api_Case e_0.Cases]] (fun (x : Unit) => [ag [slv (rI .i64) r.1.For, slv (rI .i64) r.1.Against], iv .i64 r.2]) (fun (x : Unit) => [oc be_0 [slv rS e_0.Sides.i0, slv rS e_0.Sides.i1, slv rT_api_Case e_0.Cases]]) := by
  refine fn_ok (fn := Tryd.f27) (N := 61) (res := fun r x => [ag [slv (rI .i64) r.1.For, slv (rI .i64) r.1.Against], iv .i64 r.2]) (Ω1 := fun r x => [oc be_0 [slv rS e_0.Sides.i0, slv rS e_0.Sides.i1, slv rT_api_Case e_0.Cases]]) Tryd.func27 rfl rfl hm rfl (fun E hM => ?_)
  unfold precedent_forced_m
  refine ref_seq (ref_region ?_)
  refine s_st (s_box (part_agO (ψs := [slv rS l_0.Sides.i0, slv rS l_0.Sides.i1, slv rT_api_Case l_0.Cases]) rfl ⟨.inl slv_at, .inl slv_at, .inl slv_at, trivial⟩)) rfl (fun b1 => ?_)
  refine s_st (s_alloc zt_33) rfl (fun b2 => ?_)
  refine as1 rfl rfl ?_
  refine l_nil (n_then (ref_seq (ref_seq (ref_region ?_))))
  refine s_rd (r_cloadS Tryd.isAgg29 Tryd.sizeOf29 rfl (j := 1) rfl rfl rfl) rfl ?_
  refine mv1 rfl rfl ?_
  refine pull fun e3 h_e3 => ?_
  refine s_st (s_call (ψ := fun (_ : Unit) => iv .i64 e3) (args := [.tmp 12, .tmp 13]) Tryd.call40 rfl (precedent_situation_ok h_e3) ⟨arg rfl, arg rfl, trivial⟩ (fun _ _ _ _ h => h)) rfl (fun _ => ?_)
  refine as1 rfl rfl ?_
  refine l_nil (n_then (ref_seq (ref_region ?_)))
  refine mv1 rfl rfl ?_
  refine s_rd (r_neq rfl rfl) rfl ?_
  refine l_nil (n_then ?_)
  refine ref_cond rfl (fun hb4 => ?_) (fun hb4 => ?_)
  · refine ref_seq (ref_region ?_)
    refine s_rd (r_build (ps := []) (rs := []) st_33 zs_33 trivial rfl rfl) rfl ?_
    refine mv1 rfl rfl ?_
    refine s_st0 (s_cstore (out := [pv (.slice none 0 0), pv (.slice none 0 0)]) Tryd.sizeOf33 rfl (j := 2) rfl (part_agO (ψs := [pv (.slice none 0 0), pv (.slice none 0 0)]) rfl ⟨.inl (pv_at rfl), .inl (pv_at rfl), trivial⟩) rfl rfl rfl) (fun _ => ?_)
    refine as1 rfl rfl ?_
    refine l_nil ?_
    refine b_of (nrm [oc be_0 [slv rS e_0.Sides.i0, slv rS e_0.Sides.i1, slv rT_api_Case e_0.Cases], oc b1 [slv rS l_0.Sides.i0, slv rS l_0.Sides.i1, slv rT_api_Case l_0.Cases], oc b2 [pv (.slice none 0 0), pv (.slice none 0 0)]] rfl) ?_
    refine n_then (ref_ret (r_then ?_))
    refine b_of (ocW 2 [slv (rI .i64) [], slv (rI .i64) []] rfl ⟨nil_sl, nil_sl, trivial⟩) ?_
    exact fin2 (.inl rfl) () [0] rfl ⟨rfl, trivial⟩ rfl (rv_cell rfl (j := 2) rfl Tryd.isAgg33 Tryd.sizeOf33 rfl rfl) (rv_tmp rfl)
  refine ref_skip (n_then (ref_seq (ref_region ?_)))
  refine s_st (s_alloc zt_33) rfl (fun b5 => ?_)
  refine l_nil ?_
  refine b_of (nrm [oc be_0 [slv rS e_0.Sides.i0, slv rS e_0.Sides.i1, slv rT_api_Case e_0.Cases], oc b1 [slv rS l_0.Sides.i0, slv rS l_0.Sides.i1, slv rT_api_Case l_0.Cases], oc b2 [pv (.slice none 0 0), pv (.slice none 0 0)], oc b5 [pv (.slice none 0 0), pv (.slice none 0 0)]] rfl) ?_
  refine n_then (ref_seq (ref_seq (ref_region ?_)))
  refine s_rd (r_faddr (fo := 2) Tryd.underlying29 rfl rfl Tryd.sizeOf27 rfl) rfl ?_
  refine s_rd (r_cload Tryd.isAgg27 rfl (j := 1) rfl rfl) rfl ?_
  refine s_rd (r_len Tryd.underlying27 rfl) rfl ?_
  refine mv1 rfl rfl ?_
  refine l_nil (n_then ?_)
  refine b_of (own_nil (rI .i64)) ?_
  refine b_of (own_nil (rI .i64)) ?_
  refine ref_loopB (f := (precedent_forced_l1 l_0 facts_1 e_0)) (Γl := (fun (s40 : Int × (List Int) × (List Int)) (x41 : (Value × List Nat) × (Value × List Nat)) => [(1, slv rS facts_1), (2, pv (.func (.func 28) #[] #[(ptr be_0 0)])), (3, pv (ptr b1 0)), (6, pv (ptr b2 0)), (9, pv (ptr b5 0)), (20, slv rT_api_Case l_0.Cases), (21, iv .i64 (l_0.Cases.length : Int)), (22, iv .i64 s40.1)])) (Ωl := (fun (s40 : Int × (List Int) × (List Int)) (x41 : (Value × List Nat) × (Value × List Nat)) => [oc be_0 [slv rS e_0.Sides.i0, slv rS e_0.Sides.i1, slv rT_api_Case e_0.Cases], oc b1 [slv rS l_0.Sides.i0, slv rS l_0.Sides.i1, slv rT_api_Case l_0.Cases], oc b2 [pv (.slice none 0 0), pv (.slice none 0 0)], oc b5 [pv x41.1.1, pv x41.2.1], oa (rI .i64) x41.1.1 x41.1.2 s40.2.1, oa (rI .i64) x41.2.1 x41.2.2 s40.2.2])) (Γb := (fun (q57 : (List Int) × (List Int)) (y58 : (Value × List Nat) × (Value × List Nat)) => [(2, pv (.func (.func 28) #[] #[(ptr be_0 0)])), (6, pv (ptr b2 0)), (9, pv (ptr b5 0))])) (Ωb := (fun (q57 : (List Int) × (List Int)) (y58 : (Value × List Nat) × (Value × List Nat)) => [oc be_0 [slv rS e_0.Sides.i0, slv rS e_0.Sides.i1, slv rT_api_Case e_0.Cases], oc b2 [pv (.slice none 0 0), pv (.slice none 0 0)], oc b5 [pv y58.1.1, pv y58.2.1], oa (rI .i64) y58.1.1 y58.1.2 q57.1, oa (rI .i64) y58.2.1 y58.2.2 q57.2])) (0, [], []) (((.slice none 0 0), []), ((.slice none 0 0), [])) (weak [0, 1, 2, 3, 4, 5] ⟨rfl, rfl, rfl, rfl, rfl, rfl, rfl, rfl, trivial⟩ ⟨rfl, rfl, rfl, rfl, rfl, rfl, trivial⟩) (fun s40 x41 => ?_) (fun q57 y58 => ?_)
  · unfold precedent_forced_l1
    refine ref_seq (ref_region ?_)
    refine s_rd (r_lss rfl rfl) rfl ?_
    refine l_nil (n_then (ref_seq ?_))
    refine ref_cond rfl (fun hb42 => ?_) (fun hb42 => ?_)
    · refine ref_skip (n_then (ref_seq (ref_block (ref_seq (ref_region ?_)))))
      refine mv1 rfl rfl ?_
      refine pull fun t43 h_t43 => ?_
      refine s_rd (r_index h_t43 Tryd.underlying27 el_39 rfl rfl) rfl ?_
      refine s_rd (r_load el_39 rfl) rfl ?_
      refine s_st (s_alloc zt_39) rfl (fun b44 => ?_)
      refine as1 rfl rfl ?_
      refine s_st0 (s_cstore (out := [sv t43.Name, slv rS t43.Facts, iv .i64 t43.Winner, slv rS t43.Reason]) Tryd.sizeOf39 rfl (j := 6) rfl (part_agO (ψs := [sv t43.Name, slv rS t43.Facts, iv .i64 t43.Winner, slv rS t43.Reason]) rfl ⟨.inl sv_at, .inl slv_at, .inl iv_at, .inl slv_at, trivial⟩) rfl rfl rfl) (fun _ => ?_)
      refine l_nil (n_then (ref_seq (ref_seq ?_)))
      refine ref_draw [0, 1, 3, 5, 6, 7, 8, 9, 10, 12, 13, 15, 16] rfl (by kernel_rfl) (fun hok => ?_)
      refine a_rd (i := 0) hok rfl (by kernel_rfl) rfl (r_move rfl) rfl ?_
      refine a_rd (i := 1) hok rfl (by kernel_rfl) rfl (r_cloadS Tryd.isAgg39 Tryd.sizeOf39 rfl (j := 6) rfl rfl rfl) rfl ?_
      refine a_rd (i := 3) hok rfl (by kernel_rfl) rfl (r_move rfl) rfl ?_
      refine pull fun t45 h_t45 => ?_
      refine a_next hok 2 [] (by kernel_rfl) ?_ trivial
      refine a_st (i := 2) hok rfl rfl (s_callC [0] [true] (fun (x46 : (Value × List Nat)) => [oc be_0 [slv rS e_0.Sides.i0, slv rS e_0.Sides.i1, slv rT_api_Case e_0.Cases]]) (fun (x46 : (Value × List Nat)) => [oa rS x46.1 x46.2 t45]) (fun (x46 : (Value × List Nat)) => pv x46.1) (args := [.tmp 28]) (caps := [(ptr be_0 0)]) Tryd.call28 rfl (precedent_Strong_1_ok h_t45) ⟨rfl, rfl, trivial⟩ (fun _ => rfl) (fun _ => trivial) (fun _ => rfl) ⟨arg rfl, arg rfl, trivial⟩ (fun _ _ _ _ h => h)) (by intro _ h; cases h; rfl) (fun _ => ⟨trivial, ⟨trivial, ⟨trivial, trivial⟩⟩⟩) (fun x46 => ?_)
      refine pull fun t47 h_t47 => ?_
      refine a_next hok 4 [] (by kernel_rfl) ?_ trivial
      refine a_st (i := 4) hok rfl rfl (s_callB (ψ := fun (_ : Unit) => bv t47) (args := [.tmp 29, .tmp 30]) Tryd.call42 rfl (precedent_within_ok h_t47) ⟨argO rfl (j := 7) rfl, argB rfl, trivial⟩ (fun _ _ _ _ _ h => h)) (by intro _ h; cases h; rfl) (fun _ => ⟨trivial, ⟨⟨⟨rfl, rfl⟩, trivial⟩, ⟨trivial, trivial⟩⟩⟩) (fun _ => ?_)
      refine a_rd (i := 5) hok rfl (by kernel_rfl) rfl (r_not rfl) rfl ?_
      refine a_rd (i := 6) hok rfl (by kernel_rfl) rfl (r_move rfl) rfl ?_
      refine b_split (t := 33) rfl (fun _ => ?_) (fun _ => ?_)
      · refine a_off (i := 7) hok rfl rfl rfl rfl rfl (by kernel_rfl) rfl rfl ?_
        refine a_off (i := 8) hok rfl rfl rfl rfl rfl (by kernel_rfl) rfl rfl ?_
        refine a_off (i := 9) hok rfl rfl rfl rfl rfl (by kernel_rfl) rfl rfl ?_
        refine a_off (i := 10) hok rfl rfl rfl rfl rfl (by kernel_rfl) rfl rfl ?_
        refine a_off (i := 12) hok rfl rfl rfl rfl rfl (by kernel_rfl) rfl rfl ?_
        refine a_off (i := 13) hok rfl rfl rfl rfl rfl (by kernel_rfl) rfl rfl ?_
        refine a_next hok 11 [] (by kernel_rfl) ?_ trivial
        refine a_stOff (i := 11) hok rfl rfl rfl rfl rfl rfl (by intro _ h; cases h; rfl) ⟨trivial, ⟨trivial, ⟨trivial, ⟨trivial, ⟨trivial, ⟨trivial, ⟨trivial, ⟨trivial, ⟨trivial, ⟨⟨⟨rfl, rfl⟩, trivial⟩, ⟨trivial, trivial⟩⟩⟩⟩⟩⟩⟩⟩⟩⟩⟩ ?_
        refine a_next hok 14 [] (by kernel_rfl) ?_ trivial
        refine a_stOff (i := 14) hok rfl rfl rfl rfl rfl rfl (by intro _ h; cases h; rfl) ⟨trivial, ⟨trivial, ⟨trivial, ⟨trivial, ⟨trivial, ⟨trivial, ⟨trivial, ⟨trivial, ⟨trivial, ⟨⟨⟨rfl, rfl⟩, trivial⟩, ⟨trivial, trivial⟩⟩⟩⟩⟩⟩⟩⟩⟩⟩⟩ ?_
        refine a_off (i := 15) hok rfl rfl rfl rfl rfl (by kernel_rfl) rfl rfl ?_
        refine a_rd (i := 16) hok rfl (by kernel_rfl) rfl (r_pickT rfl rfl) rfl ?_
        refine a_fin hok (by kernel_rfl) ?_
        refine b_of (nrm [oc be_0 [slv rS e_0.Sides.i0, slv rS e_0.Sides.i1, slv rT_api_Case e_0.Cases], oc b1 [slv rS l_0.Sides.i0, slv rS l_0.Sides.i1, slv rT_api_Case l_0.Cases], oc b2 [pv (.slice none 0 0), pv (.slice none 0 0)], oc b5 [pv x41.1.1, pv x41.2.1], oa (rI .i64) x41.1.1 x41.1.2 s40.2.1, oa (rI .i64) x41.2.1 x41.2.2 s40.2.2, oc b44 [sv t43.Name, slv rS t43.Facts, iv .i64 t43.Winner, slv rS t43.Reason], oa rS x46.1 x46.2 t45] rfl) ?_
        refine n_then ?_
        refine ref_condT rfl rfl ?_
        refine ref_exit (x_then (x_eq (n_then (ref_region ?_))))
        refine s_rd (r_add rfl rfl) rfl ?_
        refine mv1 rfl rfl ?_
        refine l_nil ?_
        exact goB (x41.1, x41.2) (weak [0, 1, 2, 3, 4, 5] ⟨rfl, rfl, rfl, rfl, rfl, rfl, rfl, rfl, trivial⟩ ⟨rfl, rfl, rfl, rfl, rfl, rfl, trivial⟩)
      refine a_rdOn (i := 7) hok rfl rfl rfl rfl (by kernel_rfl) rfl (r_cloadS Tryd.isAgg29 Tryd.sizeOf29 rfl (j := 1) rfl rfl rfl) rfl ?_
      refine a_rdOn (i := 8) hok rfl rfl rfl rfl (by kernel_rfl) rfl (r_move rfl) rfl ?_
      refine a_rdOn (i := 9) hok rfl rfl rfl rfl (by kernel_rfl) rfl (r_faddr (fo := 2) Tryd.underlying39 rfl rfl Tryd.sizeOf3 rfl) rfl ?_
      refine a_rdOn (i := 10) hok rfl rfl rfl rfl (by kernel_rfl) rfl (r_cload Tryd.isAgg3 rfl (j := 6) rfl rfl) rfl ?_
      refine a_rdOn (i := 12) hok rfl rfl rfl rfl (by kernel_rfl) rfl (r_faddr (fo := 1) Tryd.underlying39 rfl rfl Tryd.sizeOf25 rfl) rfl ?_
      refine a_rdOn (i := 13) hok rfl rfl rfl rfl (by kernel_rfl) rfl (r_cload Tryd.isAgg25 rfl (j := 6) rfl rfl) rfl ?_
      refine pull fun t48 h_t48 => ?_
      refine a_next hok 11 [] (by kernel_rfl) ?_ trivial
      refine a_stOn (i := 11) hok rfl rfl rfl rfl rfl (s_call (ψ := fun (x49 : (Value × List Nat)) => pv x49.1) (args := [.tmp 34, .tmp 35, .tmp 37]) Tryd.call36 rfl (precedent_counter_ok h_t48) ⟨arg rfl, arg rfl, arg rfl, trivial⟩ (fun _ _ _ _ h => h)) (by intro _ h; cases h; rfl) (fun _ => ⟨⟨⟨rfl, rfl⟩, trivial⟩, ⟨trivial, ⟨trivial, ⟨trivial, ⟨trivial, ⟨trivial, ⟨trivial, ⟨trivial, ⟨trivial, ⟨⟨⟨rfl, rfl⟩, trivial⟩, ⟨trivial, trivial⟩⟩⟩⟩⟩⟩⟩⟩⟩⟩⟩) (fun x49 => ?_)
      refine pull fun t50 h_t50 => ?_
      refine a_next hok 14 [] (by kernel_rfl) ?_ trivial
      refine a_stOn (i := 14) hok rfl rfl rfl rfl rfl (s_callB (ψ := fun (_ : Unit) => bv t50) (args := [.tmp 38, .tmp 40]) Tryd.call42 rfl (precedent_within_ok h_t50) ⟨argO rfl (j := 8) rfl, argB rfl, trivial⟩ (fun _ _ _ _ _ h => h)) (by intro _ h; cases h; rfl) (fun _ => ⟨trivial, ⟨trivial, ⟨⟨⟨rfl, rfl⟩, trivial⟩, ⟨trivial, ⟨trivial, ⟨⟨⟨rfl, rfl⟩, trivial⟩, ⟨trivial, ⟨trivial, ⟨trivial, ⟨⟨⟨rfl, rfl⟩, trivial⟩, ⟨trivial, trivial⟩⟩⟩⟩⟩⟩⟩⟩⟩⟩⟩) (fun _ => ?_)
      refine a_rdOn (i := 15) hok rfl rfl rfl rfl (by kernel_rfl) rfl (r_not rfl) rfl ?_
      refine a_rd (i := 16) hok rfl (by kernel_rfl) rfl (r_pickF rfl rfl) rfl ?_
      refine a_fin hok (by kernel_rfl) ?_
      refine b_of (nrm [oc be_0 [slv rS e_0.Sides.i0, slv rS e_0.Sides.i1, slv rT_api_Case e_0.Cases], oc b1 [slv rS l_0.Sides.i0, slv rS l_0.Sides.i1, slv rT_api_Case l_0.Cases], oc b2 [pv (.slice none 0 0), pv (.slice none 0 0)], oc b5 [pv x41.1.1, pv x41.2.1], oa (rI .i64) x41.1.1 x41.1.2 s40.2.1, oa (rI .i64) x41.2.1 x41.2.2 s40.2.2, oc b44 [sv t43.Name, slv rS t43.Facts, iv .i64 t43.Winner, slv rS t43.Reason], oa rS x46.1 x46.2 t45, oa rS x49.1 x49.2 t48] rfl) ?_
      refine n_then ?_
      refine ref_cond rfl (fun hb51 => ?_) (fun hb51 => ?_)
      · refine ref_exit (x_then (x_eq (n_then (ref_region ?_))))
        refine s_rd (r_add rfl rfl) rfl ?_
        refine mv1 rfl rfl ?_
        refine l_nil ?_
        exact goB (x41.1, x41.2) (weak [0, 1, 2, 3, 4, 5] ⟨rfl, rfl, rfl, rfl, rfl, rfl, rfl, rfl, trivial⟩ ⟨rfl, rfl, rfl, rfl, rfl, rfl, trivial⟩)
      refine ref_skip (n_then (ref_seq (ref_region ?_)))
      refine s_rd (r_faddr (fo := 2) Tryd.underlying39 rfl rfl Tryd.sizeOf3 rfl) rfl ?_
      refine s_rd (r_cload Tryd.isAgg3 rfl (j := 6) rfl rfl) rfl ?_
      refine s_rd (r_eql rfl rfl) rfl ?_
      refine l_nil (n_then ?_)
      refine ref_cond rfl (fun hb52 => ?_) (fun hb52 => ?_)
      · refine ref_region ?_
        refine s_rd (r_faddr (fo := 0) Tryd.underlying33 rfl rfl Tryd.sizeOf22 rfl) rfl ?_
        refine s_rd (r_cload Tryd.isAgg22 rfl (j := 3) rfl rfl) rfl ?_
        refine mv1 rfl rfl ?_
        refine s_st (s_bslice (xs := [.tmp 49]) (ds := [s40.1]) Tryd.underlying22 el_3 rfl (Nat.le_of_ble_eq_true rfl) ⟨(part_at rfl iv_at), trivial⟩) rfl (fun _ => ?_)
        refine pull fun t53 h_t53 => ?_
        refine s_st (s_append h_t53 Tryd.underlying22 el_3 rfl (j := 4) rfl rfl) rfl (fun o54 => ?_)
        refine s_rd (r_faddr (fo := 0) Tryd.underlying33 rfl rfl Tryd.sizeOf22 rfl) rfl ?_
        refine s_st0 (s_cstore (out := [pv o54.1, pv x41.2.1]) Tryd.sizeOf22 rfl (j := 3) rfl (part_own rfl (j := 4) rfl) rfl rfl rfl) (fun _ => ?_)
        refine l_nil (n_block (n_then (ref_region ?_)))
        refine s_rd (r_add rfl rfl) rfl ?_
        refine mv1 rfl rfl ?_
        refine l_nil ?_
        exact goB (o54, x41.2) (weak [0, 1, 2, 3, 4, 5] ⟨rfl, rfl, rfl, rfl, rfl, rfl, rfl, rfl, trivial⟩ ⟨rfl, rfl, rfl, rfl, rfl, rfl, trivial⟩)
      refine ref_region ?_
      refine s_rd (r_faddr (fo := 1) Tryd.underlying33 rfl rfl Tryd.sizeOf22 rfl) rfl ?_
      refine s_rd (r_cload Tryd.isAgg22 rfl (j := 3) rfl rfl) rfl ?_
      refine mv1 rfl rfl ?_
      refine s_st (s_bslice (xs := [.tmp 55]) (ds := [s40.1]) Tryd.underlying22 el_3 rfl (Nat.le_of_ble_eq_true rfl) ⟨(part_at rfl iv_at), trivial⟩) rfl (fun _ => ?_)
      refine pull fun t55 h_t55 => ?_
      refine s_st (s_append h_t55 Tryd.underlying22 el_3 rfl (j := 5) rfl rfl) rfl (fun o56 => ?_)
      refine s_rd (r_faddr (fo := 1) Tryd.underlying33 rfl rfl Tryd.sizeOf22 rfl) rfl ?_
      refine s_st0 (s_cstore (out := [pv x41.1.1, pv o56.1]) Tryd.sizeOf22 rfl (j := 3) rfl (part_own rfl (j := 5) rfl) rfl rfl rfl) (fun _ => ?_)
      refine l_nil (n_block (n_then (ref_region ?_)))
      refine s_rd (r_add rfl rfl) rfl ?_
      refine mv1 rfl rfl ?_
      refine l_nil ?_
      exact goB (x41.1, o56) (weak [0, 1, 2, 3, 4, 5] ⟨rfl, rfl, rfl, rfl, rfl, rfl, rfl, rfl, trivial⟩ ⟨rfl, rfl, rfl, rfl, rfl, rfl, trivial⟩)
    refine ref_exit (x_then ?_)
    exact brkB (x41.1, x41.2) (weak [0, 2, 3, 4, 5] ⟨rfl, rfl, rfl, trivial⟩ ⟨rfl, rfl, rfl, rfl, rfl, trivial⟩)
  refine n_then (ref_seq (ref_region ?_))
  refine s_rd (r_cloadS Tryd.isAgg33 Tryd.sizeOf33 rfl (j := 2) rfl rfl rfl) rfl ?_
  refine s_st0 (s_cstore (out := [pv y58.1.1, pv y58.2.1]) Tryd.sizeOf33 rfl (j := 1) rfl (part_agO (ψs := [pv y58.1.1, pv y58.2.1]) rfl ⟨.inr ⟨_, _, _, _, _, 3, rfl, rfl⟩, .inr ⟨_, _, _, _, _, 4, rfl, rfl⟩, trivial⟩) rfl rfl rfl) (fun _ => ?_)
  refine as1 rfl rfl ?_
  refine l_nil (n_then (ref_ret ?_))
  refine b_of (frzGL [(60, ag [slv (rI .i64) q57.1, pv y58.2.1])] [(1, b2, [slv (rI .i64) q57.1, pv y58.2.1]), (2, b5, [slv (rI .i64) q57.1, pv y58.2.1])] (j := 3) rfl ⟨⟨_, rfl, .inr ⟨_, _, rfl, rfl, ⟨.inr ⟨rfl, rfl⟩, .inl rfl, trivial⟩⟩⟩, trivial⟩ ⟨⟨_, rfl, ⟨.inr ⟨rfl, rfl⟩, .inl rfl, trivial⟩⟩, ⟨_, rfl, ⟨.inr ⟨rfl, rfl⟩, .inl rfl, trivial⟩⟩, trivial⟩) ?_
  refine b_of (nrm [oc be_0 [slv rS e_0.Sides.i0, slv rS e_0.Sides.i1, slv rT_api_Case e_0.Cases], oc b2 [slv (rI .i64) q57.1, pv y58.2.1], oc b5 [slv (rI .i64) q57.1, pv y58.2.1], dead, oa (rI .i64) y58.2.1 y58.2.2 q57.2] rfl) ?_
  refine b_of (frzGL [(60, ag [slv (rI .i64) q57.1, slv (rI .i64) q57.2])] [(1, b2, [slv (rI .i64) q57.1, slv (rI .i64) q57.2]), (2, b5, [slv (rI .i64) q57.1, slv (rI .i64) q57.2])] (j := 4) rfl ⟨⟨_, rfl, .inr ⟨_, _, rfl, rfl, ⟨.inl rfl, .inr ⟨rfl, rfl⟩, trivial⟩⟩⟩, trivial⟩ ⟨⟨_, rfl, ⟨.inl rfl, .inr ⟨rfl, rfl⟩, trivial⟩⟩, ⟨_, rfl, ⟨.inl rfl, .inr ⟨rfl, rfl⟩, trivial⟩⟩, trivial⟩) ?_
  refine b_of (nrm [oc be_0 [slv rS e_0.Sides.i0, slv rS e_0.Sides.i1, slv rT_api_Case e_0.Cases], oc b2 [slv (rI .i64) q57.1, slv (rI .i64) q57.2], oc b5 [slv (rI .i64) q57.1, slv (rI .i64) q57.2], dead, dead] rfl) ?_
  exact fin2 (.inl rfl) () [0] rfl ⟨rfl, trivial⟩ rfl (rv_cell rfl (j := 1) rfl Tryd.isAgg33 Tryd.sizeOf33 rfl rfl) (rv_tmp rfl)

/-! deliberation/precedent.Strong -/
noncomputable def precedent_Strong_m (l_0 : T_api_Library) (facts_1 : (List ByteArray)) : Option (T_api_Force × Int) :=
  Option.bind (precedent_forced_m l_0 facts_1 l_0) fun t3 =>
  some (t3.1, t3.2)

theorem precedent_Strong_ok {l_0 : T_api_Library} {facts_1 : (List ByteArray)} {r : T_api_Force × Int} (hm : precedent_Strong_m l_0 facts_1 = some r) :
    FnOk prog 10 [ag [slv rS l_0.Sides.i0, slv rS l_0.Sides.i1, slv rT_api_Case l_0.Cases], slv rS facts_1] [] (fun (x : Unit) => [ag [slv (rI .i64) r.1.For, slv (rI .i64) r.1.Against], iv .i64 r.2]) (fun (x : Unit) => []) := by
  refine fn_ok (fn := Tryd.f10) (N := 12) (res := fun r x => [ag [slv (rI .i64) r.1.For, slv (rI .i64) r.1.Against], iv .i64 r.2]) (Ω1 := fun r x => []) Tryd.func10 rfl rfl hm rfl (fun E hM => ?_)
  unfold precedent_Strong_m
  refine ref_seq (ref_region ?_)
  refine s_st (s_box (part_agO (ψs := [slv rS l_0.Sides.i0, slv rS l_0.Sides.i1, slv rT_api_Case l_0.Cases]) rfl ⟨.inl slv_at, .inl slv_at, .inl slv_at, trivial⟩)) rfl (fun b1 => ?_)
  refine s_st (s_alloc zt_33) rfl (fun b2 => ?_)
  refine as1 rfl rfl ?_
  refine l_nil (n_then (ref_seq (ref_region ?_)))
  refine s_rd (r_cloadS Tryd.isAgg29 Tryd.sizeOf29 rfl (j := 0) rfl rfl rfl) rfl ?_
  refine mv1 rfl rfl ?_
  refine s_rd (r_mkfn (xs := [.tmp 2]) (vs := [(ptr b1 0)]) ⟨rfl, trivial⟩) rfl ?_
  refine pull fun t3 h_t3 => ?_
  refine s_st (s_callC [0] [true] (fun (_ : Unit) => [oc b1 [slv rS l_0.Sides.i0, slv rS l_0.Sides.i1, slv rT_api_Case l_0.Cases]]) (fun (_ : Unit) => []) (fun (_ : Unit) => tup [ag [slv (rI .i64) t3.1.For, slv (rI .i64) t3.1.Against], iv .i64 t3.2]) (args := [.tmp 6, .tmp 7, .tmp 8]) (caps := []) Tryd.call27 rfl (precedent_forced_ok h_t3) ⟨rfl, rfl, trivial⟩ (fun _ => rfl) (fun _ => trivial) (fun _ => rfl) ⟨arg rfl, arg rfl, arg rfl, trivial⟩ (fun _ _ _ _ h => h)) rfl (fun _ => ?_)
  refine s_rd (r_extract rfl rfl) rfl ?_
  refine s_rd (r_extract rfl rfl) rfl ?_
  refine s_st0 (s_cstore (out := [slv (rI .i64) t3.1.For, slv (rI .i64) t3.1.Against]) Tryd.sizeOf33 rfl (j := 1) rfl (part_agO (ψs := [slv (rI .i64) t3.1.For, slv (rI .i64) t3.1.Against]) rfl ⟨.inl slv_at, .inl slv_at, trivial⟩) rfl rfl rfl) (fun _ => ?_)
  refine as1 rfl rfl ?_
  refine l_nil ?_
  refine b_of (nrm [oc b1 [slv rS l_0.Sides.i0, slv rS l_0.Sides.i1, slv rT_api_Case l_0.Cases], oc b2 [slv (rI .i64) t3.1.For, slv (rI .i64) t3.1.Against]] rfl) ?_
  refine n_then (ref_ret ?_)
  exact fin2 (.inl rfl) () [] rfl trivial rfl (rv_cell rfl (j := 1) rfl Tryd.isAgg33 Tryd.sizeOf33 rfl rfl) (rv_tmp rfl)

/-! deliberation/precedent.Reasons$1 -/
noncomputable def precedent_Reasons_1_m (c_0 : T_api_Case) : Option (List ByteArray) :=
  some c_0.Reason

theorem precedent_Reasons_1_ok {c_0 : T_api_Case} {r : List ByteArray} (hm : precedent_Reasons_1_m c_0 = some r) :
    FnOk prog 30 [ag [sv c_0.Name, slv rS c_0.Facts, iv .i64 c_0.Winner, slv rS c_0.Reason]] [] (fun (x : Unit) => [slv rS r]) (fun (x : Unit) => []) := by
  refine fn_ok (fn := Tryd.f30) (N := 5) (res := fun r x => [slv rS r]) (Ω1 := fun r x => []) Tryd.func30 rfl rfl hm rfl (fun E hM => ?_)
  unfold precedent_Reasons_1_m
  refine ref_seq (ref_region ?_)
  refine s_st (s_box (part_agO (ψs := [sv c_0.Name, slv rS c_0.Facts, iv .i64 c_0.Winner, slv rS c_0.Reason]) rfl ⟨.inl sv_at, .inl slv_at, .inl iv_at, .inl slv_at, trivial⟩)) rfl (fun b1 => ?_)
  refine as1 rfl rfl ?_
  refine l_nil (n_then (ref_seq (ref_region ?_)))
  refine s_rd (r_faddr (fo := 3) Tryd.underlying39 rfl rfl Tryd.sizeOf25 rfl) rfl ?_
  refine s_rd (r_cload Tryd.isAgg25 rfl (j := 0) rfl rfl) rfl ?_
  refine as1 rfl rfl ?_
  refine l_nil (n_then (ref_ret ?_))
  exact fin1 (.inl rfl) () [] rfl trivial rfl (rv_tmp rfl)

end Go.Dc
