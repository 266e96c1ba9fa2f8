/- Part J.A of a proof that a law of the program returns true: general lemmas, no condition. -/
import Derived.Test.YtplaoadjlcaodaaJTypes
import Derived.Test.YtplaoadjlcaodaaProg
set_option linter.unusedVariables false
set_option maxRecDepth 100000
set_option maxHeartbeats 4000000
namespace Go.Dc
open Go.Proofs
open Go.Proofs.Try (prog)

/-! slices.Clone -/
def slices_Clone_byte_byte_m (d_0 : List Int) : Option (List Int) := appM 1 [] d_0

theorem slices_Clone_byte_byte_ok {d_0 r : List Int} (hm : slices_Clone_byte_byte_m d_0 = some r) : FnOk prog 28 [slv (rI .u8) d_0] [] (fun (x : Value × List Nat) => [pv x.1]) (fun (x : Value × List Nat) => [oa (rI .u8) x.1 x.2 r]) := by
  have hm' : appM 1 [] d_0 = some r := hm
  have hr : r = d_0 := by have := (appM_some hm').2; simpa using this
  subst hr
  refine fn_ok (X := Value × List Nat) (fn := Try.f28) (N := 8) (m := some ()) (r := ()) (res := fun _ x => [pv x.1]) (Ω1 := fun _ x => [oa (rI .u8) x.1 x.2 r]) Try.func28 rfl rfl rfl rfl (fun E hM => ?_)
  refine ref_seq ?_
  refine ref_region ?_
  refine s_rd (r_assign rfl) rfl ?_
  refine l_nil ?_
  refine n_then ?_
  refine ref_seq ?_
  refine ref_seq ?_
  refine ref_region ?_
  refine s_rd (r_move rfl) rfl ?_
  refine s_st (s_isnil Try.underlying27 rfl) rfl (fun b => ?_)
  refine l_nil ?_
  refine n_then ?_
  refine ref_condE (b := b.1) rfl (fun hb => ?_) (fun hb => ?_)
  · refine ref_seq ?_
    refine ref_region ?_
    refine s_rd (r_assign rfl) rfl ?_
    refine l_nil ?_
    refine n_then ?_
    refine ref_ret ?_
    refine r_then ?_
    have hd := b.2 hb
    subst hd
    refine b_of (own_nil (rI .u8)) ?_
    exact fin1 (.inl rfl) (.slice none 0 0, []) [0] rfl ⟨rfl, trivial⟩ rfl (rv_tmp rfl)
  · refine ref_skip ?_
    refine n_then ?_
    refine ref_seq ?_
    refine ref_region ?_
    refine s_st (s_bsliceO (xs := []) (ds := []) Try.underlying27 el_5 rfl (Nat.le_of_ble_eq_true rfl) trivial) rfl (fun o => ?_)
    refine s_rd (r_move rfl) rfl ?_
    refine s_st (s_append hm' Try.underlying27 el_5 rfl (j := 0) rfl rfl) rfl (fun o2 => ?_)
    refine s_rd (r_assign rfl) rfl ?_
    refine l_nil ?_
    refine n_then ?_
    refine ref_ret ?_
    exact fin1 (.inl rfl) o2 [0] rfl ⟨rfl, trivial⟩ rfl (rv_tmp rfl)

/-! deliberation/deliberationkeep.Mod -/
noncomputable def keep_Mod_m (x_0 : Int) (n_1 : Int) : Option (Int) :=
  bif decide (n_1 < 1) then
    some 0
  else
    Option.bind (iremM .i64 x_0 n_1) fun x2 =>
    bif decide (x2 < 0) then
      letM (iadd .i64 x2 n_1) fun x4 =>
      some x4
    else
      some x2

theorem keep_Mod_ok {x_0 : Int} {n_1 : Int} {r : Int} (hm : keep_Mod_m x_0 n_1 = some r) :
    FnOk prog 12 [iv .i64 x_0, iv .i64 n_1] [] (fun (x : Unit) => [iv .i64 r]) (fun (x : Unit) => []) := by
  refine fn_ok (X := Unit) (fn := Try.f12) (N := 16) (m := keep_Mod_m x_0 n_1) (res := fun r x => [iv .i64 r]) (Ω1 := fun r x => []) Try.func12 rfl rfl hm rfl (fun E hM => ?_)
  unfold keep_Mod_m
  refine ref_seq ?_
  refine ref_region ?_
  refine s_rd (r_assign rfl) rfl ?_
  refine l_nil ?_
  refine n_then ?_
  refine ref_seq ?_
  refine ref_seq ?_
  refine ref_region ?_
  refine s_rd (r_move rfl) rfl ?_
  refine s_rd (r_lss rfl rfl) rfl ?_
  refine l_nil ?_
  refine n_then ?_
  refine ref_cond rfl (fun hb1 => ?_) (fun hb1 => ?_)
  · refine ref_seq ?_
    refine ref_region ?_
    refine s_rd (r_assign rfl) rfl ?_
    refine l_nil ?_
    refine n_then ?_
    refine ref_ret ?_
    refine r_then ?_
    exact fin1 (.inl rfl) () [] rfl trivial rfl (rv_tmp rfl)
  · refine ref_skip ?_
    refine n_then ?_
    refine ref_seq ?_
    refine ref_region ?_
    refine s_rd (r_move rfl) rfl ?_
    refine s_rd (r_move rfl) rfl ?_
    refine pull fun x2 h_x2 => ?_
    refine s_rd (r_remM h_x2 rfl rfl) rfl ?_
    refine s_rd (r_assign rfl) rfl ?_
    refine l_nil ?_
    refine n_then ?_
    refine ref_seq ?_
    refine ref_seq ?_
    refine ref_region ?_
    refine s_rd (r_move rfl) rfl ?_
    refine s_rd (r_lss rfl rfl) rfl ?_
    refine l_nil ?_
    refine n_then ?_
    refine ref_cond rfl (fun hb3 => ?_) (fun hb3 => ?_)
    · refine ref_region ?_
      refine s_rd (r_move rfl) rfl ?_
      refine s_rd (r_move rfl) rfl ?_
      refine s_rd (r_add rfl rfl) rfl ?_
      refine s_rd (r_assign rfl) rfl ?_
      refine b_let (f := iv .i64) (t := 0) rfl fun x4 => ?_
      refine l_nil ?_
      refine n_then ?_
      refine ref_seq ?_
      refine ref_region ?_
      refine s_rd (r_move rfl) rfl ?_
      refine s_rd (r_assign rfl) rfl ?_
      refine l_nil ?_
      refine n_then ?_
      refine ref_ret ?_
      exact fin1 (.inl rfl) () [] rfl trivial rfl (rv_tmp rfl)
    · refine ref_skip ?_
      refine n_then ?_
      refine ref_seq ?_
      refine ref_region ?_
      refine s_rd (r_move rfl) rfl ?_
      refine s_rd (r_assign rfl) rfl ?_
      refine l_nil ?_
      refine n_then ?_
      refine ref_ret ?_
      exact fin1 (.inl rfl) () [] rfl trivial rfl (rv_tmp rfl)

/-! (*deliberation/deliberationkeep.Src).Raw -/
noncomputable def keep_Src_Raw_m (s_0 : T_deliberationkeep_Src) : Option (Int × T_deliberationkeep_Src) :=
  bif decide (s_0.At ≥ (s_0.L.length : Int)) then
    some (0, s_0)
  else
    Option.bind (idxM s_0.L (isub .i64 (iadd .i64 s_0.At 1) 1)) fun t2 =>
    some (t2, (T_deliberationkeep_Src.mk s_0.L (iadd .i64 s_0.At 1)))

theorem keep_Src_Raw_ok {s_0 : T_deliberationkeep_Src} {b_0 : Nat} {r : Int × T_deliberationkeep_Src} (hm : keep_Src_Raw_m s_0 = some r) :
    FnOk prog 31 [pv (ptr b_0 0)] [oc b_0 [slv (rI .i64) s_0.L, iv .i64 s_0.At]] (fun (x : Unit) => [iv .i64 r.1]) (fun (x : Unit) => [oc b_0 [slv (rI .i64) r.2.L, iv .i64 r.2.At]]) := by
  refine fn_ok (X := Unit) (fn := Try.f31) (N := 31) (m := keep_Src_Raw_m s_0) (res := fun r x => [iv .i64 r.1]) (Ω1 := fun r x => [oc b_0 [slv (rI .i64) r.2.L, iv .i64 r.2.At]]) Try.func31 rfl rfl hm rfl (fun E hM => ?_)
  unfold keep_Src_Raw_m
  refine ref_seq ?_
  refine ref_region ?_
  refine s_rd (r_assign rfl) rfl ?_
  refine l_nil ?_
  refine n_then ?_
  refine ref_seq ?_
  refine ref_seq ?_
  refine ref_draw [0, 1, 2, 3, 4, 5, 6, 7, 8, 9] rfl (by kernel_rfl) (fun hok => ?_)
  refine a_rd (i := 0) hok rfl (by kernel_rfl) rfl (r_move rfl) rfl ?_
  refine a_rd (i := 1) hok rfl (by kernel_rfl) rfl (r_nilc rfl) rfl ?_
  refine a_rd (i := 2) hok rfl (by kernel_rfl) rfl (r_faddr (fo := 1) Try.underlying48 rfl rfl Try.sizeOf3 rfl) rfl ?_
  refine a_rd (i := 3) hok rfl (by kernel_rfl) rfl (r_cload Try.isAgg3 rfl (j := 0) rfl rfl) rfl ?_
  refine a_rd (i := 4) hok rfl (by kernel_rfl) rfl (r_move rfl) rfl ?_
  refine a_rd (i := 5) hok rfl (by kernel_rfl) rfl (r_nilc rfl) rfl ?_
  refine a_rd (i := 6) hok rfl (by kernel_rfl) rfl (r_faddr (fo := 0) Try.underlying48 rfl rfl Try.sizeOf22 rfl) rfl ?_
  refine a_rd (i := 7) hok rfl (by kernel_rfl) rfl (r_cload Try.isAgg22 rfl (j := 0) rfl rfl) rfl ?_
  refine a_rd (i := 8) hok rfl (by kernel_rfl) rfl (r_len Try.underlying22 rfl) rfl ?_
  refine a_rd (i := 9) hok rfl (by kernel_rfl) rfl (r_geq rfl rfl) rfl ?_
  refine a_fin hok (by kernel_rfl) ?_
  refine n_then ?_
  refine ref_cond rfl (fun hb1 => ?_) (fun hb1 => ?_)
  · refine ref_seq ?_
    refine ref_region ?_
    refine s_rd (r_assign rfl) rfl ?_
    refine l_nil ?_
    refine n_then ?_
    refine ref_ret ?_
    refine r_then ?_
    exact fin1 (.inl rfl) () [0] rfl ⟨rfl, trivial⟩ rfl (rv_tmp rfl)
  · refine ref_skip ?_
    refine n_then ?_
    refine ref_seq ?_
    refine ref_region ?_
    refine s_rd (r_move rfl) rfl ?_
    refine s_rd (r_nilc rfl) rfl ?_
    refine s_rd (r_faddr (fo := 1) Try.underlying48 rfl rfl Try.sizeOf3 rfl) rfl ?_
    refine s_rd (r_cload Try.isAgg3 rfl (j := 0) rfl rfl) rfl ?_
    refine s_rd (r_add rfl rfl) rfl ?_
    refine s_rd (r_nilc rfl) rfl ?_
    refine s_rd (r_faddr (fo := 1) Try.underlying48 rfl rfl Try.sizeOf3 rfl) rfl ?_
    refine s_st0 (s_cstore Try.sizeOf3 rfl (j := 0) rfl (part_at rfl iv_at) rfl rfl rfl) (fun _ => ?_)
    refine l_nil ?_
    refine n_then ?_
    refine ref_seq ?_
    refine ref_draw [0, 1, 2, 3, 4, 5, 6, 7, 8, 9, 10] rfl (by kernel_rfl) (fun hok => ?_)
    refine a_rd (i := 0) hok rfl (by kernel_rfl) rfl (r_move rfl) rfl ?_
    refine a_rd (i := 1) hok rfl (by kernel_rfl) rfl (r_nilc rfl) rfl ?_
    refine a_rd (i := 2) hok rfl (by kernel_rfl) rfl (r_faddr (fo := 0) Try.underlying48 rfl rfl Try.sizeOf22 rfl) rfl ?_
    refine a_rd (i := 3) hok rfl (by kernel_rfl) rfl (r_cload Try.isAgg22 rfl (j := 0) rfl rfl) rfl ?_
    refine a_rd (i := 4) hok rfl (by kernel_rfl) rfl (r_move rfl) rfl ?_
    refine a_rd (i := 5) hok rfl (by kernel_rfl) rfl (r_nilc rfl) rfl ?_
    refine a_rd (i := 6) hok rfl (by kernel_rfl) rfl (r_faddr (fo := 1) Try.underlying48 rfl rfl Try.sizeOf3 rfl) rfl ?_
    refine a_rd (i := 7) hok rfl (by kernel_rfl) rfl (r_cload Try.isAgg3 rfl (j := 0) rfl rfl) rfl ?_
    refine a_rd (i := 8) hok rfl (by kernel_rfl) rfl (r_sub rfl rfl) rfl ?_
    refine pull fun t2 h_t2 => ?_
    refine a_rd (i := 9) hok rfl (by kernel_rfl) rfl (r_index h_t2 Try.underlying22 el_3 rfl rfl) rfl ?_
    refine a_rd (i := 10) hok rfl (by kernel_rfl) rfl (r_load el_3 rfl) rfl ?_
    refine a_next hok 11 [] (by kernel_rfl) ?_ trivial
    refine a_st (i := 11) hok rfl rfl (St.ofRd (r_assign rfl)) (by intro _ h; cases h; rfl) (fun _ => ⟨trivial, ⟨trivial, ⟨trivial, ⟨trivial, ⟨trivial, ⟨trivial, ⟨trivial, ⟨trivial, ⟨trivial, ⟨trivial, ⟨trivial, trivial⟩⟩⟩⟩⟩⟩⟩⟩⟩⟩⟩) (fun _ => ?_)
    refine a_fin hok (by kernel_rfl) ?_
    refine n_then ?_
    refine ref_ret ?_
    exact fin1 (.inl rfl) () [0] rfl ⟨rfl, trivial⟩ rfl (rv_tmp rfl)

/-! (*deliberation/deliberationkeep.Src).N -/
noncomputable def keep_Src_N_m (s_0 : T_deliberationkeep_Src) (n_1 : Int) : Option (Int × T_deliberationkeep_Src) :=
  Option.bind (keep_Src_Raw_m s_0) fun t1 =>
  Option.bind (keep_Mod_m t1.1 n_1) fun t2 =>
  some (t2, t1.2)

theorem keep_Src_N_ok {s_0 : T_deliberationkeep_Src} {n_1 : Int} {b_0 : Nat} {r : Int × T_deliberationkeep_Src} (hm : keep_Src_N_m s_0 n_1 = some r) :
    FnOk prog 17 [pv (ptr b_0 0), iv .i64 n_1] [oc b_0 [slv (rI .i64) s_0.L, iv .i64 s_0.At]] (fun (x : Unit) => [iv .i64 r.1]) (fun (x : Unit) => [oc b_0 [slv (rI .i64) r.2.L, iv .i64 r.2.At]]) := by
  refine fn_ok (X := Unit) (fn := Try.f17) (N := 9) (m := keep_Src_N_m s_0 n_1) (res := fun r x => [iv .i64 r.1]) (Ω1 := fun r x => [oc b_0 [slv (rI .i64) r.2.L, iv .i64 r.2.At]]) Try.func17 rfl rfl hm rfl (fun E hM => ?_)
  unfold keep_Src_N_m
  refine ref_seq ?_
  refine ref_region ?_
  refine s_rd (r_assign rfl) rfl ?_
  refine l_nil ?_
  refine n_then ?_
  refine ref_seq ?_
  refine ref_region ?_
  refine s_rd (r_move rfl) rfl ?_
  refine pull fun t1 h_t1 => ?_
  refine s_st (s_callO (js := [0]) (os := fun (_ : Unit) => [oc b_0 [slv (rI .i64) t1.2.L, iv .i64 t1.2.At]]) (ex := fun (_ : Unit) => []) (ψ := fun (_ : Unit) => iv .i64 t1.1) (args := [.tmp 5]) Try.call31 rfl (keep_Src_Raw_ok h_t1) ⟨rfl, trivial⟩ (fun _ => rfl) (fun _ => ⟨rfl, trivial⟩) ⟨arg rfl, trivial⟩ (fun _ _ _ _ h => h)) rfl (fun _ => ?_)
  refine s_rd (r_move rfl) rfl ?_
  refine pull fun t2 h_t2 => ?_
  refine s_st (s_call (ψ := fun (_ : Unit) => iv .i64 t2) (args := [.tmp 6, .tmp 7]) Try.call12 rfl (keep_Mod_ok h_t2) ⟨arg rfl, arg rfl, trivial⟩ (fun _ _ _ _ h => h)) rfl (fun _ => ?_)
  refine s_rd (r_assign rfl) rfl ?_
  refine l_nil ?_
  refine n_then ?_
  refine ref_ret ?_
  exact fin1 (.inl rfl) () [0] rfl ⟨rfl, trivial⟩ rfl (rv_tmp rfl)

/-! (*deliberation/deliberationkeep.Src).Pick -/
noncomputable def keep_Src_Pick_m (s_0 : T_deliberationkeep_Src) (l_1 : (List Int)) : Option (Int × T_deliberationkeep_Src) :=
  Option.bind (keep_Src_N_m s_0 (l_1.length : Int)) fun t1 =>
  Option.bind (idxM l_1 t1.1) fun t2 =>
  some (t2, t1.2)

theorem keep_Src_Pick_ok {s_0 : T_deliberationkeep_Src} {l_1 : (List Int)} {b_0 : Nat} {r : Int × T_deliberationkeep_Src} (hm : keep_Src_Pick_m s_0 l_1 = some r) :
    FnOk prog 26 [pv (ptr b_0 0), slv (rI .i64) l_1] [oc b_0 [slv (rI .i64) s_0.L, iv .i64 s_0.At]] (fun (x : Unit) => [iv .i64 r.1]) (fun (x : Unit) => [oc b_0 [slv (rI .i64) r.2.L, iv .i64 r.2.At]]) := by
  refine fn_ok (X := Unit) (fn := Try.f26) (N := 12) (m := keep_Src_Pick_m s_0 l_1) (res := fun r x => [iv .i64 r.1]) (Ω1 := fun r x => [oc b_0 [slv (rI .i64) r.2.L, iv .i64 r.2.At]]) Try.func26 rfl rfl hm rfl (fun E hM => ?_)
  unfold keep_Src_Pick_m
  refine ref_seq ?_
  refine ref_region ?_
  refine s_rd (r_assign rfl) rfl ?_
  refine l_nil ?_
  refine n_then ?_
  refine ref_seq ?_
  refine ref_region ?_
  refine s_rd (r_move rfl) rfl ?_
  refine s_rd (r_move rfl) rfl ?_
  refine s_rd (r_move rfl) rfl ?_
  refine s_rd (r_len Try.underlying22 rfl) rfl ?_
  refine pull fun t1 h_t1 => ?_
  refine s_st (s_callO (js := [0]) (os := fun (_ : Unit) => [oc b_0 [slv (rI .i64) t1.2.L, iv .i64 t1.2.At]]) (ex := fun (_ : Unit) => []) (ψ := fun (_ : Unit) => iv .i64 t1.1) (args := [.tmp 6, .tmp 8]) Try.call17 rfl (keep_Src_N_ok h_t1) ⟨rfl, trivial⟩ (fun _ => rfl) (fun _ => ⟨rfl, trivial⟩) ⟨arg rfl, arg rfl, trivial⟩ (fun _ _ _ _ h => h)) rfl (fun _ => ?_)
  refine pull fun t2 h_t2 => ?_
  refine s_rd (r_index h_t2 Try.underlying22 el_3 rfl rfl) rfl ?_
  refine s_rd (r_load el_3 rfl) rfl ?_
  refine s_rd (r_assign rfl) rfl ?_
  refine l_nil ?_
  refine n_then ?_
  refine ref_ret ?_
  exact fin1 (.inl rfl) () [0] rfl ⟨rfl, trivial⟩ rfl (rv_tmp rfl)

/-! deliberation/deliberationkeep.New -/
noncomputable def keep_New_m (l_0 : (List Int)) : Option (T_deliberationkeep_Src) :=
  Option.bind (slM l_0 0 (imin (l_0.length : Int) 2000)) fun t1 =>
  some (T_deliberationkeep_Src.mk t1 0)

theorem keep_New_ok {l_0 : (List Int)} {r : T_deliberationkeep_Src} (hm : keep_New_m l_0 = some r) :
    FnOk prog 8 [slv (rI .i64) l_0] [] (fun (x : Nat) => [pv (ptr x 0)]) (fun (x : Nat) => [oc x [slv (rI .i64) r.L, iv .i64 r.At]]) := by
  refine fn_ok (X := Nat) (fn := Try.f8) (N := 10) (m := keep_New_m l_0) (res := fun r x => [pv (ptr x 0)]) (Ω1 := fun r x => [oc x [slv (rI .i64) r.L, iv .i64 r.At]]) Try.func8 rfl rfl hm rfl (fun E hM => ?_)
  unfold keep_New_m
  refine ref_seq ?_
  refine ref_region ?_
  refine s_rd (r_assign rfl) rfl ?_
  refine l_nil ?_
  refine n_then ?_
  refine ref_seq ?_
  refine ref_region ?_
  refine s_rd (r_move rfl) rfl ?_
  refine s_rd (r_move rfl) rfl ?_
  refine s_rd (r_len Try.underlying22 rfl) rfl ?_
  refine s_rd (r_min rfl rfl) rfl ?_
  refine pull fun t1 h_t1 => ?_
  refine s_rd (r_slice h_t1 Try.underlying22 el_3 rfl .dft (.of rfl)) rfl ?_
  refine s_rd (r_build (ps := [(0, .tmp 7)]) (rs := [(0, [slv (rI .i64) t1])]) st_48 zs_48 ⟨rfl, (part_at rfl slv_at), trivial⟩ rfl rfl) rfl ?_
  refine s_st (s_box (part_ag (ψs := [slv (rI .i64) t1, iv .i64 0]) rfl (by intro φ h; simp only [List.mem_cons, List.not_mem_nil, or_false] at h; rcases h with rfl | rfl <;> first | exact iv_at | exact bv_at | exact sv_at | exact slv_at | exact pv_at rfl))) rfl (fun b2 => ?_)
  refine s_rd (r_assign rfl) rfl ?_
  refine l_nil ?_
  refine n_then ?_
  refine ref_ret ?_
  exact fin1 (.inl rfl) b2 [0] rfl ⟨rfl, trivial⟩ rfl (rv_tmp rfl)

/-! deliberation/journal.Sum -/
noncomputable def journal_Sum_l1 (b_0 : (List Int)) (s7 : Int × Int × Int) : Option (Sum (Int × Int) (Int × Int × Int)) :=
  bif decide (s7.2.2 < (b_0.length : Int)) then
    Option.bind (idxM b_0 s7.2.2) fun x10 =>
    letM (irem .i64 (iadd .i64 s7.1 (IntKind.wrap .i64 x10)) 65521) fun low11 =>
    letM (irem .i64 (iadd .i64 s7.2.1 low11) 65521) fun high12 =>
    some (Sum.inr (low11, high12, iadd .i64 s7.2.2 1))
  else
    some (Sum.inl (s7.1, s7.2.1))

noncomputable def journal_Sum_m (b_0 : (List Int)) : Option (Int) :=
  Option.bind (loopC (journal_Sum_l1 b_0) (1, 0, 0)) fun q13 : Int × Int =>
  letM (iadd .i64 (ishl .i64 q13.2 16) q13.1) fun t15 =>
  some t15

theorem journal_Sum_ok {b_0 : (List Int)} {r : Int} (hm : journal_Sum_m b_0 = some r) :
    FnOk prog 20 [slv (rI .u8) b_0] [] (fun (x : Unit) => [iv .i64 r]) (fun (x : Unit) => []) := by
  refine fn_ok (X := Unit) (fn := Try.f20) (N := 27) (m := journal_Sum_m b_0) (res := fun r x => [iv .i64 r]) (Ω1 := fun r x => []) Try.func20 rfl rfl hm rfl (fun E hM => ?_)
  unfold journal_Sum_m
  refine ref_seq ?_
  refine ref_region ?_
  refine s_rd (r_assign rfl) rfl ?_
  refine l_nil ?_
  refine n_then ?_
  refine ref_seq ?_
  refine ref_region ?_
  refine s_rd (r_assign rfl) rfl ?_
  refine s_rd (r_assign rfl) rfl ?_
  refine l_nil ?_
  refine n_then ?_
  refine ref_seq ?_
  refine ref_seq ?_
  refine ref_region ?_
  refine s_rd (r_move rfl) rfl ?_
  refine s_rd (r_len Try.underlying27 rfl) rfl ?_
  refine s_rd (r_move rfl) rfl ?_
  refine l_nil ?_
  refine n_then ?_
  refine ref_loopB (f := (journal_Sum_l1 b_0)) (Γl := (fun (s7 : Int × Int × Int) (x8 : Unit) => [(3, iv .i64 s7.1), (4, iv .i64 s7.2.1), (7, slv (rI .u8) b_0), (8, iv .i64 (b_0.length : Int)), (9, iv .i64 s7.2.2)])) (Ωl := (fun (s7 : Int × Int × Int) (x8 : Unit) => [])) (Γb := (fun (q13 : Int × Int) (y14 : Unit) => [(3, iv .i64 q13.1), (4, iv .i64 q13.2)])) (Ωb := (fun (q13 : Int × Int) (y14 : Unit) => [])) (1, 0, 0) () (weak [] ⟨rfl, rfl, rfl, rfl, rfl, trivial⟩ trivial) (fun s7 x8 => ?_) (fun q13 y14 => ?_)
  · unfold journal_Sum_l1
    refine ref_seq ?_
    refine ref_region ?_
    refine s_rd (r_lss rfl rfl) rfl ?_
    refine l_nil ?_
    refine n_then ?_
    refine ref_seq ?_
    refine ref_cond rfl (fun hb9 => ?_) (fun hb9 => ?_)
    · refine ref_skip ?_
      refine n_then ?_
      refine ref_seq ?_
      refine ref_block ?_
      refine ref_seq ?_
      refine ref_region ?_
      refine pull fun x10 h_x10 => ?_
      refine s_rd (r_index h_x10 Try.underlying27 el_5 rfl rfl) rfl ?_
      refine s_rd (r_load el_5 rfl) rfl ?_
      refine s_rd (r_assign rfl) rfl ?_
      refine l_nil ?_
      refine n_then ?_
      refine ref_seq ?_
      refine ref_region ?_
      refine s_rd (r_move rfl) rfl ?_
      refine s_rd (r_move rfl) rfl ?_
      refine s_rd (r_conv (k' := .i64) rfl rfl rfl) rfl ?_
      refine s_rd (r_add rfl rfl) rfl ?_
      refine s_rd (r_rem rfl rfl (by decide)) rfl ?_
      refine s_rd (r_assign rfl) rfl ?_
      refine b_let (f := iv .i64) (t := 3) rfl fun low11 => ?_
      refine l_nil ?_
      refine n_then ?_
      refine ref_region ?_
      refine s_rd (r_move rfl) rfl ?_
      refine s_rd (r_move rfl) rfl ?_
      refine s_rd (r_add rfl rfl) rfl ?_
      refine s_rd (r_rem rfl rfl (by decide)) rfl ?_
      refine s_rd (r_assign rfl) rfl ?_
      refine b_let (f := iv .i64) (t := 4) rfl fun high12 => ?_
      refine l_nil ?_
      refine n_block ?_
      refine n_then ?_
      refine ref_region ?_
      refine s_rd (r_add rfl rfl) rfl ?_
      refine s_rd (r_move rfl) rfl ?_
      refine l_nil ?_
      exact goB () (weak [] ⟨rfl, rfl, rfl, rfl, rfl, trivial⟩ trivial)
    · refine ref_exit ?_
      refine x_then ?_
      exact brkB () (weak [] ⟨rfl, rfl, trivial⟩ trivial)
  · refine n_then ?_
    refine ref_seq ?_
    refine ref_region ?_
    refine s_rd (r_move rfl) rfl ?_
    refine s_rd (r_shl rfl rfl (by decide)) rfl ?_
    refine s_rd (r_move rfl) rfl ?_
    refine s_rd (r_add rfl rfl) rfl ?_
    refine s_rd (r_assign rfl) rfl ?_
    refine b_let (f := iv .i64) (t := 2) rfl fun t15 => ?_
    refine l_nil ?_
    refine n_then ?_
    refine ref_ret ?_
    exact fin1 (.inl rfl) () [] rfl trivial rfl (rv_tmp rfl)

/-! deliberation/journal.bytes -/
noncomputable def journal_bytes_l1 (n_0 : Int) (s14 : Int × (List Int)) : Option (Sum ((List Int)) (Int × (List Int))) :=
  bif decide (s14.1 ≥ 0) then
    Option.bind (ishrM .i64 n_0 (imul .i64 8 s14.1)) fun t17 =>
    Option.bind (appM 1 s14.2 [IntKind.wrap .u8 t17]) fun out18 =>
    letM (isub .i64 s14.1 1) fun i20 =>
    some (Sum.inr (i20, out18))
  else
    some (Sum.inl s14.2)

noncomputable def journal_bytes_m (n_0 : Int) (count_1 : Int) : Option (List Int) :=
  letM (isub .i64 count_1 1) fun i1 =>
  Option.bind (loopC (journal_bytes_l1 n_0) (i1, [])) fun q21 : (List Int) =>
  some q21

theorem journal_bytes_ok {n_0 : Int} {count_1 : Int} {r : List Int} (hm : journal_bytes_m n_0 count_1 = some r) :
    FnOk prog 32 [iv .i64 n_0, iv .i64 count_1] [] (fun (x : (Value × List Nat)) => [pv x.1]) (fun (x : (Value × List Nat)) => [oa (rI .u8) x.1 x.2 r]) := by
  refine fn_ok (X := (Value × List Nat)) (fn := Try.f32) (N := 22) (m := journal_bytes_m n_0 count_1) (res := fun r x => [pv x.1]) (Ω1 := fun r x => [oa (rI .u8) x.1 x.2 r]) Try.func32 rfl rfl hm rfl (fun E hM => ?_)
  unfold journal_bytes_m
  refine ref_seq ?_
  refine ref_region ?_
  refine s_rd (r_assign rfl) rfl ?_
  refine l_nil ?_
  refine n_then ?_
  refine ref_seq ?_
  refine ref_region ?_
  refine s_rd (r_assign rfl) rfl ?_
  refine l_nil ?_
  refine n_then ?_
  refine ref_seq ?_
  refine ref_seq ?_
  refine ref_region ?_
  refine s_rd (r_move rfl) rfl ?_
  refine s_rd (r_sub rfl rfl) rfl ?_
  refine s_rd (r_assign rfl) rfl ?_
  refine b_let (f := iv .i64) (t := 6) rfl fun i1 => ?_
  refine l_nil ?_
  refine n_then ?_
  refine b_of (own_nil (rI .u8)) ?_
  refine ref_loopB (f := (journal_bytes_l1 n_0)) (Γl := (fun (s14 : Int × (List Int)) (x15 : (Value × List Nat)) => [(0, iv .i64 n_0), (5, pv x15.1), (6, iv .i64 s14.1)])) (Ωl := (fun (s14 : Int × (List Int)) (x15 : (Value × List Nat)) => [oa (rI .u8) x15.1 x15.2 s14.2])) (Γb := (fun (q21 : (List Int)) (y22 : (Value × List Nat)) => [(5, pv y22.1)])) (Ωb := (fun (q21 : (List Int)) (y22 : (Value × List Nat)) => [oa (rI .u8) y22.1 y22.2 q21])) (i1, []) ((.slice none 0 0), []) (weak [0] ⟨rfl, rfl, rfl, trivial⟩ ⟨rfl, trivial⟩) (fun s14 x15 => ?_) (fun q21 y22 => ?_)
  · unfold journal_bytes_l1
    refine ref_seq ?_
    refine ref_seq ?_
    refine ref_region ?_
    refine s_rd (r_move rfl) rfl ?_
    refine s_rd (r_geq rfl rfl) rfl ?_
    refine l_nil ?_
    refine n_then ?_
    refine ref_cond rfl (fun hb16 => ?_) (fun hb16 => ?_)
    · refine ref_skip ?_
      refine n_then ?_
      refine ref_seq ?_
      refine ref_block ?_
      refine ref_region ?_
      refine s_rd (r_move rfl) rfl ?_
      refine s_rd (r_move rfl) rfl ?_
      refine s_rd (r_move rfl) rfl ?_
      refine s_rd (r_mul rfl rfl) rfl ?_
      refine pull fun t17 h_t17 => ?_
      refine s_rd (r_shrM h_t17 rfl rfl) rfl ?_
      refine s_rd (r_conv (k' := .u8) rfl rfl rfl) rfl ?_
      refine s_st (s_bslice (xs := [.tmp 18]) (ds := [IntKind.wrap .u8 t17]) Try.underlying27 el_5 rfl (Nat.le_of_ble_eq_true rfl) ⟨(part_at rfl iv_at), trivial⟩) rfl (fun _ => ?_)
      refine pull fun out18 h_out18 => ?_
      refine s_st (s_append h_out18 Try.underlying27 el_5 rfl (j := 0) rfl rfl) rfl (fun o19 => ?_)
      refine s_rd (r_assign rfl) rfl ?_
      refine l_nil ?_
      refine n_block ?_
      refine n_then ?_
      refine ref_region ?_
      refine s_rd (r_move rfl) rfl ?_
      refine s_rd (r_sub rfl rfl) rfl ?_
      refine s_rd (r_assign rfl) rfl ?_
      refine b_let (f := iv .i64) (t := 6) rfl fun i20 => ?_
      refine l_nil ?_
      exact goB o19 (weak [0] ⟨rfl, rfl, rfl, trivial⟩ ⟨rfl, trivial⟩)
    · refine ref_exit ?_
      refine x_then ?_
      exact brkB x15 (weak [0] ⟨rfl, trivial⟩ ⟨rfl, trivial⟩)
  · refine n_then ?_
    refine ref_seq ?_
    refine ref_region ?_
    refine s_rd (r_move rfl) rfl ?_
    refine s_rd (r_assign rfl) rfl ?_
    refine l_nil ?_
    refine n_then ?_
    refine ref_ret ?_
    exact fin1 (.inl rfl) y22 [0] rfl ⟨rfl, trivial⟩ rfl (rv_tmp rfl)

/-! deliberation/journal.number -/
noncomputable def journal_number_l1 (b_0 : (List Int)) (s6 : Int × Int) : Option (Sum (Int) (Int × Int)) :=
  bif decide (s6.2 < (b_0.length : Int)) then
    Option.bind (idxM b_0 s6.2) fun x9 =>
    letM (ior .i64 (ishl .i64 s6.1 8) (IntKind.wrap .i64 x9)) fun n10 =>
    some (Sum.inr (n10, iadd .i64 s6.2 1))
  else
    some (Sum.inl s6.1)

noncomputable def journal_number_m (b_0 : (List Int)) : Option (Int) :=
  Option.bind (loopC (journal_number_l1 b_0) (0, 0)) fun q11 : Int =>
  some q11

theorem journal_number_ok {b_0 : (List Int)} {r : Int} (hm : journal_number_m b_0 = some r) :
    FnOk prog 35 [slv (rI .u8) b_0] [] (fun (x : Unit) => [iv .i64 r]) (fun (x : Unit) => []) := by
  refine fn_ok (X := Unit) (fn := Try.f35) (N := 19) (m := journal_number_m b_0) (res := fun r x => [iv .i64 r]) (Ω1 := fun r x => []) Try.func35 rfl rfl hm rfl (fun E hM => ?_)
  unfold journal_number_m
  refine ref_seq ?_
  refine ref_region ?_
  refine s_rd (r_assign rfl) rfl ?_
  refine l_nil ?_
  refine n_then ?_
  refine ref_seq ?_
  refine ref_region ?_
  refine s_rd (r_assign rfl) rfl ?_
  refine l_nil ?_
  refine n_then ?_
  refine ref_seq ?_
  refine ref_seq ?_
  refine ref_region ?_
  refine s_rd (r_move rfl) rfl ?_
  refine s_rd (r_len Try.underlying27 rfl) rfl ?_
  refine s_rd (r_move rfl) rfl ?_
  refine l_nil ?_
  refine n_then ?_
  refine ref_loopB (f := (journal_number_l1 b_0)) (Γl := (fun (s6 : Int × Int) (x7 : Unit) => [(3, iv .i64 s6.1), (6, slv (rI .u8) b_0), (7, iv .i64 (b_0.length : Int)), (8, iv .i64 s6.2)])) (Ωl := (fun (s6 : Int × Int) (x7 : Unit) => [])) (Γb := (fun (q11 : Int) (y12 : Unit) => [(3, iv .i64 q11)])) (Ωb := (fun (q11 : Int) (y12 : Unit) => [])) (0, 0) () (weak [] ⟨rfl, rfl, rfl, rfl, trivial⟩ trivial) (fun s6 x7 => ?_) (fun q11 y12 => ?_)
  · unfold journal_number_l1
    refine ref_seq ?_
    refine ref_region ?_
    refine s_rd (r_lss rfl rfl) rfl ?_
    refine l_nil ?_
    refine n_then ?_
    refine ref_seq ?_
    refine ref_cond rfl (fun hb8 => ?_) (fun hb8 => ?_)
    · refine ref_skip ?_
      refine n_then ?_
      refine ref_seq ?_
      refine ref_block ?_
      refine ref_seq ?_
      refine ref_region ?_
      refine pull fun x9 h_x9 => ?_
      refine s_rd (r_index h_x9 Try.underlying27 el_5 rfl rfl) rfl ?_
      refine s_rd (r_load el_5 rfl) rfl ?_
      refine s_rd (r_assign rfl) rfl ?_
      refine l_nil ?_
      refine n_then ?_
      refine ref_region ?_
      refine s_rd (r_move rfl) rfl ?_
      refine s_rd (r_shl rfl rfl (by decide)) rfl ?_
      refine s_rd (r_move rfl) rfl ?_
      refine s_rd (r_conv (k' := .i64) rfl rfl rfl) rfl ?_
      refine s_rd (r_or rfl rfl) rfl ?_
      refine s_rd (r_assign rfl) rfl ?_
      refine b_let (f := iv .i64) (t := 3) rfl fun n10 => ?_
      refine l_nil ?_
      refine n_block ?_
      refine n_then ?_
      refine ref_region ?_
      refine s_rd (r_add rfl rfl) rfl ?_
      refine s_rd (r_move rfl) rfl ?_
      refine l_nil ?_
      exact goB () (weak [] ⟨rfl, rfl, rfl, rfl, trivial⟩ trivial)
    · refine ref_exit ?_
      refine x_then ?_
      exact brkB () (weak [] ⟨rfl, trivial⟩ trivial)
  · refine n_then ?_
    refine ref_seq ?_
    refine ref_region ?_
    refine s_rd (r_move rfl) rfl ?_
    refine s_rd (r_assign rfl) rfl ?_
    refine l_nil ?_
    refine n_then ?_
    refine ref_ret ?_
    exact fin1 (.inl rfl) () [] rfl trivial rfl (rv_tmp rfl)

/-! deliberation/deliberationref39.Sum -/
noncomputable def ref39_Sum_l1 (b_0 : (List Int)) (s7 : Int × Int × Int) : Option (Sum (Int × Int) (Int × Int × Int)) :=
  bif decide (s7.2.2 < (b_0.length : Int)) then
    Option.bind (idxM b_0 s7.2.2) fun t10 =>
    letM (irem .i64 (iadd .i64 s7.1 (IntKind.wrap .i64 t10)) 65521) fun x11 =>
    letM (irem .i64 (iadd .i64 s7.2.1 x11) 65521) fun y12 =>
    letM (iadd .i64 s7.2.2 1) fun i13 =>
    some (Sum.inr (x11, y12, i13))
  else
    some (Sum.inl (s7.1, s7.2.1))

noncomputable def ref39_Sum_m (b_0 : (List Int)) : Option (Int) :=
  Option.bind (loopC (ref39_Sum_l1 b_0) (1, 0, 0)) fun q14 : Int × Int =>
  letM (iadd .i64 (imul .i64 q14.2 65536) q14.1) fun t16 =>
  some t16

theorem ref39_Sum_ok {b_0 : (List Int)} {r : Int} (hm : ref39_Sum_m b_0 = some r) :
    FnOk prog 21 [slv (rI .u8) b_0] [] (fun (x : Unit) => [iv .i64 r]) (fun (x : Unit) => []) := by
  refine fn_ok (X := Unit) (fn := Try.f21) (N := 28) (m := ref39_Sum_m b_0) (res := fun r x => [iv .i64 r]) (Ω1 := fun r x => []) Try.func21 rfl rfl hm rfl (fun E hM => ?_)
  unfold ref39_Sum_m
  refine ref_seq ?_
  refine ref_region ?_
  refine s_rd (r_assign rfl) rfl ?_
  refine l_nil ?_
  refine n_then ?_
  refine ref_seq ?_
  refine ref_region ?_
  refine s_rd (r_assign rfl) rfl ?_
  refine s_rd (r_assign rfl) rfl ?_
  refine l_nil ?_
  refine n_then ?_
  refine ref_seq ?_
  refine ref_seq ?_
  refine ref_region ?_
  refine s_rd (r_assign rfl) rfl ?_
  refine l_nil ?_
  refine n_then ?_
  refine ref_loopB (f := (ref39_Sum_l1 b_0)) (Γl := (fun (s7 : Int × Int × Int) (x8 : Unit) => [(0, slv (rI .u8) b_0), (3, iv .i64 s7.1), (4, iv .i64 s7.2.1), (5, iv .i64 s7.2.2)])) (Ωl := (fun (s7 : Int × Int × Int) (x8 : Unit) => [])) (Γb := (fun (q14 : Int × Int) (y15 : Unit) => [(3, iv .i64 q14.1), (4, iv .i64 q14.2)])) (Ωb := (fun (q14 : Int × Int) (y15 : Unit) => [])) (1, 0, 0) () (weak [] ⟨rfl, rfl, rfl, rfl, trivial⟩ trivial) (fun s7 x8 => ?_) (fun q14 y15 => ?_)
  · unfold ref39_Sum_l1
    refine ref_seq ?_
    refine ref_seq ?_
    refine ref_region ?_
    refine s_rd (r_move rfl) rfl ?_
    refine s_rd (r_move rfl) rfl ?_
    refine s_rd (r_len Try.underlying27 rfl) rfl ?_
    refine s_rd (r_lss rfl rfl) rfl ?_
    refine l_nil ?_
    refine n_then ?_
    refine ref_cond rfl (fun hb9 => ?_) (fun hb9 => ?_)
    · refine ref_skip ?_
      refine n_then ?_
      refine ref_seq ?_
      refine ref_block ?_
      refine ref_seq ?_
      refine ref_region ?_
      refine s_rd (r_move rfl) rfl ?_
      refine s_rd (r_move rfl) rfl ?_
      refine s_rd (r_move rfl) rfl ?_
      refine pull fun t10 h_t10 => ?_
      refine s_rd (r_index h_t10 Try.underlying27 el_5 rfl rfl) rfl ?_
      refine s_rd (r_load el_5 rfl) rfl ?_
      refine s_rd (r_conv (k' := .i64) rfl rfl rfl) rfl ?_
      refine s_rd (r_add rfl rfl) rfl ?_
      refine s_rd (r_rem rfl rfl (by decide)) rfl ?_
      refine s_rd (r_assign rfl) rfl ?_
      refine b_let (f := iv .i64) (t := 3) rfl fun x11 => ?_
      refine l_nil ?_
      refine n_then ?_
      refine ref_region ?_
      refine s_rd (r_move rfl) rfl ?_
      refine s_rd (r_move rfl) rfl ?_
      refine s_rd (r_add rfl rfl) rfl ?_
      refine s_rd (r_rem rfl rfl (by decide)) rfl ?_
      refine s_rd (r_assign rfl) rfl ?_
      refine b_let (f := iv .i64) (t := 4) rfl fun y12 => ?_
      refine l_nil ?_
      refine n_block ?_
      refine n_then ?_
      refine ref_region ?_
      refine s_rd (r_move rfl) rfl ?_
      refine s_rd (r_add rfl rfl) rfl ?_
      refine s_rd (r_assign rfl) rfl ?_
      refine b_let (f := iv .i64) (t := 5) rfl fun i13 => ?_
      refine l_nil ?_
      exact goB () (weak [] ⟨rfl, rfl, rfl, rfl, trivial⟩ trivial)
    · refine ref_exit ?_
      refine x_then ?_
      exact brkB () (weak [] ⟨rfl, rfl, trivial⟩ trivial)
  · refine n_then ?_
    refine ref_seq ?_
    refine ref_region ?_
    refine s_rd (r_move rfl) rfl ?_
    refine s_rd (r_mul rfl rfl) rfl ?_
    refine s_rd (r_move rfl) rfl ?_
    refine s_rd (r_add rfl rfl) rfl ?_
    refine s_rd (r_assign rfl) rfl ?_
    refine b_let (f := iv .i64) (t := 2) rfl fun t16 => ?_
    refine l_nil ?_
    refine n_then ?_
    refine ref_ret ?_
    exact fin1 (.inl rfl) () [] rfl trivial rfl (rv_tmp rfl)

/-! deliberation/deliberationref39.number -/
noncomputable def ref39_number_l1  (s15 : Int × Int × (List Int)) : Option (Sum ((List Int)) (Int × Int × (List Int))) :=
  bif decide (s15.2.1 ≥ 0) then
    Option.bind (idxM s15.2.2 s15.2.1) fun t18 =>
    letM (iquo .i64 s15.1 256) fun n19 =>
    letM (isub .i64 s15.2.1 1) fun i20 =>
    some (Sum.inr (n19, i20, s15.2.2.set (Int.toNat s15.2.1) (IntKind.wrap .u8 (irem .i64 s15.1 256))))
  else
    some (Sum.inl s15.2.2)

noncomputable def ref39_number_m (n_0 : Int) (bytes_1 : Int) : Option (List Int) :=
  Option.bind (mkM 1 0 bytes_1) fun out1 =>
  letM (isub .i64 bytes_1 1) fun i3 =>
  Option.bind (loopC (ref39_number_l1) (n_0, i3, out1)) fun q21 : (List Int) =>
  some q21

theorem ref39_number_ok {n_0 : Int} {bytes_1 : Int} {r : List Int} (hm : ref39_number_m n_0 bytes_1 = some r) :
    FnOk prog 29 [iv .i64 n_0, iv .i64 bytes_1] [] (fun (x : (Value × List Nat)) => [pv x.1]) (fun (x : (Value × List Nat)) => [oa (rI .u8) x.1 x.2 r]) := by
  refine fn_ok (X := (Value × List Nat)) (fn := Try.f29) (N := 24) (m := ref39_number_m n_0 bytes_1) (res := fun r x => [pv x.1]) (Ω1 := fun r x => [oa (rI .u8) x.1 x.2 r]) Try.func29 rfl rfl hm rfl (fun E hM => ?_)
  unfold ref39_number_m
  refine ref_seq ?_
  refine ref_region ?_
  refine s_rd (r_assign rfl) rfl ?_
  refine l_nil ?_
  refine n_then ?_
  refine ref_seq ?_
  refine ref_region ?_
  refine s_rd (r_move rfl) rfl ?_
  refine pull fun out1 h_out1 => ?_
  refine s_st (s_make h_out1 Try.underlying27 el_5 ze_5 rfl rfl) rfl (fun o2 => ?_)
  refine s_rd (r_assign rfl) rfl ?_
  refine l_nil ?_
  refine n_then ?_
  refine ref_seq ?_
  refine ref_seq ?_
  refine ref_region ?_
  refine s_rd (r_move rfl) rfl ?_
  refine s_rd (r_sub rfl rfl) rfl ?_
  refine s_rd (r_assign rfl) rfl ?_
  refine b_let (f := iv .i64) (t := 6) rfl fun i3 => ?_
  refine l_nil ?_
  refine n_then ?_
  refine ref_loopB (f := (ref39_number_l1)) (Γl := (fun (s15 : Int × Int × (List Int)) (x16 : Unit) => [(0, iv .i64 s15.1), (5, pv o2.1), (6, iv .i64 s15.2.1)])) (Ωl := (fun (s15 : Int × Int × (List Int)) (x16 : Unit) => [oa (rI .u8) o2.1 o2.2 s15.2.2])) (Γb := (fun (q21 : (List Int)) (y22 : Unit) => [(5, pv o2.1)])) (Ωb := (fun (q21 : (List Int)) (y22 : Unit) => [oa (rI .u8) o2.1 o2.2 q21])) (n_0, i3, out1) () (weak [0] ⟨rfl, rfl, rfl, trivial⟩ ⟨rfl, trivial⟩) (fun s15 x16 => ?_) (fun q21 y22 => ?_)
  · unfold ref39_number_l1
    refine ref_seq ?_
    refine ref_seq ?_
    refine ref_region ?_
    refine s_rd (r_move rfl) rfl ?_
    refine s_rd (r_geq rfl rfl) rfl ?_
    refine l_nil ?_
    refine n_then ?_
    refine ref_cond rfl (fun hb17 => ?_) (fun hb17 => ?_)
    · refine ref_skip ?_
      refine n_then ?_
      refine ref_seq ?_
      refine ref_block ?_
      refine ref_seq ?_
      refine ref_region ?_
      refine s_rd (r_move rfl) rfl ?_
      refine s_rd (r_move rfl) rfl ?_
      refine s_rd (r_move rfl) rfl ?_
      refine s_rd (r_rem rfl rfl (by decide)) rfl ?_
      refine s_rd (r_conv (k' := .u8) rfl rfl rfl) rfl ?_
      refine pull fun t18 h_t18 => ?_
      refine s_rd (r_oindex h_t18 Try.underlying27 el_5 rfl (j := 0) rfl rfl) rfl ?_
      refine s_st0 (s_ostore (u := IntKind.wrap .u8 (irem .i64 s15.1 256)) h_t18 el_5 rfl (j := 0) rfl (part_at rfl iv_at)) (fun _ => ?_)
      refine l_nil ?_
      refine n_then ?_
      refine ref_region ?_
      refine s_rd (r_move rfl) rfl ?_
      refine s_rd (r_quo rfl rfl (by decide)) rfl ?_
      refine s_rd (r_assign rfl) rfl ?_
      refine b_let (f := iv .i64) (t := 0) rfl fun n19 => ?_
      refine l_nil ?_
      refine n_block ?_
      refine n_then ?_
      refine ref_region ?_
      refine s_rd (r_move rfl) rfl ?_
      refine s_rd (r_sub rfl rfl) rfl ?_
      refine s_rd (r_assign rfl) rfl ?_
      refine b_let (f := iv .i64) (t := 6) rfl fun i20 => ?_
      refine l_nil ?_
      exact goB () (weak [0] ⟨rfl, rfl, rfl, trivial⟩ ⟨rfl, trivial⟩)
    · refine ref_exit ?_
      refine x_then ?_
      exact brkB () (weak [0] ⟨rfl, trivial⟩ ⟨rfl, trivial⟩)
  · refine n_then ?_
    refine ref_seq ?_
    refine ref_region ?_
    refine s_rd (r_move rfl) rfl ?_
    refine s_rd (r_assign rfl) rfl ?_
    refine l_nil ?_
    refine n_then ?_
    refine ref_ret ?_
    exact fin1 (.inl rfl) o2 [0] rfl ⟨rfl, trivial⟩ rfl (rv_tmp rfl)

/-! deliberation/deliberationref39.value -/
noncomputable def ref39_value_l1 (b_0 : (List Int)) (s6 : Int × Int) : Option (Sum (Int) (Int × Int)) :=
  bif decide (s6.2 < (b_0.length : Int)) then
    Option.bind (idxM b_0 s6.2) fun t9 =>
    letM (iadd .i64 (imul .i64 s6.1 256) (IntKind.wrap .i64 t9)) fun n10 =>
    letM (iadd .i64 s6.2 1) fun i11 =>
    some (Sum.inr (n10, i11))
  else
    some (Sum.inl s6.1)

noncomputable def ref39_value_m (b_0 : (List Int)) : Option (Int) :=
  Option.bind (loopC (ref39_value_l1 b_0) (0, 0)) fun q12 : Int =>
  some q12

theorem ref39_value_ok {b_0 : (List Int)} {r : Int} (hm : ref39_value_m b_0 = some r) :
    FnOk prog 34 [slv (rI .u8) b_0] [] (fun (x : Unit) => [iv .i64 r]) (fun (x : Unit) => []) := by
  refine fn_ok (X := Unit) (fn := Try.f34) (N := 20) (m := ref39_value_m b_0) (res := fun r x => [iv .i64 r]) (Ω1 := fun r x => []) Try.func34 rfl rfl hm rfl (fun E hM => ?_)
  unfold ref39_value_m
  refine ref_seq ?_
  refine ref_region ?_
  refine s_rd (r_assign rfl) rfl ?_
  refine l_nil ?_
  refine n_then ?_
  refine ref_seq ?_
  refine ref_region ?_
  refine s_rd (r_assign rfl) rfl ?_
  refine l_nil ?_
  refine n_then ?_
  refine ref_seq ?_
  refine ref_seq ?_
  refine ref_region ?_
  refine s_rd (r_assign rfl) rfl ?_
  refine l_nil ?_
  refine n_then ?_
  refine ref_loopB (f := (ref39_value_l1 b_0)) (Γl := (fun (s6 : Int × Int) (x7 : Unit) => [(0, slv (rI .u8) b_0), (3, iv .i64 s6.1), (4, iv .i64 s6.2)])) (Ωl := (fun (s6 : Int × Int) (x7 : Unit) => [])) (Γb := (fun (q12 : Int) (y13 : Unit) => [(3, iv .i64 q12)])) (Ωb := (fun (q12 : Int) (y13 : Unit) => [])) (0, 0) () (weak [] ⟨rfl, rfl, rfl, trivial⟩ trivial) (fun s6 x7 => ?_) (fun q12 y13 => ?_)
  · unfold ref39_value_l1
    refine ref_seq ?_
    refine ref_seq ?_
    refine ref_region ?_
    refine s_rd (r_move rfl) rfl ?_
    refine s_rd (r_move rfl) rfl ?_
    refine s_rd (r_len Try.underlying27 rfl) rfl ?_
    refine s_rd (r_lss rfl rfl) rfl ?_
    refine l_nil ?_
    refine n_then ?_
    refine ref_cond rfl (fun hb8 => ?_) (fun hb8 => ?_)
    · refine ref_skip ?_
      refine n_then ?_
      refine ref_seq ?_
      refine ref_block ?_
      refine ref_region ?_
      refine s_rd (r_move rfl) rfl ?_
      refine s_rd (r_mul rfl rfl) rfl ?_
      refine s_rd (r_move rfl) rfl ?_
      refine s_rd (r_move rfl) rfl ?_
      refine pull fun t9 h_t9 => ?_
      refine s_rd (r_index h_t9 Try.underlying27 el_5 rfl rfl) rfl ?_
      refine s_rd (r_load el_5 rfl) rfl ?_
      refine s_rd (r_conv (k' := .i64) rfl rfl rfl) rfl ?_
      refine s_rd (r_add rfl rfl) rfl ?_
      refine s_rd (r_assign rfl) rfl ?_
      refine b_let (f := iv .i64) (t := 3) rfl fun n10 => ?_
      refine l_nil ?_
      refine n_block ?_
      refine n_then ?_
      refine ref_region ?_
      refine s_rd (r_move rfl) rfl ?_
      refine s_rd (r_add rfl rfl) rfl ?_
      refine s_rd (r_assign rfl) rfl ?_
      refine b_let (f := iv .i64) (t := 4) rfl fun i11 => ?_
      refine l_nil ?_
      exact goB () (weak [] ⟨rfl, rfl, rfl, trivial⟩ trivial)
    · refine ref_exit ?_
      refine x_then ?_
      exact brkB () (weak [] ⟨rfl, trivial⟩ trivial)
  · refine n_then ?_
    refine ref_seq ?_
    refine ref_region ?_
    refine s_rd (r_move rfl) rfl ?_
    refine s_rd (r_assign rfl) rfl ?_
    refine l_nil ?_
    refine n_then ?_
    refine ref_ret ?_
    exact fin1 (.inl rfl) () [] rfl trivial rfl (rv_tmp rfl)

/-! deliberation/deliberationref39.Same -/
noncomputable def ref39_Same_m (a__0 : (List Int)) (b_1 : (List Int)) : Option (Bool) :=
  letM ((bstr a__0).toList == (bstr b_1).toList) fun t1 =>
  some t1

theorem ref39_Same_ok {a__0 : (List Int)} {b_1 : (List Int)} {r : Bool} (hm : ref39_Same_m a__0 b_1 = some r) :
    FnOk prog 19 [slv (rI .u8) a__0, slv (rI .u8) b_1] [] (fun (x : Unit) => [bv r]) (fun (x : Unit) => []) := by
  refine fn_ok (X := Unit) (fn := Try.f19) (N := 10) (m := ref39_Same_m a__0 b_1) (res := fun r x => [bv r]) (Ω1 := fun r x => []) Try.func19 rfl rfl hm rfl (fun E hM => ?_)
  unfold ref39_Same_m
  refine ref_seq ?_
  refine ref_region ?_
  refine s_rd (r_assign rfl) rfl ?_
  refine l_nil ?_
  refine n_then ?_
  refine ref_seq ?_
  refine ref_region ?_
  refine s_rd (r_move rfl) rfl ?_
  refine s_rd (r_b2s Try.underlying27 Try.underlying9 Try.underlying5 rfl) rfl ?_
  refine s_rd (r_move rfl) rfl ?_
  refine s_rd (r_b2s Try.underlying27 Try.underlying9 Try.underlying5 rfl) rfl ?_
  refine s_rd (r_seql rfl rfl) rfl ?_
  refine s_rd (r_assign rfl) rfl ?_
  refine b_let (f := bv) (t := 4) rfl fun t1 => ?_
  refine l_nil ?_
  refine n_then ?_
  refine ref_ret ?_
  exact fin1 (.inl rfl) () [] rfl trivial rfl (rv_tmp rfl)

/-! deliberation/deliberationref39.SameAll -/
noncomputable def ref39_SameAll_l1 (a__0 : (List (List Int))) (b_1 : (List (List Int))) (s9 : Int) : Option (Sum ((Sum (Bool) (Unit))) (Int)) :=
  bif decide (s9 < (a__0.length : Int)) then
    Option.bind (idxM a__0 s9) fun t12 =>
    Option.bind (idxM b_1 s9) fun t13 =>
    Option.bind (ref39_Same_m t12 t13) fun t14 =>
    bif !t14 then
      some (Sum.inl (Sum.inl false))
    else
      some (Sum.inr (iadd .i64 s9 1))
  else
    some (Sum.inl (Sum.inr ()))

noncomputable def ref39_SameAll_m (a__0 : (List (List Int))) (b_1 : (List (List Int))) : Option (Bool) :=
  bif (a__0.length : Int) != (b_1.length : Int) then
    some false
  else
    Option.bind (loopC (ref39_SameAll_l1 a__0 b_1) 0) (sumK (fun a : Bool => some a) fun q16 : Unit =>
      some true)

theorem ref39_SameAll_ok {a__0 : (List (List Int))} {b_1 : (List (List Int))} {r : Bool} (hm : ref39_SameAll_m a__0 b_1 = some r) :
    FnOk prog 14 [slv (rSl (rI .u8)) a__0, slv (rSl (rI .u8)) b_1] [] (fun (x : Unit) => [bv r]) (fun (x : Unit) => []) := by
  refine fn_ok (X := Unit) (fn := Try.f14) (N := 27) (m := ref39_SameAll_m a__0 b_1) (res := fun r x => [bv r]) (Ω1 := fun r x => []) Try.func14 rfl rfl hm rfl (fun E hM => ?_)
  unfold ref39_SameAll_m
  refine ref_seq ?_
  refine ref_region ?_
  refine s_rd (r_assign rfl) rfl ?_
  refine l_nil ?_
  refine n_then ?_
  refine ref_seq ?_
  refine ref_seq ?_
  refine ref_region ?_
  refine s_rd (r_move rfl) rfl ?_
  refine s_rd (r_len Try.underlying25 rfl) rfl ?_
  refine s_rd (r_move rfl) rfl ?_
  refine s_rd (r_len Try.underlying25 rfl) rfl ?_
  refine s_rd (r_neq rfl rfl) rfl ?_
  refine l_nil ?_
  refine n_then ?_
  refine ref_cond rfl (fun hb1 => ?_) (fun hb1 => ?_)
  · refine ref_seq ?_
    refine ref_region ?_
    refine s_rd (r_assign rfl) rfl ?_
    refine l_nil ?_
    refine n_then ?_
    refine ref_ret ?_
    refine r_then ?_
    exact fin1 (.inl rfl) () [] rfl trivial rfl (rv_tmp rfl)
  · refine ref_skip ?_
    refine n_then ?_
    refine ref_seq ?_
    refine ref_seq ?_
    refine ref_region ?_
    refine s_rd (r_assign rfl) rfl ?_
    refine l_nil ?_
    refine n_then ?_
    refine ref_loopX (f := (ref39_SameAll_l1 a__0 b_1)) (Γl := (fun (s9 : Int) (x10 : Unit) => [(0, slv (rSl (rI .u8)) a__0), (1, slv (rSl (rI .u8)) b_1), (5, iv .i64 s9)])) (Ωl := (fun (s9 : Int) (x10 : Unit) => [])) (Γb := (fun (q16 : Unit) (y17 : Unit) => [])) (Ωb := (fun (q16 : Unit) (y17 : Unit) => [])) (kr := (fun a : Bool => some a)) 0 () (weak [] ⟨rfl, rfl, rfl, trivial⟩ trivial) (fun s9 x10 => ?_) (fun q16 y17 => ?_)
    · unfold ref39_SameAll_l1
      refine ref_seq ?_
      refine ref_seq ?_
      refine ref_region ?_
      refine s_rd (r_move rfl) rfl ?_
      refine s_rd (r_move rfl) rfl ?_
      refine s_rd (r_len Try.underlying25 rfl) rfl ?_
      refine s_rd (r_lss rfl rfl) rfl ?_
      refine l_nil ?_
      refine n_then ?_
      refine ref_cond rfl (fun hb11 => ?_) (fun hb11 => ?_)
      · refine ref_skip ?_
        refine n_then ?_
        refine ref_seq ?_
        refine ref_block ?_
        refine ref_seq ?_
        refine ref_draw [0, 1, 2, 3, 4, 5, 6, 7, 9] rfl (by kernel_rfl) (fun hok => ?_)
        refine a_rd (i := 0) hok rfl (by kernel_rfl) rfl (r_move rfl) rfl ?_
        refine a_rd (i := 1) hok rfl (by kernel_rfl) rfl (r_move rfl) rfl ?_
        refine pull fun t12 h_t12 => ?_
        refine a_rd (i := 2) hok rfl (by kernel_rfl) rfl (r_index h_t12 Try.underlying25 el_27 rfl rfl) rfl ?_
        refine a_rd (i := 3) hok rfl (by kernel_rfl) rfl (r_load el_27 rfl) rfl ?_
        refine a_rd (i := 4) hok rfl (by kernel_rfl) rfl (r_move rfl) rfl ?_
        refine a_rd (i := 5) hok rfl (by kernel_rfl) rfl (r_move rfl) rfl ?_
        refine pull fun t13 h_t13 => ?_
        refine a_rd (i := 6) hok rfl (by kernel_rfl) rfl (r_index h_t13 Try.underlying25 el_27 rfl rfl) rfl ?_
        refine a_rd (i := 7) hok rfl (by kernel_rfl) rfl (r_load el_27 rfl) rfl ?_
        refine pull fun t14 h_t14 => ?_
        refine a_next hok 8 [] (by kernel_rfl) ?_ trivial
        refine a_st (i := 8) hok rfl rfl (s_call (ψ := fun (_ : Unit) => bv t14) (args := [.tmp 20, .tmp 24]) Try.call19 rfl (ref39_Same_ok h_t14) ⟨arg rfl, arg rfl, trivial⟩ (fun _ _ _ _ h => h)) (by intro _ h; cases h; rfl) (fun _ => ⟨trivial, ⟨trivial, ⟨trivial, ⟨trivial, ⟨trivial, ⟨trivial, ⟨trivial, ⟨trivial, trivial⟩⟩⟩⟩⟩⟩⟩⟩) (fun _ => ?_)
        refine a_rd (i := 9) hok rfl (by kernel_rfl) rfl (r_not rfl) rfl ?_
        refine a_fin hok (by kernel_rfl) ?_
        refine n_then ?_
        refine ref_cond rfl (fun hb15 => ?_) (fun hb15 => ?_)
        · refine ref_seq ?_
          refine ref_region ?_
          refine s_rd (r_assign rfl) rfl ?_
          refine l_nil ?_
          refine n_then ?_
          refine ref_ret ?_
          refine r_block ?_
          refine r_then ?_
          refine retX ?_
          refine r_block ?_
          refine r_then ?_
          exact fin1 (.inl rfl) () [] rfl trivial rfl (rv_tmp rfl)
        · refine ref_skip ?_
          refine n_block ?_
          refine n_then ?_
          refine ref_region ?_
          refine s_rd (r_move rfl) rfl ?_
          refine s_rd (r_add rfl rfl) rfl ?_
          refine s_rd (r_assign rfl) rfl ?_
          refine l_nil ?_
          exact goX () (weak [] ⟨rfl, rfl, rfl, trivial⟩ trivial)
      · refine ref_exit ?_
        refine x_then ?_
        exact brkX () (weak [] trivial trivial)
    · refine n_then ?_
      refine ref_seq ?_
      refine ref_region ?_
      refine s_rd (r_assign rfl) rfl ?_
      refine l_nil ?_
      refine n_then ?_
      refine ref_ret ?_
      exact fin1 (.inl rfl) () [] rfl trivial rfl (rv_tmp rfl)

/-! deliberation/deliberationlaw39.records -/
noncomputable def law39_records_l2  (s88 : Int × (List Int) × Int × (List Int)) : Option (Sum ((List Int) × Int × (List Int)) (Int × (List Int) × Int × (List Int))) :=
  bif decide (s88.1 > 0) then
    Option.bind (keep_Src_N_m (T_deliberationkeep_Src.mk s88.2.1 s88.2.2.1) 256) fun t91 =>
    Option.bind (keep_Src_Pick_m t91.2 [0, 255, t91.1]) fun t92 =>
    Option.bind (appM 1 s88.2.2.2 [IntKind.wrap .u8 t92.1]) fun r_93 =>
    letM (isub .i64 s88.1 1) fun k95 =>
    some (Sum.inr (k95, t92.2.L, t92.2.At, r_93))
  else
    some (Sum.inl (s88.2.1, s88.2.2.1, s88.2.2.2))

noncomputable def law39_records_l1  (s68 : Int × (List Int) × Int × (List (List Int))) : Option (Sum ((List Int) × Int × (List (List Int))) (Int × (List Int) × Int × (List (List Int)))) :=
  bif decide (s68.1 > 0) then
    Option.bind (keep_Src_N_m (T_deliberationkeep_Src.mk s68.2.1 s68.2.2.1) 7) fun k71 =>
    Option.bind (loopC (law39_records_l2) (k71.1, k71.2.L, k71.2.At, [])) fun q96 : (List Int) × Int × (List Int) =>
    Option.bind (appM 24 s68.2.2.2 [q96.2.2]) fun out98 =>
    letM (isub .i64 s68.1 1) fun i100 =>
    some (Sum.inr (i100, q96.1, q96.2.1, out98))
  else
    some (Sum.inl (s68.2.1, s68.2.2.1, s68.2.2.2))

noncomputable def law39_records_m (s_0 : T_deliberationkeep_Src) : Option (List (List Int) × T_deliberationkeep_Src) :=
  Option.bind (keep_Src_N_m s_0 6) fun i1 =>
  Option.bind (loopC (law39_records_l1) (i1.1, i1.2.L, i1.2.At, [])) fun q101 : (List Int) × Int × (List (List Int)) =>
  some (q101.2.2, (T_deliberationkeep_Src.mk q101.1 q101.2.1))

theorem law39_records_ok {s_0 : T_deliberationkeep_Src} {b_0 : Nat} {r : List (List Int) × T_deliberationkeep_Src} (hm : law39_records_m s_0 = some r) :
    FnOk prog 9 [pv (ptr b_0 0)] [oc b_0 [slv (rI .i64) s_0.L, iv .i64 s_0.At]] (fun (x : (Value × List Nat)) => [pv x.1]) (fun (x : (Value × List Nat)) => [oc b_0 [slv (rI .i64) r.2.L, iv .i64 r.2.At], oa (rSl (rI .u8)) x.1 x.2 r.1]) := by
  refine fn_ok (X := (Value × List Nat)) (fn := Try.f9) (N := 33) (m := law39_records_m s_0) (res := fun r x => [pv x.1]) (Ω1 := fun r x => [oc b_0 [slv (rI .i64) r.2.L, iv .i64 r.2.At], oa (rSl (rI .u8)) x.1 x.2 r.1]) Try.func9 rfl rfl hm rfl (fun E hM => ?_)
  unfold law39_records_m
  refine ref_seq ?_
  refine ref_region ?_
  refine s_rd (r_assign rfl) rfl ?_
  refine l_nil ?_
  refine n_then ?_
  refine ref_seq ?_
  refine ref_region ?_
  refine s_rd (r_assign rfl) rfl ?_
  refine l_nil ?_
  refine n_then ?_
  refine ref_seq ?_
  refine ref_seq ?_
  refine ref_region ?_
  refine s_rd (r_move rfl) rfl ?_
  refine pull fun i1 h_i1 => ?_
  refine s_st (s_callO (js := [0]) (os := fun (_ : Unit) => [oc b_0 [slv (rI .i64) i1.2.L, iv .i64 i1.2.At]]) (ex := fun (_ : Unit) => []) (ψ := fun (_ : Unit) => iv .i64 i1.1) (args := [.tmp 7, .const (.int .i64 (6))]) Try.call17 rfl (keep_Src_N_ok h_i1) ⟨rfl, trivial⟩ (fun _ => rfl) (fun _ => ⟨rfl, trivial⟩) ⟨arg rfl, arg rfl, trivial⟩ (fun _ _ _ _ h => h)) rfl (fun _ => ?_)
  refine s_rd (r_assign rfl) rfl ?_
  refine l_nil ?_
  refine n_then ?_
  refine b_of (own_nil (rSl (rI .u8))) ?_
  refine ref_loopB (f := (law39_records_l1)) (Γl := (fun (s68 : Int × (List Int) × Int × (List (List Int))) (x69 : (Value × List Nat)) => [(0, pv (ptr b_0 0)), (3, pv x69.1), (4, iv .i64 s68.1)])) (Ωl := (fun (s68 : Int × (List Int) × Int × (List (List Int))) (x69 : (Value × List Nat)) => [oc b_0 [slv (rI .i64) s68.2.1, iv .i64 s68.2.2.1], oa (rSl (rI .u8)) x69.1 x69.2 s68.2.2.2])) (Γb := (fun (q101 : (List Int) × Int × (List (List Int))) (y102 : (Value × List Nat)) => [(0, pv (ptr b_0 0)), (3, pv y102.1)])) (Ωb := (fun (q101 : (List Int) × Int × (List (List Int))) (y102 : (Value × List Nat)) => [oc b_0 [slv (rI .i64) q101.1, iv .i64 q101.2.1], oa (rSl (rI .u8)) y102.1 y102.2 q101.2.2])) (i1.1, i1.2.L, i1.2.At, []) ((.slice none 0 0), []) (weak [0, 1] ⟨rfl, rfl, rfl, trivial⟩ ⟨rfl, rfl, trivial⟩) (fun s68 x69 => ?_) (fun q101 y102 => ?_)
  · unfold law39_records_l1
    refine ref_seq ?_
    refine ref_seq ?_
    refine ref_region ?_
    refine s_rd (r_move rfl) rfl ?_
    refine s_rd (r_gtr rfl rfl) rfl ?_
    refine l_nil ?_
    refine n_then ?_
    refine ref_cond rfl (fun hb70 => ?_) (fun hb70 => ?_)
    · refine ref_skip ?_
      refine n_then ?_
      refine ref_seq ?_
      refine ref_block ?_
      refine ref_seq ?_
      refine ref_region ?_
      refine s_rd (r_assign rfl) rfl ?_
      refine l_nil ?_
      refine n_then ?_
      refine ref_seq ?_
      refine ref_seq ?_
      refine ref_region ?_
      refine s_rd (r_move rfl) rfl ?_
      refine pull fun k71 h_k71 => ?_
      refine s_st (s_callO (js := [0]) (os := fun (_ : Unit) => [oc b_0 [slv (rI .i64) k71.2.L, iv .i64 k71.2.At]]) (ex := fun (_ : Unit) => []) (ψ := fun (_ : Unit) => iv .i64 k71.1) (args := [.tmp 13, .const (.int .i64 (7))]) Try.call17 rfl (keep_Src_N_ok h_k71) ⟨rfl, trivial⟩ (fun _ => rfl) (fun _ => ⟨rfl, trivial⟩) ⟨arg rfl, arg rfl, trivial⟩ (fun _ _ _ _ h => h)) rfl (fun _ => ?_)
      refine s_rd (r_assign rfl) rfl ?_
      refine l_nil ?_
      refine n_then ?_
      refine b_of (own_nil (rI .u8)) ?_
      refine ref_loopB (f := (law39_records_l2)) (Γl := (fun (s88 : Int × (List Int) × Int × (List Int)) (x89 : (Value × List Nat)) => [(0, pv (ptr b_0 0)), (3, pv x69.1), (4, iv .i64 s68.1), (5, pv x89.1), (6, iv .i64 s88.1)])) (Ωl := (fun (s88 : Int × (List Int) × Int × (List Int)) (x89 : (Value × List Nat)) => [oc b_0 [slv (rI .i64) s88.2.1, iv .i64 s88.2.2.1], oa (rSl (rI .u8)) x69.1 x69.2 s68.2.2.2, oa (rI .u8) x89.1 x89.2 s88.2.2.2])) (Γb := (fun (q96 : (List Int) × Int × (List Int)) (y97 : (Value × List Nat)) => [(0, pv (ptr b_0 0)), (3, pv x69.1), (4, iv .i64 s68.1), (5, pv y97.1)])) (Ωb := (fun (q96 : (List Int) × Int × (List Int)) (y97 : (Value × List Nat)) => [oc b_0 [slv (rI .i64) q96.1, iv .i64 q96.2.1], oa (rSl (rI .u8)) x69.1 x69.2 s68.2.2.2, oa (rI .u8) y97.1 y97.2 q96.2.2])) (k71.1, k71.2.L, k71.2.At, []) ((.slice none 0 0), []) (weak [0, 1, 2] ⟨rfl, rfl, rfl, rfl, rfl, trivial⟩ ⟨rfl, rfl, rfl, trivial⟩) (fun s88 x89 => ?_) (fun q96 y97 => ?_)
      · unfold law39_records_l2
        refine ref_seq ?_
        refine ref_seq ?_
        refine ref_region ?_
        refine s_rd (r_move rfl) rfl ?_
        refine s_rd (r_gtr rfl rfl) rfl ?_
        refine l_nil ?_
        refine n_then ?_
        refine ref_cond rfl (fun hb90 => ?_) (fun hb90 => ?_)
        · refine ref_skip ?_
          refine n_then ?_
          refine ref_seq ?_
          refine ref_block ?_
          refine ref_region ?_
          refine s_rd (r_move rfl) rfl ?_
          refine s_rd (r_move rfl) rfl ?_
          refine s_rd (r_move rfl) rfl ?_
          refine pull fun t91 h_t91 => ?_
          refine s_st (s_callO (js := [0]) (os := fun (_ : Unit) => [oc b_0 [slv (rI .i64) t91.2.L, iv .i64 t91.2.At]]) (ex := fun (_ : Unit) => []) (ψ := fun (_ : Unit) => iv .i64 t91.1) (args := [.tmp 21, .const (.int .i64 (256))]) Try.call17 rfl (keep_Src_N_ok h_t91) ⟨rfl, trivial⟩ (fun _ => rfl) (fun _ => ⟨rfl, trivial⟩) ⟨arg rfl, arg rfl, trivial⟩ (fun _ _ _ _ h => h)) rfl (fun _ => ?_)
          refine s_st (s_bslice (xs := [.const (.int .i64 (0)), .const (.int .i64 (255)), .tmp 22]) (ds := [0, 255, t91.1]) Try.underlying22 el_3 rfl (Nat.le_of_ble_eq_true rfl) ⟨(part_at rfl iv_at), ⟨(part_at rfl iv_at), ⟨(part_at rfl iv_at), trivial⟩⟩⟩) rfl (fun _ => ?_)
          refine pull fun t92 h_t92 => ?_
          refine s_st (s_callO (js := [0]) (os := fun (_ : Unit) => [oc b_0 [slv (rI .i64) t92.2.L, iv .i64 t92.2.At]]) (ex := fun (_ : Unit) => []) (ψ := fun (_ : Unit) => iv .i64 t92.1) (args := [.tmp 20, .tmp 23]) Try.call26 rfl (keep_Src_Pick_ok h_t92) ⟨rfl, trivial⟩ (fun _ => rfl) (fun _ => ⟨rfl, trivial⟩) ⟨arg rfl, arg rfl, trivial⟩ (fun _ _ _ _ h => h)) rfl (fun _ => ?_)
          refine s_rd (r_conv (k' := .u8) rfl rfl rfl) rfl ?_
          refine s_st (s_bslice (xs := [.tmp 25]) (ds := [IntKind.wrap .u8 t92.1]) Try.underlying27 el_5 rfl (Nat.le_of_ble_eq_true rfl) ⟨(part_at rfl iv_at), trivial⟩) rfl (fun _ => ?_)
          refine pull fun r_93 h_r_93 => ?_
          refine s_st (s_append h_r_93 Try.underlying27 el_5 rfl (j := 2) rfl rfl) rfl (fun o94 => ?_)
          refine s_rd (r_assign rfl) rfl ?_
          refine l_nil ?_
          refine n_block ?_
          refine n_then ?_
          refine ref_region ?_
          refine s_rd (r_move rfl) rfl ?_
          refine s_rd (r_sub rfl rfl) rfl ?_
          refine s_rd (r_assign rfl) rfl ?_
          refine b_let (f := iv .i64) (t := 6) rfl fun k95 => ?_
          refine l_nil ?_
          exact goB o94 (weak [0, 1, 2] ⟨rfl, rfl, rfl, rfl, rfl, trivial⟩ ⟨rfl, rfl, rfl, trivial⟩)
        · refine ref_exit ?_
          refine x_then ?_
          exact brkB x89 (weak [0, 1, 2] ⟨rfl, rfl, rfl, rfl, trivial⟩ ⟨rfl, rfl, rfl, trivial⟩)
      · refine n_then ?_
        refine ref_region ?_
        refine s_rd (r_move rfl) rfl ?_
        refine s_rd (r_move rfl) rfl ?_
        refine b_of (frzM [5, 29] [0] (j := 2) rfl ⟨rfl, rfl, trivial⟩ hM ⟨⟨rfl, _, rfl, rfl⟩, trivial⟩) ?_
        refine s_st (s_bslice (xs := [.tmp 29]) (ds := [q96.2.2]) Try.underlying25 el_27 rfl (Nat.le_of_ble_eq_true rfl) ⟨(part_at rfl slv_at), trivial⟩) rfl (fun _ => ?_)
        refine pull fun out98 h_out98 => ?_
        refine s_st (s_append h_out98 Try.underlying25 el_27 rfl (j := 1) rfl rfl) rfl (fun o99 => ?_)
        refine s_rd (r_assign rfl) rfl ?_
        refine l_nil ?_
        refine n_block ?_
        refine n_then ?_
        refine ref_region ?_
        refine s_rd (r_move rfl) rfl ?_
        refine s_rd (r_sub rfl rfl) rfl ?_
        refine s_rd (r_assign rfl) rfl ?_
        refine b_let (f := iv .i64) (t := 4) rfl fun i100 => ?_
        refine l_nil ?_
        exact goB o99 (weak [0, 1] ⟨rfl, rfl, rfl, trivial⟩ ⟨rfl, rfl, trivial⟩)
    · refine ref_exit ?_
      refine x_then ?_
      exact brkB x69 (weak [0, 1] ⟨rfl, rfl, trivial⟩ ⟨rfl, rfl, trivial⟩)
  · refine n_then ?_
    refine ref_seq ?_
    refine ref_region ?_
    refine s_rd (r_move rfl) rfl ?_
    refine s_rd (r_assign rfl) rfl ?_
    refine l_nil ?_
    refine n_then ?_
    refine ref_ret ?_
    exact fin1 (.inl rfl) y102 [0, 1] rfl ⟨rfl, rfl, trivial⟩ rfl (rv_tmp rfl)

/-! deliberation/deliberationref39.Frame -/
noncomputable def ref39_Frame_m (index_0 : Int) (record_1 : (List Int)) : Option (List Int × Int) :=
  bif decide (index_0 < 0) then
    some ([], 1)
  else
    bif decide (index_0 > 1048576) then
      some ([], 1)
    else
      bif decide ((record_1.length : Int) > 4096) then
        some ([], 2)
      else
        Option.bind (ref39_number_m (record_1.length : Int) 2) fun t3 =>
        Option.bind (ref39_number_m (isub .i64 65535 (record_1.length : Int)) 2) fun t5 =>
        Option.bind (appM 1 t3 t5) fun out7 =>
        Option.bind (appM 1 out7 record_1) fun out9 =>
        Option.bind (ref39_number_m index_0 4) fun t11 =>
        Option.bind (appM 1 t11 record_1) fun t13 =>
        Option.bind (ref39_Sum_m t13) fun t15 =>
        Option.bind (ref39_number_m t15 4) fun t16 =>
        Option.bind (appM 1 out9 t16) fun t18 =>
        some (t18, 0)

theorem ref39_Frame_ok {index_0 : Int} {record_1 : (List Int)} {r : List Int × Int} (hm : ref39_Frame_m index_0 record_1 = some r) :
    FnOk prog 15 [iv .i64 index_0, slv (rI .u8) record_1] [] (fun (x : (Value × List Nat)) => [pv x.1, iv .i64 r.2]) (fun (x : (Value × List Nat)) => [oa (rI .u8) x.1 x.2 r.1]) := by
  refine fn_ok (X := (Value × List Nat)) (fn := Try.f15) (N := 35) (m := ref39_Frame_m index_0 record_1) (res := fun r x => [pv x.1, iv .i64 r.2]) (Ω1 := fun r x => [oa (rI .u8) x.1 x.2 r.1]) Try.func15 rfl rfl hm rfl (fun E hM => ?_)
  unfold ref39_Frame_m
  refine ref_seq ?_
  refine ref_region ?_
  refine s_rd (r_assign rfl) rfl ?_
  refine s_rd (r_assign rfl) rfl ?_
  refine l_nil ?_
  refine n_then ?_
  refine ref_seq ?_
  refine ref_seq ?_
  refine ref_region ?_
  refine s_rd (r_move rfl) rfl ?_
  refine s_rd (r_lss rfl rfl) rfl ?_
  refine s_rd (r_move rfl) rfl ?_
  refine b_split (t := 9) rfl (fun _ => ?_) (fun _ => ?_)
  · refine s_off rfl rfl rfl rfl rfl ?_
    refine s_off rfl rfl rfl rfl rfl ?_
    refine s_rd (r_pickT rfl rfl) rfl ?_
    refine l_nil ?_
    refine n_then ?_
    refine ref_condT rfl rfl ?_
    refine ref_seq ?_
    refine ref_region ?_
    refine s_rd (r_assign rfl) rfl ?_
    refine s_rd (r_assign rfl) rfl ?_
    refine l_nil ?_
    refine n_then ?_
    refine ref_ret ?_
    refine r_then ?_
    refine b_of (own_nil (rI .u8)) ?_
    exact fin2 (.inl rfl) ((.slice none 0 0), []) [0] rfl ⟨rfl, trivial⟩ rfl (rv_tmp rfl) (rv_tmp rfl)
  · refine s_on rfl rfl rfl ?_
    refine s_rd (r_move rfl) rfl ?_
    refine s_on rfl rfl rfl ?_
    refine s_rd (r_gtr rfl rfl) rfl ?_
    refine s_rd (r_pickF rfl rfl) rfl ?_
    refine l_nil ?_
    refine n_then ?_
    refine ref_cond rfl (fun hb1 => ?_) (fun hb1 => ?_)
    · refine ref_seq ?_
      refine ref_region ?_
      refine s_rd (r_assign rfl) rfl ?_
      refine s_rd (r_assign rfl) rfl ?_
      refine l_nil ?_
      refine n_then ?_
      refine ref_ret ?_
      refine r_then ?_
      refine b_of (own_nil (rI .u8)) ?_
      exact fin2 (.inl rfl) ((.slice none 0 0), []) [0] rfl ⟨rfl, trivial⟩ rfl (rv_tmp rfl) (rv_tmp rfl)
    · refine ref_skip ?_
      refine n_then ?_
      refine ref_seq ?_
      refine ref_seq ?_
      refine ref_region ?_
      refine s_rd (r_move rfl) rfl ?_
      refine s_rd (r_len Try.underlying27 rfl) rfl ?_
      refine s_rd (r_gtr rfl rfl) rfl ?_
      refine l_nil ?_
      refine n_then ?_
      refine ref_cond rfl (fun hb2 => ?_) (fun hb2 => ?_)
      · refine ref_seq ?_
        refine ref_region ?_
        refine s_rd (r_assign rfl) rfl ?_
        refine s_rd (r_assign rfl) rfl ?_
        refine l_nil ?_
        refine n_then ?_
        refine ref_ret ?_
        refine r_then ?_
        refine b_of (own_nil (rI .u8)) ?_
        exact fin2 (.inl rfl) ((.slice none 0 0), []) [0] rfl ⟨rfl, trivial⟩ rfl (rv_tmp rfl) (rv_tmp rfl)
      · refine ref_skip ?_
        refine n_then ?_
        refine ref_seq ?_
        refine ref_region ?_
        refine s_rd (r_move rfl) rfl ?_
        refine s_rd (r_len Try.underlying27 rfl) rfl ?_
        refine pull fun t3 h_t3 => ?_
        refine s_st (s_call (ψ := fun (x4 : (Value × List Nat)) => pv x4.1) (args := [.tmp 17, .const (.int .i64 (2))]) Try.call29 rfl (ref39_number_ok h_t3) ⟨arg rfl, arg rfl, trivial⟩ (fun _ _ _ _ h => h)) rfl (fun x4 => ?_)
        refine s_rd (r_move rfl) rfl ?_
        refine s_rd (r_len Try.underlying27 rfl) rfl ?_
        refine s_rd (r_sub rfl rfl) rfl ?_
        refine pull fun t5 h_t5 => ?_
        refine s_st (s_call (ψ := fun (x6 : (Value × List Nat)) => pv x6.1) (args := [.tmp 21, .const (.int .i64 (2))]) Try.call29 rfl (ref39_number_ok h_t5) ⟨arg rfl, arg rfl, trivial⟩ (fun _ _ _ _ h => h)) rfl (fun x6 => ?_)
        refine b_of (frzL [22] (j := 1) rfl ⟨rfl, trivial⟩ hM) ?_
        refine pull fun out7 h_out7 => ?_
        refine s_st (s_append h_out7 Try.underlying27 el_5 rfl (j := 0) rfl rfl) rfl (fun o8 => ?_)
        refine s_rd (r_assign rfl) rfl ?_
        refine l_nil ?_
        refine n_then ?_
        refine ref_seq ?_
        refine ref_region ?_
        refine s_rd (r_move rfl) rfl ?_
        refine s_rd (r_move rfl) rfl ?_
        refine pull fun out9 h_out9 => ?_
        refine s_st (s_append h_out9 Try.underlying27 el_5 rfl (j := 0) rfl rfl) rfl (fun o10 => ?_)
        refine s_rd (r_assign rfl) rfl ?_
        refine l_nil ?_
        refine n_then ?_
        refine ref_seq ?_
        refine ref_region ?_
        refine s_rd (r_move rfl) rfl ?_
        refine s_rd (r_move rfl) rfl ?_
        refine pull fun t11 h_t11 => ?_
        refine s_st (s_call (ψ := fun (x12 : (Value × List Nat)) => pv x12.1) (args := [.tmp 28, .const (.int .i64 (4))]) Try.call29 rfl (ref39_number_ok h_t11) ⟨arg rfl, arg rfl, trivial⟩ (fun _ _ _ _ h => h)) rfl (fun x12 => ?_)
        refine s_rd (r_move rfl) rfl ?_
        refine pull fun t13 h_t13 => ?_
        refine s_st (s_append h_t13 Try.underlying27 el_5 rfl (j := 2) rfl rfl) rfl (fun o14 => ?_)
        refine pull fun t15 h_t15 => ?_
        refine s_st (s_callB (ψ := fun (_ : Unit) => iv .i64 t15) (args := [.tmp 31]) Try.call21 rfl (ref39_Sum_ok h_t15) ⟨argO rfl (j := 2) rfl, trivial⟩ (fun _ _ _ _ _ h => h)) rfl (fun _ => ?_)
        refine pull fun t16 h_t16 => ?_
        refine s_st (s_call (ψ := fun (x17 : (Value × List Nat)) => pv x17.1) (args := [.tmp 32, .const (.int .i64 (4))]) Try.call29 rfl (ref39_number_ok h_t16) ⟨arg rfl, arg rfl, trivial⟩ (fun _ _ _ _ h => h)) rfl (fun x17 => ?_)
        refine b_of (frzL [33] (j := 3) rfl ⟨rfl, trivial⟩ hM) ?_
        refine pull fun t18 h_t18 => ?_
        refine s_st (s_append h_t18 Try.underlying27 el_5 rfl (j := 0) rfl rfl) rfl (fun o19 => ?_)
        refine s_rd (r_assign rfl) rfl ?_
        refine s_rd (r_assign rfl) rfl ?_
        refine l_nil ?_
        refine n_then ?_
        refine ref_ret ?_
        exact fin2 (.inl rfl) o19 [0] rfl ⟨rfl, trivial⟩ rfl (rv_tmp rfl) (rv_tmp rfl)

/-! slices.Grow[[]byte,byte] -/
noncomputable def slices_Grow_byte_byte_m (n_1 : Int) : Option (List Int) :=
  bif decide (n_1 < 0) then
    none
  else
    letM (isub .i64 n_1 (isub .i64 0 0)) fun n2 =>
    bif decide (n2 > 0) then
      Option.bind (mkM 1 0 n2) fun t4 =>
      Option.bind (slM t4 0 0) fun s6 =>
      some s6
    else
      some []

theorem slices_Grow_byte_byte_ok {n_1 : Int} {r : List Int} (hm : slices_Grow_byte_byte_m n_1 = some r) :
    FnOk prog 36 [pv (.slice none 0 0), iv .i64 n_1] [] (fun (x : (Value × List Nat)) => [pv x.1]) (fun (x : (Value × List Nat)) => [oa (rI .u8) x.1 x.2 r]) := by
  refine fn_ok (X := (Value × List Nat)) (fn := Try.f36) (N := 27) (m := slices_Grow_byte_byte_m n_1) (res := fun r x => [pv x.1]) (Ω1 := fun r x => [oa (rI .u8) x.1 x.2 r]) Try.func36 rfl rfl hm rfl (fun E hM => ?_)
  unfold slices_Grow_byte_byte_m
  refine ref_seq ?_
  refine ref_region ?_
  refine s_rd (r_assign rfl) rfl ?_
  refine l_nil ?_
  refine n_then ?_
  refine ref_seq ?_
  refine ref_seq ?_
  refine ref_region ?_
  refine s_rd (r_move rfl) rfl ?_
  refine s_rd (r_lss rfl rfl) rfl ?_
  refine l_nil ?_
  refine n_then ?_
  refine ref_cond rfl (fun hb1 => ?_) (fun hb1 => ?_)
  · refine ref_region ?_
    exact pnone
  · refine ref_skip ?_
    refine n_then ?_
    refine ref_seq ?_
    refine ref_seq ?_
    refine ref_region ?_
    refine s_rd (r_move rfl) rfl ?_
    refine s_rd (r_move rfl) rfl ?_
    refine s_rd (r_capN Try.underlying27 rfl) rfl ?_
    refine s_rd (r_move rfl) rfl ?_
    refine s_rd (r_lenN Try.underlying27 rfl) rfl ?_
    refine s_rd (r_sub rfl rfl) rfl ?_
    refine s_rd (r_sub rfl rfl) rfl ?_
    refine s_rd (r_assign rfl) rfl ?_
    refine b_let (f := iv .i64) (t := 1) rfl fun n2 => ?_
    refine l_nil ?_
    refine n_then ?_
    refine ref_seq ?_
    refine ref_region ?_
    refine s_rd (r_move rfl) rfl ?_
    refine s_rd (r_gtr rfl rfl) rfl ?_
    refine l_nil ?_
    refine n_then ?_
    refine ref_cond rfl (fun hb3 => ?_) (fun hb3 => ?_)
    · refine ref_region ?_
      refine s_rd (r_move rfl) rfl ?_
      refine s_rd (r_move rfl) rfl ?_
      refine s_rd (r_capN Try.underlying27 rfl) rfl ?_
      refine s_rd (r_sliceN Try.underlying27 el_5 rfl rfl) rfl ?_
      refine s_rd (r_move rfl) rfl ?_
      refine pull fun t4 h_t4 => ?_
      refine s_st (s_appendZ h_t4 (of_decide_eq_true hb3) Try.underlying27 Try.underlying3 el_5 ze_5 rfl rfl) rfl (fun o5 => ?_)
      refine s_rd (r_move rfl) rfl ?_
      refine s_rd (r_lenN Try.underlying27 rfl) rfl ?_
      refine pull fun s6 h_s6 => ?_
      refine s_st (s_oslice h_s6 Try.underlying27 el_5 rfl (j := 0) rfl .dft (.of rfl)) rfl (fun o7 => ?_)
      refine s_rd (r_assign rfl) rfl ?_
      refine l_nil ?_
      refine n_then ?_
      refine ref_seq ?_
      refine ref_region ?_
      refine s_rd (r_move rfl) rfl ?_
      refine s_rd (r_assign rfl) rfl ?_
      refine l_nil ?_
      refine n_then ?_
      refine ref_ret ?_
      exact fin1 (.inl rfl) o7 [0] rfl ⟨rfl, trivial⟩ rfl (rv_tmp rfl)
    · refine ref_skip ?_
      refine n_then ?_
      refine ref_seq ?_
      refine ref_region ?_
      refine s_rd (r_move rfl) rfl ?_
      refine s_rd (r_assign rfl) rfl ?_
      refine l_nil ?_
      refine n_then ?_
      refine ref_ret ?_
      refine b_of (own_nil (rI .u8)) ?_
      exact fin1 (.inl rfl) ((.slice none 0 0), []) [0] rfl ⟨rfl, trivial⟩ rfl (rv_tmp rfl)

/-! slices.Concat[[]byte,byte] -/
noncomputable def slices_Concat_byte_byte_l1 (slices_0 : (List (List Int))) (s7 : Int × Int) : Option (Sum (Int) (Int × Int)) :=
  bif decide (s7.2 < (slices_0.length : Int)) then
    Option.bind (idxM slices_0 s7.2) fun s10 =>
    letM (iadd .i64 s7.1 (s10.length : Int)) fun size11 =>
    bif decide (size11 < 0) then
      none
    else
      some (Sum.inr (size11, iadd .i64 s7.2 1))
  else
    some (Sum.inl s7.1)

noncomputable def slices_Concat_byte_byte_l2 (slices_0 : (List (List Int))) (s29 : Int × (List Int)) : Option (Sum ((List Int)) (Int × (List Int))) :=
  bif decide (s29.1 < (slices_0.length : Int)) then
    Option.bind (idxM slices_0 s29.1) fun s32 =>
    Option.bind (appM 1 s29.2 s32) fun newslice33 =>
    some (Sum.inr (iadd .i64 s29.1 1, newslice33))
  else
    some (Sum.inl s29.2)

noncomputable def slices_Concat_byte_byte_m (slices_0 : (List (List Int))) : Option (List Int) :=
  Option.bind (loopC (slices_Concat_byte_byte_l1 slices_0) (0, 0)) fun q13 : Int =>
  Option.bind (slices_Grow_byte_byte_m q13) fun newslice15 =>
  Option.bind (loopC (slices_Concat_byte_byte_l2 slices_0) (0, newslice15)) fun q35 : (List Int) =>
  some q35

theorem slices_Concat_byte_byte_ok {slices_0 : (List (List Int))} {r : List Int} (hm : slices_Concat_byte_byte_m slices_0 = some r) :
    FnOk prog 30 [slv (rSl (rI .u8)) slices_0] [] (fun (x : (Value × List Nat)) => [pv x.1]) (fun (x : (Value × List Nat)) => [oa (rI .u8) x.1 x.2 r]) := by
  refine fn_ok (X := (Value × List Nat)) (fn := Try.f30) (N := 36) (m := slices_Concat_byte_byte_m slices_0) (res := fun r x => [pv x.1]) (Ω1 := fun r x => [oa (rI .u8) x.1 x.2 r]) Try.func30 rfl rfl hm rfl (fun E hM => ?_)
  unfold slices_Concat_byte_byte_m
  refine ref_seq ?_
  refine ref_region ?_
  refine s_rd (r_assign rfl) rfl ?_
  refine l_nil ?_
  refine n_then ?_
  refine ref_seq ?_
  refine ref_region ?_
  refine s_rd (r_assign rfl) rfl ?_
  refine l_nil ?_
  refine n_then ?_
  refine ref_seq ?_
  refine ref_seq ?_
  refine ref_region ?_
  refine s_rd (r_move rfl) rfl ?_
  refine s_rd (r_len Try.underlying25 rfl) rfl ?_
  refine s_rd (r_move rfl) rfl ?_
  refine l_nil ?_
  refine n_then ?_
  refine ref_loopB (f := (slices_Concat_byte_byte_l1 slices_0)) (Γl := (fun (s7 : Int × Int) (x8 : Unit) => [(0, slv (rSl (rI .u8)) slices_0), (3, iv .i64 s7.1), (9, slv (rSl (rI .u8)) slices_0), (10, iv .i64 (slices_0.length : Int)), (11, iv .i64 s7.2)])) (Ωl := (fun (s7 : Int × Int) (x8 : Unit) => [])) (Γb := (fun (q13 : Int) (y14 : Unit) => [(0, slv (rSl (rI .u8)) slices_0), (3, iv .i64 q13)])) (Ωb := (fun (q13 : Int) (y14 : Unit) => [])) (0, 0) () (weak [] ⟨rfl, rfl, rfl, rfl, rfl, trivial⟩ trivial) (fun s7 x8 => ?_) (fun q13 y14 => ?_)
  · unfold slices_Concat_byte_byte_l1
    refine ref_seq ?_
    refine ref_region ?_
    refine s_rd (r_lss rfl rfl) rfl ?_
    refine l_nil ?_
    refine n_then ?_
    refine ref_seq ?_
    refine ref_cond rfl (fun hb9 => ?_) (fun hb9 => ?_)
    · refine ref_skip ?_
      refine n_then ?_
      refine ref_seq ?_
      refine ref_block ?_
      refine ref_seq ?_
      refine ref_region ?_
      refine pull fun s10 h_s10 => ?_
      refine s_rd (r_index h_s10 Try.underlying25 el_27 rfl rfl) rfl ?_
      refine s_rd (r_load el_27 rfl) rfl ?_
      refine s_rd (r_assign rfl) rfl ?_
      refine l_nil ?_
      refine n_then ?_
      refine ref_seq ?_
      refine ref_region ?_
      refine s_rd (r_move rfl) rfl ?_
      refine s_rd (r_move rfl) rfl ?_
      refine s_rd (r_len Try.underlying27 rfl) rfl ?_
      refine s_rd (r_add rfl rfl) rfl ?_
      refine s_rd (r_assign rfl) rfl ?_
      refine b_let (f := iv .i64) (t := 3) rfl fun size11 => ?_
      refine l_nil ?_
      refine n_then ?_
      refine ref_seq ?_
      refine ref_region ?_
      refine s_rd (r_move rfl) rfl ?_
      refine s_rd (r_lss rfl rfl) rfl ?_
      refine l_nil ?_
      refine n_then ?_
      refine ref_cond rfl (fun hb12 => ?_) (fun hb12 => ?_)
      · refine ref_region ?_
        exact pnone
      · refine ref_skip ?_
        refine n_block ?_
        refine n_then ?_
        refine ref_region ?_
        refine s_rd (r_add rfl rfl) rfl ?_
        refine s_rd (r_move rfl) rfl ?_
        refine l_nil ?_
        exact goB () (weak [] ⟨rfl, rfl, rfl, rfl, rfl, trivial⟩ trivial)
    · refine ref_exit ?_
      refine x_then ?_
      exact brkB () (weak [] ⟨rfl, rfl, trivial⟩ trivial)
  · refine n_then ?_
    refine ref_seq ?_
    refine ref_region ?_
    refine s_rd (r_move rfl) rfl ?_
    refine pull fun newslice15 h_newslice15 => ?_
    refine s_st (s_call (ψ := fun (x16 : (Value × List Nat)) => pv x16.1) (args := [.const (.slice none 0 0), .tmp 23]) Try.call36 rfl (slices_Grow_byte_byte_ok h_newslice15) ⟨arg rfl, arg rfl, trivial⟩ (fun _ _ _ _ h => h)) rfl (fun x16 => ?_)
    refine s_rd (r_assign rfl) rfl ?_
    refine l_nil ?_
    refine n_then ?_
    refine ref_seq ?_
    refine ref_seq ?_
    refine ref_region ?_
    refine s_rd (r_move rfl) rfl ?_
    refine s_rd (r_len Try.underlying25 rfl) rfl ?_
    refine s_rd (r_move rfl) rfl ?_
    refine l_nil ?_
    refine n_then ?_
    refine ref_loopB (f := (slices_Concat_byte_byte_l2 slices_0)) (Γl := (fun (s29 : Int × (List Int)) (x30 : (Value × List Nat)) => [(6, pv x30.1), (25, slv (rSl (rI .u8)) slices_0), (26, iv .i64 (slices_0.length : Int)), (27, iv .i64 s29.1)])) (Ωl := (fun (s29 : Int × (List Int)) (x30 : (Value × List Nat)) => [oa (rI .u8) x30.1 x30.2 s29.2])) (Γb := (fun (q35 : (List Int)) (y36 : (Value × List Nat)) => [(6, pv y36.1)])) (Ωb := (fun (q35 : (List Int)) (y36 : (Value × List Nat)) => [oa (rI .u8) y36.1 y36.2 q35])) (0, newslice15) x16 (weak [0] ⟨rfl, rfl, rfl, rfl, trivial⟩ ⟨rfl, trivial⟩) (fun s29 x30 => ?_) (fun q35 y36 => ?_)
    · unfold slices_Concat_byte_byte_l2
      refine ref_seq ?_
      refine ref_region ?_
      refine s_rd (r_lss rfl rfl) rfl ?_
      refine l_nil ?_
      refine n_then ?_
      refine ref_seq ?_
      refine ref_cond rfl (fun hb31 => ?_) (fun hb31 => ?_)
      · refine ref_skip ?_
        refine n_then ?_
        refine ref_seq ?_
        refine ref_block ?_
        refine ref_seq ?_
        refine ref_region ?_
        refine pull fun s32 h_s32 => ?_
        refine s_rd (r_index h_s32 Try.underlying25 el_27 rfl rfl) rfl ?_
        refine s_rd (r_load el_27 rfl) rfl ?_
        refine s_rd (r_assign rfl) rfl ?_
        refine l_nil ?_
        refine n_then ?_
        refine ref_region ?_
        refine s_rd (r_move rfl) rfl ?_
        refine s_rd (r_move rfl) rfl ?_
        refine pull fun newslice33 h_newslice33 => ?_
        refine s_st (s_append h_newslice33 Try.underlying27 el_5 rfl (j := 0) rfl rfl) rfl (fun o34 => ?_)
        refine s_rd (r_assign rfl) rfl ?_
        refine l_nil ?_
        refine n_block ?_
        refine n_then ?_
        refine ref_region ?_
        refine s_rd (r_add rfl rfl) rfl ?_
        refine s_rd (r_move rfl) rfl ?_
        refine l_nil ?_
        exact goB o34 (weak [0] ⟨rfl, rfl, rfl, rfl, trivial⟩ ⟨rfl, trivial⟩)
      · refine ref_exit ?_
        refine x_then ?_
        exact brkB x30 (weak [0] ⟨rfl, trivial⟩ ⟨rfl, trivial⟩)
    · refine n_then ?_
      refine ref_seq ?_
      refine ref_region ?_
      refine s_rd (r_move rfl) rfl ?_
      refine s_rd (r_assign rfl) rfl ?_
      refine l_nil ?_
      refine n_then ?_
      refine ref_ret ?_
      exact fin1 (.inl rfl) y36 [0] rfl ⟨rfl, trivial⟩ rfl (rv_tmp rfl)

/-! deliberation/journal.sum -/
noncomputable def journal_sum_m (index_0 : Int) (record_1 : (List Int)) : Option (Int) :=
  Option.bind (journal_bytes_m index_0 4) fun t1 =>
  Option.bind (slices_Concat_byte_byte_m [t1, record_1]) fun t3 =>
  Option.bind (journal_Sum_m t3) fun t5 =>
  some t5

theorem journal_sum_ok {index_0 : Int} {record_1 : (List Int)} {r : Int} (hm : journal_sum_m index_0 record_1 = some r) :
    FnOk prog 33 [iv .i64 index_0, slv (rI .u8) record_1] [] (fun (x : Unit) => [iv .i64 r]) (fun (x : Unit) => []) := by
  refine fn_ok (X := Unit) (fn := Try.f33) (N := 11) (m := journal_sum_m index_0 record_1) (res := fun r x => [iv .i64 r]) (Ω1 := fun r x => []) Try.func33 rfl rfl hm rfl (fun E hM => ?_)
  unfold journal_sum_m
  refine ref_seq ?_
  refine ref_region ?_
  refine s_rd (r_assign rfl) rfl ?_
  refine l_nil ?_
  refine n_then ?_
  refine ref_seq ?_
  refine ref_region ?_
  refine s_rd (r_move rfl) rfl ?_
  refine pull fun t1 h_t1 => ?_
  refine s_st (s_call (ψ := fun (x2 : (Value × List Nat)) => pv x2.1) (args := [.tmp 5, .const (.int .i64 (4))]) Try.call32 rfl (journal_bytes_ok h_t1) ⟨arg rfl, arg rfl, trivial⟩ (fun _ _ _ _ h => h)) rfl (fun x2 => ?_)
  refine s_rd (r_move rfl) rfl ?_
  refine b_of (frzL [6] (j := 0) rfl ⟨rfl, trivial⟩ hM) ?_
  refine s_st (s_bslice (xs := [.tmp 6, .tmp 7]) (ds := [t1, record_1]) Try.underlying25 el_27 rfl (Nat.le_of_ble_eq_true rfl) ⟨(part_at rfl slv_at), ⟨(part_at rfl slv_at), trivial⟩⟩) rfl (fun _ => ?_)
  refine pull fun t3 h_t3 => ?_
  refine s_st (s_call (ψ := fun (x4 : (Value × List Nat)) => pv x4.1) (args := [.tmp 8]) Try.call30 rfl (slices_Concat_byte_byte_ok h_t3) ⟨arg rfl, trivial⟩ (fun _ _ _ _ h => h)) rfl (fun x4 => ?_)
  refine pull fun t5 h_t5 => ?_
  refine s_st (s_callB (ψ := fun (_ : Unit) => iv .i64 t5) (args := [.tmp 9]) Try.call20 rfl (journal_Sum_ok h_t5) ⟨argO rfl (j := 1) rfl, trivial⟩ (fun _ _ _ _ _ h => h)) rfl (fun _ => ?_)
  refine s_rd (r_assign rfl) rfl ?_
  refine l_nil ?_
  refine n_then ?_
  refine ref_ret ?_
  exact fin1 (.inl rfl) () [] rfl trivial rfl (rv_tmp rfl)

/-! deliberation/journal.Frame -/
noncomputable def journal_Frame_m (index_0 : Int) (record_1 : (List Int)) : Option (List Int × Int) :=
  joinM (fun j2 : Bool =>
      bif j2 then
        some ([], 1)
      else
        letM (decide ((record_1.length : Int) > 4096)) fun t6 =>
        bif t6 then
          some ([], 2)
        else
          letM ((record_1.length : Int)) fun n8 =>
          Option.bind (journal_bytes_m n8 2) fun t9 =>
          Option.bind (journal_bytes_m (isub .i64 65535 n8) 2) fun t11 =>
          Option.bind (journal_sum_m index_0 record_1) fun t13 =>
          Option.bind (journal_bytes_m t13 4) fun t14 =>
          Option.bind (slices_Concat_byte_byte_m [t9, t11, record_1, t14]) fun t16 =>
          some (t16, 0)) fun k4 =>
  bif decide (index_0 < 0) then
    k4 true
  else
    letM (decide (index_0 > 1048576)) fun t1 =>
    k4 t1

theorem journal_Frame_ok {index_0 : Int} {record_1 : (List Int)} {r : List Int × Int} (hm : journal_Frame_m index_0 record_1 = some r) :
    FnOk prog 18 [iv .i64 index_0, slv (rI .u8) record_1] [] (fun (x : (Value × List Nat)) => [pv x.1, iv .i64 r.2]) (fun (x : (Value × List Nat)) => [oa (rI .u8) x.1 x.2 r.1]) := by
  refine fn_ok (X := (Value × List Nat)) (fn := Try.f18) (N := 32) (m := journal_Frame_m index_0 record_1) (res := fun r x => [pv x.1, iv .i64 r.2]) (Ω1 := fun r x => [oa (rI .u8) x.1 x.2 r.1]) Try.func18 rfl rfl hm rfl (fun E hM => ?_)
  unfold journal_Frame_m
  refine ref_seq ?_
  refine ref_region ?_
  refine s_rd (r_assign rfl) rfl ?_
  refine s_rd (r_assign rfl) rfl ?_
  refine l_nil ?_
  refine n_then ?_
  refine ref_seq ?_
  refine ref_block ?_
  refine ref_seq ?_
  refine ref_join (fun (j2 : Bool) (x3 : Unit) => [(0, iv .i64 index_0), (1, slv (rI .u8) record_1), (7, bv j2)]) (fun (j2 : Bool) (x3 : Unit) => []) (fun k4 hk4 => ?_) (fun j2 x3 => ?_)
  · refine ref_region ?_
    refine s_rd (r_move rfl) rfl ?_
    refine s_rd (r_lss rfl rfl) rfl ?_
    refine s_rd (r_move rfl) rfl ?_
    refine b_split (t := 10) rfl (fun _ => ?_) (fun _ => ?_)
    · refine s_off rfl rfl rfl rfl rfl ?_
      refine s_off rfl rfl rfl rfl rfl ?_
      refine s_rd (r_pickT rfl rfl) rfl ?_
      refine s_rd (r_assign rfl) rfl ?_
      refine l_nil ?_
      exact b_to (hk4 true ()) (weak [] ⟨rfl, rfl, rfl, trivial⟩ trivial)
    · refine s_on rfl rfl rfl ?_
      refine s_rd (r_move rfl) rfl ?_
      refine s_on rfl rfl rfl ?_
      refine s_rd (r_gtr rfl rfl) rfl ?_
      refine s_rd (r_pickF rfl rfl) rfl ?_
      refine s_rd (r_assign rfl) rfl ?_
      refine b_let (f := bv) (t := 7) rfl fun t1 => ?_
      refine l_nil ?_
      exact b_to (hk4 t1 ()) (weak [] ⟨rfl, rfl, rfl, trivial⟩ trivial)
  · refine n_then ?_
    refine ref_cond rfl (fun hb5 => ?_) (fun hb5 => ?_)
    · refine ref_seq ?_
      refine ref_region ?_
      refine s_rd (r_assign rfl) rfl ?_
      refine s_rd (r_assign rfl) rfl ?_
      refine l_nil ?_
      refine n_then ?_
      refine ref_ret ?_
      refine r_block ?_
      refine r_then ?_
      refine b_of (own_nil (rI .u8)) ?_
      exact fin2 (.inl rfl) ((.slice none 0 0), []) [0] rfl ⟨rfl, trivial⟩ rfl (rv_tmp rfl) (rv_tmp rfl)
    · refine ref_seq ?_
      refine ref_region ?_
      refine s_rd (r_move rfl) rfl ?_
      refine s_rd (r_len Try.underlying27 rfl) rfl ?_
      refine s_rd (r_gtr rfl rfl) rfl ?_
      refine s_rd (r_assign rfl) rfl ?_
      refine b_let (f := bv) (t := 14) rfl fun t6 => ?_
      refine l_nil ?_
      refine n_then ?_
      refine ref_cond rfl (fun hb7 => ?_) (fun hb7 => ?_)
      · refine ref_seq ?_
        refine ref_region ?_
        refine s_rd (r_assign rfl) rfl ?_
        refine s_rd (r_assign rfl) rfl ?_
        refine l_nil ?_
        refine n_then ?_
        refine ref_ret ?_
        refine r_block ?_
        refine r_then ?_
        refine b_of (own_nil (rI .u8)) ?_
        exact fin2 (.inl rfl) ((.slice none 0 0), []) [0] rfl ⟨rfl, trivial⟩ rfl (rv_tmp rfl) (rv_tmp rfl)
      · refine ref_skip ?_
        refine n_block ?_
        refine n_then ?_
        refine ref_seq ?_
        refine ref_region ?_
        refine s_rd (r_move rfl) rfl ?_
        refine s_rd (r_len Try.underlying27 rfl) rfl ?_
        refine s_rd (r_assign rfl) rfl ?_
        refine b_let (f := iv .i64) (t := 6) rfl fun n8 => ?_
        refine l_nil ?_
        refine n_then ?_
        refine ref_seq ?_
        refine ref_region ?_
        refine s_rd (r_move rfl) rfl ?_
        refine pull fun t9 h_t9 => ?_
        refine s_st (s_call (ψ := fun (x10 : (Value × List Nat)) => pv x10.1) (args := [.tmp 20, .const (.int .i64 (2))]) Try.call32 rfl (journal_bytes_ok h_t9) ⟨arg rfl, arg rfl, trivial⟩ (fun _ _ _ _ h => h)) rfl (fun x10 => ?_)
        refine s_rd (r_move rfl) rfl ?_
        refine s_rd (r_sub rfl rfl) rfl ?_
        refine pull fun t11 h_t11 => ?_
        refine s_st (s_call (ψ := fun (x12 : (Value × List Nat)) => pv x12.1) (args := [.tmp 23, .const (.int .i64 (2))]) Try.call32 rfl (journal_bytes_ok h_t11) ⟨arg rfl, arg rfl, trivial⟩ (fun _ _ _ _ h => h)) rfl (fun x12 => ?_)
        refine s_rd (r_move rfl) rfl ?_
        refine s_rd (r_move rfl) rfl ?_
        refine s_rd (r_move rfl) rfl ?_
        refine pull fun t13 h_t13 => ?_
        refine s_st (s_call (ψ := fun (_ : Unit) => iv .i64 t13) (args := [.tmp 26, .tmp 27]) Try.call33 rfl (journal_sum_ok h_t13) ⟨arg rfl, arg rfl, trivial⟩ (fun _ _ _ _ h => h)) rfl (fun _ => ?_)
        refine pull fun t14 h_t14 => ?_
        refine s_st (s_call (ψ := fun (x15 : (Value × List Nat)) => pv x15.1) (args := [.tmp 28, .const (.int .i64 (4))]) Try.call32 rfl (journal_bytes_ok h_t14) ⟨arg rfl, arg rfl, trivial⟩ (fun _ _ _ _ h => h)) rfl (fun x15 => ?_)
        refine b_of (frzL [21] (j := 0) rfl ⟨rfl, trivial⟩ hM) ?_
        refine b_of (frzL [24] (j := 1) rfl ⟨rfl, trivial⟩ hM) ?_
        refine b_of (frzL [29] (j := 2) rfl ⟨rfl, trivial⟩ hM) ?_
        refine s_st (s_bslice (xs := [.tmp 21, .tmp 24, .tmp 25, .tmp 29]) (ds := [t9, t11, record_1, t14]) Try.underlying25 el_27 rfl (Nat.le_of_ble_eq_true rfl) ⟨(part_at rfl slv_at), ⟨(part_at rfl slv_at), ⟨(part_at rfl slv_at), ⟨(part_at rfl slv_at), trivial⟩⟩⟩⟩) rfl (fun _ => ?_)
        refine pull fun t16 h_t16 => ?_
        refine s_st (s_call (ψ := fun (x17 : (Value × List Nat)) => pv x17.1) (args := [.tmp 30]) Try.call30 rfl (slices_Concat_byte_byte_ok h_t16) ⟨arg rfl, trivial⟩ (fun _ _ _ _ h => h)) rfl (fun x17 => ?_)
        refine s_rd (r_assign rfl) rfl ?_
        refine s_rd (r_assign rfl) rfl ?_
        refine l_nil ?_
        refine n_then ?_
        refine ref_ret ?_
        exact fin2 (.inl rfl) x17 [3] rfl ⟨rfl, trivial⟩ rfl (rv_tmp rfl) (rv_tmp rfl)

/-! deliberation/journal.first -/
noncomputable def journal_first_m (index_0 : Int) (b_1 : (List Int)) : Option (List Int × Int) :=
  bif decide ((b_1.length : Int) < 8) then
    some ([], 0)
  else
    Option.bind (slM b_1 0 2) fun t2 =>
    Option.bind (journal_number_m t2) fun n3 =>
    Option.bind (slM b_1 2 4) fun t4 =>
    Option.bind (journal_number_m t4) fun t5 =>
    bif t5 != (isub .i64 65535 n3) then
      some ([], 0)
    else
      bif decide (n3 > 4096) then
        some ([], 0)
      else
        bif decide ((b_1.length : Int) < (iadd .i64 (iadd .i64 4 n3) 4)) then
          some ([], 0)
        else
          Option.bind (slM b_1 (iadd .i64 4 n3) (iadd .i64 (iadd .i64 4 n3) 4)) fun t6 =>
          Option.bind (slM b_1 4 (iadd .i64 4 n3)) fun t7 =>
          Option.bind (journal_number_m t6) fun t8 =>
          Option.bind (journal_sum_m index_0 t7) fun t9 =>
          bif t8 != t9 then
            some ([], 0)
          else
            Option.bind (slM b_1 4 (iadd .i64 4 n3)) fun t11 =>
            letM (iadd .i64 (iadd .i64 4 n3) 4) fun t12 =>
            some (t11, t12)

theorem journal_first_ok {index_0 : Int} {b_1 : (List Int)} {r : List Int × Int} (hm : journal_first_m index_0 b_1 = some r) :
    FnOk prog 27 [iv .i64 index_0, slv (rI .u8) b_1] [] (fun (x : Unit) => [slv (rI .u8) r.1, iv .i64 r.2]) (fun (x : Unit) => []) := by
  refine fn_ok (X := Unit) (fn := Try.f27) (N := 52) (m := journal_first_m index_0 b_1) (res := fun r x => [slv (rI .u8) r.1, iv .i64 r.2]) (Ω1 := fun r x => []) Try.func27 rfl rfl hm rfl (fun E hM => ?_)
  unfold journal_first_m
  refine ref_seq ?_
  refine ref_region ?_
  refine s_rd (r_assign rfl) rfl ?_
  refine s_rd (r_assign rfl) rfl ?_
  refine l_nil ?_
  refine n_then ?_
  refine ref_seq ?_
  refine ref_seq ?_
  refine ref_region ?_
  refine s_rd (r_move rfl) rfl ?_
  refine s_rd (r_len Try.underlying27 rfl) rfl ?_
  refine s_rd (r_lss rfl rfl) rfl ?_
  refine l_nil ?_
  refine n_then ?_
  refine ref_cond rfl (fun hb1 => ?_) (fun hb1 => ?_)
  · refine ref_seq ?_
    refine ref_region ?_
    refine s_rd (r_assign rfl) rfl ?_
    refine s_rd (r_assign rfl) rfl ?_
    refine l_nil ?_
    refine n_then ?_
    refine ref_ret ?_
    refine r_then ?_
    refine b_of (sl_nil (rI .u8) (t := 4) rfl) ?_
    exact fin2 (.inl rfl) () [] rfl trivial rfl (rv_tmp rfl) (rv_tmp rfl)
  · refine ref_skip ?_
    refine n_then ?_
    refine ref_seq ?_
    refine ref_region ?_
    refine s_rd (r_move rfl) rfl ?_
    refine pull fun t2 h_t2 => ?_
    refine s_rd (r_slice h_t2 Try.underlying27 el_5 rfl .dft (.of rfl)) rfl ?_
    refine pull fun n3 h_n3 => ?_
    refine s_st (s_call (ψ := fun (_ : Unit) => iv .i64 n3) (args := [.tmp 12]) Try.call35 rfl (journal_number_ok h_n3) ⟨arg rfl, trivial⟩ (fun _ _ _ _ h => h)) rfl (fun _ => ?_)
    refine s_rd (r_assign rfl) rfl ?_
    refine l_nil ?_
    refine n_then ?_
    refine ref_seq ?_
    refine ref_region ?_
    refine s_rd (r_move rfl) rfl ?_
    refine s_rd (r_add rfl rfl) rfl ?_
    refine s_rd (r_assign rfl) rfl ?_
    refine l_nil ?_
    refine n_then ?_
    refine ref_seq ?_
    refine ref_seq ?_
    refine ref_draw [0, 1, 3, 4, 5, 6, 7, 8, 9, 10, 11, 12, 13, 14, 15, 16, 17, 18, 19, 20, 21, 22, 24, 25, 26, 27, 29, 30] rfl (by kernel_rfl) (fun hok => ?_)
    refine a_rd (i := 0) hok rfl (by kernel_rfl) rfl (r_move rfl) rfl ?_
    refine pull fun t4 h_t4 => ?_
    refine a_rd (i := 1) hok rfl (by kernel_rfl) rfl (r_slice h_t4 Try.underlying27 el_5 rfl (.of rfl) (.of rfl)) rfl ?_
    refine a_rd (i := 3) hok rfl (by kernel_rfl) rfl (r_move rfl) rfl ?_
    refine a_rd (i := 4) hok rfl (by kernel_rfl) rfl (r_sub rfl rfl) rfl ?_
    refine pull fun t5 h_t5 => ?_
    refine a_next hok 2 [] (by kernel_rfl) ?_ trivial
    refine a_st (i := 2) hok rfl rfl (s_call (ψ := fun (_ : Unit) => iv .i64 t5) (args := [.tmp 17]) Try.call35 rfl (journal_number_ok h_t5) ⟨arg rfl, trivial⟩ (fun _ _ _ _ h => h)) (by intro _ h; cases h; rfl) (fun _ => ⟨trivial, ⟨trivial, ⟨trivial, ⟨trivial, trivial⟩⟩⟩⟩) (fun _ => ?_)
    refine a_rd (i := 5) hok rfl (by kernel_rfl) rfl (r_neq rfl rfl) rfl ?_
    refine a_rd (i := 6) hok rfl (by kernel_rfl) rfl (r_move rfl) rfl ?_
    refine b_split (t := 22) rfl (fun _ => ?_) (fun _ => ?_)
    · refine a_off (i := 7) hok rfl rfl rfl rfl rfl (by kernel_rfl) rfl rfl ?_
      refine a_off (i := 8) hok rfl rfl rfl rfl rfl (by kernel_rfl) rfl rfl ?_
      refine a_rd (i := 9) hok rfl (by kernel_rfl) rfl (r_pickT rfl rfl) rfl ?_
      refine a_rd (i := 10) hok rfl (by kernel_rfl) rfl (r_move rfl) rfl ?_
      refine a_off (i := 11) hok rfl rfl rfl rfl rfl (by kernel_rfl) rfl rfl ?_
      refine a_off (i := 12) hok rfl rfl rfl rfl rfl (by kernel_rfl) rfl rfl ?_
      refine a_off (i := 13) hok rfl rfl rfl rfl rfl (by kernel_rfl) rfl rfl ?_
      refine a_off (i := 14) hok rfl rfl rfl rfl rfl (by kernel_rfl) rfl rfl ?_
      refine a_off (i := 15) hok rfl rfl rfl rfl rfl (by kernel_rfl) rfl rfl ?_
      refine a_rd (i := 16) hok rfl (by kernel_rfl) rfl (r_pickT rfl rfl) rfl ?_
      refine a_rd (i := 17) hok rfl (by kernel_rfl) rfl (r_move rfl) rfl ?_
      refine a_off (i := 18) hok rfl rfl rfl rfl rfl (by kernel_rfl) rfl rfl ?_
      refine a_off (i := 19) hok rfl rfl rfl rfl rfl (by kernel_rfl) rfl rfl ?_
      refine a_off (i := 20) hok rfl rfl rfl rfl rfl (by kernel_rfl) rfl rfl ?_
      refine a_off (i := 21) hok rfl rfl rfl rfl rfl (by kernel_rfl) rfl rfl ?_
      refine a_off (i := 22) hok rfl rfl rfl rfl rfl (by kernel_rfl) rfl rfl ?_
      refine a_off (i := 24) hok rfl rfl rfl rfl rfl (by kernel_rfl) rfl rfl ?_
      refine a_off (i := 25) hok rfl rfl rfl rfl rfl (by kernel_rfl) rfl rfl ?_
      refine a_off (i := 26) hok rfl rfl rfl rfl rfl (by kernel_rfl) rfl rfl ?_
      refine a_off (i := 27) hok rfl rfl rfl rfl rfl (by kernel_rfl) rfl rfl ?_
      refine a_next hok 23 [] (by kernel_rfl) ?_ trivial
      refine a_stOff (i := 23) hok rfl rfl rfl rfl rfl rfl (by intro _ h; cases h; rfl) ⟨trivial, ⟨trivial, ⟨trivial, ⟨trivial, ⟨trivial, ⟨trivial, ⟨trivial, ⟨trivial, ⟨trivial, ⟨trivial, ⟨trivial, ⟨trivial, ⟨trivial, ⟨trivial, ⟨trivial, ⟨trivial, ⟨trivial, ⟨trivial, ⟨trivial, ⟨trivial, ⟨trivial, ⟨trivial, ⟨trivial, ⟨trivial, ⟨trivial, ⟨trivial, trivial⟩⟩⟩⟩⟩⟩⟩⟩⟩⟩⟩⟩⟩⟩⟩⟩⟩⟩⟩⟩⟩⟩⟩⟩⟩⟩ ?_
      refine a_next hok 28 [] (by kernel_rfl) ?_ trivial
      refine a_stOff (i := 28) hok rfl rfl rfl rfl rfl rfl (by intro _ h; cases h; rfl) ⟨trivial, ⟨trivial, ⟨trivial, ⟨trivial, ⟨trivial, ⟨trivial, ⟨trivial, ⟨trivial, ⟨trivial, ⟨trivial, ⟨trivial, ⟨trivial, ⟨trivial, ⟨trivial, ⟨trivial, ⟨trivial, ⟨trivial, ⟨trivial, ⟨trivial, ⟨trivial, ⟨trivial, ⟨trivial, ⟨trivial, ⟨trivial, ⟨trivial, ⟨trivial, trivial⟩⟩⟩⟩⟩⟩⟩⟩⟩⟩⟩⟩⟩⟩⟩⟩⟩⟩⟩⟩⟩⟩⟩⟩⟩⟩ ?_
      refine a_off (i := 29) hok rfl rfl rfl rfl rfl (by kernel_rfl) rfl rfl ?_
      refine a_rd (i := 30) hok rfl (by kernel_rfl) rfl (r_pickT rfl rfl) rfl ?_
      refine a_fin hok (by kernel_rfl) ?_
      refine n_then ?_
      refine ref_condT rfl rfl ?_
      refine ref_seq ?_
      refine ref_region ?_
      refine s_rd (r_assign rfl) rfl ?_
      refine s_rd (r_assign rfl) rfl ?_
      refine l_nil ?_
      refine n_then ?_
      refine ref_ret ?_
      refine r_then ?_
      refine b_of (sl_nil (rI .u8) (t := 4) rfl) ?_
      exact fin2 (.inl rfl) () [] rfl trivial rfl (rv_tmp rfl) (rv_tmp rfl)
    · refine a_rdOn (i := 7) hok rfl rfl rfl rfl (by kernel_rfl) rfl (r_move rfl) rfl ?_
      refine a_rdOn (i := 8) hok rfl rfl rfl rfl (by kernel_rfl) rfl (r_gtr rfl rfl) rfl ?_
      refine a_rd (i := 9) hok rfl (by kernel_rfl) rfl (r_pickF rfl rfl) rfl ?_
      refine a_rd (i := 10) hok rfl (by kernel_rfl) rfl (r_move rfl) rfl ?_
      refine b_split (t := 26) rfl (fun _ => ?_) (fun _ => ?_)
      · refine a_off (i := 11) hok rfl rfl rfl rfl rfl (by kernel_rfl) rfl rfl ?_
        refine a_off (i := 12) hok rfl rfl rfl rfl rfl (by kernel_rfl) rfl rfl ?_
        refine a_off (i := 13) hok rfl rfl rfl rfl rfl (by kernel_rfl) rfl rfl ?_
        refine a_off (i := 14) hok rfl rfl rfl rfl rfl (by kernel_rfl) rfl rfl ?_
        refine a_off (i := 15) hok rfl rfl rfl rfl rfl (by kernel_rfl) rfl rfl ?_
        refine a_rd (i := 16) hok rfl (by kernel_rfl) rfl (r_pickT rfl rfl) rfl ?_
        refine a_rd (i := 17) hok rfl (by kernel_rfl) rfl (r_move rfl) rfl ?_
        refine a_off (i := 18) hok rfl rfl rfl rfl rfl (by kernel_rfl) rfl rfl ?_
        refine a_off (i := 19) hok rfl rfl rfl rfl rfl (by kernel_rfl) rfl rfl ?_
        refine a_off (i := 20) hok rfl rfl rfl rfl rfl (by kernel_rfl) rfl rfl ?_
        refine a_off (i := 21) hok rfl rfl rfl rfl rfl (by kernel_rfl) rfl rfl ?_
        refine a_off (i := 22) hok rfl rfl rfl rfl rfl (by kernel_rfl) rfl rfl ?_
        refine a_off (i := 24) hok rfl rfl rfl rfl rfl (by kernel_rfl) rfl rfl ?_
        refine a_off (i := 25) hok rfl rfl rfl rfl rfl (by kernel_rfl) rfl rfl ?_
        refine a_off (i := 26) hok rfl rfl rfl rfl rfl (by kernel_rfl) rfl rfl ?_
        refine a_off (i := 27) hok rfl rfl rfl rfl rfl (by kernel_rfl) rfl rfl ?_
        refine a_next hok 23 [] (by kernel_rfl) ?_ trivial
        refine a_stOff (i := 23) hok rfl rfl rfl rfl rfl rfl (by intro _ h; cases h; rfl) ⟨trivial, ⟨trivial, ⟨trivial, ⟨trivial, ⟨trivial, ⟨trivial, ⟨trivial, ⟨trivial, ⟨trivial, ⟨trivial, ⟨trivial, ⟨trivial, ⟨trivial, ⟨trivial, ⟨trivial, ⟨trivial, ⟨trivial, ⟨trivial, ⟨trivial, ⟨trivial, ⟨trivial, ⟨trivial, ⟨trivial, ⟨trivial, ⟨trivial, ⟨trivial, trivial⟩⟩⟩⟩⟩⟩⟩⟩⟩⟩⟩⟩⟩⟩⟩⟩⟩⟩⟩⟩⟩⟩⟩⟩⟩⟩ ?_
        refine a_next hok 28 [] (by kernel_rfl) ?_ trivial
        refine a_stOff (i := 28) hok rfl rfl rfl rfl rfl rfl (by intro _ h; cases h; rfl) ⟨trivial, ⟨trivial, ⟨trivial, ⟨trivial, ⟨trivial, ⟨trivial, ⟨trivial, ⟨trivial, ⟨trivial, ⟨trivial, ⟨trivial, ⟨trivial, ⟨trivial, ⟨trivial, ⟨trivial, ⟨trivial, ⟨trivial, ⟨trivial, ⟨trivial, ⟨trivial, ⟨trivial, ⟨trivial, ⟨trivial, ⟨trivial, ⟨trivial, ⟨trivial, trivial⟩⟩⟩⟩⟩⟩⟩⟩⟩⟩⟩⟩⟩⟩⟩⟩⟩⟩⟩⟩⟩⟩⟩⟩⟩⟩ ?_
        refine a_off (i := 29) hok rfl rfl rfl rfl rfl (by kernel_rfl) rfl rfl ?_
        refine a_rd (i := 30) hok rfl (by kernel_rfl) rfl (r_pickT rfl rfl) rfl ?_
        refine a_fin hok (by kernel_rfl) ?_
        refine n_then ?_
        refine ref_condT rfl rfl ?_
        refine ref_seq ?_
        refine ref_region ?_
        refine s_rd (r_assign rfl) rfl ?_
        refine s_rd (r_assign rfl) rfl ?_
        refine l_nil ?_
        refine n_then ?_
        refine ref_ret ?_
        refine r_then ?_
        refine b_of (sl_nil (rI .u8) (t := 4) rfl) ?_
        exact fin2 (.inl rfl) () [] rfl trivial rfl (rv_tmp rfl) (rv_tmp rfl)
      · refine a_rdOn (i := 11) hok rfl rfl rfl rfl (by kernel_rfl) rfl (r_move rfl) rfl ?_
        refine a_rdOn (i := 12) hok rfl rfl rfl rfl (by kernel_rfl) rfl (r_len Try.underlying27 rfl) rfl ?_
        refine a_rdOn (i := 13) hok rfl rfl rfl rfl (by kernel_rfl) rfl (r_move rfl) rfl ?_
        refine a_rdOn (i := 14) hok rfl rfl rfl rfl (by kernel_rfl) rfl (r_add rfl rfl) rfl ?_
        refine a_rdOn (i := 15) hok rfl rfl rfl rfl (by kernel_rfl) rfl (r_lss rfl rfl) rfl ?_
        refine a_rd (i := 16) hok rfl (by kernel_rfl) rfl (r_pickF rfl rfl) rfl ?_
        refine a_rd (i := 17) hok rfl (by kernel_rfl) rfl (r_move rfl) rfl ?_
        refine b_split (t := 33) rfl (fun _ => ?_) (fun _ => ?_)
        · refine a_off (i := 18) hok rfl rfl rfl rfl rfl (by kernel_rfl) rfl rfl ?_
          refine a_off (i := 19) hok rfl rfl rfl rfl rfl (by kernel_rfl) rfl rfl ?_
          refine a_off (i := 20) hok rfl rfl rfl rfl rfl (by kernel_rfl) rfl rfl ?_
          refine a_off (i := 21) hok rfl rfl rfl rfl rfl (by kernel_rfl) rfl rfl ?_
          refine a_off (i := 22) hok rfl rfl rfl rfl rfl (by kernel_rfl) rfl rfl ?_
          refine a_off (i := 24) hok rfl rfl rfl rfl rfl (by kernel_rfl) rfl rfl ?_
          refine a_off (i := 25) hok rfl rfl rfl rfl rfl (by kernel_rfl) rfl rfl ?_
          refine a_off (i := 26) hok rfl rfl rfl rfl rfl (by kernel_rfl) rfl rfl ?_
          refine a_off (i := 27) hok rfl rfl rfl rfl rfl (by kernel_rfl) rfl rfl ?_
          refine a_next hok 23 [] (by kernel_rfl) ?_ trivial
          refine a_stOff (i := 23) hok rfl rfl rfl rfl rfl rfl (by intro _ h; cases h; rfl) ⟨trivial, ⟨trivial, ⟨trivial, ⟨trivial, ⟨trivial, ⟨trivial, ⟨trivial, ⟨trivial, ⟨trivial, ⟨trivial, ⟨trivial, ⟨trivial, ⟨trivial, ⟨trivial, ⟨trivial, ⟨trivial, ⟨trivial, ⟨trivial, ⟨trivial, ⟨trivial, ⟨trivial, ⟨trivial, ⟨trivial, ⟨trivial, ⟨trivial, ⟨trivial, trivial⟩⟩⟩⟩⟩⟩⟩⟩⟩⟩⟩⟩⟩⟩⟩⟩⟩⟩⟩⟩⟩⟩⟩⟩⟩⟩ ?_
          refine a_next hok 28 [] (by kernel_rfl) ?_ trivial
          refine a_stOff (i := 28) hok rfl rfl rfl rfl rfl rfl (by intro _ h; cases h; rfl) ⟨trivial, ⟨trivial, ⟨trivial, ⟨trivial, ⟨trivial, ⟨trivial, ⟨trivial, ⟨trivial, ⟨trivial, ⟨trivial, ⟨trivial, ⟨trivial, ⟨trivial, ⟨trivial, ⟨trivial, ⟨trivial, ⟨trivial, ⟨trivial, ⟨trivial, ⟨trivial, ⟨trivial, ⟨trivial, ⟨trivial, ⟨trivial, ⟨trivial, ⟨trivial, trivial⟩⟩⟩⟩⟩⟩⟩⟩⟩⟩⟩⟩⟩⟩⟩⟩⟩⟩⟩⟩⟩⟩⟩⟩⟩⟩ ?_
          refine a_off (i := 29) hok rfl rfl rfl rfl rfl (by kernel_rfl) rfl rfl ?_
          refine a_rd (i := 30) hok rfl (by kernel_rfl) rfl (r_pickT rfl rfl) rfl ?_
          refine a_fin hok (by kernel_rfl) ?_
          refine n_then ?_
          refine ref_condT rfl rfl ?_
          refine ref_seq ?_
          refine ref_region ?_
          refine s_rd (r_assign rfl) rfl ?_
          refine s_rd (r_assign rfl) rfl ?_
          refine l_nil ?_
          refine n_then ?_
          refine ref_ret ?_
          refine r_then ?_
          refine b_of (sl_nil (rI .u8) (t := 4) rfl) ?_
          exact fin2 (.inl rfl) () [] rfl trivial rfl (rv_tmp rfl) (rv_tmp rfl)
        · refine a_rdOn (i := 18) hok rfl rfl rfl rfl (by kernel_rfl) rfl (r_move rfl) rfl ?_
          refine a_rdOn (i := 19) hok rfl rfl rfl rfl (by kernel_rfl) rfl (r_move rfl) rfl ?_
          refine a_rdOn (i := 20) hok rfl rfl rfl rfl (by kernel_rfl) rfl (r_move rfl) rfl ?_
          refine a_rdOn (i := 21) hok rfl rfl rfl rfl (by kernel_rfl) rfl (r_add rfl rfl) rfl ?_
          refine pull fun t6 h_t6 => ?_
          refine a_rdOn (i := 22) hok rfl rfl rfl rfl (by kernel_rfl) rfl (r_slice h_t6 Try.underlying27 el_5 rfl (.of rfl) (.of rfl)) rfl ?_
          refine a_rdOn (i := 24) hok rfl rfl rfl rfl (by kernel_rfl) rfl (r_move rfl) rfl ?_
          refine a_rdOn (i := 25) hok rfl rfl rfl rfl (by kernel_rfl) rfl (r_move rfl) rfl ?_
          refine a_rdOn (i := 26) hok rfl rfl rfl rfl (by kernel_rfl) rfl (r_move rfl) rfl ?_
          refine pull fun t7 h_t7 => ?_
          refine a_rdOn (i := 27) hok rfl rfl rfl rfl (by kernel_rfl) rfl (r_slice h_t7 Try.underlying27 el_5 rfl (.of rfl) (.of rfl)) rfl ?_
          refine pull fun t8 h_t8 => ?_
          refine a_next hok 23 [] (by kernel_rfl) ?_ trivial
          refine a_stOn (i := 23) hok rfl rfl rfl rfl rfl (s_call (ψ := fun (_ : Unit) => iv .i64 t8) (args := [.tmp 38]) Try.call35 rfl (journal_number_ok h_t8) ⟨arg rfl, trivial⟩ (fun _ _ _ _ h => h)) (by intro _ h; cases h; rfl) (fun _ => ⟨trivial, ⟨trivial, ⟨trivial, ⟨trivial, ⟨trivial, ⟨trivial, ⟨trivial, ⟨trivial, ⟨trivial, ⟨trivial, ⟨trivial, ⟨trivial, ⟨trivial, ⟨trivial, ⟨trivial, ⟨trivial, ⟨trivial, ⟨trivial, ⟨trivial, ⟨trivial, ⟨trivial, ⟨trivial, ⟨trivial, ⟨trivial, ⟨trivial, ⟨trivial, trivial⟩⟩⟩⟩⟩⟩⟩⟩⟩⟩⟩⟩⟩⟩⟩⟩⟩⟩⟩⟩⟩⟩⟩⟩⟩⟩) (fun _ => ?_)
          refine pull fun t9 h_t9 => ?_
          refine a_next hok 28 [] (by kernel_rfl) ?_ trivial
          refine a_stOn (i := 28) hok rfl rfl rfl rfl rfl (s_call (ψ := fun (_ : Unit) => iv .i64 t9) (args := [.tmp 40, .tmp 43]) Try.call33 rfl (journal_sum_ok h_t9) ⟨arg rfl, arg rfl, trivial⟩ (fun _ _ _ _ h => h)) (by intro _ h; cases h; rfl) (fun _ => ⟨trivial, ⟨trivial, ⟨trivial, ⟨trivial, ⟨trivial, ⟨trivial, ⟨trivial, ⟨trivial, ⟨trivial, ⟨trivial, ⟨trivial, ⟨trivial, ⟨trivial, ⟨trivial, ⟨trivial, ⟨trivial, ⟨trivial, ⟨trivial, ⟨trivial, ⟨trivial, ⟨trivial, ⟨trivial, ⟨trivial, ⟨trivial, ⟨trivial, ⟨trivial, trivial⟩⟩⟩⟩⟩⟩⟩⟩⟩⟩⟩⟩⟩⟩⟩⟩⟩⟩⟩⟩⟩⟩⟩⟩⟩⟩) (fun _ => ?_)
          refine a_rdOn (i := 29) hok rfl rfl rfl rfl (by kernel_rfl) rfl (r_neq rfl rfl) rfl ?_
          refine a_rd (i := 30) hok rfl (by kernel_rfl) rfl (r_pickF rfl rfl) rfl ?_
          refine a_fin hok (by kernel_rfl) ?_
          refine n_then ?_
          refine ref_cond rfl (fun hb10 => ?_) (fun hb10 => ?_)
          · refine ref_seq ?_
            refine ref_region ?_
            refine s_rd (r_assign rfl) rfl ?_
            refine s_rd (r_assign rfl) rfl ?_
            refine l_nil ?_
            refine n_then ?_
            refine ref_ret ?_
            refine r_then ?_
            refine b_of (sl_nil (rI .u8) (t := 4) rfl) ?_
            exact fin2 (.inl rfl) () [] rfl trivial rfl (rv_tmp rfl) (rv_tmp rfl)
          · refine ref_skip ?_
            refine n_then ?_
            refine ref_seq ?_
            refine ref_region ?_
            refine s_rd (r_move rfl) rfl ?_
            refine s_rd (r_move rfl) rfl ?_
            refine pull fun t11 h_t11 => ?_
            refine s_rd (r_slice h_t11 Try.underlying27 el_5 rfl (.of rfl) (.of rfl)) rfl ?_
            refine s_rd (r_move rfl) rfl ?_
            refine s_rd (r_add rfl rfl) rfl ?_
            refine s_rd (r_assign rfl) rfl ?_
            refine s_rd (r_assign rfl) rfl ?_
            refine b_let (f := iv .i64) (t := 5) rfl fun t12 => ?_
            refine l_nil ?_
            refine n_then ?_
            refine ref_ret ?_
            exact fin2 (.inl rfl) () [] rfl trivial rfl (rv_tmp rfl) (rv_tmp rfl)

/-! deliberation/journal.Read -/
noncomputable def journal_Read_l1 (b_0 : (List Int)) (s21 : Int × (List (List Int))) : Option (Sum (List (List Int) × Int) (Int × (List (List Int)))) :=
  Option.bind (slM b_0 s21.1 (b_0.length : Int)) fun t23 =>
  Option.bind (journal_first_m (s21.2.length : Int) t23) fun t24 =>
  bif t24.2 == 0 then
    some (Sum.inl (s21.2, s21.1))
  else
    Option.bind (slices_Clone_byte_byte_m t24.1) fun t26 =>
    Option.bind (appM 24 s21.2 [t26]) fun out28 =>
    letM (iadd .i64 s21.1 t24.2) fun at_30 =>
    some (Sum.inr (at_30, out28))

noncomputable def journal_Read_m (b_0 : (List Int)) : Option (List (List Int) × Int) :=
  Option.bind (loopC (journal_Read_l1 b_0) (0, [])) (fun a : List (List Int) × Int => some a)

theorem journal_Read_ok {b_0 : (List Int)} {r : List (List Int) × Int} (hm : journal_Read_m b_0 = some r) :
    FnOk prog 13 [slv (rI .u8) b_0] [] (fun (x : (Value × List Nat)) => [pv x.1, iv .i64 r.2]) (fun (x : (Value × List Nat)) => [oa (rSl (rI .u8)) x.1 x.2 r.1]) := by
  refine fn_ok (X := (Value × List Nat)) (fn := Try.f13) (N := 29) (m := journal_Read_m b_0) (res := fun r x => [pv x.1, iv .i64 r.2]) (Ω1 := fun r x => [oa (rSl (rI .u8)) x.1 x.2 r.1]) Try.func13 rfl rfl hm rfl (fun E hM => ?_)
  unfold journal_Read_m
  refine ref_seq ?_
  refine ref_region ?_
  refine s_rd (r_assign rfl) rfl ?_
  refine s_rd (r_assign rfl) rfl ?_
  refine l_nil ?_
  refine n_then ?_
  refine ref_seq ?_
  refine ref_region ?_
  refine s_rd (r_assign rfl) rfl ?_
  refine l_nil ?_
  refine n_then ?_
  refine ref_seq ?_
  refine ref_region ?_
  refine s_rd (r_assign rfl) rfl ?_
  refine l_nil ?_
  refine n_then ?_
  refine b_of (own_nil (rSl (rI .u8))) ?_
  refine ref_block (ref_loop (f := (journal_Read_l1 b_0)) (Γl := (fun (s21 : Int × (List (List Int))) (x22 : (Value × List Nat)) => [(0, slv (rI .u8) b_0), (4, pv x22.1), (5, iv .i64 s21.1)])) (Ωl := (fun (s21 : Int × (List (List Int))) (x22 : (Value × List Nat)) => [oa (rSl (rI .u8)) x22.1 x22.2 s21.2])) (k := (fun a : List (List Int) × Int => some a)) (0, []) ((.slice none 0 0), []) (weak [0] ⟨rfl, rfl, rfl, trivial⟩ ⟨rfl, trivial⟩) (fun s21 x22 => ?_))
  · unfold journal_Read_l1
    refine ref_block ?_
    refine ref_seq ?_
    refine ref_region ?_
    refine s_rd (r_move rfl) rfl ?_
    refine s_rd (r_olen Try.underlying25 rfl (j := 0) rfl) rfl ?_
    refine s_rd (r_move rfl) rfl ?_
    refine s_rd (r_move rfl) rfl ?_
    refine pull fun t23 h_t23 => ?_
    refine s_rd (r_slice h_t23 Try.underlying27 el_5 rfl (.of rfl) .dft) rfl ?_
    refine pull fun t24 h_t24 => ?_
    refine s_st (s_call (ψ := fun (_ : Unit) => tup [slv (rI .u8) t24.1, iv .i64 t24.2]) (args := [.tmp 10, .tmp 13]) Try.call27 rfl (journal_first_ok h_t24) ⟨arg rfl, arg rfl, trivial⟩ (fun _ _ _ _ h => h)) rfl (fun _ => ?_)
    refine s_rd (r_move rfl) rfl ?_
    refine s_rd (r_extract rfl rfl) rfl ?_
    refine s_rd (r_extract rfl rfl) rfl ?_
    refine s_rd (r_assign rfl) rfl ?_
    refine s_rd (r_assign rfl) rfl ?_
    refine l_nil ?_
    refine n_then ?_
    refine ref_seq ?_
    refine ref_seq ?_
    refine ref_region ?_
    refine s_rd (r_move rfl) rfl ?_
    refine s_rd (r_eql rfl rfl) rfl ?_
    refine l_nil ?_
    refine n_then ?_
    refine ref_cond rfl (fun hb25 => ?_) (fun hb25 => ?_)
    · refine ref_seq ?_
      refine ref_region ?_
      refine s_rd (r_move rfl) rfl ?_
      refine s_rd (r_move rfl) rfl ?_
      refine s_rd (r_assign rfl) rfl ?_
      refine s_rd (r_assign rfl) rfl ?_
      refine l_nil ?_
      refine n_then ?_
      refine ref_ret ?_
      refine r_then ?_
      refine r_block ?_
      refine r_loop ?_
      refine r_block ?_
      exact fin2 (.inl rfl) x22 [0] rfl ⟨rfl, trivial⟩ rfl (rv_tmp rfl) (rv_tmp rfl)
    · refine ref_skip ?_
      refine n_then ?_
      refine ref_region ?_
      refine s_rd (r_move rfl) rfl ?_
      refine s_rd (r_move rfl) rfl ?_
      refine pull fun t26 h_t26 => ?_
      refine s_st (s_call (ψ := fun (x27 : (Value × List Nat)) => pv x27.1) (args := [.tmp 22]) Try.call28 rfl (slices_Clone_byte_byte_ok h_t26) ⟨arg rfl, trivial⟩ (fun _ _ _ _ h => h)) rfl (fun x27 => ?_)
      refine b_of (frzL [23] (j := 1) rfl ⟨rfl, trivial⟩ hM) ?_
      refine s_st (s_bslice (xs := [.tmp 23]) (ds := [t26]) Try.underlying25 el_27 rfl (Nat.le_of_ble_eq_true rfl) ⟨(part_at rfl slv_at), trivial⟩) rfl (fun _ => ?_)
      refine pull fun out28 h_out28 => ?_
      refine s_st (s_append h_out28 Try.underlying25 el_27 rfl (j := 0) rfl rfl) rfl (fun o29 => ?_)
      refine s_rd (r_move rfl) rfl ?_
      refine s_rd (r_move rfl) rfl ?_
      refine s_rd (r_add rfl rfl) rfl ?_
      refine s_rd (r_assign rfl) rfl ?_
      refine s_rd (r_assign rfl) rfl ?_
      refine b_let (f := iv .i64) (t := 5) rfl fun at_30 => ?_
      refine l_nil ?_
      refine n_block ?_
      exact n_loop o29 (weak [0] ⟨rfl, rfl, rfl, trivial⟩ ⟨rfl, trivial⟩)

/-! deliberation/journal.Append -/
noncomputable def journal_Append_m (b_0 : (List Int)) (record_1 : (List Int)) : Option (List Int × Int) :=
  Option.bind (journal_Read_m b_0) fun t1 =>
  letM (t1.2 != (b_0.length : Int)) fun t3 =>
  bif t3 then
    some ([], 7)
  else
    bif decide ((record_1.length : Int) > 4096) then
      some ([], 2)
    else
      letM (decide ((iadd .i64 (iadd .i64 (iadd .i64 t1.2 4) (record_1.length : Int)) 4) > 1048576)) fun t5 =>
      bif t5 then
        some ([], 2)
      else
        Option.bind (journal_Frame_m (t1.1.length : Int) record_1) fun t7 =>
        bif t7.2 != 0 then
          some ([], t7.2)
        else
          Option.bind (slices_Concat_byte_byte_m [b_0, t7.1]) fun t10 =>
          some (t10, 0)

theorem journal_Append_ok {b_0 : (List Int)} {record_1 : (List Int)} {r : List Int × Int} (hm : journal_Append_m b_0 record_1 = some r) :
    FnOk prog 16 [slv (rI .u8) b_0, slv (rI .u8) record_1] [] (fun (x : (Value × List Nat)) => [pv x.1, iv .i64 r.2]) (fun (x : (Value × List Nat)) => [oa (rI .u8) x.1 x.2 r.1]) := by
  refine fn_ok (X := (Value × List Nat)) (fn := Try.f16) (N := 47) (m := journal_Append_m b_0 record_1) (res := fun r x => [pv x.1, iv .i64 r.2]) (Ω1 := fun r x => [oa (rI .u8) x.1 x.2 r.1]) Try.func16 rfl rfl hm rfl (fun E hM => ?_)
  unfold journal_Append_m
  refine ref_seq ?_
  refine ref_region ?_
  refine s_rd (r_assign rfl) rfl ?_
  refine s_rd (r_assign rfl) rfl ?_
  refine l_nil ?_
  refine n_then ?_
  refine ref_seq ?_
  refine ref_region ?_
  refine s_rd (r_move rfl) rfl ?_
  refine pull fun t1 h_t1 => ?_
  refine s_st (s_call (ψ := fun (x2 : (Value × List Nat)) => tup [pv x2.1, iv .i64 t1.2]) (args := [.tmp 11]) Try.call13 rfl (journal_Read_ok h_t1) ⟨arg rfl, trivial⟩ (fun _ _ _ _ h => h)) rfl (fun x2 => ?_)
  refine s_rd (r_move rfl) rfl ?_
  refine s_rd (r_extract rfl rfl) rfl ?_
  refine s_rd (r_extract rfl rfl) rfl ?_
  refine s_rd (r_assign rfl) rfl ?_
  refine s_rd (r_assign rfl) rfl ?_
  refine l_nil ?_
  refine n_then ?_
  refine ref_seq ?_
  refine ref_block ?_
  refine ref_seq ?_
  refine ref_region ?_
  refine s_rd (r_move rfl) rfl ?_
  refine s_rd (r_move rfl) rfl ?_
  refine s_rd (r_len Try.underlying27 rfl) rfl ?_
  refine s_rd (r_neq rfl rfl) rfl ?_
  refine s_rd (r_assign rfl) rfl ?_
  refine b_let (f := bv) (t := 15) rfl fun t3 => ?_
  refine l_nil ?_
  refine n_then ?_
  refine ref_cond rfl (fun hb4 => ?_) (fun hb4 => ?_)
  · refine ref_seq ?_
    refine ref_region ?_
    refine s_rd (r_assign rfl) rfl ?_
    refine s_rd (r_assign rfl) rfl ?_
    refine l_nil ?_
    refine n_then ?_
    refine ref_ret ?_
    refine r_block ?_
    refine r_then ?_
    refine b_of (own_nil (rI .u8)) ?_
    exact fin2 (.inl rfl) ((.slice none 0 0), []) [1] rfl ⟨rfl, trivial⟩ rfl (rv_tmp rfl) (rv_tmp rfl)
  · refine ref_seq ?_
    refine ref_region ?_
    refine s_rd (r_move rfl) rfl ?_
    refine s_rd (r_len Try.underlying27 rfl) rfl ?_
    refine s_rd (r_gtr rfl rfl) rfl ?_
    refine s_rd (r_move rfl) rfl ?_
    refine b_split (t := 24) rfl (fun _ => ?_) (fun _ => ?_)
    · refine s_off rfl rfl rfl rfl rfl ?_
      refine s_off rfl rfl rfl rfl rfl ?_
      refine s_off rfl rfl rfl rfl rfl ?_
      refine s_off rfl rfl rfl rfl rfl ?_
      refine s_off rfl rfl rfl rfl rfl ?_
      refine s_off rfl rfl rfl rfl rfl ?_
      refine s_off rfl rfl rfl rfl rfl ?_
      refine s_rd (r_pickT rfl rfl) rfl ?_
      refine s_rd (r_assign rfl) rfl ?_
      refine l_nil ?_
      refine n_then ?_
      refine ref_condT rfl rfl ?_
      refine ref_seq ?_
      refine ref_region ?_
      refine s_rd (r_assign rfl) rfl ?_
      refine s_rd (r_assign rfl) rfl ?_
      refine l_nil ?_
      refine n_then ?_
      refine ref_ret ?_
      refine r_block ?_
      refine r_then ?_
      refine b_of (own_nil (rI .u8)) ?_
      exact fin2 (.inl rfl) ((.slice none 0 0), []) [1] rfl ⟨rfl, trivial⟩ rfl (rv_tmp rfl) (rv_tmp rfl)
    · refine s_on rfl rfl rfl ?_
      refine s_rd (r_move rfl) rfl ?_
      refine s_on rfl rfl rfl ?_
      refine s_rd (r_add rfl rfl) rfl ?_
      refine s_on rfl rfl rfl ?_
      refine s_rd (r_move rfl) rfl ?_
      refine s_on rfl rfl rfl ?_
      refine s_rd (r_len Try.underlying27 rfl) rfl ?_
      refine s_on rfl rfl rfl ?_
      refine s_rd (r_add rfl rfl) rfl ?_
      refine s_on rfl rfl rfl ?_
      refine s_rd (r_add rfl rfl) rfl ?_
      refine s_on rfl rfl rfl ?_
      refine s_rd (r_gtr rfl rfl) rfl ?_
      refine s_rd (r_pickF rfl rfl) rfl ?_
      refine s_rd (r_assign rfl) rfl ?_
      refine b_let (f := bv) (t := 20) rfl fun t5 => ?_
      refine l_nil ?_
      refine n_then ?_
      refine ref_cond rfl (fun hb6 => ?_) (fun hb6 => ?_)
      · refine ref_seq ?_
        refine ref_region ?_
        refine s_rd (r_assign rfl) rfl ?_
        refine s_rd (r_assign rfl) rfl ?_
        refine l_nil ?_
        refine n_then ?_
        refine ref_ret ?_
        refine r_block ?_
        refine r_then ?_
        refine b_of (own_nil (rI .u8)) ?_
        exact fin2 (.inl rfl) ((.slice none 0 0), []) [1] rfl ⟨rfl, trivial⟩ rfl (rv_tmp rfl) (rv_tmp rfl)
      · refine ref_skip ?_
        refine n_block ?_
        refine n_then ?_
        refine ref_seq ?_
        refine ref_region ?_
        refine s_rd (r_move rfl) rfl ?_
        refine s_rd (r_olen Try.underlying25 rfl (j := 0) rfl) rfl ?_
        refine s_rd (r_move rfl) rfl ?_
        refine pull fun t7 h_t7 => ?_
        refine s_st (s_call (ψ := fun (x8 : (Value × List Nat)) => tup [pv x8.1, iv .i64 t7.2]) (args := [.tmp 35, .tmp 36]) Try.call18 rfl (journal_Frame_ok h_t7) ⟨arg rfl, arg rfl, trivial⟩ (fun _ _ _ _ h => h)) rfl (fun x8 => ?_)
        refine s_rd (r_move rfl) rfl ?_
        refine s_rd (r_extract rfl rfl) rfl ?_
        refine s_rd (r_extract rfl rfl) rfl ?_
        refine s_rd (r_assign rfl) rfl ?_
        refine s_rd (r_assign rfl) rfl ?_
        refine l_nil ?_
        refine n_then ?_
        refine ref_seq ?_
        refine ref_seq ?_
        refine ref_region ?_
        refine s_rd (r_move rfl) rfl ?_
        refine s_rd (r_neq rfl rfl) rfl ?_
        refine l_nil ?_
        refine n_then ?_
        refine ref_cond rfl (fun hb9 => ?_) (fun hb9 => ?_)
        · refine ref_seq ?_
          refine ref_region ?_
          refine s_rd (r_move rfl) rfl ?_
          refine s_rd (r_assign rfl) rfl ?_
          refine s_rd (r_assign rfl) rfl ?_
          refine l_nil ?_
          refine n_then ?_
          refine ref_ret ?_
          refine r_then ?_
          refine b_of (own_nil (rI .u8)) ?_
          exact fin2 (.inl rfl) ((.slice none 0 0), []) [2] rfl ⟨rfl, trivial⟩ rfl (rv_tmp rfl) (rv_tmp rfl)
        · refine ref_skip ?_
          refine n_then ?_
          refine ref_seq ?_
          refine ref_region ?_
          refine s_rd (r_move rfl) rfl ?_
          refine s_rd (r_move rfl) rfl ?_
          refine b_of (frzL [38, 8, 44] (j := 1) rfl ⟨rfl, rfl, rfl, trivial⟩ hM) ?_
          refine s_st (s_bslice (xs := [.tmp 43, .tmp 44]) (ds := [b_0, t7.1]) Try.underlying25 el_27 rfl (Nat.le_of_ble_eq_true rfl) ⟨(part_at rfl slv_at), ⟨(part_at rfl slv_at), trivial⟩⟩) rfl (fun _ => ?_)
          refine pull fun t10 h_t10 => ?_
          refine s_st (s_call (ψ := fun (x11 : (Value × List Nat)) => pv x11.1) (args := [.tmp 45]) Try.call30 rfl (slices_Concat_byte_byte_ok h_t10) ⟨arg rfl, trivial⟩ (fun _ _ _ _ h => h)) rfl (fun x11 => ?_)
          refine s_rd (r_assign rfl) rfl ?_
          refine s_rd (r_assign rfl) rfl ?_
          refine l_nil ?_
          refine n_then ?_
          refine ref_ret ?_
          exact fin2 (.inl rfl) x11 [2] rfl ⟨rfl, trivial⟩ rfl (rv_tmp rfl) (rv_tmp rfl)

/-! deliberation/journal.Repair -/
noncomputable def journal_Repair_m (b_0 : (List Int)) : Option (List Int) :=
  Option.bind (journal_Read_m b_0) fun t1 =>
  Option.bind (slM b_0 0 t1.2) fun t3 =>
  Option.bind (slices_Clone_byte_byte_m t3) fun t4 =>
  some t4

theorem journal_Repair_ok {b_0 : (List Int)} {r : List Int} (hm : journal_Repair_m b_0 = some r) :
    FnOk prog 23 [slv (rI .u8) b_0] [] (fun (x : (Value × List Nat)) => [pv x.1]) (fun (x : (Value × List Nat)) => [oa (rI .u8) x.1 x.2 r]) := by
  refine fn_ok (X := (Value × List Nat)) (fn := Try.f23) (N := 14) (m := journal_Repair_m b_0) (res := fun r x => [pv x.1]) (Ω1 := fun r x => [oa (rI .u8) x.1 x.2 r]) Try.func23 rfl rfl hm rfl (fun E hM => ?_)
  unfold journal_Repair_m
  refine ref_seq ?_
  refine ref_region ?_
  refine s_rd (r_assign rfl) rfl ?_
  refine l_nil ?_
  refine n_then ?_
  refine ref_seq ?_
  refine ref_region ?_
  refine s_rd (r_move rfl) rfl ?_
  refine pull fun t1 h_t1 => ?_
  refine s_st (s_call (ψ := fun (x2 : (Value × List Nat)) => tup [pv x2.1, iv .i64 t1.2]) (args := [.tmp 6]) Try.call13 rfl (journal_Read_ok h_t1) ⟨arg rfl, trivial⟩ (fun _ _ _ _ h => h)) rfl (fun x2 => ?_)
  refine s_rd (r_move rfl) rfl ?_
  refine s_rd (r_extract rfl rfl) rfl ?_
  refine s_rd (r_extract rfl rfl) rfl ?_
  refine s_rd (r_assign rfl) rfl ?_
  refine s_rd (r_assign rfl) rfl ?_
  refine l_nil ?_
  refine n_then ?_
  refine ref_seq ?_
  refine ref_region ?_
  refine s_rd (r_move rfl) rfl ?_
  refine s_rd (r_move rfl) rfl ?_
  refine pull fun t3 h_t3 => ?_
  refine s_rd (r_slice h_t3 Try.underlying27 el_5 rfl .dft (.of rfl)) rfl ?_
  refine pull fun t4 h_t4 => ?_
  refine s_st (s_call (ψ := fun (x5 : (Value × List Nat)) => pv x5.1) (args := [.tmp 12]) Try.call28 rfl (slices_Clone_byte_byte_ok h_t4) ⟨arg rfl, trivial⟩ (fun _ _ _ _ h => h)) rfl (fun x5 => ?_)
  refine s_rd (r_assign rfl) rfl ?_
  refine l_nil ?_
  refine n_then ?_
  refine ref_ret ?_
  exact fin1 (.inl rfl) x5 [1] rfl ⟨rfl, trivial⟩ rfl (rv_tmp rfl)

/-! deliberation/deliberationref39.Read -/
noncomputable def ref39_Read_l1 (b_0 : (List Int)) (s47 : Int × (List (List Int))) : Option (Sum ((List (List Int)) × Int) (Int × (List (List Int)))) :=
  bif decide ((iadd .i64 s47.1 8) ≤ (b_0.length : Int)) then
    Option.bind (slM b_0 s47.1 (iadd .i64 s47.1 2)) fun t50 =>
    Option.bind (ref39_value_m t50) fun n51 =>
    Option.bind (slM b_0 (iadd .i64 s47.1 2) (iadd .i64 s47.1 4)) fun t52 =>
    Option.bind (ref39_value_m t52) fun t53 =>
    bif t53 != (isub .i64 65535 n51) then
      some (Sum.inl (s47.2, s47.1))
    else
      bif decide (n51 > 4096) then
        some (Sum.inl (s47.2, s47.1))
      else
        bif decide ((iadd .i64 (iadd .i64 s47.1 8) n51) > (b_0.length : Int)) then
          some (Sum.inl (s47.2, s47.1))
        else
          Option.bind (slM b_0 (iadd .i64 s47.1 4) (iadd .i64 (iadd .i64 s47.1 4) n51)) fun record55 =>
          Option.bind (slM b_0 (iadd .i64 (iadd .i64 s47.1 4) n51) (iadd .i64 (iadd .i64 s47.1 8) n51)) fun t56 =>
          Option.bind (ref39_value_m t56) fun t57 =>
          Option.bind (ref39_number_m (s47.2.length : Int) 4) fun t58 =>
          Option.bind (appM 1 t58 record55) fun t60 =>
          Option.bind (ref39_Sum_m t60) fun t62 =>
          bif t57 != t62 then
            some (Sum.inl (s47.2, s47.1))
          else
            Option.bind (appM 1 [] record55) fun t65 =>
            Option.bind (appM 24 s47.2 [t65]) fun out67 =>
            letM (iadd .i64 s47.1 (iadd .i64 8 n51)) fun at_69 =>
            some (Sum.inr (at_69, out67))
  else
    some (Sum.inl (s47.2, s47.1))

noncomputable def ref39_Read_m (b_0 : (List Int)) : Option (List (List Int) × Int) :=
  Option.bind (loopC (ref39_Read_l1 b_0) (0, [])) fun q70 : (List (List Int)) × Int =>
  some (q70.1, q70.2)

theorem ref39_Read_ok {b_0 : (List Int)} {r : List (List Int) × Int} (hm : ref39_Read_m b_0 = some r) :
    FnOk prog 22 [slv (rI .u8) b_0] [] (fun (x : (Value × List Nat)) => [pv x.1, iv .i64 r.2]) (fun (x : (Value × List Nat)) => [oa (rSl (rI .u8)) x.1 x.2 r.1]) := by
  refine fn_ok (X := (Value × List Nat)) (fn := Try.f22) (N := 80) (m := ref39_Read_m b_0) (res := fun r x => [pv x.1, iv .i64 r.2]) (Ω1 := fun r x => [oa (rSl (rI .u8)) x.1 x.2 r.1]) Try.func22 rfl rfl hm rfl (fun E hM => ?_)
  unfold ref39_Read_m
  refine ref_seq ?_
  refine ref_region ?_
  refine s_rd (r_assign rfl) rfl ?_
  refine s_rd (r_assign rfl) rfl ?_
  refine l_nil ?_
  refine n_then ?_
  refine ref_seq ?_
  refine ref_region ?_
  refine s_rd (r_assign rfl) rfl ?_
  refine l_nil ?_
  refine n_then ?_
  refine ref_seq ?_
  refine ref_region ?_
  refine s_rd (r_assign rfl) rfl ?_
  refine l_nil ?_
  refine n_then ?_
  refine ref_seq ?_
  refine b_of (own_nil (rSl (rI .u8))) ?_
  refine ref_loopB (f := (ref39_Read_l1 b_0)) (Γl := (fun (s47 : Int × (List (List Int))) (x48 : (Value × List Nat)) => [(0, slv (rI .u8) b_0), (4, pv x48.1), (5, iv .i64 s47.1)])) (Ωl := (fun (s47 : Int × (List (List Int))) (x48 : (Value × List Nat)) => [oa (rSl (rI .u8)) x48.1 x48.2 s47.2])) (Γb := (fun (q70 : (List (List Int)) × Int) (y71 : (Value × List Nat)) => [(4, pv y71.1), (5, iv .i64 q70.2)])) (Ωb := (fun (q70 : (List (List Int)) × Int) (y71 : (Value × List Nat)) => [oa (rSl (rI .u8)) y71.1 y71.2 q70.1])) (0, []) ((.slice none 0 0), []) (weak [0] ⟨rfl, rfl, rfl, trivial⟩ ⟨rfl, trivial⟩) (fun s47 x48 => ?_) (fun q70 y71 => ?_)
  · unfold ref39_Read_l1
    refine ref_seq ?_
    refine ref_seq ?_
    refine ref_region ?_
    refine s_rd (r_move rfl) rfl ?_
    refine s_rd (r_add rfl rfl) rfl ?_
    refine s_rd (r_move rfl) rfl ?_
    refine s_rd (r_len Try.underlying27 rfl) rfl ?_
    refine s_rd (r_leq rfl rfl) rfl ?_
    refine l_nil ?_
    refine n_then ?_
    refine ref_cond rfl (fun hb49 => ?_) (fun hb49 => ?_)
    · refine ref_skip ?_
      refine n_then ?_
      refine ref_block ?_
      refine ref_seq ?_
      refine ref_region ?_
      refine s_rd (r_move rfl) rfl ?_
      refine s_rd (r_move rfl) rfl ?_
      refine s_rd (r_move rfl) rfl ?_
      refine s_rd (r_add rfl rfl) rfl ?_
      refine pull fun t50 h_t50 => ?_
      refine s_rd (r_slice h_t50 Try.underlying27 el_5 rfl (.of rfl) (.of rfl)) rfl ?_
      refine pull fun n51 h_n51 => ?_
      refine s_st (s_call (ψ := fun (_ : Unit) => iv .i64 n51) (args := [.tmp 17]) Try.call34 rfl (ref39_value_ok h_n51) ⟨arg rfl, trivial⟩ (fun _ _ _ _ h => h)) rfl (fun _ => ?_)
      refine s_rd (r_assign rfl) rfl ?_
      refine l_nil ?_
      refine n_then ?_
      refine ref_seq ?_
      refine ref_seq ?_
      refine ref_region ?_
      refine s_rd (r_move rfl) rfl ?_
      refine s_rd (r_move rfl) rfl ?_
      refine s_rd (r_add rfl rfl) rfl ?_
      refine s_rd (r_move rfl) rfl ?_
      refine s_rd (r_add rfl rfl) rfl ?_
      refine pull fun t52 h_t52 => ?_
      refine s_rd (r_slice h_t52 Try.underlying27 el_5 rfl (.of rfl) (.of rfl)) rfl ?_
      refine pull fun t53 h_t53 => ?_
      refine s_st (s_call (ψ := fun (_ : Unit) => iv .i64 t53) (args := [.tmp 24]) Try.call34 rfl (ref39_value_ok h_t53) ⟨arg rfl, trivial⟩ (fun _ _ _ _ h => h)) rfl (fun _ => ?_)
      refine s_rd (r_move rfl) rfl ?_
      refine s_rd (r_sub rfl rfl) rfl ?_
      refine s_rd (r_neq rfl rfl) rfl ?_
      refine s_rd (r_move rfl) rfl ?_
      refine b_split (t := 29) rfl (fun _ => ?_) (fun _ => ?_)
      · refine s_off rfl rfl rfl rfl rfl ?_
        refine s_off rfl rfl rfl rfl rfl ?_
        refine s_rd (r_pickT rfl rfl) rfl ?_
        refine s_rd (r_move rfl) rfl ?_
        refine s_off rfl rfl rfl rfl rfl ?_
        refine s_off rfl rfl rfl rfl rfl ?_
        refine s_off rfl rfl rfl rfl rfl ?_
        refine s_off rfl rfl rfl rfl rfl ?_
        refine s_off rfl rfl rfl rfl rfl ?_
        refine s_off rfl rfl rfl rfl rfl ?_
        refine s_off rfl rfl rfl rfl rfl ?_
        refine s_rd (r_pickT rfl rfl) rfl ?_
        refine l_nil ?_
        refine n_then ?_
        refine ref_condT rfl rfl ?_
        refine ref_exit ?_
        refine x_then ?_
        refine x_ne rfl ?_
        exact brkB x48 (weak [0] ⟨rfl, rfl, trivial⟩ ⟨rfl, trivial⟩)
      · refine s_on rfl rfl rfl ?_
        refine s_rd (r_move rfl) rfl ?_
        refine s_on rfl rfl rfl ?_
        refine s_rd (r_gtr rfl rfl) rfl ?_
        refine s_rd (r_pickF rfl rfl) rfl ?_
        refine s_rd (r_move rfl) rfl ?_
        refine b_split (t := 33) rfl (fun _ => ?_) (fun _ => ?_)
        · refine s_off rfl rfl rfl rfl rfl ?_
          refine s_off rfl rfl rfl rfl rfl ?_
          refine s_off rfl rfl rfl rfl rfl ?_
          refine s_off rfl rfl rfl rfl rfl ?_
          refine s_off rfl rfl rfl rfl rfl ?_
          refine s_off rfl rfl rfl rfl rfl ?_
          refine s_off rfl rfl rfl rfl rfl ?_
          refine s_rd (r_pickT rfl rfl) rfl ?_
          refine l_nil ?_
          refine n_then ?_
          refine ref_condT rfl rfl ?_
          refine ref_exit ?_
          refine x_then ?_
          refine x_ne rfl ?_
          exact brkB x48 (weak [0] ⟨rfl, rfl, trivial⟩ ⟨rfl, trivial⟩)
        · refine s_on rfl rfl rfl ?_
          refine s_rd (r_move rfl) rfl ?_
          refine s_on rfl rfl rfl ?_
          refine s_rd (r_add rfl rfl) rfl ?_
          refine s_on rfl rfl rfl ?_
          refine s_rd (r_move rfl) rfl ?_
          refine s_on rfl rfl rfl ?_
          refine s_rd (r_add rfl rfl) rfl ?_
          refine s_on rfl rfl rfl ?_
          refine s_rd (r_move rfl) rfl ?_
          refine s_on rfl rfl rfl ?_
          refine s_rd (r_len Try.underlying27 rfl) rfl ?_
          refine s_on rfl rfl rfl ?_
          refine s_rd (r_gtr rfl rfl) rfl ?_
          refine s_rd (r_pickF rfl rfl) rfl ?_
          refine l_nil ?_
          refine n_then ?_
          refine ref_cond rfl (fun hb54 => ?_) (fun hb54 => ?_)
          · refine ref_exit ?_
            refine x_then ?_
            refine x_ne rfl ?_
            exact brkB x48 (weak [0] ⟨rfl, rfl, trivial⟩ ⟨rfl, trivial⟩)
          · refine ref_skip ?_
            refine n_then ?_
            refine ref_seq ?_
            refine ref_region ?_
            refine s_rd (r_move rfl) rfl ?_
            refine s_rd (r_move rfl) rfl ?_
            refine s_rd (r_add rfl rfl) rfl ?_
            refine s_rd (r_move rfl) rfl ?_
            refine s_rd (r_add rfl rfl) rfl ?_
            refine s_rd (r_move rfl) rfl ?_
            refine s_rd (r_add rfl rfl) rfl ?_
            refine pull fun record55 h_record55 => ?_
            refine s_rd (r_slice h_record55 Try.underlying27 el_5 rfl (.of rfl) (.of rfl)) rfl ?_
            refine s_rd (r_assign rfl) rfl ?_
            refine l_nil ?_
            refine n_then ?_
            refine ref_seq ?_
            refine ref_seq ?_
            refine ref_region ?_
            refine s_rd (r_move rfl) rfl ?_
            refine s_rd (r_move rfl) rfl ?_
            refine s_rd (r_add rfl rfl) rfl ?_
            refine s_rd (r_move rfl) rfl ?_
            refine s_rd (r_add rfl rfl) rfl ?_
            refine s_rd (r_move rfl) rfl ?_
            refine s_rd (r_add rfl rfl) rfl ?_
            refine s_rd (r_move rfl) rfl ?_
            refine s_rd (r_add rfl rfl) rfl ?_
            refine pull fun t56 h_t56 => ?_
            refine s_rd (r_slice h_t56 Try.underlying27 el_5 rfl (.of rfl) (.of rfl)) rfl ?_
            refine pull fun t57 h_t57 => ?_
            refine s_st (s_call (ψ := fun (_ : Unit) => iv .i64 t57) (args := [.tmp 59]) Try.call34 rfl (ref39_value_ok h_t57) ⟨arg rfl, trivial⟩ (fun _ _ _ _ h => h)) rfl (fun _ => ?_)
            refine s_rd (r_move rfl) rfl ?_
            refine s_rd (r_olen Try.underlying25 rfl (j := 0) rfl) rfl ?_
            refine pull fun t58 h_t58 => ?_
            refine s_st (s_call (ψ := fun (x59 : (Value × List Nat)) => pv x59.1) (args := [.tmp 62, .const (.int .i64 (4))]) Try.call29 rfl (ref39_number_ok h_t58) ⟨arg rfl, arg rfl, trivial⟩ (fun _ _ _ _ h => h)) rfl (fun x59 => ?_)
            refine s_rd (r_move rfl) rfl ?_
            refine pull fun t60 h_t60 => ?_
            refine s_st (s_append h_t60 Try.underlying27 el_5 rfl (j := 1) rfl rfl) rfl (fun o61 => ?_)
            refine pull fun t62 h_t62 => ?_
            refine s_st (s_callB (ψ := fun (_ : Unit) => iv .i64 t62) (args := [.tmp 65]) Try.call21 rfl (ref39_Sum_ok h_t62) ⟨argO rfl (j := 1) rfl, trivial⟩ (fun _ _ _ _ _ h => h)) rfl (fun _ => ?_)
            refine s_rd (r_neq rfl rfl) rfl ?_
            refine l_nil ?_
            refine n_then ?_
            refine ref_cond rfl (fun hb63 => ?_) (fun hb63 => ?_)
            · refine ref_exit ?_
              refine x_then ?_
              refine x_ne rfl ?_
              exact brkB x48 (weak [0] ⟨rfl, rfl, trivial⟩ ⟨rfl, trivial⟩)
            · refine ref_skip ?_
              refine n_then ?_
              refine ref_seq ?_
              refine ref_region ?_
              refine s_rd (r_move rfl) rfl ?_
              refine s_st (s_bsliceO (xs := []) (ds := []) Try.underlying27 el_5 rfl (Nat.le_of_ble_eq_true rfl) trivial) rfl (fun o64 => ?_)
              refine s_rd (r_move rfl) rfl ?_
              refine pull fun t65 h_t65 => ?_
              refine s_st (s_append h_t65 Try.underlying27 el_5 rfl (j := 2) rfl rfl) rfl (fun o66 => ?_)
              refine b_of (frzL [71] (j := 2) rfl ⟨rfl, trivial⟩ hM) ?_
              refine s_st (s_bslice (xs := [.tmp 71]) (ds := [t65]) Try.underlying25 el_27 rfl (Nat.le_of_ble_eq_true rfl) ⟨(part_at rfl slv_at), trivial⟩) rfl (fun _ => ?_)
              refine pull fun out67 h_out67 => ?_
              refine s_st (s_append h_out67 Try.underlying25 el_27 rfl (j := 0) rfl rfl) rfl (fun o68 => ?_)
              refine s_rd (r_assign rfl) rfl ?_
              refine l_nil ?_
              refine n_then ?_
              refine ref_region ?_
              refine s_rd (r_move rfl) rfl ?_
              refine s_rd (r_move rfl) rfl ?_
              refine s_rd (r_add rfl rfl) rfl ?_
              refine s_rd (r_add rfl rfl) rfl ?_
              refine s_rd (r_assign rfl) rfl ?_
              refine b_let (f := iv .i64) (t := 5) rfl fun at_69 => ?_
              refine l_nil ?_
              refine n_block ?_
              exact goB o68 (weak [0] ⟨rfl, rfl, rfl, trivial⟩ ⟨rfl, trivial⟩)
    · refine ref_exit ?_
      refine x_then ?_
      exact brkB x48 (weak [0] ⟨rfl, rfl, trivial⟩ ⟨rfl, trivial⟩)
  · refine n_then ?_
    refine ref_seq ?_
    refine ref_region ?_
    refine s_rd (r_move rfl) rfl ?_
    refine s_rd (r_move rfl) rfl ?_
    refine s_rd (r_assign rfl) rfl ?_
    refine s_rd (r_assign rfl) rfl ?_
    refine l_nil ?_
    refine n_then ?_
    refine ref_ret ?_
    exact fin2 (.inl rfl) y71 [0] rfl ⟨rfl, trivial⟩ rfl (rv_tmp rfl) (rv_tmp rfl)

/-! deliberation/deliberationref39.Append -/
noncomputable def ref39_Append_m (b_0 : (List Int)) (record_1 : (List Int)) : Option (List Int × Int) :=
  Option.bind (ref39_Read_m b_0) fun t1 =>
  bif t1.2 != (b_0.length : Int) then
    some ([], 7)
  else
    bif decide ((record_1.length : Int) > 4096) then
      some ([], 2)
    else
      bif decide ((iadd .i64 (iadd .i64 (b_0.length : Int) 8) (record_1.length : Int)) > 1048576) then
        some ([], 2)
      else
        Option.bind (ref39_Frame_m (t1.1.length : Int) record_1) fun t5 =>
        Option.bind (appM 1 [] b_0) fun t8 =>
        Option.bind (appM 1 t8 t5.1) fun t10 =>
        some (t10, 0)

theorem ref39_Append_ok {b_0 : (List Int)} {record_1 : (List Int)} {r : List Int × Int} (hm : ref39_Append_m b_0 record_1 = some r) :
    FnOk prog 25 [slv (rI .u8) b_0, slv (rI .u8) record_1] [] (fun (x : (Value × List Nat)) => [pv x.1, iv .i64 r.2]) (fun (x : (Value × List Nat)) => [oa (rI .u8) x.1 x.2 r.1]) := by
  refine fn_ok (X := (Value × List Nat)) (fn := Try.f25) (N := 43) (m := ref39_Append_m b_0 record_1) (res := fun r x => [pv x.1, iv .i64 r.2]) (Ω1 := fun r x => [oa (rI .u8) x.1 x.2 r.1]) Try.func25 rfl rfl hm rfl (fun E hM => ?_)
  unfold ref39_Append_m
  refine ref_seq ?_
  refine ref_region ?_
  refine s_rd (r_assign rfl) rfl ?_
  refine s_rd (r_assign rfl) rfl ?_
  refine l_nil ?_
  refine n_then ?_
  refine ref_seq ?_
  refine ref_region ?_
  refine s_rd (r_move rfl) rfl ?_
  refine pull fun t1 h_t1 => ?_
  refine s_st (s_call (ψ := fun (x2 : (Value × List Nat)) => tup [pv x2.1, iv .i64 t1.2]) (args := [.tmp 11]) Try.call22 rfl (ref39_Read_ok h_t1) ⟨arg rfl, trivial⟩ (fun _ _ _ _ h => h)) rfl (fun x2 => ?_)
  refine s_rd (r_move rfl) rfl ?_
  refine s_rd (r_extract rfl rfl) rfl ?_
  refine s_rd (r_extract rfl rfl) rfl ?_
  refine s_rd (r_assign rfl) rfl ?_
  refine s_rd (r_assign rfl) rfl ?_
  refine l_nil ?_
  refine n_then ?_
  refine ref_seq ?_
  refine ref_seq ?_
  refine ref_region ?_
  refine s_rd (r_move rfl) rfl ?_
  refine s_rd (r_move rfl) rfl ?_
  refine s_rd (r_len Try.underlying27 rfl) rfl ?_
  refine s_rd (r_neq rfl rfl) rfl ?_
  refine l_nil ?_
  refine n_then ?_
  refine ref_cond rfl (fun hb3 => ?_) (fun hb3 => ?_)
  · refine ref_seq ?_
    refine ref_region ?_
    refine s_rd (r_assign rfl) rfl ?_
    refine s_rd (r_assign rfl) rfl ?_
    refine l_nil ?_
    refine n_then ?_
    refine ref_ret ?_
    refine r_then ?_
    refine b_of (own_nil (rI .u8)) ?_
    exact fin2 (.inl rfl) ((.slice none 0 0), []) [1] rfl ⟨rfl, trivial⟩ rfl (rv_tmp rfl) (rv_tmp rfl)
  · refine ref_skip ?_
    refine n_then ?_
    refine ref_seq ?_
    refine ref_seq ?_
    refine ref_region ?_
    refine s_rd (r_move rfl) rfl ?_
    refine s_rd (r_len Try.underlying27 rfl) rfl ?_
    refine s_rd (r_gtr rfl rfl) rfl ?_
    refine s_rd (r_move rfl) rfl ?_
    refine b_split (t := 22) rfl (fun _ => ?_) (fun _ => ?_)
    · refine s_off rfl rfl rfl rfl rfl ?_
      refine s_off rfl rfl rfl rfl rfl ?_
      refine s_off rfl rfl rfl rfl rfl ?_
      refine s_off rfl rfl rfl rfl rfl ?_
      refine s_off rfl rfl rfl rfl rfl ?_
      refine s_off rfl rfl rfl rfl rfl ?_
      refine s_off rfl rfl rfl rfl rfl ?_
      refine s_rd (r_pickT rfl rfl) rfl ?_
      refine l_nil ?_
      refine n_then ?_
      refine ref_condT rfl rfl ?_
      refine ref_seq ?_
      refine ref_region ?_
      refine s_rd (r_assign rfl) rfl ?_
      refine s_rd (r_assign rfl) rfl ?_
      refine l_nil ?_
      refine n_then ?_
      refine ref_ret ?_
      refine r_then ?_
      refine b_of (own_nil (rI .u8)) ?_
      exact fin2 (.inl rfl) ((.slice none 0 0), []) [1] rfl ⟨rfl, trivial⟩ rfl (rv_tmp rfl) (rv_tmp rfl)
    · refine s_on rfl rfl rfl ?_
      refine s_rd (r_move rfl) rfl ?_
      refine s_on rfl rfl rfl ?_
      refine s_rd (r_len Try.underlying27 rfl) rfl ?_
      refine s_on rfl rfl rfl ?_
      refine s_rd (r_add rfl rfl) rfl ?_
      refine s_on rfl rfl rfl ?_
      refine s_rd (r_move rfl) rfl ?_
      refine s_on rfl rfl rfl ?_
      refine s_rd (r_len Try.underlying27 rfl) rfl ?_
      refine s_on rfl rfl rfl ?_
      refine s_rd (r_add rfl rfl) rfl ?_
      refine s_on rfl rfl rfl ?_
      refine s_rd (r_gtr rfl rfl) rfl ?_
      refine s_rd (r_pickF rfl rfl) rfl ?_
      refine l_nil ?_
      refine n_then ?_
      refine ref_cond rfl (fun hb4 => ?_) (fun hb4 => ?_)
      · refine ref_seq ?_
        refine ref_region ?_
        refine s_rd (r_assign rfl) rfl ?_
        refine s_rd (r_assign rfl) rfl ?_
        refine l_nil ?_
        refine n_then ?_
        refine ref_ret ?_
        refine r_then ?_
        refine b_of (own_nil (rI .u8)) ?_
        exact fin2 (.inl rfl) ((.slice none 0 0), []) [1] rfl ⟨rfl, trivial⟩ rfl (rv_tmp rfl) (rv_tmp rfl)
      · refine ref_skip ?_
        refine n_then ?_
        refine ref_seq ?_
        refine ref_region ?_
        refine s_rd (r_move rfl) rfl ?_
        refine s_rd (r_olen Try.underlying25 rfl (j := 0) rfl) rfl ?_
        refine s_rd (r_move rfl) rfl ?_
        refine pull fun t5 h_t5 => ?_
        refine s_st (s_call (ψ := fun (x6 : (Value × List Nat)) => tup [pv x6.1, iv .i64 t5.2]) (args := [.tmp 33, .tmp 34]) Try.call15 rfl (ref39_Frame_ok h_t5) ⟨arg rfl, arg rfl, trivial⟩ (fun _ _ _ _ h => h)) rfl (fun x6 => ?_)
        refine s_rd (r_move rfl) rfl ?_
        refine s_rd (r_extract rfl rfl) rfl ?_
        refine s_rd (r_extract rfl rfl) rfl ?_
        refine s_rd (r_assign rfl) rfl ?_
        refine s_rd (r_assign rfl) rfl ?_
        refine l_nil ?_
        refine n_then ?_
        refine ref_seq ?_
        refine ref_region ?_
        refine s_st (s_bsliceO (xs := []) (ds := []) Try.underlying27 el_5 rfl (Nat.le_of_ble_eq_true rfl) trivial) rfl (fun o7 => ?_)
        refine s_rd (r_move rfl) rfl ?_
        refine pull fun t8 h_t8 => ?_
        refine s_st (s_append h_t8 Try.underlying27 el_5 rfl (j := 2) rfl rfl) rfl (fun o9 => ?_)
        refine s_rd (r_move rfl) rfl ?_
        refine b_of (frzL [36, 8, 41] (j := 1) rfl ⟨rfl, rfl, rfl, trivial⟩ hM) ?_
        refine pull fun t10 h_t10 => ?_
        refine s_st (s_append h_t10 Try.underlying27 el_5 rfl (j := 2) rfl rfl) rfl (fun o11 => ?_)
        refine s_rd (r_assign rfl) rfl ?_
        refine s_rd (r_assign rfl) rfl ?_
        refine l_nil ?_
        refine n_then ?_
        refine ref_ret ?_
        exact fin2 (.inl rfl) o11 [2] rfl ⟨rfl, trivial⟩ rfl (rv_tmp rfl) (rv_tmp rfl)

/-! deliberation/deliberationref39.Repair -/
noncomputable def ref39_Repair_m (b_0 : (List Int)) : Option (List Int) :=
  Option.bind (ref39_Read_m b_0) fun t1 =>
  Option.bind (slM b_0 0 t1.2) fun t4 =>
  Option.bind (appM 1 [] t4) fun t5 =>
  some t5

theorem ref39_Repair_ok {b_0 : (List Int)} {r : List Int} (hm : ref39_Repair_m b_0 = some r) :
    FnOk prog 24 [slv (rI .u8) b_0] [] (fun (x : (Value × List Nat)) => [pv x.1]) (fun (x : (Value × List Nat)) => [oa (rI .u8) x.1 x.2 r]) := by
  refine fn_ok (X := (Value × List Nat)) (fn := Try.f24) (N := 15) (m := ref39_Repair_m b_0) (res := fun r x => [pv x.1]) (Ω1 := fun r x => [oa (rI .u8) x.1 x.2 r]) Try.func24 rfl rfl hm rfl (fun E hM => ?_)
  unfold ref39_Repair_m
  refine ref_seq ?_
  refine ref_region ?_
  refine s_rd (r_assign rfl) rfl ?_
  refine l_nil ?_
  refine n_then ?_
  refine ref_seq ?_
  refine ref_region ?_
  refine s_rd (r_move rfl) rfl ?_
  refine pull fun t1 h_t1 => ?_
  refine s_st (s_call (ψ := fun (x2 : (Value × List Nat)) => tup [pv x2.1, iv .i64 t1.2]) (args := [.tmp 6]) Try.call22 rfl (ref39_Read_ok h_t1) ⟨arg rfl, trivial⟩ (fun _ _ _ _ h => h)) rfl (fun x2 => ?_)
  refine s_rd (r_move rfl) rfl ?_
  refine s_rd (r_extract rfl rfl) rfl ?_
  refine s_rd (r_extract rfl rfl) rfl ?_
  refine s_rd (r_assign rfl) rfl ?_
  refine s_rd (r_assign rfl) rfl ?_
  refine l_nil ?_
  refine n_then ?_
  refine ref_seq ?_
  refine ref_region ?_
  refine s_st (s_bsliceO (xs := []) (ds := []) Try.underlying27 el_5 rfl (Nat.le_of_ble_eq_true rfl) trivial) rfl (fun o3 => ?_)
  refine s_rd (r_move rfl) rfl ?_
  refine s_rd (r_move rfl) rfl ?_
  refine pull fun t4 h_t4 => ?_
  refine s_rd (r_slice h_t4 Try.underlying27 el_5 rfl .dft (.of rfl)) rfl ?_
  refine pull fun t5 h_t5 => ?_
  refine s_st (s_append h_t5 Try.underlying27 el_5 rfl (j := 1) rfl rfl) rfl (fun o6 => ?_)
  refine s_rd (r_assign rfl) rfl ?_
  refine l_nil ?_
  refine n_then ?_
  refine ref_ret ?_
  exact fin1 (.inl rfl) o6 [1] rfl ⟨rfl, trivial⟩ rfl (rv_tmp rfl)

/-! deliberation/deliberationlaw39.written -/
noncomputable def law39_written_l1 (l_0 : (List (List Int))) (s13 : Int × (List Int)) : Option (Sum ((List Int)) (Int × (List Int))) :=
  bif decide (s13.1 < (l_0.length : Int)) then
    Option.bind (idxM l_0 s13.1) fun t16 =>
    Option.bind (ref39_Append_m s13.2 t16) fun t17 =>
    letM (iadd .i64 s13.1 1) fun i19 =>
    some (Sum.inr (i19, t17.1))
  else
    some (Sum.inl s13.2)

noncomputable def law39_written_m (l_0 : (List (List Int))) : Option (List Int) :=
  Option.bind (loopC (law39_written_l1 l_0) (0, [])) fun q20 : (List Int) =>
  some q20

theorem law39_written_ok {l_0 : (List (List Int))} {r : List Int} (hm : law39_written_m l_0 = some r) :
    FnOk prog 10 [slv (rSl (rI .u8)) l_0] [] (fun (x : (Value × List Nat)) => [pv x.1]) (fun (x : (Value × List Nat)) => [oa (rI .u8) x.1 x.2 r]) := by
  refine fn_ok (X := (Value × List Nat)) (fn := Try.f10) (N := 21) (m := law39_written_m l_0) (res := fun r x => [pv x.1]) (Ω1 := fun r x => [oa (rI .u8) x.1 x.2 r]) Try.func10 rfl rfl hm rfl (fun E hM => ?_)
  unfold law39_written_m
  refine ref_seq ?_
  refine ref_region ?_
  refine s_rd (r_assign rfl) rfl ?_
  refine l_nil ?_
  refine n_then ?_
  refine ref_seq ?_
  refine ref_region ?_
  refine s_rd (r_assign rfl) rfl ?_
  refine l_nil ?_
  refine n_then ?_
  refine ref_seq ?_
  refine ref_seq ?_
  refine ref_region ?_
  refine s_rd (r_assign rfl) rfl ?_
  refine l_nil ?_
  refine n_then ?_
  refine b_of (own_nil (rI .u8)) ?_
  refine ref_loopB (f := (law39_written_l1 l_0)) (Γl := (fun (s13 : Int × (List Int)) (x14 : (Value × List Nat)) => [(0, slv (rSl (rI .u8)) l_0), (3, pv x14.1), (4, iv .i64 s13.1)])) (Ωl := (fun (s13 : Int × (List Int)) (x14 : (Value × List Nat)) => [oa (rI .u8) x14.1 x14.2 s13.2])) (Γb := (fun (q20 : (List Int)) (y21 : (Value × List Nat)) => [(3, pv y21.1)])) (Ωb := (fun (q20 : (List Int)) (y21 : (Value × List Nat)) => [oa (rI .u8) y21.1 y21.2 q20])) (0, []) ((.slice none 0 0), []) (weak [0] ⟨rfl, rfl, rfl, trivial⟩ ⟨rfl, trivial⟩) (fun s13 x14 => ?_) (fun q20 y21 => ?_)
  · unfold law39_written_l1
    refine ref_seq ?_
    refine ref_seq ?_
    refine ref_region ?_
    refine s_rd (r_move rfl) rfl ?_
    refine s_rd (r_move rfl) rfl ?_
    refine s_rd (r_len Try.underlying25 rfl) rfl ?_
    refine s_rd (r_lss rfl rfl) rfl ?_
    refine l_nil ?_
    refine n_then ?_
    refine ref_cond rfl (fun hb15 => ?_) (fun hb15 => ?_)
    · refine ref_skip ?_
      refine n_then ?_
      refine ref_seq ?_
      refine ref_block ?_
      refine ref_region ?_
      refine s_rd (r_move rfl) rfl ?_
      refine s_rd (r_move rfl) rfl ?_
      refine s_rd (r_move rfl) rfl ?_
      refine pull fun t16 h_t16 => ?_
      refine s_rd (r_index h_t16 Try.underlying25 el_27 rfl rfl) rfl ?_
      refine s_rd (r_load el_27 rfl) rfl ?_
      refine b_of (frzL [3, 12] (j := 0) rfl ⟨rfl, rfl, trivial⟩ hM) ?_
      refine pull fun t17 h_t17 => ?_
      refine s_st (s_call (ψ := fun (x18 : (Value × List Nat)) => tup [pv x18.1, iv .i64 t17.2]) (args := [.tmp 12, .tmp 16]) Try.call25 rfl (ref39_Append_ok h_t17) ⟨arg rfl, arg rfl, trivial⟩ (fun _ _ _ _ h => h)) rfl (fun x18 => ?_)
      refine s_rd (r_move rfl) rfl ?_
      refine s_rd (r_extract rfl rfl) rfl ?_
      refine s_rd (r_extract rfl rfl) rfl ?_
      refine s_rd (r_assign rfl) rfl ?_
      refine l_nil ?_
      refine n_block ?_
      refine n_then ?_
      refine ref_region ?_
      refine s_rd (r_move rfl) rfl ?_
      refine s_rd (r_add rfl rfl) rfl ?_
      refine s_rd (r_assign rfl) rfl ?_
      refine b_let (f := iv .i64) (t := 4) rfl fun i19 => ?_
      refine l_nil ?_
      exact goB x18 (weak [1] ⟨rfl, rfl, rfl, trivial⟩ ⟨rfl, trivial⟩)
    · refine ref_exit ?_
      refine x_then ?_
      exact brkB x14 (weak [0] ⟨rfl, trivial⟩ ⟨rfl, trivial⟩)
  · refine n_then ?_
    refine ref_seq ?_
    refine ref_region ?_
    refine s_rd (r_move rfl) rfl ?_
    refine s_rd (r_assign rfl) rfl ?_
    refine l_nil ?_
    refine n_then ?_
    refine ref_ret ?_
    exact fin1 (.inl rfl) y21 [0] rfl ⟨rfl, trivial⟩ rfl (rv_tmp rfl)

/-! deliberation/deliberationlaw39.awake -/
noncomputable def law39_awake_m  : Option (Bool) :=
  Option.bind (journal_Frame_m 0 []) fun t1 =>
  bif t1.2 == 0 then
    Option.bind (ref39_Same_m t1.1 [0, 0, 255, 255, 0, 4, 0, 1]) fun t3 =>
    bif t3 then
      Option.bind (journal_Sum_m []) fun t4 =>
      bif t4 == 1 then
        Option.bind (journal_Sum_m [97, 98]) fun t6 =>
        some (t6 == 19267780)
      else
        some false
    else
      some false
  else
    some false

theorem law39_awake_ok  {r : Bool} (hm : law39_awake_m  = some r) :
    FnOk prog 11 [] [] (fun (x : Unit) => [bv r]) (fun (x : Unit) => []) := by
  refine fn_ok (X := Unit) (fn := Try.f11) (N := 24) (m := law39_awake_m ) (res := fun r x => [bv r]) (Ω1 := fun r x => []) Try.func11 rfl rfl hm rfl (fun E hM => ?_)
  unfold law39_awake_m
  refine ref_seq ?_
  refine ref_region ?_
  refine s_rd (r_assign rfl) rfl ?_
  refine l_nil ?_
  refine n_then ?_
  refine ref_seq ?_
  refine ref_region ?_
  refine pull fun t1 h_t1 => ?_
  refine s_st (s_call (ψ := fun (x2 : (Value × List Nat)) => tup [pv x2.1, iv .i64 t1.2]) (args := [.const (.int .i64 (0)), .const (.slice none 0 0)]) Try.call18 rfl (journal_Frame_ok h_t1) ⟨arg rfl, arg_nil _ rfl, trivial⟩ (fun _ _ _ _ h => h)) rfl (fun x2 => ?_)
  refine s_rd (r_move rfl) rfl ?_
  refine s_rd (r_extract rfl rfl) rfl ?_
  refine s_rd (r_extract rfl rfl) rfl ?_
  refine s_rd (r_assign rfl) rfl ?_
  refine s_rd (r_assign rfl) rfl ?_
  refine l_nil ?_
  refine n_then ?_
  refine ref_seq ?_
  refine ref_region ?_
  refine s_rd (r_move rfl) rfl ?_
  refine s_rd (r_eql rfl rfl) rfl ?_
  refine s_rd (r_move rfl) rfl ?_
  refine b_split (t := 9) rfl (fun _ => ?_) (fun _ => ?_)
  · refine s_on rfl rfl rfl ?_
    refine s_rd (r_move rfl) rfl ?_
    refine s_on rfl rfl rfl ?_
    refine s_st (s_bslice (xs := [.const (.int .u8 (0)), .const (.int .u8 (0)), .const (.int .u8 (255)), .const (.int .u8 (255)), .const (.int .u8 (0)), .const (.int .u8 (4)), .const (.int .u8 (0)), .const (.int .u8 (1))]) (ds := [0, 0, 255, 255, 0, 4, 0, 1]) Try.underlying27 el_5 rfl (Nat.le_of_ble_eq_true rfl) ⟨(part_at rfl iv_at), ⟨(part_at rfl iv_at), ⟨(part_at rfl iv_at), ⟨(part_at rfl iv_at), ⟨(part_at rfl iv_at), ⟨(part_at rfl iv_at), ⟨(part_at rfl iv_at), ⟨(part_at rfl iv_at), trivial⟩⟩⟩⟩⟩⟩⟩⟩) rfl (fun _ => ?_)
    refine s_on rfl rfl rfl ?_
    refine pull fun t3 h_t3 => ?_
    refine s_st (s_callB (ψ := fun (_ : Unit) => bv t3) (args := [.tmp 10, .tmp 11]) Try.call19 rfl (ref39_Same_ok h_t3) ⟨argO rfl (j := 0) rfl, argB rfl, trivial⟩ (fun _ _ _ _ _ h => h)) rfl (fun _ => ?_)
    refine s_rd (r_pickT rfl rfl) rfl ?_
    refine s_rd (r_move rfl) rfl ?_
    refine b_split (t := 14) rfl (fun _ => ?_) (fun _ => ?_)
    · refine s_on rfl rfl rfl ?_
      refine pull fun t4 h_t4 => ?_
      refine s_st (s_call (ψ := fun (_ : Unit) => iv .i64 t4) (args := [.const (.slice none 0 0)]) Try.call20 rfl (journal_Sum_ok h_t4) ⟨arg_nil _ rfl, trivial⟩ (fun _ _ _ _ h => h)) rfl (fun _ => ?_)
      refine s_on rfl rfl rfl ?_
      refine s_rd (r_eql rfl rfl) rfl ?_
      refine s_rd (r_pickT rfl rfl) rfl ?_
      refine s_rd (r_move rfl) rfl ?_
      refine b_split (t := 18) rfl (fun _ => ?_) (fun _ => ?_)
      · refine s_on rfl rfl rfl ?_
        refine s_st (s_bsliceO (xs := [.const (.int .u8 (97)), .const (.int .u8 (98))]) (ds := [97, 98]) Try.underlying27 el_5 rfl (Nat.le_of_ble_eq_true rfl) ⟨(part_at rfl iv_at), ⟨(part_at rfl iv_at), trivial⟩⟩) rfl (fun o5 => ?_)
        refine s_on rfl rfl rfl ?_
        refine s_st (s_mark Try.underlying27 Try.underlying5 rfl (j := 1) rfl (by simp) hM) rfl (fun _ => ?_)
        refine s_on rfl rfl rfl ?_
        refine pull fun t6 h_t6 => ?_
        refine s_st (s_call (ψ := fun (_ : Unit) => iv .i64 t6) (args := [.tmp 20]) Try.call20 rfl (journal_Sum_ok h_t6) ⟨arg rfl, trivial⟩ (fun _ _ _ _ h => h)) rfl (fun _ => ?_)
        refine s_on rfl rfl rfl ?_
        refine s_rd (r_eql rfl rfl) rfl ?_
        refine s_rd (r_pickT rfl rfl) rfl ?_
        refine s_rd (r_assign rfl) rfl ?_
        refine l_nil ?_
        refine n_then ?_
        refine ref_ret ?_
        exact fin1 (.inl rfl) () [] rfl trivial rfl (rv_tmp rfl)
      · refine s_off rfl rfl rfl rfl rfl ?_
        refine s_off rfl rfl rfl rfl rfl ?_
        refine s_off rfl rfl rfl rfl rfl ?_
        refine s_off rfl rfl rfl rfl rfl ?_
        refine s_rd (r_pickF rfl rfl) rfl ?_
        refine s_rd (r_assign rfl) rfl ?_
        refine l_nil ?_
        refine n_then ?_
        refine ref_ret ?_
        exact fin1 (.inl rfl) () [] rfl trivial rfl (rv_tmp rfl)
    · refine s_off rfl rfl rfl rfl rfl ?_
      refine s_off rfl rfl rfl rfl rfl ?_
      refine s_rd (r_pickF rfl rfl) rfl ?_
      refine s_rd (r_move rfl) rfl ?_
      refine s_off rfl rfl rfl rfl rfl ?_
      refine s_off rfl rfl rfl rfl rfl ?_
      refine s_off rfl rfl rfl rfl rfl ?_
      refine s_off rfl rfl rfl rfl rfl ?_
      refine s_rd (r_pickF rfl rfl) rfl ?_
      refine s_rd (r_assign rfl) rfl ?_
      refine l_nil ?_
      refine n_then ?_
      refine ref_ret ?_
      exact fin1 (.inl rfl) () [] rfl trivial rfl (rv_tmp rfl)
  · refine s_off rfl rfl rfl rfl rfl ?_
    refine s_off rfl rfl rfl rfl rfl ?_
    refine s_off rfl rfl rfl rfl rfl ?_
    refine s_rd (r_pickF rfl rfl) rfl ?_
    refine s_rd (r_move rfl) rfl ?_
    refine s_off rfl rfl rfl rfl rfl ?_
    refine s_off rfl rfl rfl rfl rfl ?_
    refine s_rd (r_pickF rfl rfl) rfl ?_
    refine s_rd (r_move rfl) rfl ?_
    refine s_off rfl rfl rfl rfl rfl ?_
    refine s_off rfl rfl rfl rfl rfl ?_
    refine s_off rfl rfl rfl rfl rfl ?_
    refine s_off rfl rfl rfl rfl rfl ?_
    refine s_rd (r_pickF rfl rfl) rfl ?_
    refine s_rd (r_assign rfl) rfl ?_
    refine l_nil ?_
    refine n_then ?_
    refine ref_ret ?_
    exact fin1 (.inl rfl) () [] rfl trivial rfl (rv_tmp rfl)

/-! deliberation/deliberationlaw39.JournalDamage -/
noncomputable def law39_JournalDamage_l1 (r_3 : List (List Int) × T_deliberationkeep_Src) (k10 : Int) (s19 : Int × Int) : Option (Sum (Int × Int) (Int × Int)) :=
  Option.bind (idxM r_3.1 s19.1) fun t21 =>
  bif decide ((iadd .i64 (iadd .i64 s19.2 8) (t21.length : Int)) ≤ k10) then
    Option.bind (idxM r_3.1 s19.1) fun t23 =>
    letM (iadd .i64 s19.2 (iadd .i64 8 (t23.length : Int))) fun end_24 =>
    letM (iadd .i64 s19.1 1) fun whole25 =>
    some (Sum.inr (whole25, end_24))
  else
    some (Sum.inl (s19.1, s19.2))

noncomputable def law39_JournalDamage_m (l_0 : (List Int)) (at__1 : Int) (by__2 : Int) : Option (Bool) :=
  Option.bind (keep_New_m l_0) fun s1 =>
  Option.bind (law39_records_m s1) fun r_3 =>
  Option.bind (law39_written_m r_3.1) fun b5 =>
  bif (b5.length : Int) == 0 then
    Option.bind (law39_awake_m ) fun t7 =>
    some t7
  else
    bif by__2 == 0 then
      Option.bind (law39_awake_m ) fun t9 =>
      some t9
    else
      Option.bind (keep_Mod_m at__1 (b5.length : Int)) fun k10 =>
      Option.bind (idxM b5 k10) fun t11 =>
      Option.bind (idxM b5 k10) fun t12 =>
      Option.bind (loopC (law39_JournalDamage_l1 r_3 k10) (0, 0)) fun q26 : Int × Int =>
      Option.bind (journal_Read_m (b5.set (Int.toNat k10) (ixor .u8 t11 by__2))) fun t28 =>
      bif t28.2 == q26.2 then
        Option.bind (slM r_3.1 0 q26.1) fun t30 =>
        Option.bind (ref39_SameAll_m t28.1 t30) fun t31 =>
        bif t31 then
          Option.bind (law39_awake_m ) fun t32 =>
          some t32
        else
          some false
      else
        some false

theorem law39_JournalDamage_ok {l_0 : (List Int)} {at__1 : Int} {by__2 : Int} {r : Bool} (hm : law39_JournalDamage_m l_0 at__1 by__2 = some r) :
    FnOk prog 3 [slv (rI .i64) l_0, iv .i64 at__1, iv .u8 by__2] [] (fun (x : Unit) => [bv r]) (fun (x : Unit) => []) := by
  refine fn_ok (X := Unit) (fn := Try.f3) (N := 78) (m := law39_JournalDamage_m l_0 at__1 by__2) (res := fun r x => [bv r]) (Ω1 := fun r x => []) Try.func3 rfl rfl hm rfl (fun E hM => ?_)
  unfold law39_JournalDamage_m
  refine ref_seq ?_
  refine ref_region ?_
  refine s_rd (r_assign rfl) rfl ?_
  refine l_nil ?_
  refine n_then ?_
  refine ref_seq ?_
  refine ref_region ?_
  refine s_rd (r_move rfl) rfl ?_
  refine pull fun s1 h_s1 => ?_
  refine s_st (s_call (ψ := fun (x2 : Nat) => pv (ptr x2 0)) (args := [.tmp 15]) Try.call8 rfl (keep_New_ok h_s1) ⟨arg rfl, trivial⟩ (fun _ _ _ _ h => h)) rfl (fun x2 => ?_)
  refine s_rd (r_assign rfl) rfl ?_
  refine l_nil ?_
  refine n_then ?_
  refine ref_seq ?_
  refine ref_region ?_
  refine s_rd (r_move rfl) rfl ?_
  refine pull fun r_3 h_r_3 => ?_
  refine s_st (s_callO (js := [0]) (os := fun (x4 : (Value × List Nat)) => [oc x2 [slv (rI .i64) r_3.2.L, iv .i64 r_3.2.At]]) (ex := fun (x4 : (Value × List Nat)) => [oa (rSl (rI .u8)) x4.1 x4.2 r_3.1]) (ψ := fun (x4 : (Value × List Nat)) => pv x4.1) (args := [.tmp 17]) Try.call9 rfl (law39_records_ok h_r_3) ⟨rfl, trivial⟩ (fun _ => rfl) (fun _ => ⟨rfl, trivial⟩) ⟨arg rfl, trivial⟩ (fun _ _ _ _ h => h)) rfl (fun x4 => ?_)
  refine s_rd (r_assign rfl) rfl ?_
  refine l_nil ?_
  refine n_then ?_
  refine ref_seq ?_
  refine ref_region ?_
  refine s_rd (r_move rfl) rfl ?_
  refine b_of (frzL [18, 8, 19] (j := 1) rfl ⟨rfl, rfl, rfl, trivial⟩ hM) ?_
  refine pull fun b5 h_b5 => ?_
  refine s_st (s_call (ψ := fun (x6 : (Value × List Nat)) => pv x6.1) (args := [.tmp 19]) Try.call10 rfl (law39_written_ok h_b5) ⟨arg rfl, trivial⟩ (fun _ _ _ _ h => h)) rfl (fun x6 => ?_)
  refine s_rd (r_assign rfl) rfl ?_
  refine l_nil ?_
  refine n_then ?_
  refine ref_seq ?_
  refine ref_seq ?_
  refine ref_region ?_
  refine s_rd (r_move rfl) rfl ?_
  refine s_rd (r_olen Try.underlying27 rfl (j := 2) rfl) rfl ?_
  refine s_rd (r_eql rfl rfl) rfl ?_
  refine s_rd (r_move rfl) rfl ?_
  refine b_split (t := 24) rfl (fun _ => ?_) (fun _ => ?_)
  · refine s_off rfl rfl rfl rfl rfl ?_
    refine s_off rfl rfl rfl rfl rfl ?_
    refine s_rd (r_pickT rfl rfl) rfl ?_
    refine l_nil ?_
    refine n_then ?_
    refine ref_condT rfl rfl ?_
    refine ref_seq ?_
    refine ref_region ?_
    refine pull fun t7 h_t7 => ?_
    refine s_st (s_call (ψ := fun (_ : Unit) => bv t7) (args := []) Try.call11 rfl (law39_awake_ok h_t7) trivial (fun _ _ _ _ h => h)) rfl (fun _ => ?_)
    refine s_rd (r_assign rfl) rfl ?_
    refine l_nil ?_
    refine n_then ?_
    refine ref_ret ?_
    refine r_then ?_
    exact fin1 (.inl rfl) () [] rfl trivial rfl (rv_tmp rfl)
  · refine s_on rfl rfl rfl ?_
    refine s_rd (r_move rfl) rfl ?_
    refine s_on rfl rfl rfl ?_
    refine s_rd (r_eql rfl rfl) rfl ?_
    refine s_rd (r_pickF rfl rfl) rfl ?_
    refine l_nil ?_
    refine n_then ?_
    refine ref_cond rfl (fun hb8 => ?_) (fun hb8 => ?_)
    · refine ref_seq ?_
      refine ref_region ?_
      refine pull fun t9 h_t9 => ?_
      refine s_st (s_call (ψ := fun (_ : Unit) => bv t9) (args := []) Try.call11 rfl (law39_awake_ok h_t9) trivial (fun _ _ _ _ h => h)) rfl (fun _ => ?_)
      refine s_rd (r_assign rfl) rfl ?_
      refine l_nil ?_
      refine n_then ?_
      refine ref_ret ?_
      refine r_then ?_
      exact fin1 (.inl rfl) () [] rfl trivial rfl (rv_tmp rfl)
    · refine ref_skip ?_
      refine n_then ?_
      refine ref_seq ?_
      refine ref_region ?_
      refine s_rd (r_move rfl) rfl ?_
      refine s_rd (r_move rfl) rfl ?_
      refine s_rd (r_olen Try.underlying27 rfl (j := 2) rfl) rfl ?_
      refine pull fun k10 h_k10 => ?_
      refine s_st (s_call (ψ := fun (_ : Unit) => iv .i64 k10) (args := [.tmp 29, .tmp 31]) Try.call12 rfl (keep_Mod_ok h_k10) ⟨arg rfl, arg rfl, trivial⟩ (fun _ _ _ _ h => h)) rfl (fun _ => ?_)
      refine s_rd (r_assign rfl) rfl ?_
      refine l_nil ?_
      refine n_then ?_
      refine ref_seq ?_
      refine ref_region ?_
      refine s_rd (r_move rfl) rfl ?_
      refine s_rd (r_move rfl) rfl ?_
      refine pull fun t11 h_t11 => ?_
      refine s_rd (r_oindex h_t11 Try.underlying27 el_5 rfl (j := 2) rfl rfl) rfl ?_
      refine s_rd (r_oload h_t11 el_5 rfl (j := 2) rfl) rfl ?_
      refine s_rd (r_move rfl) rfl ?_
      refine s_rd (r_xor rfl rfl) rfl ?_
      refine pull fun t12 h_t12 => ?_
      refine s_rd (r_oindex h_t12 Try.underlying27 el_5 rfl (j := 2) rfl rfl) rfl ?_
      refine s_st0 (s_ostore (u := ixor .u8 t11 by__2) h_t12 el_5 rfl (j := 2) rfl (part_at rfl iv_at)) (fun _ => ?_)
      refine l_nil ?_
      refine n_then ?_
      refine ref_seq ?_
      refine ref_region ?_
      refine s_rd (r_assign rfl) rfl ?_
      refine s_rd (r_assign rfl) rfl ?_
      refine l_nil ?_
      refine n_then ?_
      refine ref_seq ?_
      refine ref_loopB (f := (law39_JournalDamage_l1 r_3 k10)) (Γl := (fun (s19 : Int × Int) (x20 : Unit) => [(8, slv (rSl (rI .u8)) r_3.1), (9, pv x6.1), (10, iv .i64 k10), (11, iv .i64 s19.1), (12, iv .i64 s19.2)])) (Ωl := (fun (s19 : Int × Int) (x20 : Unit) => [oa (rI .u8) x6.1 x6.2 (b5.set (Int.toNat k10) (ixor .u8 t11 by__2))])) (Γb := (fun (q26 : Int × Int) (y27 : Unit) => [(8, slv (rSl (rI .u8)) r_3.1), (9, pv x6.1), (11, iv .i64 q26.1), (12, iv .i64 q26.2)])) (Ωb := (fun (q26 : Int × Int) (y27 : Unit) => [oa (rI .u8) x6.1 x6.2 (b5.set (Int.toNat k10) (ixor .u8 t11 by__2))])) (0, 0) () (weak [2] ⟨rfl, rfl, rfl, rfl, rfl, trivial⟩ ⟨rfl, trivial⟩) (fun s19 x20 => ?_) (fun q26 y27 => ?_)
      · unfold law39_JournalDamage_l1
        refine ref_seq ?_
        refine ref_seq ?_
        refine ref_region ?_
        refine s_rd (r_move rfl) rfl ?_
        refine s_rd (r_add rfl rfl) rfl ?_
        refine s_rd (r_move rfl) rfl ?_
        refine s_rd (r_move rfl) rfl ?_
        refine pull fun t21 h_t21 => ?_
        refine s_rd (r_index h_t21 Try.underlying25 el_27 rfl rfl) rfl ?_
        refine s_rd (r_load el_27 rfl) rfl ?_
        refine s_rd (r_len Try.underlying27 rfl) rfl ?_
        refine s_rd (r_add rfl rfl) rfl ?_
        refine s_rd (r_move rfl) rfl ?_
        refine s_rd (r_leq rfl rfl) rfl ?_
        refine l_nil ?_
        refine n_then ?_
        refine ref_cond rfl (fun hb22 => ?_) (fun hb22 => ?_)
        · refine ref_skip ?_
          refine n_then ?_
          refine ref_block ?_
          refine ref_seq ?_
          refine ref_region ?_
          refine s_rd (r_move rfl) rfl ?_
          refine s_rd (r_move rfl) rfl ?_
          refine s_rd (r_move rfl) rfl ?_
          refine pull fun t23 h_t23 => ?_
          refine s_rd (r_index h_t23 Try.underlying25 el_27 rfl rfl) rfl ?_
          refine s_rd (r_load el_27 rfl) rfl ?_
          refine s_rd (r_len Try.underlying27 rfl) rfl ?_
          refine s_rd (r_add rfl rfl) rfl ?_
          refine s_rd (r_add rfl rfl) rfl ?_
          refine s_rd (r_assign rfl) rfl ?_
          refine b_let (f := iv .i64) (t := 12) rfl fun end_24 => ?_
          refine l_nil ?_
          refine n_then ?_
          refine ref_region ?_
          refine s_rd (r_move rfl) rfl ?_
          refine s_rd (r_add rfl rfl) rfl ?_
          refine s_rd (r_assign rfl) rfl ?_
          refine b_let (f := iv .i64) (t := 11) rfl fun whole25 => ?_
          refine l_nil ?_
          refine n_block ?_
          exact goB () (weak [0] ⟨rfl, rfl, rfl, rfl, rfl, trivial⟩ ⟨rfl, trivial⟩)
        · refine ref_exit ?_
          refine x_then ?_
          exact brkB () (weak [0] ⟨rfl, rfl, rfl, rfl, trivial⟩ ⟨rfl, trivial⟩)
      · refine n_then ?_
        refine ref_seq ?_
        refine ref_region ?_
        refine s_rd (r_move rfl) rfl ?_
        refine b_of (frzL [9, 61] (j := 0) rfl ⟨rfl, rfl, trivial⟩ hM) ?_
        refine pull fun t28 h_t28 => ?_
        refine s_st (s_call (ψ := fun (x29 : (Value × List Nat)) => tup [pv x29.1, iv .i64 t28.2]) (args := [.tmp 61]) Try.call13 rfl (journal_Read_ok h_t28) ⟨arg rfl, trivial⟩ (fun _ _ _ _ h => h)) rfl (fun x29 => ?_)
        refine s_rd (r_move rfl) rfl ?_
        refine s_rd (r_extract rfl rfl) rfl ?_
        refine s_rd (r_extract rfl rfl) rfl ?_
        refine s_rd (r_assign rfl) rfl ?_
        refine s_rd (r_assign rfl) rfl ?_
        refine l_nil ?_
        refine n_then ?_
        refine ref_seq ?_
        refine ref_region ?_
        refine s_rd (r_move rfl) rfl ?_
        refine s_rd (r_move rfl) rfl ?_
        refine s_rd (r_eql rfl rfl) rfl ?_
        refine s_rd (r_move rfl) rfl ?_
        refine b_split (t := 68) rfl (fun _ => ?_) (fun _ => ?_)
        · refine s_on rfl rfl rfl ?_
          refine s_rd (r_move rfl) rfl ?_
          refine s_on rfl rfl rfl ?_
          refine s_rd (r_move rfl) rfl ?_
          refine s_on rfl rfl rfl ?_
          refine s_rd (r_move rfl) rfl ?_
          refine s_on rfl rfl rfl ?_
          refine pull fun t30 h_t30 => ?_
          refine s_rd (r_slice h_t30 Try.underlying25 el_27 rfl .dft (.of rfl)) rfl ?_
          refine s_on rfl rfl rfl ?_
          refine pull fun t31 h_t31 => ?_
          refine s_st (s_callB (ψ := fun (_ : Unit) => bv t31) (args := [.tmp 69, .tmp 72]) Try.call14 rfl (ref39_SameAll_ok h_t31) ⟨argO rfl (j := 1) rfl, argB rfl, trivial⟩ (fun _ _ _ _ _ h => h)) rfl (fun _ => ?_)
          refine s_rd (r_pickT rfl rfl) rfl ?_
          refine s_rd (r_move rfl) rfl ?_
          refine b_split (t := 75) rfl (fun _ => ?_) (fun _ => ?_)
          · refine s_on rfl rfl rfl ?_
            refine pull fun t32 h_t32 => ?_
            refine s_st (s_call (ψ := fun (_ : Unit) => bv t32) (args := []) Try.call11 rfl (law39_awake_ok h_t32) trivial (fun _ _ _ _ h => h)) rfl (fun _ => ?_)
            refine s_rd (r_pickT rfl rfl) rfl ?_
            refine s_rd (r_assign rfl) rfl ?_
            refine l_nil ?_
            refine n_then ?_
            refine ref_ret ?_
            exact fin1 (.inl rfl) () [] rfl trivial rfl (rv_tmp rfl)
          · refine s_off rfl rfl rfl rfl rfl ?_
            refine s_rd (r_pickF rfl rfl) rfl ?_
            refine s_rd (r_assign rfl) rfl ?_
            refine l_nil ?_
            refine n_then ?_
            refine ref_ret ?_
            exact fin1 (.inl rfl) () [] rfl trivial rfl (rv_tmp rfl)
        · refine s_off rfl rfl rfl rfl rfl ?_
          refine s_off rfl rfl rfl rfl rfl ?_
          refine s_off rfl rfl rfl rfl rfl ?_
          refine s_off rfl rfl rfl rfl rfl ?_
          refine s_off rfl rfl rfl rfl rfl ?_
          refine s_rd (r_pickF rfl rfl) rfl ?_
          refine s_rd (r_move rfl) rfl ?_
          refine s_off rfl rfl rfl rfl rfl ?_
          refine s_rd (r_pickF rfl rfl) rfl ?_
          refine s_rd (r_assign rfl) rfl ?_
          refine l_nil ?_
          refine n_then ?_
          refine ref_ret ?_
          exact fin1 (.inl rfl) () [] rfl trivial rfl (rv_tmp rfl)

/-! deliberation/deliberationlaw39.JournalPlaces -/
noncomputable def law39_JournalPlaces_l1 (r_3 : List (List Int) × T_deliberationkeep_Src) (a_7 : Int) (c8 : Int) (s34 : Int × (List Int)) : Option (Sum ((List Int)) (Int × (List Int))) :=
  bif decide (s34.1 < (r_3.1.length : Int)) then
    joinM (fun j38 : Int =>
        Option.bind (idxM r_3.1 j38) fun t41 =>
        Option.bind (ref39_Frame_m j38 t41) fun t42 =>
        Option.bind (appM 1 s34.2 t42.1) fun b44 =>
        letM (iadd .i64 s34.1 1) fun i46 =>
        some (Sum.inr (i46, b44))) fun k40 =>
    bif s34.1 == c8 then
      k40 a_7
    else
      k40 s34.1
  else
    some (Sum.inl s34.2)

noncomputable def law39_JournalPlaces_m (l_0 : (List Int)) (from__1 : Int) (to__2 : Int) : Option (Bool) :=
  Option.bind (keep_New_m l_0) fun s1 =>
  Option.bind (law39_records_m s1) fun r_3 =>
  bif decide ((r_3.1.length : Int) < 2) then
    Option.bind (law39_awake_m ) fun t6 =>
    some t6
  else
    Option.bind (keep_Mod_m from__1 (r_3.1.length : Int)) fun a_7 =>
    Option.bind (keep_Mod_m to__2 (r_3.1.length : Int)) fun c8 =>
    Option.bind (loopC (law39_JournalPlaces_l1 r_3 a_7 c8) (0, [])) fun q47 : (List Int) =>
    Option.bind (journal_Read_m q47) fun t49 =>
    bif a_7 == c8 then
      Option.bind (ref39_SameAll_m t49.1 r_3.1) fun t52 =>
      bif t52 then
        Option.bind (law39_awake_m ) fun t53 =>
        some t53
      else
        some false
    else
      Option.bind (slM r_3.1 0 c8) fun t54 =>
      Option.bind (ref39_SameAll_m t49.1 t54) fun t55 =>
      bif t55 then
        Option.bind (law39_awake_m ) fun t56 =>
        some t56
      else
        some false

theorem law39_JournalPlaces_ok {l_0 : (List Int)} {from__1 : Int} {to__2 : Int} {r : Bool} (hm : law39_JournalPlaces_m l_0 from__1 to__2 = some r) :
    FnOk prog 4 [slv (rI .i64) l_0, iv .i64 from__1, iv .i64 to__2] [] (fun (x : Unit) => [bv r]) (fun (x : Unit) => []) := by
  refine fn_ok (X := Unit) (fn := Try.f4) (N := 79) (m := law39_JournalPlaces_m l_0 from__1 to__2) (res := fun r x => [bv r]) (Ω1 := fun r x => []) Try.func4 rfl rfl hm rfl (fun E hM => ?_)
  unfold law39_JournalPlaces_m
  refine ref_seq ?_
  refine ref_region ?_
  refine s_rd (r_assign rfl) rfl ?_
  refine l_nil ?_
  refine n_then ?_
  refine ref_seq ?_
  refine ref_region ?_
  refine s_rd (r_move rfl) rfl ?_
  refine pull fun s1 h_s1 => ?_
  refine s_st (s_call (ψ := fun (x2 : Nat) => pv (ptr x2 0)) (args := [.tmp 18]) Try.call8 rfl (keep_New_ok h_s1) ⟨arg rfl, trivial⟩ (fun _ _ _ _ h => h)) rfl (fun x2 => ?_)
  refine s_rd (r_assign rfl) rfl ?_
  refine l_nil ?_
  refine n_then ?_
  refine ref_seq ?_
  refine ref_region ?_
  refine s_rd (r_move rfl) rfl ?_
  refine pull fun r_3 h_r_3 => ?_
  refine s_st (s_callO (js := [0]) (os := fun (x4 : (Value × List Nat)) => [oc x2 [slv (rI .i64) r_3.2.L, iv .i64 r_3.2.At]]) (ex := fun (x4 : (Value × List Nat)) => [oa (rSl (rI .u8)) x4.1 x4.2 r_3.1]) (ψ := fun (x4 : (Value × List Nat)) => pv x4.1) (args := [.tmp 20]) Try.call9 rfl (law39_records_ok h_r_3) ⟨rfl, trivial⟩ (fun _ => rfl) (fun _ => ⟨rfl, trivial⟩) ⟨arg rfl, trivial⟩ (fun _ _ _ _ h => h)) rfl (fun x4 => ?_)
  refine s_rd (r_assign rfl) rfl ?_
  refine l_nil ?_
  refine n_then ?_
  refine ref_seq ?_
  refine ref_seq ?_
  refine ref_region ?_
  refine s_rd (r_move rfl) rfl ?_
  refine s_rd (r_olen Try.underlying25 rfl (j := 1) rfl) rfl ?_
  refine s_rd (r_lss rfl rfl) rfl ?_
  refine l_nil ?_
  refine n_then ?_
  refine ref_cond rfl (fun hb5 => ?_) (fun hb5 => ?_)
  · refine ref_seq ?_
    refine ref_region ?_
    refine pull fun t6 h_t6 => ?_
    refine s_st (s_call (ψ := fun (_ : Unit) => bv t6) (args := []) Try.call11 rfl (law39_awake_ok h_t6) trivial (fun _ _ _ _ h => h)) rfl (fun _ => ?_)
    refine s_rd (r_assign rfl) rfl ?_
    refine l_nil ?_
    refine n_then ?_
    refine ref_ret ?_
    refine r_then ?_
    exact fin1 (.inl rfl) () [] rfl trivial rfl (rv_tmp rfl)
  · refine ref_skip ?_
    refine n_then ?_
    refine ref_seq ?_
    refine ref_region ?_
    refine s_rd (r_move rfl) rfl ?_
    refine s_rd (r_move rfl) rfl ?_
    refine s_rd (r_olen Try.underlying25 rfl (j := 1) rfl) rfl ?_
    refine pull fun a_7 h_a_7 => ?_
    refine s_st (s_call (ψ := fun (_ : Unit) => iv .i64 a_7) (args := [.tmp 26, .tmp 28]) Try.call12 rfl (keep_Mod_ok h_a_7) ⟨arg rfl, arg rfl, trivial⟩ (fun _ _ _ _ h => h)) rfl (fun _ => ?_)
    refine s_rd (r_move rfl) rfl ?_
    refine s_rd (r_move rfl) rfl ?_
    refine s_rd (r_olen Try.underlying25 rfl (j := 1) rfl) rfl ?_
    refine pull fun c8 h_c8 => ?_
    refine s_st (s_call (ψ := fun (_ : Unit) => iv .i64 c8) (args := [.tmp 30, .tmp 32]) Try.call12 rfl (keep_Mod_ok h_c8) ⟨arg rfl, arg rfl, trivial⟩ (fun _ _ _ _ h => h)) rfl (fun _ => ?_)
    refine s_rd (r_assign rfl) rfl ?_
    refine s_rd (r_assign rfl) rfl ?_
    refine l_nil ?_
    refine n_then ?_
    refine ref_seq ?_
    refine ref_region ?_
    refine s_rd (r_assign rfl) rfl ?_
    refine l_nil ?_
    refine n_then ?_
    refine ref_seq ?_
    refine ref_seq ?_
    refine ref_region ?_
    refine s_rd (r_assign rfl) rfl ?_
    refine l_nil ?_
    refine n_then ?_
    refine b_of (own_nil (rI .u8)) ?_
    refine ref_loopB (f := (law39_JournalPlaces_l1 r_3 a_7 c8)) (Γl := (fun (s34 : Int × (List Int)) (x35 : (Value × List Nat)) => [(8, pv x4.1), (9, iv .i64 a_7), (10, iv .i64 c8), (11, pv x35.1), (12, iv .i64 s34.1)])) (Ωl := (fun (s34 : Int × (List Int)) (x35 : (Value × List Nat)) => [oa (rSl (rI .u8)) x4.1 x4.2 r_3.1, oa (rI .u8) x35.1 x35.2 s34.2])) (Γb := (fun (q47 : (List Int)) (y48 : (Value × List Nat)) => [(8, pv x4.1), (9, iv .i64 a_7), (10, iv .i64 c8), (11, pv y48.1)])) (Ωb := (fun (q47 : (List Int)) (y48 : (Value × List Nat)) => [oa (rSl (rI .u8)) x4.1 x4.2 r_3.1, oa (rI .u8) y48.1 y48.2 q47])) (0, []) ((.slice none 0 0), []) (weak [1, 2] ⟨rfl, rfl, rfl, rfl, rfl, trivial⟩ ⟨rfl, rfl, trivial⟩) (fun s34 x35 => ?_) (fun q47 y48 => ?_)
    · unfold law39_JournalPlaces_l1
      refine ref_seq ?_
      refine ref_seq ?_
      refine ref_region ?_
      refine s_rd (r_move rfl) rfl ?_
      refine s_rd (r_move rfl) rfl ?_
      refine s_rd (r_olen Try.underlying25 rfl (j := 0) rfl) rfl ?_
      refine s_rd (r_lss rfl rfl) rfl ?_
      refine l_nil ?_
      refine n_then ?_
      refine ref_cond rfl (fun hb36 => ?_) (fun hb36 => ?_)
      · refine ref_skip ?_
        refine n_then ?_
        refine ref_seq ?_
        refine ref_block ?_
        refine ref_seq ?_
        refine ref_region ?_
        refine s_rd (r_move rfl) rfl ?_
        refine s_rd (r_assign rfl) rfl ?_
        refine l_nil ?_
        refine n_then ?_
        refine ref_seq ?_
        refine ref_join (fun (j38 : Int) (x39 : Unit) => [(8, pv x4.1), (9, iv .i64 a_7), (10, iv .i64 c8), (11, pv x35.1), (12, iv .i64 s34.1), (13, iv .i64 j38)]) (fun (j38 : Int) (x39 : Unit) => [oa (rSl (rI .u8)) x4.1 x4.2 r_3.1, oa (rI .u8) x35.1 x35.2 s34.2]) (fun k40 hk40 => ?_) (fun j38 x39 => ?_)
        · refine ref_seq ?_
          refine ref_region ?_
          refine s_rd (r_move rfl) rfl ?_
          refine s_rd (r_move rfl) rfl ?_
          refine s_rd (r_eql rfl rfl) rfl ?_
          refine l_nil ?_
          refine n_then ?_
          refine ref_cond rfl (fun hb37 => ?_) (fun hb37 => ?_)
          · refine ref_region ?_
            refine s_rd (r_move rfl) rfl ?_
            refine s_rd (r_assign rfl) rfl ?_
            refine l_nil ?_
            exact b_to (hk40 a_7 ()) (weak [0, 1] ⟨rfl, rfl, rfl, rfl, rfl, rfl, trivial⟩ ⟨rfl, rfl, trivial⟩)
          · refine ref_skip ?_
            exact b_to (hk40 s34.1 ()) (weak [0, 1] ⟨rfl, rfl, rfl, rfl, rfl, rfl, trivial⟩ ⟨rfl, rfl, trivial⟩)
        · refine n_then ?_
          refine ref_seq ?_
          refine ref_region ?_
          refine s_rd (r_move rfl) rfl ?_
          refine s_rd (r_move rfl) rfl ?_
          refine s_rd (r_move rfl) rfl ?_
          refine pull fun t41 h_t41 => ?_
          refine s_rd (r_oindex h_t41 Try.underlying25 el_27 rfl (j := 0) rfl rfl) rfl ?_
          refine s_rd (r_oload h_t41 el_27 rfl (j := 0) rfl) rfl ?_
          refine pull fun t42 h_t42 => ?_
          refine s_st (s_call (ψ := fun (x43 : (Value × List Nat)) => tup [pv x43.1, iv .i64 t42.2]) (args := [.tmp 46, .tmp 50]) Try.call15 rfl (ref39_Frame_ok h_t42) ⟨arg rfl, arg rfl, trivial⟩ (fun _ _ _ _ h => h)) rfl (fun x43 => ?_)
          refine s_rd (r_move rfl) rfl ?_
          refine s_rd (r_extract rfl rfl) rfl ?_
          refine s_rd (r_extract rfl rfl) rfl ?_
          refine s_rd (r_assign rfl) rfl ?_
          refine s_rd (r_assign rfl) rfl ?_
          refine l_nil ?_
          refine n_then ?_
          refine ref_region ?_
          refine s_rd (r_move rfl) rfl ?_
          refine s_rd (r_move rfl) rfl ?_
          refine b_of (frzL [52, 14, 55] (j := 2) rfl ⟨rfl, rfl, rfl, trivial⟩ hM) ?_
          refine pull fun b44 h_b44 => ?_
          refine s_st (s_append h_b44 Try.underlying27 el_5 rfl (j := 1) rfl rfl) rfl (fun o45 => ?_)
          refine s_rd (r_assign rfl) rfl ?_
          refine l_nil ?_
          refine n_block ?_
          refine n_then ?_
          refine ref_region ?_
          refine s_rd (r_move rfl) rfl ?_
          refine s_rd (r_add rfl rfl) rfl ?_
          refine s_rd (r_assign rfl) rfl ?_
          refine b_let (f := iv .i64) (t := 12) rfl fun i46 => ?_
          refine l_nil ?_
          exact goB o45 (weak [0, 1] ⟨rfl, rfl, rfl, rfl, rfl, trivial⟩ ⟨rfl, rfl, trivial⟩)
      · refine ref_exit ?_
        refine x_then ?_
        exact brkB x35 (weak [0, 1] ⟨rfl, rfl, rfl, rfl, trivial⟩ ⟨rfl, rfl, trivial⟩)
    · refine n_then ?_
      refine ref_seq ?_
      refine ref_region ?_
      refine s_rd (r_move rfl) rfl ?_
      refine b_of (frzL [11, 58] (j := 1) rfl ⟨rfl, rfl, trivial⟩ hM) ?_
      refine pull fun t49 h_t49 => ?_
      refine s_st (s_call (ψ := fun (x50 : (Value × List Nat)) => tup [pv x50.1, iv .i64 t49.2]) (args := [.tmp 58]) Try.call13 rfl (journal_Read_ok h_t49) ⟨arg rfl, trivial⟩ (fun _ _ _ _ h => h)) rfl (fun x50 => ?_)
      refine s_rd (r_move rfl) rfl ?_
      refine s_rd (r_extract rfl rfl) rfl ?_
      refine s_rd (r_extract rfl rfl) rfl ?_
      refine s_rd (r_assign rfl) rfl ?_
      refine s_rd (r_assign rfl) rfl ?_
      refine l_nil ?_
      refine n_then ?_
      refine ref_seq ?_
      refine ref_seq ?_
      refine ref_region ?_
      refine s_rd (r_move rfl) rfl ?_
      refine s_rd (r_move rfl) rfl ?_
      refine s_rd (r_eql rfl rfl) rfl ?_
      refine l_nil ?_
      refine n_then ?_
      refine ref_cond rfl (fun hb51 => ?_) (fun hb51 => ?_)
      · refine ref_seq ?_
        refine ref_region ?_
        refine s_rd (r_move rfl) rfl ?_
        refine s_rd (r_move rfl) rfl ?_
        refine pull fun t52 h_t52 => ?_
        refine s_st (s_callB (ψ := fun (_ : Unit) => bv t52) (args := [.tmp 65, .tmp 66]) Try.call14 rfl (ref39_SameAll_ok h_t52) ⟨argO rfl (j := 2) rfl, argO rfl (j := 0) rfl, trivial⟩ (fun _ _ _ _ _ h => h)) rfl (fun _ => ?_)
        refine s_rd (r_move rfl) rfl ?_
        refine b_split (t := 68) rfl (fun _ => ?_) (fun _ => ?_)
        · refine s_on rfl rfl rfl ?_
          refine pull fun t53 h_t53 => ?_
          refine s_st (s_call (ψ := fun (_ : Unit) => bv t53) (args := []) Try.call11 rfl (law39_awake_ok h_t53) trivial (fun _ _ _ _ h => h)) rfl (fun _ => ?_)
          refine s_rd (r_pickT rfl rfl) rfl ?_
          refine s_rd (r_assign rfl) rfl ?_
          refine l_nil ?_
          refine n_then ?_
          refine ref_ret ?_
          refine r_then ?_
          exact fin1 (.inl rfl) () [] rfl trivial rfl (rv_tmp rfl)
        · refine s_off rfl rfl rfl rfl rfl ?_
          refine s_rd (r_pickF rfl rfl) rfl ?_
          refine s_rd (r_assign rfl) rfl ?_
          refine l_nil ?_
          refine n_then ?_
          refine ref_ret ?_
          refine r_then ?_
          exact fin1 (.inl rfl) () [] rfl trivial rfl (rv_tmp rfl)
      · refine ref_skip ?_
        refine n_then ?_
        refine ref_seq ?_
        refine ref_region ?_
        refine s_rd (r_move rfl) rfl ?_
        refine s_rd (r_move rfl) rfl ?_
        refine s_rd (r_move rfl) rfl ?_
        refine b_of (frzL [8, 72] (j := 0) rfl ⟨rfl, rfl, trivial⟩ hM) ?_
        refine pull fun t54 h_t54 => ?_
        refine s_rd (r_slice h_t54 Try.underlying25 el_27 rfl .dft (.of rfl)) rfl ?_
        refine pull fun t55 h_t55 => ?_
        refine s_st (s_callB (ψ := fun (_ : Unit) => bv t55) (args := [.tmp 71, .tmp 74]) Try.call14 rfl (ref39_SameAll_ok h_t55) ⟨argO rfl (j := 2) rfl, argB rfl, trivial⟩ (fun _ _ _ _ _ h => h)) rfl (fun _ => ?_)
        refine s_rd (r_move rfl) rfl ?_
        refine b_split (t := 76) rfl (fun _ => ?_) (fun _ => ?_)
        · refine s_on rfl rfl rfl ?_
          refine pull fun t56 h_t56 => ?_
          refine s_st (s_call (ψ := fun (_ : Unit) => bv t56) (args := []) Try.call11 rfl (law39_awake_ok h_t56) trivial (fun _ _ _ _ h => h)) rfl (fun _ => ?_)
          refine s_rd (r_pickT rfl rfl) rfl ?_
          refine s_rd (r_assign rfl) rfl ?_
          refine l_nil ?_
          refine n_then ?_
          refine ref_ret ?_
          exact fin1 (.inl rfl) () [] rfl trivial rfl (rv_tmp rfl)
        · refine s_off rfl rfl rfl rfl rfl ?_
          refine s_rd (r_pickF rfl rfl) rfl ?_
          refine s_rd (r_assign rfl) rfl ?_
          refine l_nil ?_
          refine n_then ?_
          refine ref_ret ?_
          exact fin1 (.inl rfl) () [] rfl trivial rfl (rv_tmp rfl)

/-! deliberation/deliberationlaw39.JournalBack -/
noncomputable def law39_JournalBack_l1 (r_3 : List (List Int) × T_deliberationkeep_Src) (s20 : Int × (List Int)) : Option (Sum ((Sum (Bool) ((List Int)))) (Int × (List Int))) :=
  bif decide (s20.1 < (r_3.1.length : Int)) then
    Option.bind (idxM r_3.1 s20.1) fun t23 =>
    Option.bind (journal_Append_m s20.2 t23) fun t24 =>
    bif t24.2 != 0 then
      some (Sum.inl (Sum.inl false))
    else
      letM (iadd .i64 s20.1 1) fun i27 =>
      some (Sum.inr (i27, t24.1))
  else
    some (Sum.inl (Sum.inr s20.2))

noncomputable def law39_JournalBack_m (l_0 : (List Int)) : Option (Bool) :=
  Option.bind (keep_New_m l_0) fun t1 =>
  Option.bind (law39_records_m t1) fun r_3 =>
  Option.bind (loopC (law39_JournalBack_l1 r_3) (0, [])) (sumK (fun a : Bool => some a) fun q28 : (List Int) =>
    Option.bind (journal_Read_m q28) fun t30 =>
    bif t30.2 == (q28.length : Int) then
      Option.bind (ref39_SameAll_m t30.1 r_3.1) fun t32 =>
      bif t32 then
        Option.bind (law39_awake_m ) fun t33 =>
        some t33
      else
        some false
    else
      some false)

theorem law39_JournalBack_ok {l_0 : (List Int)} {r : Bool} (hm : law39_JournalBack_m l_0 = some r) :
    FnOk prog 5 [slv (rI .i64) l_0] [] (fun (x : Unit) => [bv r]) (fun (x : Unit) => []) := by
  refine fn_ok (X := Unit) (fn := Try.f5) (N := 48) (m := law39_JournalBack_m l_0) (res := fun r x => [bv r]) (Ω1 := fun r x => []) Try.func5 rfl rfl hm rfl (fun E hM => ?_)
  unfold law39_JournalBack_m
  refine ref_seq ?_
  refine ref_region ?_
  refine s_rd (r_assign rfl) rfl ?_
  refine l_nil ?_
  refine n_then ?_
  refine ref_seq ?_
  refine ref_region ?_
  refine s_rd (r_move rfl) rfl ?_
  refine pull fun t1 h_t1 => ?_
  refine s_st (s_call (ψ := fun (x2 : Nat) => pv (ptr x2 0)) (args := [.tmp 10]) Try.call8 rfl (keep_New_ok h_t1) ⟨arg rfl, trivial⟩ (fun _ _ _ _ h => h)) rfl (fun x2 => ?_)
  refine pull fun r_3 h_r_3 => ?_
  refine s_st (s_callO (js := [0]) (os := fun (x4 : (Value × List Nat)) => [oc x2 [slv (rI .i64) r_3.2.L, iv .i64 r_3.2.At]]) (ex := fun (x4 : (Value × List Nat)) => [oa (rSl (rI .u8)) x4.1 x4.2 r_3.1]) (ψ := fun (x4 : (Value × List Nat)) => pv x4.1) (args := [.tmp 11]) Try.call9 rfl (law39_records_ok h_r_3) ⟨rfl, trivial⟩ (fun _ => rfl) (fun _ => ⟨rfl, trivial⟩) ⟨arg rfl, trivial⟩ (fun _ _ _ _ h => h)) rfl (fun x4 => ?_)
  refine s_rd (r_assign rfl) rfl ?_
  refine l_nil ?_
  refine n_then ?_
  refine ref_seq ?_
  refine ref_region ?_
  refine s_rd (r_assign rfl) rfl ?_
  refine l_nil ?_
  refine n_then ?_
  refine ref_seq ?_
  refine ref_seq ?_
  refine ref_region ?_
  refine s_rd (r_assign rfl) rfl ?_
  refine l_nil ?_
  refine n_then ?_
  refine b_of (own_nil (rI .u8)) ?_
  refine ref_loopX (f := (law39_JournalBack_l1 r_3)) (Γl := (fun (s20 : Int × (List Int)) (x21 : (Value × List Nat)) => [(3, pv x4.1), (4, pv x21.1), (5, iv .i64 s20.1)])) (Ωl := (fun (s20 : Int × (List Int)) (x21 : (Value × List Nat)) => [oa (rSl (rI .u8)) x4.1 x4.2 r_3.1, oa (rI .u8) x21.1 x21.2 s20.2])) (Γb := (fun (q28 : (List Int)) (y29 : (Value × List Nat)) => [(3, pv x4.1), (4, pv y29.1)])) (Ωb := (fun (q28 : (List Int)) (y29 : (Value × List Nat)) => [oa (rSl (rI .u8)) x4.1 x4.2 r_3.1, oa (rI .u8) y29.1 y29.2 q28])) (kr := (fun a : Bool => some a)) (0, []) ((.slice none 0 0), []) (weak [1, 2] ⟨rfl, rfl, rfl, trivial⟩ ⟨rfl, rfl, trivial⟩) (fun s20 x21 => ?_) (fun q28 y29 => ?_)
  · unfold law39_JournalBack_l1
    refine ref_seq ?_
    refine ref_seq ?_
    refine ref_region ?_
    refine s_rd (r_move rfl) rfl ?_
    refine s_rd (r_move rfl) rfl ?_
    refine s_rd (r_olen Try.underlying25 rfl (j := 0) rfl) rfl ?_
    refine s_rd (r_lss rfl rfl) rfl ?_
    refine l_nil ?_
    refine n_then ?_
    refine ref_cond rfl (fun hb22 => ?_) (fun hb22 => ?_)
    · refine ref_skip ?_
      refine n_then ?_
      refine ref_seq ?_
      refine ref_block ?_
      refine ref_seq ?_
      refine ref_region ?_
      refine s_rd (r_move rfl) rfl ?_
      refine s_rd (r_move rfl) rfl ?_
      refine s_rd (r_move rfl) rfl ?_
      refine pull fun t23 h_t23 => ?_
      refine s_rd (r_oindex h_t23 Try.underlying25 el_27 rfl (j := 0) rfl rfl) rfl ?_
      refine s_rd (r_oload h_t23 el_27 rfl (j := 0) rfl) rfl ?_
      refine b_of (frzL [4, 20] (j := 1) rfl ⟨rfl, rfl, trivial⟩ hM) ?_
      refine pull fun t24 h_t24 => ?_
      refine s_st (s_call (ψ := fun (x25 : (Value × List Nat)) => tup [pv x25.1, iv .i64 t24.2]) (args := [.tmp 20, .tmp 24]) Try.call16 rfl (journal_Append_ok h_t24) ⟨arg rfl, arg rfl, trivial⟩ (fun _ _ _ _ h => h)) rfl (fun x25 => ?_)
      refine s_rd (r_move rfl) rfl ?_
      refine s_rd (r_extract rfl rfl) rfl ?_
      refine s_rd (r_extract rfl rfl) rfl ?_
      refine s_rd (r_assign rfl) rfl ?_
      refine s_rd (r_assign rfl) rfl ?_
      refine l_nil ?_
      refine n_then ?_
      refine ref_seq ?_
      refine ref_seq ?_
      refine ref_region ?_
      refine s_rd (r_move rfl) rfl ?_
      refine s_rd (r_neq rfl rfl) rfl ?_
      refine l_nil ?_
      refine n_then ?_
      refine ref_cond rfl (fun hb26 => ?_) (fun hb26 => ?_)
      · refine ref_seq ?_
        refine ref_region ?_
        refine s_rd (r_assign rfl) rfl ?_
        refine l_nil ?_
        refine n_then ?_
        refine ref_ret ?_
        refine r_then ?_
        refine r_block ?_
        refine r_then ?_
        refine retX ?_
        refine r_block ?_
        refine r_then ?_
        exact fin1 (.inl rfl) () [] rfl trivial rfl (rv_tmp rfl)
      · refine ref_skip ?_
        refine n_then ?_
        refine ref_region ?_
        refine s_rd (r_move rfl) rfl ?_
        refine s_rd (r_assign rfl) rfl ?_
        refine l_nil ?_
        refine n_block ?_
        refine n_then ?_
        refine ref_region ?_
        refine s_rd (r_move rfl) rfl ?_
        refine s_rd (r_add rfl rfl) rfl ?_
        refine s_rd (r_assign rfl) rfl ?_
        refine b_let (f := iv .i64) (t := 5) rfl fun i27 => ?_
        refine l_nil ?_
        exact goX x25 (weak [0, 2] ⟨rfl, rfl, rfl, trivial⟩ ⟨rfl, rfl, trivial⟩)
    · refine ref_exit ?_
      refine x_then ?_
      exact brkX x21 (weak [0, 1] ⟨rfl, rfl, trivial⟩ ⟨rfl, rfl, trivial⟩)
  · refine n_then ?_
    refine ref_seq ?_
    refine ref_region ?_
    refine s_rd (r_move rfl) rfl ?_
    refine b_of (frzL [4, 32] (j := 1) rfl ⟨rfl, rfl, trivial⟩ hM) ?_
    refine pull fun t30 h_t30 => ?_
    refine s_st (s_call (ψ := fun (x31 : (Value × List Nat)) => tup [pv x31.1, iv .i64 t30.2]) (args := [.tmp 32]) Try.call13 rfl (journal_Read_ok h_t30) ⟨arg rfl, trivial⟩ (fun _ _ _ _ h => h)) rfl (fun x31 => ?_)
    refine s_rd (r_move rfl) rfl ?_
    refine s_rd (r_extract rfl rfl) rfl ?_
    refine s_rd (r_extract rfl rfl) rfl ?_
    refine s_rd (r_assign rfl) rfl ?_
    refine s_rd (r_assign rfl) rfl ?_
    refine l_nil ?_
    refine n_then ?_
    refine ref_seq ?_
    refine ref_region ?_
    refine s_rd (r_move rfl) rfl ?_
    refine s_rd (r_move rfl) rfl ?_
    refine s_rd (r_len Try.underlying27 rfl) rfl ?_
    refine s_rd (r_eql rfl rfl) rfl ?_
    refine s_rd (r_move rfl) rfl ?_
    refine b_split (t := 40) rfl (fun _ => ?_) (fun _ => ?_)
    · refine s_on rfl rfl rfl ?_
      refine s_rd (r_move rfl) rfl ?_
      refine s_on rfl rfl rfl ?_
      refine s_rd (r_move rfl) rfl ?_
      refine s_on rfl rfl rfl ?_
      refine pull fun t32 h_t32 => ?_
      refine s_st (s_callB (ψ := fun (_ : Unit) => bv t32) (args := [.tmp 41, .tmp 42]) Try.call14 rfl (ref39_SameAll_ok h_t32) ⟨argO rfl (j := 2) rfl, argO rfl (j := 0) rfl, trivial⟩ (fun _ _ _ _ _ h => h)) rfl (fun _ => ?_)
      refine s_rd (r_pickT rfl rfl) rfl ?_
      refine s_rd (r_move rfl) rfl ?_
      refine b_split (t := 45) rfl (fun _ => ?_) (fun _ => ?_)
      · refine s_on rfl rfl rfl ?_
        refine pull fun t33 h_t33 => ?_
        refine s_st (s_call (ψ := fun (_ : Unit) => bv t33) (args := []) Try.call11 rfl (law39_awake_ok h_t33) trivial (fun _ _ _ _ h => h)) rfl (fun _ => ?_)
        refine s_rd (r_pickT rfl rfl) rfl ?_
        refine s_rd (r_assign rfl) rfl ?_
        refine l_nil ?_
        refine n_then ?_
        refine ref_ret ?_
        exact fin1 (.inl rfl) () [] rfl trivial rfl (rv_tmp rfl)
      · refine s_off rfl rfl rfl rfl rfl ?_
        refine s_rd (r_pickF rfl rfl) rfl ?_
        refine s_rd (r_assign rfl) rfl ?_
        refine l_nil ?_
        refine n_then ?_
        refine ref_ret ?_
        exact fin1 (.inl rfl) () [] rfl trivial rfl (rv_tmp rfl)
    · refine s_off rfl rfl rfl rfl rfl ?_
      refine s_off rfl rfl rfl rfl rfl ?_
      refine s_off rfl rfl rfl rfl rfl ?_
      refine s_rd (r_pickF rfl rfl) rfl ?_
      refine s_rd (r_move rfl) rfl ?_
      refine s_off rfl rfl rfl rfl rfl ?_
      refine s_rd (r_pickF rfl rfl) rfl ?_
      refine s_rd (r_assign rfl) rfl ?_
      refine l_nil ?_
      refine n_then ?_
      refine ref_ret ?_
      exact fin1 (.inl rfl) () [] rfl trivial rfl (rv_tmp rfl)

/-! deliberation/deliberationlaw39.JournalAnswers -/
noncomputable def law39_JournalAnswers_l1 (record_1 : (List Int)) (j43 : (List (List Int)) × Int) (s67 : Int) : Option (Sum ((Sum (Bool) (Unit))) (Int)) :=
  bif decide (s67 < j43.2) then
    Option.bind (idxM j43.1 s67) fun x70 =>
    Option.bind (journal_Read_m x70) fun t71 =>
    Option.bind (ref39_Read_m x70) fun t73 =>
    bif t71.2 != t73.2 then
      some (Sum.inl (Sum.inl false))
    else
      Option.bind (ref39_SameAll_m t71.1 t73.1) fun t75 =>
      bif !t75 then
        some (Sum.inl (Sum.inl false))
      else
        Option.bind (journal_Repair_m x70) fun t76 =>
        Option.bind (ref39_Repair_m x70) fun t78 =>
        Option.bind (ref39_Same_m t76 t78) fun t80 =>
        bif !t80 then
          some (Sum.inl (Sum.inl false))
        else
          Option.bind (journal_Append_m x70 record_1) fun t82 =>
          Option.bind (ref39_Append_m x70 record_1) fun t84 =>
          bif t82.2 != t84.2 then
            some (Sum.inl (Sum.inl false))
          else
            Option.bind (ref39_Same_m t82.1 t84.1) fun t86 =>
            bif !t86 then
              some (Sum.inl (Sum.inl false))
            else
              some (Sum.inr (iadd .i64 s67 1))
  else
    some (Sum.inl (Sum.inr ()))

noncomputable def law39_JournalAnswers_m (raw_0 : (List Int)) (record_1 : (List Int)) (index_2 : Int) (l_3 : (List Int)) : Option (Bool) :=
  bif decide ((raw_0.length : Int) > 9000) then
    Option.bind (law39_awake_m ) fun t1 =>
    some t1
  else
    bif decide ((record_1.length : Int) > 9000) then
      Option.bind (law39_awake_m ) fun t3 =>
      some t3
    else
      Option.bind (keep_New_m l_3) fun s4 =>
      Option.bind (law39_records_m s4) fun t6 =>
      Option.bind (law39_written_m t6.1) fun b8 =>
      Option.bind (appM 1 [] b8) fun c11 =>
      joinM (fun j18 : (List Int) × Int × (List Int) =>
          Option.bind (journal_Frame_m index_2 record_1) fun t21 =>
          Option.bind (ref39_Frame_m index_2 record_1) fun t23 =>
          bif t21.2 != t23.2 then
            some false
          else
            Option.bind (ref39_Same_m t21.1 t23.1) fun t25 =>
            bif !t25 then
              some false
            else
              Option.bind (journal_Sum_m raw_0) fun t26 =>
              Option.bind (ref39_Sum_m raw_0) fun t27 =>
              bif t26 != t27 then
                some false
              else
                joinM (fun j43 : (List (List Int)) × Int =>
                    Option.bind (loopC (law39_JournalAnswers_l1 record_1 j43) 0) (sumK (fun a : Bool => some a) fun q88 : Unit =>
                      Option.bind (law39_awake_m ) fun t90 =>
                      some t90)) fun k45 =>
                Option.bind (keep_Src_N_m (T_deliberationkeep_Src.mk j18.1 j18.2.1) (iadd .i64 (b8.length : Int) 1)) fun t29 =>
                Option.bind (slM b8 0 t29.1) fun t30 =>
                Option.bind (appM 1 [] b8) fun t32 =>
                Option.bind (appM 1 t32 raw_0) fun t34 =>
                k45 ([raw_0, b8, j18.2.2, t30, t34], ([raw_0, b8, j18.2.2, t30, t34].length : Int))) fun k20 =>
      bif decide ((c11.length : Int) > 0) then
        Option.bind (keep_Src_N_m t6.2 (c11.length : Int)) fun t14 =>
        Option.bind (idxM c11 t14.1) fun t15 =>
        Option.bind (keep_Src_N_m t14.2 256) fun t16 =>
        Option.bind (idxM c11 t14.1) fun t17 =>
        k20 (t16.2.L, t16.2.At, c11.set (Int.toNat t14.1) (ixor .u8 t15 (IntKind.wrap .u8 t16.1)))
      else
        k20 (t6.2.L, t6.2.At, c11)

theorem law39_JournalAnswers_ok {raw_0 : (List Int)} {record_1 : (List Int)} {index_2 : Int} {l_3 : (List Int)} {r : Bool} (hm : law39_JournalAnswers_m raw_0 record_1 index_2 l_3 = some r) :
    FnOk prog 6 [slv (rI .u8) raw_0, slv (rI .u8) record_1, iv .i64 index_2, slv (rI .i64) l_3] [] (fun (x : Unit) => [bv r]) (fun (x : Unit) => []) := by
  refine fn_ok (X := Unit) (fn := Try.f6) (N := 157) (m := law39_JournalAnswers_m raw_0 record_1 index_2 l_3) (res := fun r x => [bv r]) (Ω1 := fun r x => []) Try.func6 rfl rfl hm rfl (fun E hM => ?_)
  unfold law39_JournalAnswers_m
  refine ref_seq ?_
  refine ref_region ?_
  refine s_rd (r_assign rfl) rfl ?_
  refine l_nil ?_
  refine n_then ?_
  refine ref_seq ?_
  refine ref_seq ?_
  refine ref_region ?_
  refine s_rd (r_move rfl) rfl ?_
  refine s_rd (r_len Try.underlying27 rfl) rfl ?_
  refine s_rd (r_gtr rfl rfl) rfl ?_
  refine s_rd (r_move rfl) rfl ?_
  refine b_split (t := 29) rfl (fun _ => ?_) (fun _ => ?_)
  · refine s_off rfl rfl rfl rfl rfl ?_
    refine s_off rfl rfl rfl rfl rfl ?_
    refine s_off rfl rfl rfl rfl rfl ?_
    refine s_rd (r_pickT rfl rfl) rfl ?_
    refine l_nil ?_
    refine n_then ?_
    refine ref_condT rfl rfl ?_
    refine ref_seq ?_
    refine ref_region ?_
    refine pull fun t1 h_t1 => ?_
    refine s_st (s_call (ψ := fun (_ : Unit) => bv t1) (args := []) Try.call11 rfl (law39_awake_ok h_t1) trivial (fun _ _ _ _ h => h)) rfl (fun _ => ?_)
    refine s_rd (r_assign rfl) rfl ?_
    refine l_nil ?_
    refine n_then ?_
    refine ref_ret ?_
    refine r_then ?_
    exact fin1 (.inl rfl) () [] rfl trivial rfl (rv_tmp rfl)
  · refine s_on rfl rfl rfl ?_
    refine s_rd (r_move rfl) rfl ?_
    refine s_on rfl rfl rfl ?_
    refine s_rd (r_len Try.underlying27 rfl) rfl ?_
    refine s_on rfl rfl rfl ?_
    refine s_rd (r_gtr rfl rfl) rfl ?_
    refine s_rd (r_pickF rfl rfl) rfl ?_
    refine l_nil ?_
    refine n_then ?_
    refine ref_cond rfl (fun hb2 => ?_) (fun hb2 => ?_)
    · refine ref_seq ?_
      refine ref_region ?_
      refine pull fun t3 h_t3 => ?_
      refine s_st (s_call (ψ := fun (_ : Unit) => bv t3) (args := []) Try.call11 rfl (law39_awake_ok h_t3) trivial (fun _ _ _ _ h => h)) rfl (fun _ => ?_)
      refine s_rd (r_assign rfl) rfl ?_
      refine l_nil ?_
      refine n_then ?_
      refine ref_ret ?_
      refine r_then ?_
      exact fin1 (.inl rfl) () [] rfl trivial rfl (rv_tmp rfl)
    · refine ref_skip ?_
      refine n_then ?_
      refine ref_seq ?_
      refine ref_region ?_
      refine s_rd (r_move rfl) rfl ?_
      refine pull fun s4 h_s4 => ?_
      refine s_st (s_call (ψ := fun (x5 : Nat) => pv (ptr x5 0)) (args := [.tmp 35]) Try.call8 rfl (keep_New_ok h_s4) ⟨arg rfl, trivial⟩ (fun _ _ _ _ h => h)) rfl (fun x5 => ?_)
      refine s_rd (r_assign rfl) rfl ?_
      refine l_nil ?_
      refine n_then ?_
      refine ref_seq ?_
      refine ref_region ?_
      refine s_rd (r_move rfl) rfl ?_
      refine pull fun t6 h_t6 => ?_
      refine s_st (s_callO (js := [0]) (os := fun (x7 : (Value × List Nat)) => [oc x5 [slv (rI .i64) t6.2.L, iv .i64 t6.2.At]]) (ex := fun (x7 : (Value × List Nat)) => [oa (rSl (rI .u8)) x7.1 x7.2 t6.1]) (ψ := fun (x7 : (Value × List Nat)) => pv x7.1) (args := [.tmp 37]) Try.call9 rfl (law39_records_ok h_t6) ⟨rfl, trivial⟩ (fun _ => rfl) (fun _ => ⟨rfl, trivial⟩) ⟨arg rfl, trivial⟩ (fun _ _ _ _ h => h)) rfl (fun x7 => ?_)
      refine b_of (frzL [38] (j := 1) rfl ⟨rfl, trivial⟩ hM) ?_
      refine pull fun b8 h_b8 => ?_
      refine s_st (s_call (ψ := fun (x9 : (Value × List Nat)) => pv x9.1) (args := [.tmp 38]) Try.call10 rfl (law39_written_ok h_b8) ⟨arg rfl, trivial⟩ (fun _ _ _ _ h => h)) rfl (fun x9 => ?_)
      refine s_rd (r_assign rfl) rfl ?_
      refine l_nil ?_
      refine n_then ?_
      refine ref_seq ?_
      refine ref_region ?_
      refine s_st (s_bsliceO (xs := []) (ds := []) Try.underlying27 el_5 rfl (Nat.le_of_ble_eq_true rfl) trivial) rfl (fun o10 => ?_)
      refine s_rd (r_move rfl) rfl ?_
      refine b_of (frzL [39, 10, 41] (j := 2) rfl ⟨rfl, rfl, rfl, trivial⟩ hM) ?_
      refine pull fun c11 h_c11 => ?_
      refine s_st (s_append h_c11 Try.underlying27 el_5 rfl (j := 3) rfl rfl) rfl (fun o12 => ?_)
      refine s_rd (r_assign rfl) rfl ?_
      refine l_nil ?_
      refine n_then ?_
      refine ref_seq ?_
      refine ref_join (fun (j18 : (List Int) × Int × (List Int)) (x19 : Unit) => [(0, slv (rI .u8) raw_0), (1, slv (rI .u8) record_1), (2, iv .i64 index_2), (9, pv (ptr x5 0)), (10, slv (rI .u8) b8), (11, pv o12.1)]) (fun (j18 : (List Int) × Int × (List Int)) (x19 : Unit) => [oc x5 [slv (rI .i64) j18.1, iv .i64 j18.2.1], oa (rI .u8) o12.1 o12.2 j18.2.2]) (fun k20 hk20 => ?_) (fun j18 x19 => ?_)
      · refine ref_seq ?_
        refine ref_region ?_
        refine s_rd (r_move rfl) rfl ?_
        refine s_rd (r_olen Try.underlying27 rfl (j := 3) rfl) rfl ?_
        refine s_rd (r_gtr rfl rfl) rfl ?_
        refine l_nil ?_
        refine n_then ?_
        refine ref_cond rfl (fun hb13 => ?_) (fun hb13 => ?_)
        · refine ref_draw [0, 1, 2, 3, 5, 6, 7, 9, 10, 11] rfl (by kernel_rfl) (fun hok => ?_)
          refine a_rd (i := 0) hok rfl (by kernel_rfl) rfl (r_move rfl) rfl ?_
          refine a_rd (i := 1) hok rfl (by kernel_rfl) rfl (r_move rfl) rfl ?_
          refine a_rd (i := 2) hok rfl (by kernel_rfl) rfl (r_move rfl) rfl ?_
          refine a_rd (i := 3) hok rfl (by kernel_rfl) rfl (r_olen Try.underlying27 rfl (j := 3) rfl) rfl ?_
          refine a_rd (i := 7) hok rfl (by kernel_rfl) rfl (r_move rfl) rfl ?_
          refine pull fun t14 h_t14 => ?_
          refine a_next hok 4 [] (by kernel_rfl) ?_ trivial
          refine a_st (i := 4) hok rfl rfl (s_callO (js := [0]) (os := fun (_ : Unit) => [oc x5 [slv (rI .i64) t14.2.L, iv .i64 t14.2.At]]) (ex := fun (_ : Unit) => []) (ψ := fun (_ : Unit) => iv .i64 t14.1) (args := [.tmp 47, .tmp 49]) Try.call17 rfl (keep_Src_N_ok h_t14) ⟨rfl, trivial⟩ (fun _ => rfl) (fun _ => ⟨rfl, trivial⟩) ⟨arg rfl, arg rfl, trivial⟩ (fun _ _ _ _ h => h)) (by intro _ h; cases h; rfl) (fun _ => ⟨trivial, ⟨trivial, ⟨trivial, ⟨trivial, ⟨trivial, trivial⟩⟩⟩⟩⟩) (fun _ => ?_)
          refine pull fun t15 h_t15 => ?_
          refine a_rd (i := 5) hok rfl (by kernel_rfl) rfl (r_oindex h_t15 Try.underlying27 el_5 rfl (j := 3) rfl rfl) rfl ?_
          refine a_rd (i := 6) hok rfl (by kernel_rfl) rfl (r_oload h_t15 el_5 rfl (j := 3) rfl) rfl ?_
          refine pull fun t16 h_t16 => ?_
          refine a_next hok 8 [] (by kernel_rfl) ?_ trivial
          refine a_st (i := 8) hok rfl rfl (s_callO (js := [0]) (os := fun (_ : Unit) => [oc x5 [slv (rI .i64) t16.2.L, iv .i64 t16.2.At]]) (ex := fun (_ : Unit) => []) (ψ := fun (_ : Unit) => iv .i64 t16.1) (args := [.tmp 53, .const (.int .i64 (256))]) Try.call17 rfl (keep_Src_N_ok h_t16) ⟨rfl, trivial⟩ (fun _ => rfl) (fun _ => ⟨rfl, trivial⟩) ⟨arg rfl, arg rfl, trivial⟩ (fun _ _ _ _ h => h)) (by intro _ h; cases h; rfl) (fun _ => ⟨⟨⟨rfl, rfl⟩, trivial⟩, ⟨trivial, ⟨trivial, ⟨trivial, ⟨trivial, ⟨trivial, ⟨trivial, trivial⟩⟩⟩⟩⟩⟩⟩) (fun _ => ?_)
          refine a_rd (i := 9) hok rfl (by kernel_rfl) rfl (r_conv (k' := .u8) rfl rfl rfl) rfl ?_
          refine a_rd (i := 10) hok rfl (by kernel_rfl) rfl (r_xor rfl rfl) rfl ?_
          refine pull fun t17 h_t17 => ?_
          refine a_rd (i := 11) hok rfl (by kernel_rfl) rfl (r_oindex h_t17 Try.underlying27 el_5 rfl (j := 3) rfl rfl) rfl ?_
          refine a_next hok 12 [] (by kernel_rfl) ?_ trivial
          refine a_st (i := 12) hok rfl rfl (s_ostore (u := ixor .u8 t15 (IntKind.wrap .u8 t16.1)) h_t17 el_5 rfl (j := 3) rfl (part_at rfl iv_at)) (by intro _ h; cases h) (fun _ => ⟨trivial, ⟨trivial, ⟨trivial, ⟨trivial, ⟨trivial, ⟨trivial, ⟨trivial, ⟨trivial, ⟨trivial, ⟨trivial, trivial⟩⟩⟩⟩⟩⟩⟩⟩⟩⟩) (fun _ => ?_)
          refine a_fin hok (by kernel_rfl) ?_
          exact b_to (hk20 (t16.2.L, t16.2.At, c11.set (Int.toNat t14.1) (ixor .u8 t15 (IntKind.wrap .u8 t16.1))) ()) (weak [0, 3] ⟨rfl, rfl, rfl, rfl, rfl, rfl, trivial⟩ ⟨rfl, rfl, trivial⟩)
        · refine ref_skip ?_
          exact b_to (hk20 (t6.2.L, t6.2.At, c11) ()) (weak [0, 3] ⟨rfl, rfl, rfl, rfl, rfl, rfl, trivial⟩ ⟨rfl, rfl, trivial⟩)
      · refine n_then ?_
        refine ref_seq ?_
        refine ref_region ?_
        refine s_rd (r_move rfl) rfl ?_
        refine s_rd (r_move rfl) rfl ?_
        refine pull fun t21 h_t21 => ?_
        refine s_st (s_call (ψ := fun (x22 : (Value × List Nat)) => tup [pv x22.1, iv .i64 t21.2]) (args := [.tmp 59, .tmp 60]) Try.call18 rfl (journal_Frame_ok h_t21) ⟨arg rfl, arg rfl, trivial⟩ (fun _ _ _ _ h => h)) rfl (fun x22 => ?_)
        refine s_rd (r_move rfl) rfl ?_
        refine s_rd (r_extract rfl rfl) rfl ?_
        refine s_rd (r_extract rfl rfl) rfl ?_
        refine s_rd (r_assign rfl) rfl ?_
        refine s_rd (r_assign rfl) rfl ?_
        refine l_nil ?_
        refine n_then ?_
        refine ref_seq ?_
        refine ref_region ?_
        refine s_rd (r_move rfl) rfl ?_
        refine s_rd (r_move rfl) rfl ?_
        refine pull fun t23 h_t23 => ?_
        refine s_st (s_call (ψ := fun (x24 : (Value × List Nat)) => tup [pv x24.1, iv .i64 t23.2]) (args := [.tmp 65, .tmp 66]) Try.call15 rfl (ref39_Frame_ok h_t23) ⟨arg rfl, arg rfl, trivial⟩ (fun _ _ _ _ h => h)) rfl (fun x24 => ?_)
        refine s_rd (r_move rfl) rfl ?_
        refine s_rd (r_extract rfl rfl) rfl ?_
        refine s_rd (r_extract rfl rfl) rfl ?_
        refine s_rd (r_assign rfl) rfl ?_
        refine s_rd (r_assign rfl) rfl ?_
        refine l_nil ?_
        refine n_then ?_
        refine ref_seq ?_
        refine ref_seq ?_
        refine ref_region ?_
        refine s_rd (r_move rfl) rfl ?_
        refine s_rd (r_move rfl) rfl ?_
        refine s_rd (r_neq rfl rfl) rfl ?_
        refine s_rd (r_move rfl) rfl ?_
        refine b_split (t := 73) rfl (fun _ => ?_) (fun _ => ?_)
        · refine s_off rfl rfl rfl rfl rfl ?_
          refine s_off rfl rfl rfl rfl rfl ?_
          refine s_off rfl rfl rfl rfl rfl ?_
          refine s_off rfl rfl rfl rfl rfl ?_
          refine s_rd (r_pickT rfl rfl) rfl ?_
          refine s_rd (r_move rfl) rfl ?_
          refine s_off rfl rfl rfl rfl rfl ?_
          refine s_off rfl rfl rfl rfl rfl ?_
          refine s_off rfl rfl rfl rfl rfl ?_
          refine s_off rfl rfl rfl rfl rfl ?_
          refine s_off rfl rfl rfl rfl rfl ?_
          refine s_rd (r_pickT rfl rfl) rfl ?_
          refine l_nil ?_
          refine n_then ?_
          refine ref_condT rfl rfl ?_
          refine ref_seq ?_
          refine ref_region ?_
          refine s_rd (r_assign rfl) rfl ?_
          refine l_nil ?_
          refine n_then ?_
          refine ref_ret ?_
          refine r_then ?_
          exact fin1 (.inl rfl) () [] rfl trivial rfl (rv_tmp rfl)
        · refine s_on rfl rfl rfl ?_
          refine s_rd (r_move rfl) rfl ?_
          refine s_on rfl rfl rfl ?_
          refine s_rd (r_move rfl) rfl ?_
          refine s_on rfl rfl rfl ?_
          refine pull fun t25 h_t25 => ?_
          refine s_st (s_callB (ψ := fun (_ : Unit) => bv t25) (args := [.tmp 74, .tmp 75]) Try.call19 rfl (ref39_Same_ok h_t25) ⟨argO rfl (j := 2) rfl, argO rfl (j := 3) rfl, trivial⟩ (fun _ _ _ _ _ h => h)) rfl (fun _ => ?_)
          refine s_on rfl rfl rfl ?_
          refine s_rd (r_not rfl) rfl ?_
          refine s_rd (r_pickF rfl rfl) rfl ?_
          refine s_rd (r_move rfl) rfl ?_
          refine b_split (t := 79) rfl (fun _ => ?_) (fun _ => ?_)
          · refine s_off rfl rfl rfl rfl rfl ?_
            refine s_off rfl rfl rfl rfl rfl ?_
            refine s_off rfl rfl rfl rfl rfl ?_
            refine s_off rfl rfl rfl rfl rfl ?_
            refine s_off rfl rfl rfl rfl rfl ?_
            refine s_rd (r_pickT rfl rfl) rfl ?_
            refine l_nil ?_
            refine n_then ?_
            refine ref_condT rfl rfl ?_
            refine ref_seq ?_
            refine ref_region ?_
            refine s_rd (r_assign rfl) rfl ?_
            refine l_nil ?_
            refine n_then ?_
            refine ref_ret ?_
            refine r_then ?_
            exact fin1 (.inl rfl) () [] rfl trivial rfl (rv_tmp rfl)
          · refine s_on rfl rfl rfl ?_
            refine s_rd (r_move rfl) rfl ?_
            refine s_on rfl rfl rfl ?_
            refine pull fun t26 h_t26 => ?_
            refine s_st (s_call (ψ := fun (_ : Unit) => iv .i64 t26) (args := [.tmp 80]) Try.call20 rfl (journal_Sum_ok h_t26) ⟨arg rfl, trivial⟩ (fun _ _ _ _ h => h)) rfl (fun _ => ?_)
            refine s_on rfl rfl rfl ?_
            refine s_rd (r_move rfl) rfl ?_
            refine s_on rfl rfl rfl ?_
            refine pull fun t27 h_t27 => ?_
            refine s_st (s_call (ψ := fun (_ : Unit) => iv .i64 t27) (args := [.tmp 82]) Try.call21 rfl (ref39_Sum_ok h_t27) ⟨arg rfl, trivial⟩ (fun _ _ _ _ h => h)) rfl (fun _ => ?_)
            refine s_on rfl rfl rfl ?_
            refine s_rd (r_neq rfl rfl) rfl ?_
            refine s_rd (r_pickF rfl rfl) rfl ?_
            refine l_nil ?_
            refine n_then ?_
            refine ref_cond rfl (fun hb28 => ?_) (fun hb28 => ?_)
            · refine ref_seq ?_
              refine ref_region ?_
              refine s_rd (r_assign rfl) rfl ?_
              refine l_nil ?_
              refine n_then ?_
              refine ref_ret ?_
              refine r_then ?_
              exact fin1 (.inl rfl) () [] rfl trivial rfl (rv_tmp rfl)
            · refine ref_skip ?_
              refine n_then ?_
              refine ref_seq ?_
              refine ref_seq ?_
              refine ref_join (fun (j43 : (List (List Int)) × Int) (x44 : Unit) => [(1, slv (rI .u8) record_1), (101, slv (rSl (rI .u8)) j43.1), (102, iv .i64 j43.2), (103, iv .i64 0)]) (fun (j43 : (List (List Int)) × Int) (x44 : Unit) => []) (fun k45 hk45 => ?_) (fun j43 x44 => ?_)
              · refine ref_draw [0, 1, 2, 3, 4, 5, 6, 7, 9, 11, 13, 16, 17] rfl (by kernel_rfl) (fun hok => ?_)
                refine a_rd (i := 0) hok rfl (by kernel_rfl) rfl (r_move rfl) rfl ?_
                refine a_rd (i := 1) hok rfl (by kernel_rfl) rfl (r_move rfl) rfl ?_
                refine a_rd (i := 2) hok rfl (by kernel_rfl) rfl (r_move rfl) rfl ?_
                refine a_rd (i := 3) hok rfl (by kernel_rfl) rfl (r_move rfl) rfl ?_
                refine a_rd (i := 4) hok rfl (by kernel_rfl) rfl (r_move rfl) rfl ?_
                refine a_rd (i := 5) hok rfl (by kernel_rfl) rfl (r_move rfl) rfl ?_
                refine a_rd (i := 6) hok rfl (by kernel_rfl) rfl (r_len Try.underlying27 rfl) rfl ?_
                refine a_rd (i := 7) hok rfl (by kernel_rfl) rfl (r_add rfl rfl) rfl ?_
                refine a_rd (i := 11) hok rfl (by kernel_rfl) rfl (r_move rfl) rfl ?_
                refine a_rd (i := 13) hok rfl (by kernel_rfl) rfl (r_move rfl) rfl ?_
                refine a_rd (i := 17) hok rfl (by kernel_rfl) rfl (r_move rfl) rfl ?_
                refine a_next hok 8 [10] (by kernel_rfl) ?_ ⟨?_, trivial⟩
                · refine pull fun t29 h_t29 => ?_
                  refine a_st (i := 8) hok rfl rfl (s_callO (js := [0]) (os := fun (_ : Unit) => [oc x5 [slv (rI .i64) t29.2.L, iv .i64 t29.2.At]]) (ex := fun (_ : Unit) => []) (ψ := fun (_ : Unit) => iv .i64 t29.1) (args := [.tmp 90, .tmp 93]) Try.call17 rfl (keep_Src_N_ok h_t29) ⟨rfl, trivial⟩ (fun _ => rfl) (fun _ => ⟨rfl, trivial⟩) ⟨arg rfl, arg rfl, trivial⟩ (fun _ _ _ _ h => h)) (by intro _ h; cases h; rfl) (fun _ => ⟨trivial, ⟨trivial, ⟨trivial, ⟨trivial, ⟨trivial, ⟨trivial, ⟨trivial, ⟨trivial, ⟨trivial, ⟨trivial, ⟨trivial, trivial⟩⟩⟩⟩⟩⟩⟩⟩⟩⟩⟩) (fun _ => ?_)
                  refine pull fun t30 h_t30 => ?_
                  refine a_rd (i := 9) hok rfl (by kernel_rfl) rfl (r_slice h_t30 Try.underlying27 el_5 rfl .dft (.of rfl)) rfl ?_
                  refine a_next hok 10 [] (by kernel_rfl) ?_ trivial
                  refine a_st (i := 10) hok rfl rfl (s_bsliceO (xs := []) (ds := []) Try.underlying27 el_5 rfl (Nat.le_of_ble_eq_true rfl) trivial) (by intro _ h; cases h; rfl) (fun _ => ⟨trivial, ⟨trivial, ⟨trivial, ⟨trivial, ⟨trivial, ⟨trivial, ⟨trivial, ⟨trivial, ⟨trivial, ⟨trivial, ⟨trivial, ⟨trivial, trivial⟩⟩⟩⟩⟩⟩⟩⟩⟩⟩⟩⟩) (fun o31 => ?_)
                  refine pull fun t32 h_t32 => ?_
                  refine a_next hok 12 [] (by kernel_rfl) ?_ trivial
                  refine a_st (i := 12) hok rfl rfl (s_append h_t32 Try.underlying27 el_5 rfl (j := 4) rfl rfl) (by intro _ h; cases h; rfl) (fun _ => ⟨trivial, ⟨trivial, ⟨trivial, ⟨trivial, ⟨trivial, ⟨trivial, ⟨trivial, ⟨trivial, ⟨trivial, ⟨trivial, ⟨trivial, ⟨trivial, trivial⟩⟩⟩⟩⟩⟩⟩⟩⟩⟩⟩⟩) (fun o33 => ?_)
                  refine pull fun t34 h_t34 => ?_
                  refine a_next hok 14 [] (by kernel_rfl) ?_ trivial
                  refine a_st (i := 14) hok rfl rfl (s_append h_t34 Try.underlying27 el_5 rfl (j := 4) rfl rfl) (by intro _ h; cases h; rfl) (fun _ => ⟨trivial, ⟨trivial, ⟨trivial, ⟨trivial, ⟨trivial, ⟨trivial, ⟨trivial, ⟨trivial, ⟨trivial, ⟨trivial, ⟨trivial, ⟨trivial, trivial⟩⟩⟩⟩⟩⟩⟩⟩⟩⟩⟩⟩) (fun o35 => ?_)
                  refine a_of (frzL [11, 88] (j := 1) rfl ⟨rfl, rfl, trivial⟩ hM) (dead_keeps (j := 1) rfl) ?_
                  refine a_of (frzL [100] (j := 4) rfl ⟨rfl, trivial⟩ hM) (dead_keeps (j := 4) rfl) ?_
                  refine a_next hok 15 [] (by kernel_rfl) ?_ trivial
                  refine a_st (i := 15) hok rfl rfl (s_bslice (xs := [.tmp 86, .tmp 87, .tmp 88, .tmp 95, .tmp 100]) (ds := [raw_0, b8, j18.2.2, t30, t34]) Try.underlying25 el_27 rfl (Nat.le_of_ble_eq_true rfl) ⟨(part_at rfl slv_at), ⟨(part_at rfl slv_at), ⟨(part_at rfl slv_at), ⟨(part_at rfl slv_at), ⟨(part_at rfl slv_at), trivial⟩⟩⟩⟩⟩) (by intro _ h; cases h; rfl) (fun _ => ⟨trivial, ⟨trivial, ⟨trivial, ⟨trivial, ⟨trivial, ⟨trivial, ⟨trivial, ⟨trivial, ⟨trivial, ⟨trivial, ⟨trivial, ⟨trivial, trivial⟩⟩⟩⟩⟩⟩⟩⟩⟩⟩⟩⟩) (fun _ => ?_)
                  refine a_rd (i := 16) hok rfl (by kernel_rfl) rfl (r_len Try.underlying25 rfl) rfl ?_
                  refine a_fin hok (by kernel_rfl) ?_
                  exact b_to (hk45 ([raw_0, b8, j18.2.2, t30, t34], ([raw_0, b8, j18.2.2, t30, t34].length : Int)) ()) (weak [] ⟨rfl, rfl, rfl, rfl, trivial⟩ trivial)
                · refine a_st (i := 10) hok rfl rfl (s_bsliceO (xs := []) (ds := []) Try.underlying27 el_5 rfl (Nat.le_of_ble_eq_true rfl) trivial) (by intro _ h; cases h; rfl) (fun _ => ⟨trivial, ⟨trivial, ⟨trivial, ⟨trivial, ⟨trivial, ⟨trivial, ⟨trivial, ⟨trivial, ⟨trivial, ⟨trivial, ⟨trivial, trivial⟩⟩⟩⟩⟩⟩⟩⟩⟩⟩⟩) (fun o36 => ?_)
                  refine pull fun t37 h_t37 => ?_
                  refine a_next hok 8 [] (by kernel_rfl) ?_ trivial
                  refine a_st (i := 8) hok rfl rfl (s_callO (js := [0]) (os := fun (_ : Unit) => [oc x5 [slv (rI .i64) t37.2.L, iv .i64 t37.2.At]]) (ex := fun (_ : Unit) => []) (ψ := fun (_ : Unit) => iv .i64 t37.1) (args := [.tmp 90, .tmp 93]) Try.call17 rfl (keep_Src_N_ok h_t37) ⟨rfl, trivial⟩ (fun _ => rfl) (fun _ => ⟨rfl, trivial⟩) ⟨arg rfl, arg rfl, trivial⟩ (fun _ _ _ _ h => h)) (by intro _ h; cases h; rfl) (fun _ => ⟨trivial, ⟨trivial, ⟨trivial, ⟨trivial, ⟨trivial, ⟨trivial, ⟨trivial, ⟨trivial, ⟨trivial, ⟨trivial, ⟨trivial, trivial⟩⟩⟩⟩⟩⟩⟩⟩⟩⟩⟩) (fun _ => ?_)
                  refine pull fun t38 h_t38 => ?_
                  refine a_rd (i := 9) hok rfl (by kernel_rfl) rfl (r_slice h_t38 Try.underlying27 el_5 rfl .dft (.of rfl)) rfl ?_
                  refine pull fun t39 h_t39 => ?_
                  refine a_next hok 12 [] (by kernel_rfl) ?_ trivial
                  refine a_st (i := 12) hok rfl rfl (s_append h_t39 Try.underlying27 el_5 rfl (j := 4) rfl rfl) (by intro _ h; cases h; rfl) (fun _ => ⟨trivial, ⟨trivial, ⟨trivial, ⟨trivial, ⟨trivial, ⟨trivial, ⟨trivial, ⟨trivial, ⟨trivial, ⟨trivial, ⟨trivial, ⟨trivial, trivial⟩⟩⟩⟩⟩⟩⟩⟩⟩⟩⟩⟩) (fun o40 => ?_)
                  refine pull fun t41 h_t41 => ?_
                  refine a_next hok 14 [] (by kernel_rfl) ?_ trivial
                  refine a_st (i := 14) hok rfl rfl (s_append h_t41 Try.underlying27 el_5 rfl (j := 4) rfl rfl) (by intro _ h; cases h; rfl) (fun _ => ⟨trivial, ⟨trivial, ⟨trivial, ⟨trivial, ⟨trivial, ⟨trivial, ⟨trivial, ⟨trivial, ⟨trivial, ⟨trivial, ⟨trivial, ⟨trivial, trivial⟩⟩⟩⟩⟩⟩⟩⟩⟩⟩⟩⟩) (fun o42 => ?_)
                  refine a_of (frzL [11, 88] (j := 1) rfl ⟨rfl, rfl, trivial⟩ hM) (dead_keeps (j := 1) rfl) ?_
                  refine a_of (frzL [100] (j := 4) rfl ⟨rfl, trivial⟩ hM) (dead_keeps (j := 4) rfl) ?_
                  refine a_next hok 15 [] (by kernel_rfl) ?_ trivial
                  refine a_st (i := 15) hok rfl rfl (s_bslice (xs := [.tmp 86, .tmp 87, .tmp 88, .tmp 95, .tmp 100]) (ds := [raw_0, b8, j18.2.2, t38, t41]) Try.underlying25 el_27 rfl (Nat.le_of_ble_eq_true rfl) ⟨(part_at rfl slv_at), ⟨(part_at rfl slv_at), ⟨(part_at rfl slv_at), ⟨(part_at rfl slv_at), ⟨(part_at rfl slv_at), trivial⟩⟩⟩⟩⟩) (by intro _ h; cases h; rfl) (fun _ => ⟨trivial, ⟨trivial, ⟨trivial, ⟨trivial, ⟨trivial, ⟨trivial, ⟨trivial, ⟨trivial, ⟨trivial, ⟨trivial, ⟨trivial, ⟨trivial, trivial⟩⟩⟩⟩⟩⟩⟩⟩⟩⟩⟩⟩) (fun _ => ?_)
                  refine a_rd (i := 16) hok rfl (by kernel_rfl) rfl (r_len Try.underlying25 rfl) rfl ?_
                  refine a_fin hok (by kernel_rfl) ?_
                  exact b_to (hk45 ([raw_0, b8, j18.2.2, t38, t41], ([raw_0, b8, j18.2.2, t38, t41].length : Int)) ()) (weak [] ⟨rfl, rfl, rfl, rfl, trivial⟩ trivial)
              · refine n_then ?_
                refine ref_loopX (f := (law39_JournalAnswers_l1 record_1 j43)) (Γl := (fun (s67 : Int) (x68 : Unit) => [(1, slv (rI .u8) record_1), (101, slv (rSl (rI .u8)) j43.1), (102, iv .i64 j43.2), (103, iv .i64 s67)])) (Ωl := (fun (s67 : Int) (x68 : Unit) => [])) (Γb := (fun (q88 : Unit) (y89 : Unit) => [])) (Ωb := (fun (q88 : Unit) (y89 : Unit) => [])) (kr := (fun a : Bool => some a)) 0 () (weak [] ⟨rfl, rfl, rfl, rfl, trivial⟩ trivial) (fun s67 x68 => ?_) (fun q88 y89 => ?_)
                · unfold law39_JournalAnswers_l1
                  refine ref_seq ?_
                  refine ref_region ?_
                  refine s_rd (r_lss rfl rfl) rfl ?_
                  refine l_nil ?_
                  refine n_then ?_
                  refine ref_seq ?_
                  refine ref_cond rfl (fun hb69 => ?_) (fun hb69 => ?_)
                  · refine ref_skip ?_
                    refine n_then ?_
                    refine ref_seq ?_
                    refine ref_block ?_
                    refine ref_seq ?_
                    refine ref_region ?_
                    refine pull fun x70 h_x70 => ?_
                    refine s_rd (r_index h_x70 Try.underlying25 el_27 rfl rfl) rfl ?_
                    refine s_rd (r_load el_27 rfl) rfl ?_
                    refine s_rd (r_assign rfl) rfl ?_
                    refine l_nil ?_
                    refine n_then ?_
                    refine ref_seq ?_
                    refine ref_region ?_
                    refine s_rd (r_move rfl) rfl ?_
                    refine pull fun t71 h_t71 => ?_
                    refine s_st (s_call (ψ := fun (x72 : (Value × List Nat)) => tup [pv x72.1, iv .i64 t71.2]) (args := [.tmp 108]) Try.call13 rfl (journal_Read_ok h_t71) ⟨arg rfl, trivial⟩ (fun _ _ _ _ h => h)) rfl (fun x72 => ?_)
                    refine s_rd (r_move rfl) rfl ?_
                    refine s_rd (r_extract rfl rfl) rfl ?_
                    refine s_rd (r_extract rfl rfl) rfl ?_
                    refine s_rd (r_assign rfl) rfl ?_
                    refine s_rd (r_assign rfl) rfl ?_
                    refine l_nil ?_
                    refine n_then ?_
                    refine ref_seq ?_
                    refine ref_region ?_
                    refine s_rd (r_move rfl) rfl ?_
                    refine pull fun t73 h_t73 => ?_
                    refine s_st (s_call (ψ := fun (x74 : (Value × List Nat)) => tup [pv x74.1, iv .i64 t73.2]) (args := [.tmp 113]) Try.call22 rfl (ref39_Read_ok h_t73) ⟨arg rfl, trivial⟩ (fun _ _ _ _ h => h)) rfl (fun x74 => ?_)
                    refine s_rd (r_move rfl) rfl ?_
                    refine s_rd (r_extract rfl rfl) rfl ?_
                    refine s_rd (r_extract rfl rfl) rfl ?_
                    refine s_rd (r_assign rfl) rfl ?_
                    refine s_rd (r_assign rfl) rfl ?_
                    refine l_nil ?_
                    refine n_then ?_
                    refine ref_seq ?_
                    refine ref_seq ?_
                    refine ref_region ?_
                    refine s_rd (r_move rfl) rfl ?_
                    refine s_rd (r_move rfl) rfl ?_
                    refine s_rd (r_neq rfl rfl) rfl ?_
                    refine s_rd (r_move rfl) rfl ?_
                    refine b_split (t := 120) rfl (fun _ => ?_) (fun _ => ?_)
                    · refine s_off rfl rfl rfl rfl rfl ?_
                      refine s_off rfl rfl rfl rfl rfl ?_
                      refine s_off rfl rfl rfl rfl rfl ?_
                      refine s_off rfl rfl rfl rfl rfl ?_
                      refine s_rd (r_pickT rfl rfl) rfl ?_
                      refine s_rd (r_move rfl) rfl ?_
                      refine s_off rfl rfl rfl rfl rfl ?_
                      refine s_off rfl rfl rfl rfl rfl ?_
                      refine s_off rfl rfl rfl rfl rfl ?_
                      refine s_off rfl rfl rfl rfl rfl ?_
                      refine s_off rfl rfl rfl rfl rfl ?_
                      refine s_off rfl rfl rfl rfl rfl ?_
                      refine s_rd (r_pickT rfl rfl) rfl ?_
                      refine l_nil ?_
                      refine n_then ?_
                      refine ref_condT rfl rfl ?_
                      refine ref_seq ?_
                      refine ref_region ?_
                      refine s_rd (r_assign rfl) rfl ?_
                      refine l_nil ?_
                      refine n_then ?_
                      refine ref_ret ?_
                      refine r_then ?_
                      refine r_block ?_
                      refine r_then ?_
                      refine retX ?_
                      refine r_block ?_
                      refine r_then ?_
                      exact fin1 (.inl rfl) () [] rfl trivial rfl (rv_tmp rfl)
                    · refine s_on rfl rfl rfl ?_
                      refine s_rd (r_move rfl) rfl ?_
                      refine s_on rfl rfl rfl ?_
                      refine s_rd (r_move rfl) rfl ?_
                      refine s_on rfl rfl rfl ?_
                      refine pull fun t75 h_t75 => ?_
                      refine s_st (s_callB (ψ := fun (_ : Unit) => bv t75) (args := [.tmp 121, .tmp 122]) Try.call14 rfl (ref39_SameAll_ok h_t75) ⟨argO rfl (j := 0) rfl, argO rfl (j := 1) rfl, trivial⟩ (fun _ _ _ _ _ h => h)) rfl (fun _ => ?_)
                      refine s_on rfl rfl rfl ?_
                      refine s_rd (r_not rfl) rfl ?_
                      refine s_rd (r_pickF rfl rfl) rfl ?_
                      refine s_rd (r_move rfl) rfl ?_
                      refine b_split (t := 126) rfl (fun _ => ?_) (fun _ => ?_)
                      · refine s_off rfl rfl rfl rfl rfl ?_
                        refine s_off rfl rfl rfl rfl rfl ?_
                        refine s_off rfl rfl rfl rfl rfl ?_
                        refine s_off rfl rfl rfl rfl rfl ?_
                        refine s_off rfl rfl rfl rfl rfl ?_
                        refine s_off rfl rfl rfl rfl rfl ?_
                        refine s_rd (r_pickT rfl rfl) rfl ?_
                        refine l_nil ?_
                        refine n_then ?_
                        refine ref_condT rfl rfl ?_
                        refine ref_seq ?_
                        refine ref_region ?_
                        refine s_rd (r_assign rfl) rfl ?_
                        refine l_nil ?_
                        refine n_then ?_
                        refine ref_ret ?_
                        refine r_then ?_
                        refine r_block ?_
                        refine r_then ?_
                        refine retX ?_
                        refine r_block ?_
                        refine r_then ?_
                        exact fin1 (.inl rfl) () [] rfl trivial rfl (rv_tmp rfl)
                      · refine s_on rfl rfl rfl ?_
                        refine s_rd (r_move rfl) rfl ?_
                        refine s_on rfl rfl rfl ?_
                        refine pull fun t76 h_t76 => ?_
                        refine s_st (s_call (ψ := fun (x77 : (Value × List Nat)) => pv x77.1) (args := [.tmp 127]) Try.call23 rfl (journal_Repair_ok h_t76) ⟨arg rfl, trivial⟩ (fun _ _ _ _ h => h)) rfl (fun x77 => ?_)
                        refine s_on rfl rfl rfl ?_
                        refine s_rd (r_move rfl) rfl ?_
                        refine s_on rfl rfl rfl ?_
                        refine pull fun t78 h_t78 => ?_
                        refine s_st (s_call (ψ := fun (x79 : (Value × List Nat)) => pv x79.1) (args := [.tmp 129]) Try.call24 rfl (ref39_Repair_ok h_t78) ⟨arg rfl, trivial⟩ (fun _ _ _ _ h => h)) rfl (fun x79 => ?_)
                        refine s_on rfl rfl rfl ?_
                        refine pull fun t80 h_t80 => ?_
                        refine s_st (s_callB (ψ := fun (_ : Unit) => bv t80) (args := [.tmp 128, .tmp 130]) Try.call19 rfl (ref39_Same_ok h_t80) ⟨argO rfl (j := 2) rfl, argO rfl (j := 3) rfl, trivial⟩ (fun _ _ _ _ _ h => h)) rfl (fun _ => ?_)
                        refine s_on rfl rfl rfl ?_
                        refine s_rd (r_not rfl) rfl ?_
                        refine s_rd (r_pickF rfl rfl) rfl ?_
                        refine l_nil ?_
                        refine n_then ?_
                        refine ref_cond rfl (fun hb81 => ?_) (fun hb81 => ?_)
                        · refine ref_seq ?_
                          refine ref_region ?_
                          refine s_rd (r_assign rfl) rfl ?_
                          refine l_nil ?_
                          refine n_then ?_
                          refine ref_ret ?_
                          refine r_then ?_
                          refine r_block ?_
                          refine r_then ?_
                          refine retX ?_
                          refine r_block ?_
                          refine r_then ?_
                          exact fin1 (.inl rfl) () [] rfl trivial rfl (rv_tmp rfl)
                        · refine ref_skip ?_
                          refine n_then ?_
                          refine ref_seq ?_
                          refine ref_region ?_
                          refine s_rd (r_move rfl) rfl ?_
                          refine s_rd (r_move rfl) rfl ?_
                          refine pull fun t82 h_t82 => ?_
                          refine s_st (s_call (ψ := fun (x83 : (Value × List Nat)) => tup [pv x83.1, iv .i64 t82.2]) (args := [.tmp 135, .tmp 136]) Try.call16 rfl (journal_Append_ok h_t82) ⟨arg rfl, arg rfl, trivial⟩ (fun _ _ _ _ h => h)) rfl (fun x83 => ?_)
                          refine s_rd (r_move rfl) rfl ?_
                          refine s_rd (r_extract rfl rfl) rfl ?_
                          refine s_rd (r_extract rfl rfl) rfl ?_
                          refine s_rd (r_assign rfl) rfl ?_
                          refine s_rd (r_assign rfl) rfl ?_
                          refine l_nil ?_
                          refine n_then ?_
                          refine ref_seq ?_
                          refine ref_region ?_
                          refine s_rd (r_move rfl) rfl ?_
                          refine s_rd (r_move rfl) rfl ?_
                          refine pull fun t84 h_t84 => ?_
                          refine s_st (s_call (ψ := fun (x85 : (Value × List Nat)) => tup [pv x85.1, iv .i64 t84.2]) (args := [.tmp 141, .tmp 142]) Try.call25 rfl (ref39_Append_ok h_t84) ⟨arg rfl, arg rfl, trivial⟩ (fun _ _ _ _ h => h)) rfl (fun x85 => ?_)
                          refine s_rd (r_move rfl) rfl ?_
                          refine s_rd (r_extract rfl rfl) rfl ?_
                          refine s_rd (r_extract rfl rfl) rfl ?_
                          refine s_rd (r_assign rfl) rfl ?_
                          refine s_rd (r_assign rfl) rfl ?_
                          refine l_nil ?_
                          refine n_then ?_
                          refine ref_seq ?_
                          refine ref_region ?_
                          refine s_rd (r_move rfl) rfl ?_
                          refine s_rd (r_move rfl) rfl ?_
                          refine s_rd (r_neq rfl rfl) rfl ?_
                          refine s_rd (r_move rfl) rfl ?_
                          refine b_split (t := 149) rfl (fun _ => ?_) (fun _ => ?_)
                          · refine s_off rfl rfl rfl rfl rfl ?_
                            refine s_off rfl rfl rfl rfl rfl ?_
                            refine s_off rfl rfl rfl rfl rfl ?_
                            refine s_off rfl rfl rfl rfl rfl ?_
                            refine s_rd (r_pickT rfl rfl) rfl ?_
                            refine l_nil ?_
                            refine n_then ?_
                            refine ref_condT rfl rfl ?_
                            refine ref_seq ?_
                            refine ref_region ?_
                            refine s_rd (r_assign rfl) rfl ?_
                            refine l_nil ?_
                            refine n_then ?_
                            refine ref_ret ?_
                            refine r_block ?_
                            refine r_then ?_
                            refine retX ?_
                            refine r_block ?_
                            refine r_then ?_
                            exact fin1 (.inl rfl) () [] rfl trivial rfl (rv_tmp rfl)
                          · refine s_on rfl rfl rfl ?_
                            refine s_rd (r_move rfl) rfl ?_
                            refine s_on rfl rfl rfl ?_
                            refine s_rd (r_move rfl) rfl ?_
                            refine s_on rfl rfl rfl ?_
                            refine pull fun t86 h_t86 => ?_
                            refine s_st (s_callB (ψ := fun (_ : Unit) => bv t86) (args := [.tmp 150, .tmp 151]) Try.call19 rfl (ref39_Same_ok h_t86) ⟨argO rfl (j := 4) rfl, argO rfl (j := 5) rfl, trivial⟩ (fun _ _ _ _ _ h => h)) rfl (fun _ => ?_)
                            refine s_on rfl rfl rfl ?_
                            refine s_rd (r_not rfl) rfl ?_
                            refine s_rd (r_pickF rfl rfl) rfl ?_
                            refine l_nil ?_
                            refine n_then ?_
                            refine ref_cond rfl (fun hb87 => ?_) (fun hb87 => ?_)
                            · refine ref_seq ?_
                              refine ref_region ?_
                              refine s_rd (r_assign rfl) rfl ?_
                              refine l_nil ?_
                              refine n_then ?_
                              refine ref_ret ?_
                              refine r_block ?_
                              refine r_then ?_
                              refine retX ?_
                              refine r_block ?_
                              refine r_then ?_
                              exact fin1 (.inl rfl) () [] rfl trivial rfl (rv_tmp rfl)
                            · refine ref_skip ?_
                              refine n_block ?_
                              refine n_then ?_
                              refine ref_region ?_
                              refine s_rd (r_add rfl rfl) rfl ?_
                              refine s_rd (r_move rfl) rfl ?_
                              refine l_nil ?_
                              exact goX () (weak [] ⟨rfl, rfl, rfl, rfl, trivial⟩ trivial)
                  · refine ref_exit ?_
                    refine x_then ?_
                    exact brkX () (weak [] trivial trivial)
                · refine n_then ?_
                  refine ref_seq ?_
                  refine ref_region ?_
                  refine pull fun t90 h_t90 => ?_
                  refine s_st (s_call (ψ := fun (_ : Unit) => bv t90) (args := []) Try.call11 rfl (law39_awake_ok h_t90) trivial (fun _ _ _ _ h => h)) rfl (fun _ => ?_)
                  refine s_rd (r_assign rfl) rfl ?_
                  refine l_nil ?_
                  refine n_then ?_
                  refine ref_ret ?_
                  exact fin1 (.inl rfl) () [] rfl trivial rfl (rv_tmp rfl)

/-! deliberation/deliberationlaw39.JournalTorn -/
noncomputable def law39_JournalTorn_l1 (r_3 : List (List Int) × T_deliberationkeep_Src) (k7 : Int) (s14 : Int × Int) : Option (Sum (Int × Int) (Int × Int)) :=
  bif decide (s14.1 < (r_3.1.length : Int)) then
    Option.bind (idxM r_3.1 s14.1) fun t16 =>
    bif decide ((iadd .i64 (iadd .i64 s14.2 8) (t16.length : Int)) ≤ k7) then
      Option.bind (idxM r_3.1 s14.1) fun t18 =>
      letM (iadd .i64 s14.2 (iadd .i64 8 (t18.length : Int))) fun at_19 =>
      letM (iadd .i64 s14.1 1) fun whole20 =>
      some (Sum.inr (whole20, at_19))
    else
      some (Sum.inl (s14.1, s14.2))
  else
    some (Sum.inl (s14.1, s14.2))

noncomputable def law39_JournalTorn_m (l_0 : (List Int)) (cut_1 : Int) : Option (Bool) :=
  Option.bind (keep_New_m l_0) fun s1 =>
  Option.bind (law39_records_m s1) fun r_3 =>
  Option.bind (law39_written_m r_3.1) fun b5 =>
  Option.bind (keep_Mod_m cut_1 (iadd .i64 (b5.length : Int) 1)) fun k7 =>
  Option.bind (loopC (law39_JournalTorn_l1 r_3 k7) (0, 0)) fun q21 : Int × Int =>
  Option.bind (slM b5 0 k7) fun t23 =>
  Option.bind (journal_Read_m t23) fun t24 =>
  Option.bind (slM b5 0 k7) fun t26 =>
  Option.bind (journal_Repair_m t26) fun t27 =>
  Option.bind (journal_Append_m t27 [7]) fun t29 =>
  Option.bind (journal_Read_m t29.1) fun t31 =>
  bif t24.2 == q21.2 then
    Option.bind (slM r_3.1 0 q21.1) fun t33 =>
    Option.bind (ref39_SameAll_m t24.1 t33) fun t34 =>
    bif t34 then
      bif t29.2 == 0 then
        bif t31.2 == (t29.1.length : Int) then
          bif (t31.1.length : Int) == (iadd .i64 q21.1 1) then
            Option.bind (idxM t31.1 q21.1) fun t35 =>
            Option.bind (ref39_Same_m t35 [7]) fun t36 =>
            bif t36 then
              Option.bind (law39_awake_m ) fun t37 =>
              some t37
            else
              some false
          else
            some false
        else
          some false
      else
        some false
    else
      some false
  else
    some false

theorem law39_JournalTorn_ok {l_0 : (List Int)} {cut_1 : Int} {r : Bool} (hm : law39_JournalTorn_m l_0 cut_1 = some r) :
    FnOk prog 7 [slv (rI .i64) l_0, iv .i64 cut_1] [] (fun (x : Unit) => [bv r]) (fun (x : Unit) => []) := by
  refine fn_ok (X := Unit) (fn := Try.f7) (N := 113) (m := law39_JournalTorn_m l_0 cut_1) (res := fun r x => [bv r]) (Ω1 := fun r x => []) Try.func7 rfl rfl hm rfl (fun E hM => ?_)
  unfold law39_JournalTorn_m
  refine ref_seq ?_
  refine ref_region ?_
  refine s_rd (r_assign rfl) rfl ?_
  refine l_nil ?_
  refine n_then ?_
  refine ref_seq ?_
  refine ref_region ?_
  refine s_rd (r_move rfl) rfl ?_
  refine pull fun s1 h_s1 => ?_
  refine s_st (s_call (ψ := fun (x2 : Nat) => pv (ptr x2 0)) (args := [.tmp 17]) Try.call8 rfl (keep_New_ok h_s1) ⟨arg rfl, trivial⟩ (fun _ _ _ _ h => h)) rfl (fun x2 => ?_)
  refine s_rd (r_assign rfl) rfl ?_
  refine l_nil ?_
  refine n_then ?_
  refine ref_seq ?_
  refine ref_region ?_
  refine s_rd (r_move rfl) rfl ?_
  refine pull fun r_3 h_r_3 => ?_
  refine s_st (s_callO (js := [0]) (os := fun (x4 : (Value × List Nat)) => [oc x2 [slv (rI .i64) r_3.2.L, iv .i64 r_3.2.At]]) (ex := fun (x4 : (Value × List Nat)) => [oa (rSl (rI .u8)) x4.1 x4.2 r_3.1]) (ψ := fun (x4 : (Value × List Nat)) => pv x4.1) (args := [.tmp 19]) Try.call9 rfl (law39_records_ok h_r_3) ⟨rfl, trivial⟩ (fun _ => rfl) (fun _ => ⟨rfl, trivial⟩) ⟨arg rfl, trivial⟩ (fun _ _ _ _ h => h)) rfl (fun x4 => ?_)
  refine s_rd (r_assign rfl) rfl ?_
  refine l_nil ?_
  refine n_then ?_
  refine ref_seq ?_
  refine ref_region ?_
  refine s_rd (r_move rfl) rfl ?_
  refine b_of (frzL [20, 6, 21] (j := 1) rfl ⟨rfl, rfl, rfl, trivial⟩ hM) ?_
  refine pull fun b5 h_b5 => ?_
  refine s_st (s_call (ψ := fun (x6 : (Value × List Nat)) => pv x6.1) (args := [.tmp 21]) Try.call10 rfl (law39_written_ok h_b5) ⟨arg rfl, trivial⟩ (fun _ _ _ _ h => h)) rfl (fun x6 => ?_)
  refine s_rd (r_assign rfl) rfl ?_
  refine l_nil ?_
  refine n_then ?_
  refine ref_seq ?_
  refine ref_region ?_
  refine s_rd (r_move rfl) rfl ?_
  refine s_rd (r_move rfl) rfl ?_
  refine s_rd (r_olen Try.underlying27 rfl (j := 2) rfl) rfl ?_
  refine s_rd (r_add rfl rfl) rfl ?_
  refine pull fun k7 h_k7 => ?_
  refine s_st (s_call (ψ := fun (_ : Unit) => iv .i64 k7) (args := [.tmp 23, .tmp 26]) Try.call12 rfl (keep_Mod_ok h_k7) ⟨arg rfl, arg rfl, trivial⟩ (fun _ _ _ _ h => h)) rfl (fun _ => ?_)
  refine s_rd (r_assign rfl) rfl ?_
  refine l_nil ?_
  refine n_then ?_
  refine ref_seq ?_
  refine ref_region ?_
  refine s_rd (r_assign rfl) rfl ?_
  refine s_rd (r_assign rfl) rfl ?_
  refine l_nil ?_
  refine n_then ?_
  refine ref_seq ?_
  refine ref_loopB (f := (law39_JournalTorn_l1 r_3 k7)) (Γl := (fun (s14 : Int × Int) (x15 : Unit) => [(6, slv (rSl (rI .u8)) r_3.1), (7, pv x6.1), (8, iv .i64 k7), (9, iv .i64 s14.1), (10, iv .i64 s14.2)])) (Ωl := (fun (s14 : Int × Int) (x15 : Unit) => [oa (rI .u8) x6.1 x6.2 b5])) (Γb := (fun (q21 : Int × Int) (y22 : Unit) => [(6, slv (rSl (rI .u8)) r_3.1), (7, pv x6.1), (8, iv .i64 k7), (9, iv .i64 q21.1), (10, iv .i64 q21.2)])) (Ωb := (fun (q21 : Int × Int) (y22 : Unit) => [oa (rI .u8) x6.1 x6.2 b5])) (0, 0) () (weak [2] ⟨rfl, rfl, rfl, rfl, rfl, trivial⟩ ⟨rfl, trivial⟩) (fun s14 x15 => ?_) (fun q21 y22 => ?_)
  · unfold law39_JournalTorn_l1
    refine ref_seq ?_
    refine ref_seq ?_
    refine ref_region ?_
    refine s_rd (r_move rfl) rfl ?_
    refine s_rd (r_move rfl) rfl ?_
    refine s_rd (r_len Try.underlying25 rfl) rfl ?_
    refine s_rd (r_lss rfl rfl) rfl ?_
    refine s_rd (r_move rfl) rfl ?_
    refine b_split (t := 32) rfl (fun _ => ?_) (fun _ => ?_)
    · refine s_on rfl rfl rfl ?_
      refine s_rd (r_move rfl) rfl ?_
      refine s_on rfl rfl rfl ?_
      refine s_rd (r_add rfl rfl) rfl ?_
      refine s_on rfl rfl rfl ?_
      refine s_rd (r_move rfl) rfl ?_
      refine s_on rfl rfl rfl ?_
      refine s_rd (r_move rfl) rfl ?_
      refine s_on rfl rfl rfl ?_
      refine pull fun t16 h_t16 => ?_
      refine s_rd (r_index h_t16 Try.underlying25 el_27 rfl rfl) rfl ?_
      refine s_on rfl rfl rfl ?_
      refine s_rd (r_load el_27 rfl) rfl ?_
      refine s_on rfl rfl rfl ?_
      refine s_rd (r_len Try.underlying27 rfl) rfl ?_
      refine s_on rfl rfl rfl ?_
      refine s_rd (r_add rfl rfl) rfl ?_
      refine s_on rfl rfl rfl ?_
      refine s_rd (r_move rfl) rfl ?_
      refine s_on rfl rfl rfl ?_
      refine s_rd (r_leq rfl rfl) rfl ?_
      refine s_rd (r_pickT rfl rfl) rfl ?_
      refine l_nil ?_
      refine n_then ?_
      refine ref_cond rfl (fun hb17 => ?_) (fun hb17 => ?_)
      · refine ref_skip ?_
        refine n_then ?_
        refine ref_block ?_
        refine ref_seq ?_
        refine ref_region ?_
        refine s_rd (r_move rfl) rfl ?_
        refine s_rd (r_move rfl) rfl ?_
        refine s_rd (r_move rfl) rfl ?_
        refine pull fun t18 h_t18 => ?_
        refine s_rd (r_index h_t18 Try.underlying25 el_27 rfl rfl) rfl ?_
        refine s_rd (r_load el_27 rfl) rfl ?_
        refine s_rd (r_len Try.underlying27 rfl) rfl ?_
        refine s_rd (r_add rfl rfl) rfl ?_
        refine s_rd (r_add rfl rfl) rfl ?_
        refine s_rd (r_assign rfl) rfl ?_
        refine b_let (f := iv .i64) (t := 10) rfl fun at_19 => ?_
        refine l_nil ?_
        refine n_then ?_
        refine ref_region ?_
        refine s_rd (r_move rfl) rfl ?_
        refine s_rd (r_add rfl rfl) rfl ?_
        refine s_rd (r_assign rfl) rfl ?_
        refine b_let (f := iv .i64) (t := 9) rfl fun whole20 => ?_
        refine l_nil ?_
        refine n_block ?_
        exact goB () (weak [0] ⟨rfl, rfl, rfl, rfl, rfl, trivial⟩ ⟨rfl, trivial⟩)
      · refine ref_exit ?_
        refine x_then ?_
        exact brkB () (weak [0] ⟨rfl, rfl, rfl, rfl, rfl, trivial⟩ ⟨rfl, trivial⟩)
    · refine s_off rfl rfl rfl rfl rfl ?_
      refine s_off rfl rfl rfl rfl rfl ?_
      refine s_off rfl rfl rfl rfl rfl ?_
      refine s_off rfl rfl rfl rfl rfl ?_
      refine s_off rfl rfl rfl rfl rfl ?_
      refine s_off rfl rfl rfl rfl rfl ?_
      refine s_off rfl rfl rfl rfl rfl ?_
      refine s_off rfl rfl rfl rfl rfl ?_
      refine s_off rfl rfl rfl rfl rfl ?_
      refine s_off rfl rfl rfl rfl rfl ?_
      refine s_rd (r_pickF rfl rfl) rfl ?_
      refine l_nil ?_
      refine n_then ?_
      refine ref_condF rfl rfl ?_
      refine ref_exit ?_
      refine x_then ?_
      exact brkB () (weak [0] ⟨rfl, rfl, rfl, rfl, rfl, trivial⟩ ⟨rfl, trivial⟩)
  · refine n_then ?_
    refine ref_seq ?_
    refine ref_region ?_
    refine s_rd (r_move rfl) rfl ?_
    refine s_rd (r_move rfl) rfl ?_
    refine b_of (frzL [7, 55] (j := 0) rfl ⟨rfl, rfl, trivial⟩ hM) ?_
    refine pull fun t23 h_t23 => ?_
    refine s_rd (r_slice h_t23 Try.underlying27 el_5 rfl .dft (.of rfl)) rfl ?_
    refine pull fun t24 h_t24 => ?_
    refine s_st (s_call (ψ := fun (x25 : (Value × List Nat)) => tup [pv x25.1, iv .i64 t24.2]) (args := [.tmp 57]) Try.call13 rfl (journal_Read_ok h_t24) ⟨arg rfl, trivial⟩ (fun _ _ _ _ h => h)) rfl (fun x25 => ?_)
    refine s_rd (r_move rfl) rfl ?_
    refine s_rd (r_extract rfl rfl) rfl ?_
    refine s_rd (r_extract rfl rfl) rfl ?_
    refine s_rd (r_assign rfl) rfl ?_
    refine s_rd (r_assign rfl) rfl ?_
    refine l_nil ?_
    refine n_then ?_
    refine ref_seq ?_
    refine ref_region ?_
    refine s_rd (r_move rfl) rfl ?_
    refine s_rd (r_move rfl) rfl ?_
    refine pull fun t26 h_t26 => ?_
    refine s_rd (r_slice h_t26 Try.underlying27 el_5 rfl .dft (.of rfl)) rfl ?_
    refine pull fun t27 h_t27 => ?_
    refine s_st (s_call (ψ := fun (x28 : (Value × List Nat)) => pv x28.1) (args := [.tmp 64]) Try.call23 rfl (journal_Repair_ok h_t27) ⟨arg rfl, trivial⟩ (fun _ _ _ _ h => h)) rfl (fun x28 => ?_)
    refine s_st (s_bslice (xs := [.const (.int .u8 (7))]) (ds := [7]) Try.underlying27 el_5 rfl (Nat.le_of_ble_eq_true rfl) ⟨(part_at rfl iv_at), trivial⟩) rfl (fun _ => ?_)
    refine b_of (frzL [65] (j := 2) rfl ⟨rfl, trivial⟩ hM) ?_
    refine pull fun t29 h_t29 => ?_
    refine s_st (s_call (ψ := fun (x30 : (Value × List Nat)) => tup [pv x30.1, iv .i64 t29.2]) (args := [.tmp 65, .tmp 66]) Try.call16 rfl (journal_Append_ok h_t29) ⟨arg rfl, arg rfl, trivial⟩ (fun _ _ _ _ h => h)) rfl (fun x30 => ?_)
    refine s_rd (r_move rfl) rfl ?_
    refine s_rd (r_extract rfl rfl) rfl ?_
    refine s_rd (r_extract rfl rfl) rfl ?_
    refine s_rd (r_assign rfl) rfl ?_
    refine s_rd (r_assign rfl) rfl ?_
    refine l_nil ?_
    refine n_then ?_
    refine ref_seq ?_
    refine ref_region ?_
    refine s_rd (r_move rfl) rfl ?_
    refine b_of (frzL [68, 13, 71] (j := 3) rfl ⟨rfl, rfl, rfl, trivial⟩ hM) ?_
    refine pull fun t31 h_t31 => ?_
    refine s_st (s_call (ψ := fun (x32 : (Value × List Nat)) => tup [pv x32.1, iv .i64 t31.2]) (args := [.tmp 71]) Try.call13 rfl (journal_Read_ok h_t31) ⟨arg rfl, trivial⟩ (fun _ _ _ _ h => h)) rfl (fun x32 => ?_)
    refine s_rd (r_move rfl) rfl ?_
    refine s_rd (r_extract rfl rfl) rfl ?_
    refine s_rd (r_extract rfl rfl) rfl ?_
    refine s_rd (r_assign rfl) rfl ?_
    refine s_rd (r_assign rfl) rfl ?_
    refine l_nil ?_
    refine n_then ?_
    refine ref_seq ?_
    refine ref_region ?_
    refine s_rd (r_move rfl) rfl ?_
    refine s_rd (r_move rfl) rfl ?_
    refine s_rd (r_eql rfl rfl) rfl ?_
    refine s_rd (r_move rfl) rfl ?_
    refine b_split (t := 78) rfl (fun _ => ?_) (fun _ => ?_)
    · refine s_on rfl rfl rfl ?_
      refine s_rd (r_move rfl) rfl ?_
      refine s_on rfl rfl rfl ?_
      refine s_rd (r_move rfl) rfl ?_
      refine s_on rfl rfl rfl ?_
      refine s_rd (r_move rfl) rfl ?_
      refine s_on rfl rfl rfl ?_
      refine pull fun t33 h_t33 => ?_
      refine s_rd (r_slice h_t33 Try.underlying25 el_27 rfl .dft (.of rfl)) rfl ?_
      refine s_on rfl rfl rfl ?_
      refine pull fun t34 h_t34 => ?_
      refine s_st (s_callB (ψ := fun (_ : Unit) => bv t34) (args := [.tmp 79, .tmp 82]) Try.call14 rfl (ref39_SameAll_ok h_t34) ⟨argO rfl (j := 1) rfl, argB rfl, trivial⟩ (fun _ _ _ _ _ h => h)) rfl (fun _ => ?_)
      refine s_rd (r_pickT rfl rfl) rfl ?_
      refine s_rd (r_move rfl) rfl ?_
      refine b_split (t := 85) rfl (fun _ => ?_) (fun _ => ?_)
      · refine s_on rfl rfl rfl ?_
        refine s_rd (r_move rfl) rfl ?_
        refine s_on rfl rfl rfl ?_
        refine s_rd (r_eql rfl rfl) rfl ?_
        refine s_rd (r_pickT rfl rfl) rfl ?_
        refine s_rd (r_move rfl) rfl ?_
        refine b_split (t := 89) rfl (fun _ => ?_) (fun _ => ?_)
        · refine s_on rfl rfl rfl ?_
          refine s_rd (r_move rfl) rfl ?_
          refine s_on rfl rfl rfl ?_
          refine s_rd (r_move rfl) rfl ?_
          refine s_on rfl rfl rfl ?_
          refine s_rd (r_len Try.underlying27 rfl) rfl ?_
          refine s_on rfl rfl rfl ?_
          refine s_rd (r_eql rfl rfl) rfl ?_
          refine s_rd (r_pickT rfl rfl) rfl ?_
          refine s_rd (r_move rfl) rfl ?_
          refine b_split (t := 95) rfl (fun _ => ?_) (fun _ => ?_)
          · refine s_on rfl rfl rfl ?_
            refine s_rd (r_move rfl) rfl ?_
            refine s_on rfl rfl rfl ?_
            refine s_rd (r_olen Try.underlying25 rfl (j := 4) rfl) rfl ?_
            refine s_on rfl rfl rfl ?_
            refine s_rd (r_move rfl) rfl ?_
            refine s_on rfl rfl rfl ?_
            refine s_rd (r_add rfl rfl) rfl ?_
            refine s_on rfl rfl rfl ?_
            refine s_rd (r_eql rfl rfl) rfl ?_
            refine s_rd (r_pickT rfl rfl) rfl ?_
            refine s_rd (r_move rfl) rfl ?_
            refine b_split (t := 102) rfl (fun _ => ?_) (fun _ => ?_)
            · refine s_on rfl rfl rfl ?_
              refine s_rd (r_move rfl) rfl ?_
              refine s_on rfl rfl rfl ?_
              refine s_rd (r_move rfl) rfl ?_
              refine s_on rfl rfl rfl ?_
              refine pull fun t35 h_t35 => ?_
              refine s_rd (r_oindex h_t35 Try.underlying25 el_27 rfl (j := 4) rfl rfl) rfl ?_
              refine s_on rfl rfl rfl ?_
              refine s_rd (r_oload h_t35 el_27 rfl (j := 4) rfl) rfl ?_
              refine s_on rfl rfl rfl ?_
              refine s_st (s_bslice (xs := [.const (.int .u8 (7))]) (ds := [7]) Try.underlying27 el_5 rfl (Nat.le_of_ble_eq_true rfl) ⟨(part_at rfl iv_at), trivial⟩) rfl (fun _ => ?_)
              refine s_on rfl rfl rfl ?_
              refine pull fun t36 h_t36 => ?_
              refine s_st (s_call (ψ := fun (_ : Unit) => bv t36) (args := [.tmp 106, .tmp 107]) Try.call19 rfl (ref39_Same_ok h_t36) ⟨arg rfl, arg rfl, trivial⟩ (fun _ _ _ _ h => h)) rfl (fun _ => ?_)
              refine s_rd (r_pickT rfl rfl) rfl ?_
              refine s_rd (r_move rfl) rfl ?_
              refine b_split (t := 110) rfl (fun _ => ?_) (fun _ => ?_)
              · refine s_on rfl rfl rfl ?_
                refine pull fun t37 h_t37 => ?_
                refine s_st (s_call (ψ := fun (_ : Unit) => bv t37) (args := []) Try.call11 rfl (law39_awake_ok h_t37) trivial (fun _ _ _ _ h => h)) rfl (fun _ => ?_)
                refine s_rd (r_pickT rfl rfl) rfl ?_
                refine s_rd (r_assign rfl) rfl ?_
                refine l_nil ?_
                refine n_then ?_
                refine ref_ret ?_
                exact fin1 (.inl rfl) () [] rfl trivial rfl (rv_tmp rfl)
              · refine s_off rfl rfl rfl rfl rfl ?_
                refine s_rd (r_pickF rfl rfl) rfl ?_
                refine s_rd (r_assign rfl) rfl ?_
                refine l_nil ?_
                refine n_then ?_
                refine ref_ret ?_
                exact fin1 (.inl rfl) () [] rfl trivial rfl (rv_tmp rfl)
            · refine s_off rfl rfl rfl rfl rfl ?_
              refine s_off rfl rfl rfl rfl rfl ?_
              refine s_off rfl rfl rfl rfl rfl ?_
              refine s_off rfl rfl rfl rfl rfl ?_
              refine s_off rfl rfl rfl rfl rfl ?_
              refine s_off rfl rfl rfl rfl rfl ?_
              refine s_rd (r_pickF rfl rfl) rfl ?_
              refine s_rd (r_move rfl) rfl ?_
              refine s_off rfl rfl rfl rfl rfl ?_
              refine s_rd (r_pickF rfl rfl) rfl ?_
              refine s_rd (r_assign rfl) rfl ?_
              refine l_nil ?_
              refine n_then ?_
              refine ref_ret ?_
              exact fin1 (.inl rfl) () [] rfl trivial rfl (rv_tmp rfl)
          · refine s_off rfl rfl rfl rfl rfl ?_
            refine s_off rfl rfl rfl rfl rfl ?_
            refine s_off rfl rfl rfl rfl rfl ?_
            refine s_off rfl rfl rfl rfl rfl ?_
            refine s_off rfl rfl rfl rfl rfl ?_
            refine s_rd (r_pickF rfl rfl) rfl ?_
            refine s_rd (r_move rfl) rfl ?_
            refine s_off rfl rfl rfl rfl rfl ?_
            refine s_off rfl rfl rfl rfl rfl ?_
            refine s_off rfl rfl rfl rfl rfl ?_
            refine s_off rfl rfl rfl rfl rfl ?_
            refine s_off rfl rfl rfl rfl rfl ?_
            refine s_off rfl rfl rfl rfl rfl ?_
            refine s_rd (r_pickF rfl rfl) rfl ?_
            refine s_rd (r_move rfl) rfl ?_
            refine s_off rfl rfl rfl rfl rfl ?_
            refine s_rd (r_pickF rfl rfl) rfl ?_
            refine s_rd (r_assign rfl) rfl ?_
            refine l_nil ?_
            refine n_then ?_
            refine ref_ret ?_
            exact fin1 (.inl rfl) () [] rfl trivial rfl (rv_tmp rfl)
        · refine s_off rfl rfl rfl rfl rfl ?_
          refine s_off rfl rfl rfl rfl rfl ?_
          refine s_off rfl rfl rfl rfl rfl ?_
          refine s_off rfl rfl rfl rfl rfl ?_
          refine s_rd (r_pickF rfl rfl) rfl ?_
          refine s_rd (r_move rfl) rfl ?_
          refine s_off rfl rfl rfl rfl rfl ?_
          refine s_off rfl rfl rfl rfl rfl ?_
          refine s_off rfl rfl rfl rfl rfl ?_
          refine s_off rfl rfl rfl rfl rfl ?_
          refine s_off rfl rfl rfl rfl rfl ?_
          refine s_rd (r_pickF rfl rfl) rfl ?_
          refine s_rd (r_move rfl) rfl ?_
          refine s_off rfl rfl rfl rfl rfl ?_
          refine s_off rfl rfl rfl rfl rfl ?_
          refine s_off rfl rfl rfl rfl rfl ?_
          refine s_off rfl rfl rfl rfl rfl ?_
          refine s_off rfl rfl rfl rfl rfl ?_
          refine s_off rfl rfl rfl rfl rfl ?_
          refine s_rd (r_pickF rfl rfl) rfl ?_
          refine s_rd (r_move rfl) rfl ?_
          refine s_off rfl rfl rfl rfl rfl ?_
          refine s_rd (r_pickF rfl rfl) rfl ?_
          refine s_rd (r_assign rfl) rfl ?_
          refine l_nil ?_
          refine n_then ?_
          refine ref_ret ?_
          exact fin1 (.inl rfl) () [] rfl trivial rfl (rv_tmp rfl)
      · refine s_off rfl rfl rfl rfl rfl ?_
        refine s_off rfl rfl rfl rfl rfl ?_
        refine s_rd (r_pickF rfl rfl) rfl ?_
        refine s_rd (r_move rfl) rfl ?_
        refine s_off rfl rfl rfl rfl rfl ?_
        refine s_off rfl rfl rfl rfl rfl ?_
        refine s_off rfl rfl rfl rfl rfl ?_
        refine s_off rfl rfl rfl rfl rfl ?_
        refine s_rd (r_pickF rfl rfl) rfl ?_
        refine s_rd (r_move rfl) rfl ?_
        refine s_off rfl rfl rfl rfl rfl ?_
        refine s_off rfl rfl rfl rfl rfl ?_
        refine s_off rfl rfl rfl rfl rfl ?_
        refine s_off rfl rfl rfl rfl rfl ?_
        refine s_off rfl rfl rfl rfl rfl ?_
        refine s_rd (r_pickF rfl rfl) rfl ?_
        refine s_rd (r_move rfl) rfl ?_
        refine s_off rfl rfl rfl rfl rfl ?_
        refine s_off rfl rfl rfl rfl rfl ?_
        refine s_off rfl rfl rfl rfl rfl ?_
        refine s_off rfl rfl rfl rfl rfl ?_
        refine s_off rfl rfl rfl rfl rfl ?_
        refine s_off rfl rfl rfl rfl rfl ?_
        refine s_rd (r_pickF rfl rfl) rfl ?_
        refine s_rd (r_move rfl) rfl ?_
        refine s_off rfl rfl rfl rfl rfl ?_
        refine s_rd (r_pickF rfl rfl) rfl ?_
        refine s_rd (r_assign rfl) rfl ?_
        refine l_nil ?_
        refine n_then ?_
        refine ref_ret ?_
        exact fin1 (.inl rfl) () [] rfl trivial rfl (rv_tmp rfl)
    · refine s_off rfl rfl rfl rfl rfl ?_
      refine s_off rfl rfl rfl rfl rfl ?_
      refine s_off rfl rfl rfl rfl rfl ?_
      refine s_off rfl rfl rfl rfl rfl ?_
      refine s_off rfl rfl rfl rfl rfl ?_
      refine s_rd (r_pickF rfl rfl) rfl ?_
      refine s_rd (r_move rfl) rfl ?_
      refine s_off rfl rfl rfl rfl rfl ?_
      refine s_off rfl rfl rfl rfl rfl ?_
      refine s_rd (r_pickF rfl rfl) rfl ?_
      refine s_rd (r_move rfl) rfl ?_
      refine s_off rfl rfl rfl rfl rfl ?_
      refine s_off rfl rfl rfl rfl rfl ?_
      refine s_off rfl rfl rfl rfl rfl ?_
      refine s_off rfl rfl rfl rfl rfl ?_
      refine s_rd (r_pickF rfl rfl) rfl ?_
      refine s_rd (r_move rfl) rfl ?_
      refine s_off rfl rfl rfl rfl rfl ?_
      refine s_off rfl rfl rfl rfl rfl ?_
      refine s_off rfl rfl rfl rfl rfl ?_
      refine s_off rfl rfl rfl rfl rfl ?_
      refine s_off rfl rfl rfl rfl rfl ?_
      refine s_rd (r_pickF rfl rfl) rfl ?_
      refine s_rd (r_move rfl) rfl ?_
      refine s_off rfl rfl rfl rfl rfl ?_
      refine s_off rfl rfl rfl rfl rfl ?_
      refine s_off rfl rfl rfl rfl rfl ?_
      refine s_off rfl rfl rfl rfl rfl ?_
      refine s_off rfl rfl rfl rfl rfl ?_
      refine s_off rfl rfl rfl rfl rfl ?_
      refine s_rd (r_pickF rfl rfl) rfl ?_
      refine s_rd (r_move rfl) rfl ?_
      refine s_off rfl rfl rfl rfl rfl ?_
      refine s_rd (r_pickF rfl rfl) rfl ?_
      refine s_rd (r_assign rfl) rfl ?_
      refine l_nil ?_
      refine n_then ?_
      refine ref_ret ?_
      exact fin1 (.inl rfl) () [] rfl trivial rfl (rv_tmp rfl)
end Go.Dc
