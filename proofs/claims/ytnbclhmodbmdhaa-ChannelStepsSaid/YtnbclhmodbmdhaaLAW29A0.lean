/- Part LAW29.A0 of a proof: lemmas. -/
import Derived.Test.YtnbclhmodbmdhaaLAW29Types
import Derived.Test.YtnbclhmodbmdhaaProg
set_option linter.unusedVariables false
set_option maxRecDepth 100000
set_option maxHeartbeats 4000000
namespace Go.Dc
open Go.Proofs
open Go.Proofs.Try (prog)

/-! slices.Clone[[]int,int] -/
def slices_Clone_int_int_m (d_0 : List Int) : Option (List Int) := appM 8 [] d_0

theorem slices_Clone_int_int_ok {d_0 r : List Int} (hm : slices_Clone_int_int_m d_0 = some r) : FnOk prog 24 [slv (rI .i64) d_0] [] (fun (x : Value × List Nat) => [pv x.1]) (fun (x : Value × List Nat) => [oa (rI .i64) x.1 x.2 r]) := by
  have hm' : appM 8 [] d_0 = some r := hm
  have hr : r = d_0 := by have := (appM_some hm').2; simpa using this
  subst hr
  refine fn_ok (X := Value × List Nat) (fn := Try.f24) (N := 8) (m := some ()) (r := ()) (res := fun _ x => [pv x.1]) (Ω1 := fun _ x => [oa (rI .i64) x.1 x.2 r]) Try.func24 rfl rfl rfl rfl (fun E hM => ?_)
  refine ref_seq ?_
  refine ref_region ?_
  refine s_rd (r_assign rfl) rfl ?_
  refine l_nil ?_
  refine n_then ?_
  refine ref_seq ?_
  refine ref_seq ?_
  refine ref_region ?_
  refine s_rd (r_move rfl) rfl ?_
  refine s_st (s_isnil Try.underlying22 rfl) rfl (fun b => ?_)
  refine l_nil ?_
  refine n_then ?_
  refine ref_condE (b := b.1) rfl (fun hb => ?_) (fun hb => ?_)
  · refine ref_seq ?_
    refine ref_region ?_
    refine s_rd (r_assign rfl) rfl ?_
    refine l_nil ?_
    refine n_then ?_
    refine ref_ret ?_
    refine r_then ?_
    have hd := b.2 hb
    subst hd
    refine b_of (own_nil (rI .i64)) ?_
    exact fin1 (.inl rfl) (.slice none 0 0, []) [0] rfl ⟨rfl, trivial⟩ rfl (rv_tmp rfl)
  · refine ref_skip ?_
    refine n_then ?_
    refine ref_seq ?_
    refine ref_region ?_
    refine s_st (s_bsliceO (xs := []) (ds := []) Try.underlying22 el_3 rfl (Nat.le_of_ble_eq_true rfl) trivial) rfl (fun o => ?_)
    refine s_rd (r_move rfl) rfl ?_
    refine s_st (s_append hm' Try.underlying22 el_3 rfl (j := 0) rfl rfl) rfl (fun o2 => ?_)
    refine s_rd (r_assign rfl) rfl ?_
    refine l_nil ?_
    refine n_then ?_
    refine ref_ret ?_
    exact fin1 (.inl rfl) o2 [0] rfl ⟨rfl, trivial⟩ rfl (rv_tmp rfl)

/-! deliberation/channel.New -/
noncomputable def channel_New_m (items_0 : (List Int)) (window_1 : Int) : Option (T_api_Channel × Int) :=
  letM (decide ((items_0.length : Int) > 60)) fun t2 =>
  bif t2 then
    some ((T_api_Channel.mk [] 0 0 [] [] []), 2)
  else
    bif decide (window_1 < 1) then
      some ((T_api_Channel.mk [] 0 0 [] [] []), 1)
    else
      letM (decide (window_1 > 8)) fun t4 =>
      bif t4 then
        some ((T_api_Channel.mk [] 0 0 [] [] []), 1)
      else
        Option.bind (slices_Clone_int_int_m items_0) fun t6 =>
        some ((T_api_Channel.mk t6 window_1 0 [] [] []), 0)

theorem channel_New_ok {items_0 : (List Int)} {window_1 : Int} {r : T_api_Channel × Int} (hm : channel_New_m items_0 window_1 = some r) :
    FnOk prog 9 [slv (rI .i64) items_0, iv .i64 window_1] [] (fun (x : Unit) => [ag [slv (rI .i64) r.1.Items, iv .i64 r.1.Window, iv .i64 r.1.Base, slv (rI .i64) r.1.Received, slv rT_api_Packet r.1.Held, slv rT_api_Packet r.1.Flight], iv .i64 r.2]) (fun (x : Unit) => []) := by
  refine fn_ok (fn := Try.f9) (N := 23) (res := fun r x => [ag [slv (rI .i64) r.1.Items, iv .i64 r.1.Window, iv .i64 r.1.Base, slv (rI .i64) r.1.Received, slv rT_api_Packet r.1.Held, slv rT_api_Packet r.1.Flight], iv .i64 r.2]) (Ω1 := fun r x => []) Try.func9 rfl rfl hm rfl (fun E hM => ?_)
  unfold channel_New_m
  refine ref_seq (ref_region ?_)
  refine s_st (s_alloc zt_28) rfl (fun b1 => ?_)
  refine as1 rfl rfl ?_
  refine l_nil (n_then (ref_seq (ref_block (ref_seq (ref_region ?_)))))
  refine mv1 rfl rfl ?_
  refine s_rd (r_len Try.underlying22 rfl) rfl ?_
  refine s_rd (r_gtr rfl rfl) rfl ?_
  refine as1 rfl rfl ?_
  refine b_let (f := bv) (t := 6) rfl fun t2 => ?_
  refine l_nil (n_then ?_)
  refine ref_cond rfl (fun hb3 => ?_) (fun hb3 => ?_)
  · refine ref_seq (ref_region ?_)
    refine s_rd (r_build (ps := []) (rs := []) st_28 zs_28 trivial rfl rfl) rfl ?_
    refine s_st0 (s_cstore (out := [pv (.slice none 0 0), iv .i64 0, iv .i64 0, pv (.slice none 0 0), pv (.slice none 0 0), pv (.slice none 0 0)]) Try.sizeOf28 rfl (j := 0) rfl (part_agO (ψs := [pv (.slice none 0 0), iv .i64 0, iv .i64 0, pv (.slice none 0 0), pv (.slice none 0 0), pv (.slice none 0 0)]) rfl ⟨.inl (pv_at rfl), .inl iv_at, .inl iv_at, .inl (pv_at rfl), .inl (pv_at rfl), .inl (pv_at rfl), trivial⟩) rfl rfl rfl) (fun _ => ?_)
    refine as1 rfl rfl ?_
    refine l_nil (n_then (ref_ret (r_block (r_then ?_))))
    refine b_of (ocW 0 [slv (rI .i64) [], iv .i64 0, iv .i64 0, slv (rI .i64) [], slv rT_api_Packet [], slv rT_api_Packet []] rfl ⟨nil_sl, imp_rfl, imp_rfl, nil_sl, nil_sl, nil_sl, trivial⟩) ?_
    exact fin2 (.inl rfl) () [] rfl trivial rfl (rv_cell rfl (j := 0) rfl Try.isAgg28 Try.sizeOf28 rfl rfl) (rv_tmp rfl)
  refine ref_seq (ref_region ?_)
  refine mv1 rfl rfl ?_
  refine s_rd (r_lss rfl rfl) rfl ?_
  refine mv1 rfl rfl ?_
  refine b_split (t := 14) rfl (fun _ => ?_) (fun _ => ?_)
  · refine s_off rfl rfl rfl rfl rfl ?_
    refine s_off rfl rfl rfl rfl rfl ?_
    refine s_rd (r_pickT rfl rfl) rfl ?_
    refine as1 rfl rfl ?_
    refine l_nil (n_then ?_)
    refine ref_condT rfl rfl ?_
    refine ref_seq (ref_region ?_)
    refine s_rd (r_build (ps := []) (rs := []) st_28 zs_28 trivial rfl rfl) rfl ?_
    refine s_st0 (s_cstore (out := [pv (.slice none 0 0), iv .i64 0, iv .i64 0, pv (.slice none 0 0), pv (.slice none 0 0), pv (.slice none 0 0)]) Try.sizeOf28 rfl (j := 0) rfl (part_agO (ψs := [pv (.slice none 0 0), iv .i64 0, iv .i64 0, pv (.slice none 0 0), pv (.slice none 0 0), pv (.slice none 0 0)]) rfl ⟨.inl (pv_at rfl), .inl iv_at, .inl iv_at, .inl (pv_at rfl), .inl (pv_at rfl), .inl (pv_at rfl), trivial⟩) rfl rfl rfl) (fun _ => ?_)
    refine as1 rfl rfl ?_
    refine l_nil (n_then (ref_ret (r_block (r_then ?_))))
    refine b_of (ocW 0 [slv (rI .i64) [], iv .i64 0, iv .i64 0, slv (rI .i64) [], slv rT_api_Packet [], slv rT_api_Packet []] rfl ⟨nil_sl, imp_rfl, imp_rfl, nil_sl, nil_sl, nil_sl, trivial⟩) ?_
    exact fin2 (.inl rfl) () [] rfl trivial rfl (rv_cell rfl (j := 0) rfl Try.isAgg28 Try.sizeOf28 rfl rfl) (rv_tmp rfl)
  refine s_on rfl rfl rfl ?_
  refine mv1 rfl rfl ?_
  refine s_on rfl rfl rfl ?_
  refine s_rd (r_gtr rfl rfl) rfl ?_
  refine s_rd (r_pickF rfl rfl) rfl ?_
  refine as1 rfl rfl ?_
  refine b_let (f := bv) (t := 11) rfl fun t4 => ?_
  refine l_nil (n_then ?_)
  refine ref_cond rfl (fun hb5 => ?_) (fun hb5 => ?_)
  · refine ref_seq (ref_region ?_)
    refine s_rd (r_build (ps := []) (rs := []) st_28 zs_28 trivial rfl rfl) rfl ?_
    refine s_st0 (s_cstore (out := [pv (.slice none 0 0), iv .i64 0, iv .i64 0, pv (.slice none 0 0), pv (.slice none 0 0), pv (.slice none 0 0)]) Try.sizeOf28 rfl (j := 0) rfl (part_agO (ψs := [pv (.slice none 0 0), iv .i64 0, iv .i64 0, pv (.slice none 0 0), pv (.slice none 0 0), pv (.slice none 0 0)]) rfl ⟨.inl (pv_at rfl), .inl iv_at, .inl iv_at, .inl (pv_at rfl), .inl (pv_at rfl), .inl (pv_at rfl), trivial⟩) rfl rfl rfl) (fun _ => ?_)
    refine as1 rfl rfl ?_
    refine l_nil (n_then (ref_ret (r_block (r_then ?_))))
    refine b_of (ocW 0 [slv (rI .i64) [], iv .i64 0, iv .i64 0, slv (rI .i64) [], slv rT_api_Packet [], slv rT_api_Packet []] rfl ⟨nil_sl, imp_rfl, imp_rfl, nil_sl, nil_sl, nil_sl, trivial⟩) ?_
    exact fin2 (.inl rfl) () [] rfl trivial rfl (rv_cell rfl (j := 0) rfl Try.isAgg28 Try.sizeOf28 rfl rfl) (rv_tmp rfl)
  refine ref_skip (n_block (n_then (ref_seq (ref_region ?_))))
  refine mv1 rfl rfl ?_
  refine pull fun t6 h_t6 => ?_
  refine s_st (s_call (ψ := fun (x7 : (Value × List Nat)) => pv x7.1) (args := [.tmp 19]) Try.call24 rfl (slices_Clone_int_int_ok h_t6) ⟨arg rfl, trivial⟩ (fun _ _ _ _ h => h)) rfl (fun x7 => ?_)
  refine mv1 rfl rfl ?_
  refine s_rd (r_build (ps := [(0, .tmp 20), (1, .tmp 21)]) (rs := [(0, [pv x7.1]), (1, [iv .i64 window_1])]) st_28 zs_28 ⟨rfl, (part_own rfl (j := 1) rfl), ⟨rfl, (part_at rfl iv_at), trivial⟩⟩ rfl rfl) rfl ?_
  refine s_st0 (s_cstore (out := [pv x7.1, iv .i64 window_1, iv .i64 0, pv (.slice none 0 0), pv (.slice none 0 0), pv (.slice none 0 0)]) Try.sizeOf28 rfl (j := 0) rfl (part_agO (ψs := [pv x7.1, iv .i64 window_1, iv .i64 0, pv (.slice none 0 0), pv (.slice none 0 0), pv (.slice none 0 0)]) rfl ⟨.inr ⟨_, _, _, _, _, 1, rfl, rfl⟩, .inl iv_at, .inl iv_at, .inl (pv_at rfl), .inl (pv_at rfl), .inl (pv_at rfl), trivial⟩) rfl rfl rfl) (fun _ => ?_)
  refine as1 rfl rfl ?_
  refine l_nil (n_then (ref_ret ?_))
  refine b_of (frzGL [(20, slv (rI .i64) t6), (22, ag [slv (rI .i64) t6, iv .i64 window_1, iv .i64 0, pv (.slice none 0 0), pv (.slice none 0 0), pv (.slice none 0 0)])] [(0, b1, [slv (rI .i64) t6, iv .i64 window_1, iv .i64 0, pv (.slice none 0 0), pv (.slice none 0 0), pv (.slice none 0 0)])] (j := 1) rfl ⟨⟨_, rfl, .inl ⟨rfl, rfl⟩⟩, ⟨_, rfl, .inr ⟨_, _, rfl, rfl, ⟨.inr ⟨rfl, rfl⟩, .inl rfl, .inl rfl, .inl rfl, .inl rfl, .inl rfl, trivial⟩⟩⟩, trivial⟩ ⟨⟨_, rfl, ⟨.inr ⟨rfl, rfl⟩, .inl rfl, .inl rfl, .inl rfl, .inl rfl, .inl rfl, trivial⟩⟩, trivial⟩) ?_
  refine b_of (ocW 0 [slv (rI .i64) t6, iv .i64 window_1, iv .i64 0, slv (rI .i64) [], slv rT_api_Packet [], slv rT_api_Packet []] rfl ⟨imp_rfl, imp_rfl, imp_rfl, nil_sl, nil_sl, nil_sl, trivial⟩) ?_
  exact fin2 (.inl rfl) () [] rfl trivial rfl (rv_cell rfl (j := 0) rfl Try.isAgg28 Try.sizeOf28 rfl rfl) (rv_tmp rfl)

/-! slices.Clone[[]deliberation/api.Packet,deliberation/api.Packet] -/
def slices_Clone_api_Packet_api_Packet_m (d_0 : List T_api_Packet) : Option (List T_api_Packet) := appM 24 [] d_0

theorem slices_Clone_api_Packet_api_Packet_ok {d_0 r : List T_api_Packet} (hm : slices_Clone_api_Packet_api_Packet_m d_0 = some r) : FnOk prog 39 [slv rT_api_Packet d_0] [] (fun (x : Value × List Nat) => [pv x.1]) (fun (x : Value × List Nat) => [oa rT_api_Packet x.1 x.2 r]) := by
  have hm' : appM 24 [] d_0 = some r := hm
  have hr : r = d_0 := by have := (appM_some hm').2; simpa using this
  subst hr
  refine fn_ok (X := Value × List Nat) (fn := Try.f39) (N := 8) (m := some ()) (r := ()) (res := fun _ x => [pv x.1]) (Ω1 := fun _ x => [oa rT_api_Packet x.1 x.2 r]) Try.func39 rfl rfl rfl rfl (fun E hM => ?_)
  refine ref_seq ?_
  refine ref_region ?_
  refine s_rd (r_assign rfl) rfl ?_
  refine l_nil ?_
  refine n_then ?_
  refine ref_seq ?_
  refine ref_seq ?_
  refine ref_region ?_
  refine s_rd (r_move rfl) rfl ?_
  refine s_st (s_isnil Try.underlying26 rfl) rfl (fun b => ?_)
  refine l_nil ?_
  refine n_then ?_
  refine ref_condE (b := b.1) rfl (fun hb => ?_) (fun hb => ?_)
  · refine ref_seq ?_
    refine ref_region ?_
    refine s_rd (r_assign rfl) rfl ?_
    refine l_nil ?_
    refine n_then ?_
    refine ref_ret ?_
    refine r_then ?_
    have hd := b.2 hb
    subst hd
    refine b_of (own_nil rT_api_Packet) ?_
    exact fin1 (.inl rfl) (.slice none 0 0, []) [0] rfl ⟨rfl, trivial⟩ rfl (rv_tmp rfl)
  · refine ref_skip ?_
    refine n_then ?_
    refine ref_seq ?_
    refine ref_region ?_
    refine s_st (s_bsliceO (xs := []) (ds := []) Try.underlying26 el_55 rfl (Nat.le_of_ble_eq_true rfl) trivial) rfl (fun o => ?_)
    refine s_rd (r_move rfl) rfl ?_
    refine s_st (s_append hm' Try.underlying26 el_55 rfl (j := 0) rfl rfl) rfl (fun o2 => ?_)
    refine s_rd (r_assign rfl) rfl ?_
    refine l_nil ?_
    refine n_then ?_
    refine ref_ret ?_
    exact fin1 (.inl rfl) o2 [0] rfl ⟨rfl, trivial⟩ rfl (rv_tmp rfl)

/-! deliberation/channel.copied -/
noncomputable def channel_copied_m (c_0 : T_api_Channel) : Option (T_channel_line) :=
  Option.bind (slices_Clone_int_int_m c_0.Items) fun t2 =>
  Option.bind (slices_Clone_int_int_m c_0.Received) fun t4 =>
  Option.bind (slices_Clone_api_Packet_api_Packet_m c_0.Held) fun t6 =>
  Option.bind (slices_Clone_api_Packet_api_Packet_m c_0.Flight) fun t8 =>
  some (T_channel_line.mk (T_api_Channel.mk t2 c_0.Window c_0.Base t4 t6 t8))

theorem channel_copied_ok {c_0 : T_api_Channel} {r : T_channel_line} (hm : channel_copied_m c_0 = some r) :
    FnOk prog 25 [ag [slv (rI .i64) c_0.Items, iv .i64 c_0.Window, iv .i64 c_0.Base, slv (rI .i64) c_0.Received, slv rT_api_Packet c_0.Held, slv rT_api_Packet c_0.Flight]] [] (fun (x : Nat × (Value × List Nat) × (Value × List Nat) × (Value × List Nat) × (Value × List Nat)) => [pv (ptr x.1 0)]) (fun (x : Nat × (Value × List Nat) × (Value × List Nat) × (Value × List Nat) × (Value × List Nat)) => [oc x.1 [pv x.2.1.1, iv .i64 r.c.Window, iv .i64 r.c.Base, pv x.2.2.1.1, pv x.2.2.2.1.1, pv x.2.2.2.2.1], oa (rI .i64) x.2.1.1 x.2.1.2 r.c.Items, oa (rI .i64) x.2.2.1.1 x.2.2.1.2 r.c.Received, oa rT_api_Packet x.2.2.2.1.1 x.2.2.2.1.2 r.c.Held, oa rT_api_Packet x.2.2.2.2.1 x.2.2.2.2.2 r.c.Flight]) := by
  refine fn_ok (X := Nat × (Value × List Nat) × (Value × List Nat) × (Value × List Nat) × (Value × List Nat)) (fn := Try.f25) (N := 22) (res := fun r x => [pv (ptr x.1 0)]) (Ω1 := fun r x => [oc x.1 [pv x.2.1.1, iv .i64 r.c.Window, iv .i64 r.c.Base, pv x.2.2.1.1, pv x.2.2.2.1.1, pv x.2.2.2.2.1], oa (rI .i64) x.2.1.1 x.2.1.2 r.c.Items, oa (rI .i64) x.2.2.1.1 x.2.2.1.2 r.c.Received, oa rT_api_Packet x.2.2.2.1.1 x.2.2.2.1.2 r.c.Held, oa rT_api_Packet x.2.2.2.2.1 x.2.2.2.2.2 r.c.Flight]) Try.func25 rfl rfl hm rfl (fun E hM => ?_)
  unfold channel_copied_m
  refine ref_seq (ref_region ?_)
  refine s_st (s_box (part_agO (ψs := [slv (rI .i64) c_0.Items, iv .i64 c_0.Window, iv .i64 c_0.Base, slv (rI .i64) c_0.Received, slv rT_api_Packet c_0.Held, slv rT_api_Packet c_0.Flight]) rfl ⟨.inl slv_at, .inl iv_at, .inl iv_at, .inl slv_at, .inl slv_at, .inl slv_at, trivial⟩)) rfl (fun b1 => ?_)
  refine as1 rfl rfl ?_
  refine l_nil (n_then (ref_seq ?_))
  refine ref_draw [0, 1, 3, 4, 6, 8] rfl (by kernel_rfl) (fun hok => ?_)
  refine a_rd (i := 0) hok rfl (by kernel_rfl) rfl (r_faddr (fo := 0) Try.underlying28 rfl rfl Try.sizeOf22 rfl) rfl ?_
  refine a_rd (i := 1) hok rfl (by kernel_rfl) rfl (r_cload Try.isAgg22 rfl (j := 0) rfl rfl) rfl ?_
  refine a_rd (i := 3) hok rfl (by kernel_rfl) rfl (r_faddr (fo := 3) Try.underlying28 rfl rfl Try.sizeOf22 rfl) rfl ?_
  refine a_rd (i := 4) hok rfl (by kernel_rfl) rfl (r_cload Try.isAgg22 rfl (j := 0) rfl rfl) rfl ?_
  refine pull fun t2 h_t2 => ?_
  refine a_next hok 2 [] (by kernel_rfl) ?_ trivial
  refine a_st (i := 2) hok rfl rfl (s_call (ψ := fun (x3 : (Value × List Nat)) => pv x3.1) (args := [.tmp 4]) Try.call24 rfl (slices_Clone_int_int_ok h_t2) ⟨arg rfl, trivial⟩ (fun _ _ _ _ h => h)) (by intro _ h; cases h; rfl) (fun _ => ⟨⟨⟨rfl, rfl⟩, trivial⟩, ⟨trivial, ⟨trivial, ⟨trivial, trivial⟩⟩⟩⟩) (fun x3 => ?_)
  refine a_rd (i := 6) hok rfl (by kernel_rfl) rfl (r_faddr (fo := 0) Try.underlying28 rfl rfl Try.sizeOf22 rfl) rfl ?_
  refine pull fun t4 h_t4 => ?_
  refine a_next hok 5 [] (by kernel_rfl) ?_ trivial
  refine a_st (i := 5) hok rfl rfl (s_call (ψ := fun (x5 : (Value × List Nat)) => pv x5.1) (args := [.tmp 7]) Try.call24 rfl (slices_Clone_int_int_ok h_t4) ⟨arg rfl, trivial⟩ (fun _ _ _ _ h => h)) (by intro _ h; cases h; rfl) (fun _ => ⟨trivial, ⟨trivial, ⟨trivial, ⟨⟨⟨rfl, rfl⟩, trivial⟩, ⟨trivial, trivial⟩⟩⟩⟩⟩) (fun x5 => ?_)
  refine a_next hok 7 [] (by kernel_rfl) ?_ trivial
  refine a_st (i := 7) hok rfl rfl (s_cstore (out := [pv x3.1, iv .i64 c_0.Window, iv .i64 c_0.Base, slv (rI .i64) c_0.Received, slv rT_api_Packet c_0.Held, slv rT_api_Packet c_0.Flight]) Try.sizeOf22 rfl (j := 0) rfl (part_own rfl (j := 1) rfl) rfl rfl rfl) (by intro _ h; cases h) (fun _ => ⟨trivial, ⟨trivial, ⟨trivial, ⟨trivial, ⟨trivial, trivial⟩⟩⟩⟩⟩) (fun _ => ?_)
  refine a_rd (i := 8) hok rfl (by kernel_rfl) rfl (r_faddr (fo := 3) Try.underlying28 rfl rfl Try.sizeOf22 rfl) rfl ?_
  refine a_next hok 9 [] (by kernel_rfl) ?_ trivial
  refine a_st (i := 9) hok rfl rfl (s_cstore (out := [pv x3.1, iv .i64 c_0.Window, iv .i64 c_0.Base, pv x5.1, slv rT_api_Packet c_0.Held, slv rT_api_Packet c_0.Flight]) Try.sizeOf22 rfl (j := 0) rfl (part_own rfl (j := 2) rfl) rfl rfl rfl) (by intro _ h; cases h) (fun _ => ⟨trivial, ⟨trivial, ⟨trivial, ⟨trivial, ⟨trivial, ⟨trivial, trivial⟩⟩⟩⟩⟩⟩) (fun _ => ?_)
  refine a_fin hok (by kernel_rfl) ?_
  refine b_of (nrm [oc b1 [pv x3.1, iv .i64 c_0.Window, iv .i64 c_0.Base, pv x5.1, slv rT_api_Packet c_0.Held, slv rT_api_Packet c_0.Flight], oa (rI .i64) x3.1 x3.2 t2, oa (rI .i64) x5.1 x5.2 t4] rfl) ?_
  refine n_then (ref_seq ?_)
  refine ref_draw [0, 1, 3, 4, 6, 8] rfl (by kernel_rfl) (fun hok => ?_)
  refine a_rd (i := 0) hok rfl (by kernel_rfl) rfl (r_faddr (fo := 4) Try.underlying28 rfl rfl Try.sizeOf26 rfl) rfl ?_
  refine a_rd (i := 1) hok rfl (by kernel_rfl) rfl (r_cload Try.isAgg26 rfl (j := 0) rfl rfl) rfl ?_
  refine a_rd (i := 3) hok rfl (by kernel_rfl) rfl (r_faddr (fo := 5) Try.underlying28 rfl rfl Try.sizeOf26 rfl) rfl ?_
  refine a_rd (i := 4) hok rfl (by kernel_rfl) rfl (r_cload Try.isAgg26 rfl (j := 0) rfl rfl) rfl ?_
  refine pull fun t6 h_t6 => ?_
  refine a_next hok 2 [] (by kernel_rfl) ?_ trivial
  refine a_st (i := 2) hok rfl rfl (s_call (ψ := fun (x7 : (Value × List Nat)) => pv x7.1) (args := [.tmp 12]) Try.call39 rfl (slices_Clone_api_Packet_api_Packet_ok h_t6) ⟨arg rfl, trivial⟩ (fun _ _ _ _ h => h)) (by intro _ h; cases h; rfl) (fun _ => ⟨⟨⟨rfl, rfl⟩, trivial⟩, ⟨trivial, ⟨trivial, ⟨trivial, trivial⟩⟩⟩⟩) (fun x7 => ?_)
  refine a_rd (i := 6) hok rfl (by kernel_rfl) rfl (r_faddr (fo := 4) Try.underlying28 rfl rfl Try.sizeOf26 rfl) rfl ?_
  refine pull fun t8 h_t8 => ?_
  refine a_next hok 5 [] (by kernel_rfl) ?_ trivial
  refine a_st (i := 5) hok rfl rfl (s_call (ψ := fun (x9 : (Value × List Nat)) => pv x9.1) (args := [.tmp 15]) Try.call39 rfl (slices_Clone_api_Packet_api_Packet_ok h_t8) ⟨arg rfl, trivial⟩ (fun _ _ _ _ h => h)) (by intro _ h; cases h; rfl) (fun _ => ⟨trivial, ⟨trivial, ⟨trivial, ⟨⟨⟨rfl, rfl⟩, trivial⟩, ⟨trivial, trivial⟩⟩⟩⟩⟩) (fun x9 => ?_)
  refine a_next hok 7 [] (by kernel_rfl) ?_ trivial
  refine a_st (i := 7) hok rfl rfl (s_cstore (out := [pv x3.1, iv .i64 c_0.Window, iv .i64 c_0.Base, pv x5.1, pv x7.1, slv rT_api_Packet c_0.Flight]) Try.sizeOf26 rfl (j := 0) rfl (part_own rfl (j := 3) rfl) rfl rfl rfl) (by intro _ h; cases h) (fun _ => ⟨trivial, ⟨trivial, ⟨trivial, ⟨trivial, ⟨trivial, trivial⟩⟩⟩⟩⟩) (fun _ => ?_)
  refine a_rd (i := 8) hok rfl (by kernel_rfl) rfl (r_faddr (fo := 5) Try.underlying28 rfl rfl Try.sizeOf26 rfl) rfl ?_
  refine a_next hok 9 [] (by kernel_rfl) ?_ trivial
  refine a_st (i := 9) hok rfl rfl (s_cstore (out := [pv x3.1, iv .i64 c_0.Window, iv .i64 c_0.Base, pv x5.1, pv x7.1, pv x9.1]) Try.sizeOf26 rfl (j := 0) rfl (part_own rfl (j := 4) rfl) rfl rfl rfl) (by intro _ h; cases h) (fun _ => ⟨trivial, ⟨trivial, ⟨trivial, ⟨trivial, ⟨trivial, ⟨trivial, trivial⟩⟩⟩⟩⟩⟩) (fun _ => ?_)
  refine a_fin hok (by kernel_rfl) ?_
  refine b_of (nrm [oc b1 [pv x3.1, iv .i64 c_0.Window, iv .i64 c_0.Base, pv x5.1, pv x7.1, pv x9.1], oa (rI .i64) x3.1 x3.2 t2, oa (rI .i64) x5.1 x5.2 t4, oa rT_api_Packet x7.1 x7.2 t6, oa rT_api_Packet x9.1 x9.2 t8] rfl) ?_
  refine n_then (ref_seq (ref_region ?_))
  refine s_rd (r_cloadS Try.isAgg28 Try.sizeOf28 rfl (j := 0) rfl rfl rfl) rfl ?_
  refine s_rd (r_build (ps := [(0, .tmp 19)]) (rs := [(0, [pv x3.1, iv .i64 c_0.Window, iv .i64 c_0.Base, pv x5.1, pv x7.1, pv x9.1])]) st_51 zs_51 ⟨rfl, (part_agO (ψs := [pv x3.1, iv .i64 c_0.Window, iv .i64 c_0.Base, pv x5.1, pv x7.1, pv x9.1]) rfl ⟨.inr ⟨_, _, _, _, _, 1, rfl, rfl⟩, .inl iv_at, .inl iv_at, .inr ⟨_, _, _, _, _, 2, rfl, rfl⟩, .inr ⟨_, _, _, _, _, 3, rfl, rfl⟩, .inr ⟨_, _, _, _, _, 4, rfl, rfl⟩, trivial⟩), trivial⟩ rfl rfl) rfl ?_
  refine s_st (s_box (part_agO (ψs := [pv x3.1, iv .i64 c_0.Window, iv .i64 c_0.Base, pv x5.1, pv x7.1, pv x9.1]) rfl ⟨.inr ⟨_, _, _, _, _, 1, rfl, rfl⟩, .inl iv_at, .inl iv_at, .inr ⟨_, _, _, _, _, 2, rfl, rfl⟩, .inr ⟨_, _, _, _, _, 3, rfl, rfl⟩, .inr ⟨_, _, _, _, _, 4, rfl, rfl⟩, trivial⟩)) rfl (fun b10 => ?_)
  refine as1 rfl rfl ?_
  refine l_nil (n_then (ref_ret ?_))
  exact fin1 (.inl rfl) (b10, x3, x5, x7, x9) [5, 1, 2, 3, 4] rfl ⟨rfl, rfl, rfl, rfl, rfl, trivial⟩ rfl (rv_tmp rfl)

/-! (*deliberation/channel.line).full -/
noncomputable def channel_line_full_m (l_0 : T_channel_line) : Option (Bool) :=
  letM (decide ((l_0.c.Flight.length : Int) ≥ 200)) fun t1 =>
  some t1

theorem channel_line_full_ok {l_0 : T_channel_line} {b_0 : Nat} {r : Bool} (hm : channel_line_full_m l_0 = some r) :
    FnOk prog 29 [pv (ptr b_0 0)] [oc b_0 [slv (rI .i64) l_0.c.Items, iv .i64 l_0.c.Window, iv .i64 l_0.c.Base, slv (rI .i64) l_0.c.Received, slv rT_api_Packet l_0.c.Held, slv rT_api_Packet l_0.c.Flight]] (fun (x : Unit) => [bv r]) (fun (x : Unit) => [oc b_0 [slv (rI .i64) l_0.c.Items, iv .i64 l_0.c.Window, iv .i64 l_0.c.Base, slv (rI .i64) l_0.c.Received, slv rT_api_Packet l_0.c.Held, slv rT_api_Packet l_0.c.Flight]]) := by
  refine fn_ok (fn := Try.f29) (N := 10) (res := fun r x => [bv r]) (Ω1 := fun r x => [oc b_0 [slv (rI .i64) l_0.c.Items, iv .i64 l_0.c.Window, iv .i64 l_0.c.Base, slv (rI .i64) l_0.c.Received, slv rT_api_Packet l_0.c.Held, slv rT_api_Packet l_0.c.Flight]]) Try.func29 rfl rfl hm rfl (fun E hM => ?_)
  unfold channel_line_full_m
  refine ref_seq (ref_region ?_)
  refine as1 rfl rfl ?_
  refine l_nil (n_then (ref_seq (ref_region ?_)))
  refine mv1 rfl rfl ?_
  refine s_rd (r_nilc rfl) rfl ?_
  refine s_rd (r_faddr (fo := 0) Try.underlying51 rfl rfl Try.sizeOf28 rfl) rfl ?_
  refine s_rd (r_faddr (fo := 5) Try.underlying28 rfl rfl Try.sizeOf26 rfl) rfl ?_
  refine s_rd (r_cload Try.isAgg26 rfl (j := 0) rfl rfl) rfl ?_
  refine s_rd (r_len Try.underlying26 rfl) rfl ?_
  refine s_rd (r_geq rfl rfl) rfl ?_
  refine as1 rfl rfl ?_
  refine b_let (f := bv) (t := 2) rfl fun t1 => ?_
  refine l_nil (n_then (ref_ret ?_))
  exact fin1 (.inl rfl) () [0] rfl ⟨rfl, trivial⟩ rfl (rv_tmp rfl)

/-! slices.Delete[[]deliberation/api.Packet,deliberation/api.Packet] -/
def slices_Delete_api_Packet_api_Packet_m (s : List T_api_Packet) (i j : Int) : Option (List T_api_Packet) := delM s i j

theorem slices_Delete_api_Packet_api_Packet_ok {s_0 : (List T_api_Packet)} {i_1 : Int} {j_2 : Int} {h_0 : Value × List Nat} {r : List T_api_Packet} (hm : slices_Delete_api_Packet_api_Packet_m s_0 i_1 j_2 = some r) :
    FnOk prog 28 [pv h_0.1, iv .i64 i_1, iv .i64 j_2] [oa rT_api_Packet h_0.1 h_0.2 s_0] (fun (x : Value × List Nat) => [pv x.1]) (fun (x : Value × List Nat) => [oa rT_api_Packet x.1 x.2 r]) := by
  obtain ⟨h0, h1, h2, rfl⟩ := delM_some hm
  refine fn_ok (X := Value × List Nat) (fn := Try.f28) (N := 33) (m := some ()) (r := ()) (res := fun _ x => [pv x.1]) (Ω1 := fun _ x => [oa rT_api_Packet x.1 x.2 (s_0.take (Int.toNat i_1) ++ s_0.drop (Int.toNat j_2))]) Try.func28 rfl rfl rfl rfl (fun E hM => ?_)
  refine ref_seq (ref_region ?_)
  refine as1 rfl rfl ?_
  refine l_nil (n_then (ref_seq (ref_region ?_)))
  refine mv1 rfl rfl ?_
  refine mv1 rfl rfl ?_
  refine mv1 rfl rfl ?_
  refine mv1 rfl rfl ?_
  refine s_rd (r_olen Try.underlying26 rfl (j := 0) rfl) rfl ?_
  refine s_rd (r_sub3 h0 h1 h2 (Int.le_refl _) Try.underlying26 el_55 rfl (j := 0) rfl rfl rfl rfl) rfl ?_
  refine l_nil (n_then (ref_seq (ref_seq (ref_region ?_))))
  refine mv1 rfl rfl ?_
  refine mv1 rfl rfl ?_
  refine s_rd (r_eql rfl rfl) rfl ?_
  refine l_nil (n_then ?_)
  refine ref_condE rfl (fun hb16 => ?_) (fun hb16 => ?_)
  · refine ref_seq (ref_region ?_)
    refine mv1 rfl rfl ?_
    refine as1 rfl rfl ?_
    refine l_nil (n_then (ref_ret (r_then ?_)))
    refine b_of (odata (j := 0) rfl (del_same (by simpa using hb16))) ?_
    exact fin1 (.inl rfl) h_0 [0] rfl ⟨rfl, trivial⟩ rfl (rv_tmp rfl)
  refine ref_skip (n_then (ref_seq (ref_region ?_)))
  refine mv1 rfl rfl ?_
  refine s_rd (r_olen Try.underlying26 rfl (j := 0) rfl) rfl ?_
  refine as1 rfl rfl ?_
  refine l_nil (n_then (ref_seq ?_))
  refine ref_draw [0, 1, 2, 3, 4, 5] rfl (by kernel_rfl) (fun hok => ?_)
  refine a_rd (i := 0) hok rfl (by kernel_rfl) rfl (r_move rfl) rfl ?_
  refine a_rd (i := 1) hok rfl (by kernel_rfl) rfl (r_move rfl) rfl ?_
  refine a_rd (i := 2) hok rfl (by kernel_rfl) rfl (r_osub (slM0 h0 (by omega)) Try.underlying26 el_55 rfl (j := 0) rfl .dft (.of rfl)) rfl ?_
  refine a_rd (i := 3) hok rfl (by kernel_rfl) rfl (r_move rfl) rfl ?_
  refine a_rd (i := 4) hok rfl (by kernel_rfl) rfl (r_move rfl) rfl ?_
  refine a_rd (i := 5) hok rfl (by kernel_rfl) rfl (r_osub (slME (by omega) h2) Try.underlying26 el_55 rfl (j := 0) rfl (.of rfl) .dft) rfl ?_
  refine a_next hok 6 [] (by kernel_rfl) ?_ trivial
  refine a_st (i := 6) hok rfl rfl (s_appendSS (i := Int.toNat i_1) (k := Int.toNat j_2) (by have hne : ¬ i_1 = j_2 := (by simpa using hb16); omega) (by omega) Try.underlying26 el_55 rfl rfl (j := 0) rfl) (by intro _ h; cases h; rfl) (fun _ => ⟨trivial, ⟨trivial, ⟨trivial, ⟨trivial, ⟨trivial, ⟨trivial, trivial⟩⟩⟩⟩⟩⟩) (fun _ => ?_)
  refine a_next hok 7 [] (by kernel_rfl) ?_ trivial
  refine a_st (i := 7) hok rfl rfl (St.ofRd (r_assign rfl)) (by intro _ h; cases h; rfl) (fun _ => ⟨trivial, ⟨trivial, ⟨trivial, ⟨trivial, ⟨trivial, ⟨trivial, trivial⟩⟩⟩⟩⟩⟩) (fun _ => ?_)
  refine a_fin hok (by kernel_rfl) ?_
  refine n_then (ref_seq (ref_region ?_))
  refine mv1 rfl rfl ?_
  refine mv1 rfl rfl ?_
  refine s_rd ((r_subLen (l := 0) (m := (Int.toNat i_1 + (s_0.length - Int.toNat j_2))) Try.underlying26 rfl (j := 0) rfl).to (ψ := iv .i64 (((Int.toNat i_1 + (s_0.length - Int.toNat j_2)) : Nat) : Int)) rfl) rfl ?_
  refine mv1 rfl rfl ?_
  refine s_rd (r_sub2 (l := (((Int.toNat i_1 + (s_0.length - Int.toNat j_2)) : Nat) : Int)) (m := (s_0.length : Int)) (k := (Int.toNat i_1 + (s_0.length - Int.toNat j_2))) (by omega) (by have hne : ¬ i_1 = j_2 := (by simpa using hb16); omega) (.inr (by rw [del_len (by omega) (by omega)]; omega)) Try.underlying26 el_55 rfl (j := 0) rfl (.of rfl) (.of rfl)) rfl ?_
  refine s_st0 (s_clear (l := (((Int.toNat i_1 + (s_0.length - Int.toNat j_2)) : Nat) : Int)) (m := (s_0.length : Int)) (slM_eq (by omega) (by have hne : ¬ i_1 = j_2 := (by simpa using hb16); omega) (by rw [del_len (by omega) (by omega)]; omega)) Try.underlying26 el_55 ze_55 rfl (j := 0) rfl) (fun _ => ?_)
  refine l_nil (n_then (ref_seq (ref_region ?_)))
  refine mv1 rfl rfl ?_
  refine as1 rfl rfl ?_
  refine l_nil (n_then (ref_ret ?_))
  refine b_of (b_cut (m := (Int.toNat i_1 + (s_0.length - Int.toNat j_2))) (by simp; omega) (j := 0) rfl) ?_
  refine b_of (odata (j := 0) rfl (del_cut2 (by omega) (by omega))) ?_
  exact fin1 (.inl rfl) ((subV h_0.1 (rT_api_Packet).size 0 (Int.toNat i_1 + (s_0.length - Int.toNat j_2))), h_0.2) [0] rfl ⟨rfl, trivial⟩ rfl (rv_tmp rfl)

/-! (*deliberation/channel.line).receive$1 -/
noncomputable def channel_line_receive_1_m (x_0 : T_api_Packet) (n_1 : Int) : Option (Int) :=
  letM (isub .i64 x_0.Number n_1) fun t2 =>
  some t2

theorem channel_line_receive_1_ok {x_0 : T_api_Packet} {n_1 : Int} {r : Int} (hm : channel_line_receive_1_m x_0 n_1 = some r) :
    FnOk prog 42 [ag [bv x_0.Ack, iv .i64 x_0.Number, iv .i64 x_0.Value], iv .i64 n_1] [] (fun (x : Unit) => [iv .i64 r]) (fun (x : Unit) => []) := by
  refine fn_ok (fn := Try.f42) (N := 9) (res := fun r x => [iv .i64 r]) (Ω1 := fun r x => []) Try.func42 rfl rfl hm rfl (fun E hM => ?_)
  unfold channel_line_receive_1_m
  refine ref_seq (ref_region ?_)
  refine s_st (s_box (part_agO (ψs := [bv x_0.Ack, iv .i64 x_0.Number, iv .i64 x_0.Value]) rfl ⟨.inl bv_at, .inl iv_at, .inl iv_at, trivial⟩)) rfl (fun b1 => ?_)
  refine as1 rfl rfl ?_
  refine l_nil (n_then (ref_seq (ref_region ?_)))
  refine s_rd (r_faddr (fo := 1) Try.underlying55 rfl rfl Try.sizeOf3 rfl) rfl ?_
  refine s_rd (r_cload Try.isAgg3 rfl (j := 0) rfl rfl) rfl ?_
  refine mv1 rfl rfl ?_
  refine s_rd (r_sub rfl rfl) rfl ?_
  refine as1 rfl rfl ?_
  refine b_let (f := iv .i64) (t := 4) rfl fun t2 => ?_
  refine l_nil (n_then (ref_ret ?_))
  exact fin1 (.inl rfl) () [] rfl trivial rfl (rv_tmp rfl)

/-! slices.Insert[[]deliberation/api.Packet,deliberation/api.Packet] -/
def slices_Insert_api_Packet_api_Packet_m (s : List T_api_Packet) (i : Int) (v : List T_api_Packet) : Option (List T_api_Packet) := insM 24 s i v

theorem slices_Insert_api_Packet_api_Packet_ok {s_0 : (List T_api_Packet)} {i_1 : Int} {v_2 : (List T_api_Packet)} {h_0 : Value × List Nat} {h_2 : Value × List Nat} {r : List T_api_Packet} (hm : slices_Insert_api_Packet_api_Packet_m s_0 i_1 v_2 = some r) :
    FnOk prog 43 [pv h_0.1, iv .i64 i_1, pv h_2.1] [oa rT_api_Packet h_0.1 h_0.2 s_0, oa rT_api_Packet h_2.1 h_2.2 v_2] (fun (x : Value × List Nat) => [pv x.1]) (fun (x : Value × List Nat) => [oa rT_api_Packet x.1 x.2 r]) := by
  obtain ⟨p, rfl, h0, h1, hby, rfl⟩ := insM_some hm
  have hov : ∀ args w v w', (Extern.SlicesOverlaps.overlaps #[26, 26] #[4] args).run prog w = .ok v w' → (callFunc 44 args).run prog w = .ok (.value v) w' := fun args w v w' h => by
    rw [run_callFunc_extern Try.func44 (by kernel_rfl) (by kernel_rfl) (by kernel_rfl) (e := Extern.SlicesOverlaps.overlaps #[26, 26] #[4]) (by kernel_rfl), h]; rfl
  refine fn_ok (X := Value × List Nat) (fn := Try.f43) (N := 95) (m := some ()) (r := ()) (res := fun _ x => [pv x.1]) (Ω1 := fun _ x => [oa rT_api_Packet x.1 x.2 (s_0.take (Int.toNat i_1) ++ p :: s_0.drop (Int.toNat i_1))]) Try.func43 rfl rfl rfl rfl (fun E hM => ?_)
  refine ref_seq (ref_region ?_)
  refine as1 rfl rfl ?_
  refine l_nil (n_then (ref_seq (ref_region ?_)))
  refine mv1 rfl rfl ?_
  refine mv1 rfl rfl ?_
  refine s_rd (r_osub (slME h0 h1) Try.underlying26 el_55 rfl (j := 0) rfl (.of rfl) .dft) rfl ?_
  refine l_nil (n_then (ref_seq (ref_region ?_)))
  refine mv1 rfl rfl ?_
  refine s_rd ((r_olen Try.underlying26 rfl (j := 1) rfl).to (ψ := iv .i64 1) rfl) rfl ?_
  refine as1 rfl rfl ?_
  refine l_nil (n_then (ref_seq (ref_seq (ref_region ?_))))
  refine mv1 rfl rfl ?_
  refine s_rd (r_eql rfl rfl) rfl ?_
  refine l_nil (n_then ?_)
  refine ref_condF rfl rfl ?_
  refine ref_skip (n_then (ref_seq (ref_region ?_)))
  refine mv1 rfl rfl ?_
  refine s_rd (r_olen Try.underlying26 rfl (j := 0) rfl) rfl ?_
  refine as1 rfl rfl ?_
  refine l_nil (n_then (ref_seq (ref_seq (ref_region ?_))))
  refine mv1 rfl rfl ?_
  refine mv1 rfl rfl ?_
  refine s_rd (r_eql rfl rfl) rfl ?_
  refine l_nil (n_then ?_)
  refine ref_condE rfl (fun hb22 => ?_) (fun hb22 => ?_)
  · refine ref_seq (ref_region ?_)
    refine mv1 rfl rfl ?_
    refine mv1 rfl rfl ?_
    refine b_of (frzL [2, 13, 24] (j := 1) rfl ⟨rfl, rfl, rfl, trivial⟩) ?_
    refine s_st (s_append (appM_eq (by simpa using hby)) Try.underlying26 el_55 rfl (j := 0) rfl rfl) rfl (fun o1 => ?_)
    refine as1 rfl rfl ?_
    refine l_nil (n_then (ref_ret (r_then ?_)))
    refine b_of (odata (j := 0) rfl (ins_end (by simpa using hb22))) ?_
    exact fin1 (.inl rfl) o1 [0] rfl ⟨rfl, trivial⟩ rfl (rv_tmp rfl)
  have hlt : Int.toNat i_1 < s_0.length := by
    have hne : ¬ i_1 = (s_0.length : Int) := by simpa using hb22
    omega
  have hai : iadd .i64 i_1 1 = ((Int.toNat i_1 + 1 : Nat) : Int) := by
    have hh := iadd_1 (n := Int.toNat i_1) hby (by decide) (by omega)
    rwa [Int.toNat_of_nonneg h0] at hh
  refine ref_skip (n_then (ref_seq (ref_seq (ref_region ?_))))
  refine mv1 rfl rfl ?_
  refine mv1 rfl rfl ?_
  refine s_rd ((r_add rfl rfl).to (congrArg (iv .i64) (iadd_1 hby (by decide) (Nat.le_refl _)))) rfl ?_
  refine mv1 rfl rfl ?_
  refine s_rd (r_ocap Try.underlying26 rfl (j := 0) rfl) rfl ?_
  refine s_rd (r_gtr rfl rfl) rfl ?_
  refine l_nil (n_then ?_)
  refine ref_condE rfl (fun hc31 => ?_) (fun hc31 => ?_)
  · refine ref_seq (ref_region ?_)
    refine mv1 rfl rfl ?_
    refine mv1 rfl rfl ?_
    refine s_rd (r_osub (slM0 h0 h1) Try.underlying26 el_55 rfl (j := 0) rfl .dft (.of rfl)) rfl ?_
    refine mv1 rfl rfl ?_
    refine mv1 rfl rfl ?_
    refine s_rd ((r_add rfl rfl).to (congrArg (iv .i64) (iadd_1 hby (by decide) (Nat.le_refl _)))) rfl ?_
    refine mv1 rfl rfl ?_
    refine s_rd ((r_sub rfl rfl).to (congrArg (iv .i64) (isub_1 hby (by decide) h0 h1))) rfl ?_
    refine s_st (s_appendZS (i := Int.toNat i_1) (n := (((s_0.length + 1) - Int.toNat i_1 : Nat) : Int)) (z := (T_api_Packet.mk false 0 0)) (by omega) (by have hh := of_decide_eq_true hc31; omega) (by rw [show Int.toNat i_1 + Int.toNat (((s_0.length + 1) - Int.toNat i_1 : Nat) : Int) = (s_0.length + 1) from by omega]; exact hby) (by omega) Try.underlying26 Try.underlying3 el_55 ze_55 rfl (j := 0) rfl rfl) rfl (fun o2 => ?_)
    refine as1 rfl rfl ?_
    refine l_nil (n_then (ref_seq (ref_region ?_)))
    refine mv1 rfl rfl ?_
    refine mv1 rfl rfl ?_
    refine b_of (odata (j := 2) rfl ins_new) ?_
    refine s_rd (r_osub (slME h0 (by rw [ins_newlen (by omega)]; omega)) Try.underlying26 el_55 rfl (j := 2) rfl (.of rfl) .dft) rfl ?_
    refine mv1 rfl rfl ?_
    refine b_of (frzL [2, 13, 44] (j := 1) rfl ⟨rfl, rfl, rfl, trivial⟩) ?_
    refine s_st (s_copyS (l := Int.toNat i_1) (m := (s_0.take (Int.toNat i_1) ++ List.replicate ((s_0.length + 1) - Int.toNat i_1) (T_api_Packet.mk false 0 0)).length) (d' := [p]) (by rw [ins_newlen (by omega)]; omega) (Nat.le_refl _) Try.underlying26 el_55 rfl (j := 2) rfl rfl) rfl (fun _ => ?_)
    refine b_of (odata (j := 2) rfl (ins_put hlt _ (ins_newlen (by omega)))) ?_
    refine l_nil (n_then (ref_seq ?_))
    refine ref_draw [0, 1, 2, 3, 4, 5, 6, 7] rfl (by kernel_rfl) (fun hok => ?_)
    refine a_rd (i := 0) hok rfl (by kernel_rfl) rfl (r_move rfl) rfl ?_
    refine a_rd (i := 1) hok rfl (by kernel_rfl) rfl (r_move rfl) rfl ?_
    refine a_rd (i := 2) hok rfl (by kernel_rfl) rfl (r_move rfl) rfl ?_
    refine a_rd (i := 3) hok rfl (by kernel_rfl) rfl ((r_add rfl rfl).to (congrArg (iv .i64) hai)) rfl ?_
    refine a_rd (i := 4) hok rfl (by kernel_rfl) rfl (r_osub (slME (by omega) (by rw [ins_putlen hlt]; omega)) Try.underlying26 el_55 rfl (j := 2) rfl (.of rfl) .dft) rfl ?_
    refine a_rd (i := 5) hok rfl (by kernel_rfl) rfl (r_move rfl) rfl ?_
    refine a_rd (i := 6) hok rfl (by kernel_rfl) rfl (r_move rfl) rfl ?_
    refine a_rd (i := 7) hok rfl (by kernel_rfl) rfl (r_osub (slME h0 (by omega)) Try.underlying26 el_55 rfl (j := 0) rfl (.of rfl) .dft) rfl ?_
    refine a_next hok 8 [] (by kernel_rfl) ?_ trivial
    refine a_st (i := 8) hok rfl rfl (s_copyO (l := Int.toNat i_1 + 1) (m := (s_0.take (Int.toNat i_1) ++ p :: List.replicate (s_0.length - Int.toNat i_1) (T_api_Packet.mk false 0 0)).length) (l2 := Int.toNat i_1) (m2 := s_0.length) (by rw [ins_putlen hlt]; omega) (Nat.le_refl _) (by omega) (Nat.le_refl _) Try.underlying26 el_55 rfl (j := 2) rfl rfl (j2 := 0) rfl) (by intro _ h; cases h; rfl) (fun _ => ⟨trivial, ⟨trivial, ⟨trivial, ⟨trivial, ⟨trivial, ⟨trivial, ⟨trivial, ⟨trivial, trivial⟩⟩⟩⟩⟩⟩⟩⟩) (fun _ => ?_)
    refine a_fin hok (by kernel_rfl) ?_
    refine n_then (ref_seq (ref_region ?_))
    refine mv1 rfl rfl ?_
    refine as1 rfl rfl ?_
    refine l_nil (n_then (ref_ret (r_then ?_)))
    refine b_of (odata (j := 2) rfl (ins_rest hlt _ (ins_putlen hlt))) ?_
    exact fin1 (.inl rfl) o2 [2] rfl ⟨rfl, trivial⟩ rfl (rv_tmp rfl)
  refine ref_skip (n_then (ref_seq (ref_region ?_)))
  refine mv1 rfl rfl ?_
  refine mv1 rfl rfl ?_
  refine mv1 rfl rfl ?_
  refine s_rd ((r_add rfl rfl).to (congrArg (iv .i64) (iadd_1 hby (by decide) (Nat.le_refl _)))) rfl ?_
  refine s_rd (r_oext (m := ((s_0.length + 1 : Nat) : Int)) (by omega) (by have hh := of_decide_eq_false hc31; omega) Try.underlying26 el_55 rfl (j := 0) rfl rfl) rfl ?_
  refine as1 rfl rfl ?_
  refine l_nil (n_then (ref_seq (ref_seq (ref_region ?_))))
  refine mv1 rfl rfl ?_
  refine mv1 rfl rfl ?_
  refine mv1 rfl rfl ?_
  refine mv1 rfl rfl ?_
  refine s_rd ((r_add rfl rfl).to (congrArg (iv .i64) hai)) rfl ?_
  refine s_rd (r_sub2 (l := ((Int.toNat i_1 + 1 : Nat) : Int)) (m := ((s_0.length + 1 : Nat) : Int)) (k := (s_0.length + 1)) (by omega) (by omega) (.inl (by have hh := of_decide_eq_false hc31; omega)) Try.underlying26 el_55 rfl (j := 0) rfl (.of rfl) .dft) rfl ?_
  refine s_rd (r_overlaps (f := 44) (tR := 4) hov rfl (by simp) (l := Int.toNat i_1 + 1) (m := (s_0.length + 1)) (by omega) (by have hh := of_decide_eq_false hc31; omega) (by decide) Try.underlying26 el_55 rfl (j2 := 1) rfl rfl (j := 0) rfl) rfl ?_
  refine s_rd (r_not rfl) rfl ?_
  refine l_nil (n_then ?_)
  refine ref_condT rfl rfl ?_
  refine ref_seq ?_
  refine ref_draw [0, 1, 2, 3, 4, 5, 6, 7] rfl (by kernel_rfl) (fun hok => ?_)
  refine a_rd (i := 0) hok rfl (by kernel_rfl) rfl (r_move rfl) rfl ?_
  refine a_rd (i := 1) hok rfl (by kernel_rfl) rfl (r_move rfl) rfl ?_
  refine a_rd (i := 2) hok rfl (by kernel_rfl) rfl (r_move rfl) rfl ?_
  refine a_rd (i := 3) hok rfl (by kernel_rfl) rfl ((r_add rfl rfl).to (congrArg (iv .i64) hai)) rfl ?_
  refine a_rd (i := 4) hok rfl (by kernel_rfl) rfl (r_sub2 (l := ((Int.toNat i_1 + 1 : Nat) : Int)) (m := ((s_0.length + 1 : Nat) : Int)) (k := (s_0.length + 1)) (by omega) (by omega) (.inl (by have hh := of_decide_eq_false hc31; omega)) Try.underlying26 el_55 rfl (j := 0) rfl (.of rfl) .dft) rfl ?_
  refine a_rd (i := 5) hok rfl (by kernel_rfl) rfl (r_move rfl) rfl ?_
  refine a_rd (i := 6) hok rfl (by kernel_rfl) rfl (r_move rfl) rfl ?_
  refine a_rd (i := 7) hok rfl (by kernel_rfl) rfl (r_sub2 (l := i_1) (m := ((s_0.length + 1 : Nat) : Int)) (k := (s_0.length + 1)) h0 (by omega) (.inl (by have hh := of_decide_eq_false hc31; omega)) Try.underlying26 el_55 rfl (j := 0) rfl (.of rfl) .dft) rfl ?_
  refine a_next hok 8 [] (by kernel_rfl) ?_ trivial
  refine a_st (i := 8) hok rfl rfl (s_shift (i := Int.toNat i_1) (by omega) (by have hh := of_decide_eq_false hc31; omega) Try.underlying26 el_55 rfl rfl (j := 0) rfl) (by intro _ h; cases h; rfl) (fun _ => ⟨trivial, ⟨trivial, ⟨trivial, ⟨trivial, ⟨trivial, ⟨trivial, ⟨trivial, ⟨trivial, trivial⟩⟩⟩⟩⟩⟩⟩⟩) (fun _ => ?_)
  refine a_fin hok (by kernel_rfl) ?_
  refine n_then (ref_seq (ref_region ?_))
  refine mv1 rfl rfl ?_
  refine mv1 rfl rfl ?_
  refine s_rd (r_osub (slME h0 (by rw [ins_shlen hlt]; omega)) Try.underlying26 el_55 rfl (j := 0) rfl (.of rfl) .dft) rfl ?_
  refine mv1 rfl rfl ?_
  refine b_of (frzL [2, 13, 61, 81] (j := 1) rfl ⟨rfl, rfl, rfl, rfl, trivial⟩) ?_
  refine s_st (s_copyS (l := Int.toNat i_1) (m := (s_0.take (Int.toNat i_1 + 1) ++ s_0.drop (Int.toNat i_1)).length) (d' := [p]) (by rw [ins_shlen hlt]; omega) (Nat.le_refl _) Try.underlying26 el_55 rfl (j := 0) rfl rfl) rfl (fun _ => ?_)
  refine l_nil (n_then (ref_seq (ref_region ?_)))
  refine mv1 rfl rfl ?_
  refine as1 rfl rfl ?_
  refine l_nil (n_then (ref_ret (r_then ?_)))
  refine b_of (odata (j := 0) rfl (ins_fin hlt _ (ins_shlen hlt))) ?_
  exact fin1 (.inl rfl) ((subV h_0.1 (rT_api_Packet).size 0 (s_0.length + 1)), h_0.2) [0] rfl ⟨rfl, trivial⟩ rfl (rv_tmp rfl)

/-! slices.BinarySearchFunc[[]deliberation/api.Packet,deliberation/api.Packet,int] -/
noncomputable def slices_BinarySearchFunc_api_Packet_api_Packet_int_l1 (x_0 : (List T_api_Packet)) (target_1 : Int) (s9 : Int × Int) : Option (Sum (Int) (Int × Int)) :=
  bif decide (s9.1 < s9.2) then
    letM (IntKind.wrap .i64 (ishr .u64 (IntKind.wrap .u64 (iadd .i64 s9.1 s9.2)) 1)) fun h12 =>
    Option.bind (idxM x_0 h12) fun t13 =>
    Option.bind (channel_line_receive_1_m t13 target_1) fun t14 =>
    bif decide (t14 < 0) then
      letM (iadd .i64 h12 1) fun i16x =>
      some (Sum.inr (i16x, s9.2))
    else
      some (Sum.inr (s9.1, h12))
  else
    some (Sum.inl s9.1)

noncomputable def slices_BinarySearchFunc_api_Packet_api_Packet_int_m (x_0 : (List T_api_Packet)) (target_1 : Int) : Option (Int × Bool) :=
  letM ((x_0.length : Int)) fun n1 =>
  Option.bind (loopC (slices_BinarySearchFunc_api_Packet_api_Packet_int_l1 x_0 target_1) (0, n1)) fun q17 : Int =>
  bif decide (q17 < n1) then
    Option.bind (idxM x_0 q17) fun t19 =>
    Option.bind (channel_line_receive_1_m t19 target_1) fun t20 =>
    some (q17, t20 == 0)
  else
    some (q17, false)

theorem slices_BinarySearchFunc_api_Packet_api_Packet_int_ok {x_0 : (List T_api_Packet)} {target_1 : Int} {r : Int × Bool} (hm : slices_BinarySearchFunc_api_Packet_api_Packet_int_m x_0 target_1 = some r) :
    FnOk prog 41 [slv rT_api_Packet x_0, iv .i64 target_1, pv (.func (.func 42) #[] #[])] [] (fun (x : Unit) => [iv .i64 r.1, bv r.2]) (fun (x : Unit) => []) := by
  refine fn_ok (fn := Try.f41) (N := 49) (res := fun r x => [iv .i64 r.1, bv r.2]) (Ω1 := fun r x => []) Try.func41 rfl rfl hm rfl (fun E hM => ?_)
  unfold slices_BinarySearchFunc_api_Packet_api_Packet_int_m
  refine ref_seq (ref_region ?_)
  refine as1 rfl rfl ?_
  refine as1 rfl rfl ?_
  refine l_nil (n_then (ref_seq (ref_region ?_)))
  refine mv1 rfl rfl ?_
  refine s_rd (r_len Try.underlying26 rfl) rfl ?_
  refine as1 rfl rfl ?_
  refine b_let (f := iv .i64) (t := 8) rfl fun n1 => ?_
  refine l_nil (n_then (ref_seq (ref_region ?_)))
  refine mv1 rfl rfl ?_
  refine as1 rfl rfl ?_
  refine as1 rfl rfl ?_
  refine l_nil (n_then (ref_seq ?_))
  refine ref_loopB (f := (slices_BinarySearchFunc_api_Packet_api_Packet_int_l1 x_0 target_1)) (Γl := (fun (s9 : Int × Int) (x10 : Unit) => [(0, slv rT_api_Packet x_0), (1, iv .i64 target_1), (2, pv (.func (.func 42) #[] #[])), (8, iv .i64 n1), (9, iv .i64 s9.1), (10, iv .i64 s9.2)])) (Ωl := (fun (s9 : Int × Int) (x10 : Unit) => [])) (Γb := (fun (q17 : Int) (y18 : Unit) => [(0, slv rT_api_Packet x_0), (1, iv .i64 target_1), (2, pv (.func (.func 42) #[] #[])), (8, iv .i64 n1), (9, iv .i64 q17)])) (Ωb := (fun (q17 : Int) (y18 : Unit) => [])) (0, n1) () (weak [] ⟨rfl, rfl, rfl, rfl, rfl, rfl, trivial⟩ trivial) (fun s9 x10 => ?_) (fun q17 y18 => ?_)
  · unfold slices_BinarySearchFunc_api_Packet_api_Packet_int_l1
    refine ref_seq (ref_seq (ref_region ?_))
    refine mv1 rfl rfl ?_
    refine mv1 rfl rfl ?_
    refine s_rd (r_lss rfl rfl) rfl ?_
    refine l_nil (n_then ?_)
    refine ref_cond rfl (fun hb11 => ?_) (fun hb11 => ?_)
    · refine ref_skip (n_then (ref_block (ref_seq (ref_region ?_))))
      refine mv1 rfl rfl ?_
      refine mv1 rfl rfl ?_
      refine s_rd (r_add rfl rfl) rfl ?_
      refine s_rd (r_conv (k' := .u64) rfl rfl rfl) rfl ?_
      refine s_rd (r_shr rfl rfl (by decide)) rfl ?_
      refine s_rd (r_conv (k' := .i64) rfl rfl rfl) rfl ?_
      refine as1 rfl rfl ?_
      refine b_let (f := iv .i64) (t := 11) rfl fun h12 => ?_
      refine l_nil (n_then (ref_seq (ref_region ?_)))
      refine mv1 rfl rfl ?_
      refine mv1 rfl rfl ?_
      refine mv1 rfl rfl ?_
      refine pull fun t13 h_t13 => ?_
      refine s_rd (r_index h_t13 Try.underlying26 el_55 rfl rfl) rfl ?_
      refine s_rd (r_load el_55 rfl) rfl ?_
      refine mv1 rfl rfl ?_
      refine pull fun t14 h_t14 => ?_
      refine s_st (s_call (ψ := fun (_ : Unit) => iv .i64 t14) (args := [.tmp 28, .tmp 29]) Try.call42 rfl (channel_line_receive_1_ok h_t14) ⟨arg rfl, arg rfl, trivial⟩ (fun _ _ _ _ h => h)) rfl (fun _ => ?_)
      refine s_rd (r_lss rfl rfl) rfl ?_
      refine l_nil (n_then ?_)
      refine ref_cond rfl (fun hb15 => ?_) (fun hb15 => ?_)
      · refine ref_region ?_
        refine mv1 rfl rfl ?_
        refine s_rd (r_add rfl rfl) rfl ?_
        refine as1 rfl rfl ?_
        refine b_let (f := iv .i64) (t := 9) rfl fun i16x => ?_
        refine l_nil (n_block ?_)
        exact goB () (weak [] ⟨rfl, rfl, rfl, rfl, rfl, rfl, trivial⟩ trivial)
      refine ref_region ?_
      refine mv1 rfl rfl ?_
      refine as1 rfl rfl ?_
      refine l_nil (n_block ?_)
      exact goB () (weak [] ⟨rfl, rfl, rfl, rfl, rfl, rfl, trivial⟩ trivial)
    refine ref_exit (x_then ?_)
    exact brkB () (weak [] ⟨rfl, rfl, rfl, rfl, rfl, trivial⟩ trivial)
  refine n_then (ref_seq (ref_region ?_))
  refine mv1 rfl rfl ?_
  refine mv1 rfl rfl ?_
  refine mv1 rfl rfl ?_
  refine s_rd (r_lss rfl rfl) rfl ?_
  refine mv1 rfl rfl ?_
  refine b_split (t := 39) rfl (fun _ => ?_) (fun _ => ?_)
  · refine s_on rfl rfl rfl ?_
    refine mv1 rfl rfl ?_
    refine s_on rfl rfl rfl ?_
    refine mv1 rfl rfl ?_
    refine s_on rfl rfl rfl ?_
    refine mv1 rfl rfl ?_
    refine s_on rfl rfl rfl ?_
    refine pull fun t19 h_t19 => ?_
    refine s_rd (r_index h_t19 Try.underlying26 el_55 rfl rfl) rfl ?_
    refine s_on rfl rfl rfl ?_
    refine s_rd (r_load el_55 rfl) rfl ?_
    refine s_on rfl rfl rfl ?_
    refine mv1 rfl rfl ?_
    refine s_on rfl rfl rfl ?_
    refine pull fun t20 h_t20 => ?_
    refine s_st (s_call (ψ := fun (_ : Unit) => iv .i64 t20) (args := [.tmp 44, .tmp 45]) Try.call42 rfl (channel_line_receive_1_ok h_t20) ⟨arg rfl, arg rfl, trivial⟩ (fun _ _ _ _ h => h)) rfl (fun _ => ?_)
    refine s_on rfl rfl rfl ?_
    refine s_rd (r_eql rfl rfl) rfl ?_
    refine s_rd (r_pickT rfl rfl) rfl ?_
    refine as1 rfl rfl ?_
    refine as1 rfl rfl ?_
    refine l_nil (n_then (ref_ret ?_))
    exact fin2 (.inl rfl) () [] rfl trivial rfl (rv_tmp rfl) (rv_tmp rfl)
  refine s_off rfl rfl rfl rfl rfl ?_
  refine s_off rfl rfl rfl rfl rfl ?_
  refine s_off rfl rfl rfl rfl rfl ?_
  refine s_off rfl rfl rfl rfl rfl ?_
  refine s_off rfl rfl rfl rfl rfl ?_
  refine s_off rfl rfl rfl rfl rfl ?_
  refine s_off rfl rfl rfl rfl rfl ?_
  refine s_off rfl rfl rfl rfl rfl ?_
  refine s_rd (r_pickF rfl rfl) rfl ?_
  refine as1 rfl rfl ?_
  refine as1 rfl rfl ?_
  refine l_nil (n_then (ref_ret ?_))
  exact fin2 (.inl rfl) () [] rfl trivial rfl (rv_tmp rfl) (rv_tmp rfl)

/-! (*deliberation/channel.line).full -/
noncomputable def channel_line_full_1_m (l_0 : T_channel_line) : Option (Bool) :=
  letM (decide ((l_0.c.Flight.length : Int) ≥ 200)) fun t1 =>
  some t1

theorem channel_line_full_1_ok {l_0 : T_channel_line} {b_0 : Nat} {h_1 : Value × List Nat} {h_2 : Value × List Nat} {h_3 : Value × List Nat} {h_4 : Value × List Nat} {r : Bool} (hm : channel_line_full_1_m l_0 = some r) :
    FnOk prog 29 [pv (ptr b_0 0)] [oc b_0 [pv h_1.1, iv .i64 l_0.c.Window, iv .i64 l_0.c.Base, pv h_2.1, pv h_3.1, pv h_4.1], oa (rI .i64) h_1.1 h_1.2 l_0.c.Items, oa (rI .i64) h_2.1 h_2.2 l_0.c.Received, oa rT_api_Packet h_3.1 h_3.2 l_0.c.Held, oa rT_api_Packet h_4.1 h_4.2 l_0.c.Flight] (fun (x : Unit) => [bv r]) (fun (x : Unit) => [oc b_0 [pv h_1.1, iv .i64 l_0.c.Window, iv .i64 l_0.c.Base, pv h_2.1, pv h_3.1, pv h_4.1], oa (rI .i64) h_1.1 h_1.2 l_0.c.Items, oa (rI .i64) h_2.1 h_2.2 l_0.c.Received, oa rT_api_Packet h_3.1 h_3.2 l_0.c.Held, oa rT_api_Packet h_4.1 h_4.2 l_0.c.Flight]) := by
  refine fn_ok (fn := Try.f29) (N := 10) (res := fun r x => [bv r]) (Ω1 := fun r x => [oc b_0 [pv h_1.1, iv .i64 l_0.c.Window, iv .i64 l_0.c.Base, pv h_2.1, pv h_3.1, pv h_4.1], oa (rI .i64) h_1.1 h_1.2 l_0.c.Items, oa (rI .i64) h_2.1 h_2.2 l_0.c.Received, oa rT_api_Packet h_3.1 h_3.2 l_0.c.Held, oa rT_api_Packet h_4.1 h_4.2 l_0.c.Flight]) Try.func29 rfl rfl hm rfl (fun E hM => ?_)
  unfold channel_line_full_1_m
  refine ref_seq (ref_region ?_)
  refine as1 rfl rfl ?_
  refine l_nil (n_then (ref_seq (ref_region ?_)))
  refine mv1 rfl rfl ?_
  refine s_rd (r_nilc rfl) rfl ?_
  refine s_rd (r_faddr (fo := 0) Try.underlying51 rfl rfl Try.sizeOf28 rfl) rfl ?_
  refine s_rd (r_faddr (fo := 5) Try.underlying28 rfl rfl Try.sizeOf26 rfl) rfl ?_
  refine s_rd (r_cload Try.isAgg26 rfl (j := 0) rfl rfl) rfl ?_
  refine s_rd (r_olen Try.underlying26 rfl (j := 4) rfl) rfl ?_
  refine s_rd (r_geq rfl rfl) rfl ?_
  refine as1 rfl rfl ?_
  refine b_let (f := bv) (t := 2) rfl fun t1 => ?_
  refine l_nil (n_then (ref_ret ?_))
  exact fin1 (.inl rfl) () [0, 1, 2, 3, 4] rfl ⟨rfl, rfl, rfl, rfl, rfl, trivial⟩ rfl (rv_tmp rfl)

/-! (*deliberation/channel.line).send -/
noncomputable def channel_line_send_m (l_0 : T_channel_line) (n_1 : Int) : Option (Int × T_channel_line) :=
  letM (iadd .i64 l_0.c.Base n_1) fun k1 =>
  joinM (fun j3 : Bool =>
      bif j3 then
        some (1, l_0)
      else
        Option.bind (channel_line_full_1_m l_0) fun t7 =>
        bif t7 then
          some (2, l_0)
        else
          Option.bind (idxM l_0.c.Items k1) fun t9 =>
          Option.bind (appM 24 l_0.c.Flight [(T_api_Packet.mk false k1 t9)]) fun t10 =>
          some (0, (T_channel_line.mk (T_api_Channel.mk l_0.c.Items l_0.c.Window l_0.c.Base l_0.c.Received l_0.c.Held t10)))) fun k5 =>
  bif decide (n_1 < 0) then
    k5 true
  else
    bif decide (n_1 ≥ l_0.c.Window) then
      k5 true
    else
      bif decide (k1 < 0) then
        k5 true
      else
        letM (decide (k1 ≥ (l_0.c.Items.length : Int))) fun t2 =>
        k5 t2

theorem channel_line_send_ok {l_0 : T_channel_line} {n_1 : Int} {b_0 : Nat} {h_1 : Value × List Nat} {h_2 : Value × List Nat} {h_3 : Value × List Nat} {h_4 : Value × List Nat} {r : Int × T_channel_line} (hm : channel_line_send_m l_0 n_1 = some r) :
    FnOk prog 26 [pv (ptr b_0 0), iv .i64 n_1] [oc b_0 [pv h_1.1, iv .i64 l_0.c.Window, iv .i64 l_0.c.Base, pv h_2.1, pv h_3.1, pv h_4.1], oa (rI .i64) h_1.1 h_1.2 l_0.c.Items, oa (rI .i64) h_2.1 h_2.2 l_0.c.Received, oa rT_api_Packet h_3.1 h_3.2 l_0.c.Held, oa rT_api_Packet h_4.1 h_4.2 l_0.c.Flight] (fun (x : (Value × List Nat)) => [iv .i64 r.1]) (fun (x : (Value × List Nat)) => [oc b_0 [pv h_1.1, iv .i64 r.2.c.Window, iv .i64 r.2.c.Base, pv h_2.1, pv h_3.1, pv x.1], oa (rI .i64) h_1.1 h_1.2 r.2.c.Items, oa (rI .i64) h_2.1 h_2.2 r.2.c.Received, oa rT_api_Packet h_3.1 h_3.2 r.2.c.Held, oa rT_api_Packet x.1 x.2 r.2.c.Flight]) := by
  refine fn_ok (X := (Value × List Nat)) (fn := Try.f26) (N := 63) (res := fun r x => [iv .i64 r.1]) (Ω1 := fun r x => [oc b_0 [pv h_1.1, iv .i64 r.2.c.Window, iv .i64 r.2.c.Base, pv h_2.1, pv h_3.1, pv x.1], oa (rI .i64) h_1.1 h_1.2 r.2.c.Items, oa (rI .i64) h_2.1 h_2.2 r.2.c.Received, oa rT_api_Packet h_3.1 h_3.2 r.2.c.Held, oa rT_api_Packet x.1 x.2 r.2.c.Flight]) Try.func26 rfl rfl hm rfl (fun E hM => ?_)
  unfold channel_line_send_m
  refine ref_seq (ref_region ?_)
  refine as1 rfl rfl ?_
  refine l_nil (n_then (ref_seq (ref_region ?_)))
  refine mv1 rfl rfl ?_
  refine s_rd (r_nilc rfl) rfl ?_
  refine s_rd (r_faddr (fo := 0) Try.underlying51 rfl rfl Try.sizeOf28 rfl) rfl ?_
  refine s_rd (r_faddr (fo := 2) Try.underlying28 rfl rfl Try.sizeOf3 rfl) rfl ?_
  refine s_rd (r_cload Try.isAgg3 rfl (j := 0) rfl rfl) rfl ?_
  refine mv1 rfl rfl ?_
  refine s_rd (r_add rfl rfl) rfl ?_
  refine as1 rfl rfl ?_
  refine b_let (f := iv .i64) (t := 5) rfl fun k1 => ?_
  refine l_nil (n_then (ref_seq (ref_block (ref_seq ?_))))
  refine ref_join (fun (j3 : Bool) (x4 : Unit) => [(0, pv (ptr b_0 0)), (5, iv .i64 k1), (13, bv j3)]) (fun (j3 : Bool) (x4 : Unit) => [oc b_0 [pv h_1.1, iv .i64 l_0.c.Window, iv .i64 l_0.c.Base, pv h_2.1, pv h_3.1, pv h_4.1], oa (rI .i64) h_1.1 h_1.2 l_0.c.Items, oa (rI .i64) h_2.1 h_2.2 l_0.c.Received, oa rT_api_Packet h_3.1 h_3.2 l_0.c.Held, oa rT_api_Packet h_4.1 h_4.2 l_0.c.Flight]) (fun k5 hk5 => ?_) (fun j3 x4 => ?_)
  · refine ref_region ?_
    refine mv1 rfl rfl ?_
    refine s_rd (r_lss rfl rfl) rfl ?_
    refine mv1 rfl rfl ?_
    refine b_split (t := 16) rfl (fun _ => ?_) (fun _ => ?_)
    · refine s_off rfl rfl rfl rfl rfl ?_
      refine s_off rfl rfl rfl rfl rfl ?_
      refine s_off rfl rfl rfl rfl rfl ?_
      refine s_off rfl rfl rfl rfl rfl ?_
      refine s_off rfl rfl rfl rfl rfl ?_
      refine s_off rfl rfl rfl rfl rfl ?_
      refine s_off rfl rfl rfl rfl rfl ?_
      refine s_rd (r_pickT rfl rfl) rfl ?_
      refine mv1 rfl rfl ?_
      refine s_off rfl rfl rfl rfl rfl ?_
      refine s_off rfl rfl rfl rfl rfl ?_
      refine s_rd (r_pickT rfl rfl) rfl ?_
      refine mv1 rfl rfl ?_
      refine s_off rfl rfl rfl rfl rfl ?_
      refine s_off rfl rfl rfl rfl rfl ?_
      refine s_off rfl rfl rfl rfl rfl ?_
      refine s_off rfl rfl rfl rfl rfl ?_
      refine s_off rfl rfl rfl rfl rfl ?_
      refine s_off rfl rfl rfl rfl rfl ?_
      refine s_off rfl rfl rfl rfl rfl ?_
      refine s_off rfl rfl rfl rfl rfl ?_
      refine s_rd (r_pickT rfl rfl) rfl ?_
      refine as1 rfl rfl ?_
      refine l_nil ?_
      exact b_to (hk5 true ()) (weak [0, 1, 2, 3, 4] ⟨rfl, rfl, rfl, trivial⟩ ⟨rfl, rfl, rfl, rfl, rfl, trivial⟩)
    refine s_on rfl rfl rfl ?_
    refine mv1 rfl rfl ?_
    refine s_on rfl rfl rfl ?_
    refine mv1 rfl rfl ?_
    refine s_on rfl rfl rfl ?_
    refine s_rd (r_nilc rfl) rfl ?_
    refine s_on rfl rfl rfl ?_
    refine s_rd (r_faddr (fo := 0) Try.underlying51 rfl rfl Try.sizeOf28 rfl) rfl ?_
    refine s_on rfl rfl rfl ?_
    refine s_rd (r_faddr (fo := 1) Try.underlying28 rfl rfl Try.sizeOf3 rfl) rfl ?_
    refine s_on rfl rfl rfl ?_
    refine s_rd (r_cload Try.isAgg3 rfl (j := 0) rfl rfl) rfl ?_
    refine s_on rfl rfl rfl ?_
    refine s_rd (r_geq rfl rfl) rfl ?_
    refine s_rd (r_pickF rfl rfl) rfl ?_
    refine mv1 rfl rfl ?_
    refine b_split (t := 25) rfl (fun _ => ?_) (fun _ => ?_)
    · refine s_off rfl rfl rfl rfl rfl ?_
      refine s_off rfl rfl rfl rfl rfl ?_
      refine s_rd (r_pickT rfl rfl) rfl ?_
      refine mv1 rfl rfl ?_
      refine s_off rfl rfl rfl rfl rfl ?_
      refine s_off rfl rfl rfl rfl rfl ?_
      refine s_off rfl rfl rfl rfl rfl ?_
      refine s_off rfl rfl rfl rfl rfl ?_
      refine s_off rfl rfl rfl rfl rfl ?_
      refine s_off rfl rfl rfl rfl rfl ?_
      refine s_off rfl rfl rfl rfl rfl ?_
      refine s_off rfl rfl rfl rfl rfl ?_
      refine s_rd (r_pickT rfl rfl) rfl ?_
      refine as1 rfl rfl ?_
      refine l_nil ?_
      exact b_to (hk5 true ()) (weak [0, 1, 2, 3, 4] ⟨rfl, rfl, rfl, trivial⟩ ⟨rfl, rfl, rfl, rfl, rfl, trivial⟩)
    refine s_on rfl rfl rfl ?_
    refine mv1 rfl rfl ?_
    refine s_on rfl rfl rfl ?_
    refine s_rd (r_lss rfl rfl) rfl ?_
    refine s_rd (r_pickF rfl rfl) rfl ?_
    refine mv1 rfl rfl ?_
    refine b_split (t := 29) rfl (fun _ => ?_) (fun _ => ?_)
    · refine s_off rfl rfl rfl rfl rfl ?_
      refine s_off rfl rfl rfl rfl rfl ?_
      refine s_off rfl rfl rfl rfl rfl ?_
      refine s_off rfl rfl rfl rfl rfl ?_
      refine s_off rfl rfl rfl rfl rfl ?_
      refine s_off rfl rfl rfl rfl rfl ?_
      refine s_off rfl rfl rfl rfl rfl ?_
      refine s_off rfl rfl rfl rfl rfl ?_
      refine s_rd (r_pickT rfl rfl) rfl ?_
      refine as1 rfl rfl ?_
      refine l_nil ?_
      exact b_to (hk5 true ()) (weak [0, 1, 2, 3, 4] ⟨rfl, rfl, rfl, trivial⟩ ⟨rfl, rfl, rfl, rfl, rfl, trivial⟩)
    refine s_on rfl rfl rfl ?_
    refine mv1 rfl rfl ?_
    refine s_on rfl rfl rfl ?_
    refine mv1 rfl rfl ?_
    refine s_on rfl rfl rfl ?_
    refine s_rd (r_nilc rfl) rfl ?_
    refine s_on rfl rfl rfl ?_
    refine s_rd (r_faddr (fo := 0) Try.underlying51 rfl rfl Try.sizeOf28 rfl) rfl ?_
    refine s_on rfl rfl rfl ?_
    refine s_rd (r_faddr (fo := 0) Try.underlying28 rfl rfl Try.sizeOf22 rfl) rfl ?_
    refine s_on rfl rfl rfl ?_
    refine s_rd (r_cload Try.isAgg22 rfl (j := 0) rfl rfl) rfl ?_
    refine s_on rfl rfl rfl ?_
    refine s_rd (r_olen Try.underlying22 rfl (j := 1) rfl) rfl ?_
    refine s_on rfl rfl rfl ?_
    refine s_rd (r_geq rfl rfl) rfl ?_
    refine s_rd (r_pickF rfl rfl) rfl ?_
    refine as1 rfl rfl ?_
    refine b_let (f := bv) (t := 13) rfl fun t2 => ?_
    refine l_nil ?_
    exact b_to (hk5 t2 ()) (weak [0, 1, 2, 3, 4] ⟨rfl, rfl, rfl, trivial⟩ ⟨rfl, rfl, rfl, rfl, rfl, trivial⟩)
  refine n_then ?_
  refine ref_cond rfl (fun hb6 => ?_) (fun hb6 => ?_)
  · refine ref_seq (ref_region ?_)
    refine as1 rfl rfl ?_
    refine l_nil (n_then (ref_ret (r_block (r_then ?_))))
    exact fin1 (.inl rfl) h_4 [0, 1, 2, 3, 4] rfl ⟨rfl, rfl, rfl, rfl, rfl, trivial⟩ rfl (rv_tmp rfl)
  refine ref_seq (ref_region ?_)
  refine mv1 rfl rfl ?_
  refine pull fun t7 h_t7 => ?_
  refine s_st (s_callC [0, 1, 2, 3, 4] [true, true, true, true, true] (fun (_ : Unit) => [oc b_0 [pv h_1.1, iv .i64 l_0.c.Window, iv .i64 l_0.c.Base, pv h_2.1, pv h_3.1, pv h_4.1], oa (rI .i64) h_1.1 h_1.2 l_0.c.Items, oa (rI .i64) h_2.1 h_2.2 l_0.c.Received, oa rT_api_Packet h_3.1 h_3.2 l_0.c.Held, oa rT_api_Packet h_4.1 h_4.2 l_0.c.Flight]) (fun (_ : Unit) => []) (fun (_ : Unit) => bv t7) (args := [.tmp 40]) (caps := []) Try.call29 rfl (channel_line_full_1_ok h_t7) ⟨rfl, rfl, ⟨rfl, rfl, ⟨rfl, rfl, ⟨rfl, rfl, ⟨rfl, rfl, trivial⟩⟩⟩⟩⟩ (fun _ => rfl) (fun _ => trivial) (fun _ => rfl) ⟨arg rfl, trivial⟩ (fun _ _ _ _ h => h)) rfl (fun _ => ?_)
  refine as1 rfl rfl ?_
  refine l_nil (n_then ?_)
  refine ref_cond rfl (fun hb8 => ?_) (fun hb8 => ?_)
  · refine ref_seq (ref_region ?_)
    refine as1 rfl rfl ?_
    refine l_nil (n_then (ref_ret (r_block (r_then ?_))))
    exact fin1 (.inl rfl) h_4 [0, 1, 2, 3, 4] rfl ⟨rfl, rfl, rfl, rfl, rfl, trivial⟩ rfl (rv_tmp rfl)
  refine ref_skip (n_block (n_then (ref_seq ?_)))
  refine ref_draw [0, 1, 2, 3, 4, 5, 6, 7, 8, 9, 10, 11, 12, 13, 14, 15, 18, 19, 20] rfl (by kernel_rfl) (fun hok => ?_)
  refine a_rd (i := 0) hok rfl (by kernel_rfl) rfl (r_move rfl) rfl ?_
  refine a_rd (i := 1) hok rfl (by kernel_rfl) rfl (r_move rfl) rfl ?_
  refine a_rd (i := 2) hok rfl (by kernel_rfl) rfl (r_nilc rfl) rfl ?_
  refine a_rd (i := 3) hok rfl (by kernel_rfl) rfl (r_faddr (fo := 0) Try.underlying51 rfl rfl Try.sizeOf28 rfl) rfl ?_
  refine a_rd (i := 4) hok rfl (by kernel_rfl) rfl (r_faddr (fo := 5) Try.underlying28 rfl rfl Try.sizeOf26 rfl) rfl ?_
  refine a_rd (i := 5) hok rfl (by kernel_rfl) rfl (r_cload Try.isAgg26 rfl (j := 0) rfl rfl) rfl ?_
  refine a_rd (i := 6) hok rfl (by kernel_rfl) rfl (r_move rfl) rfl ?_
  refine a_rd (i := 7) hok rfl (by kernel_rfl) rfl (r_move rfl) rfl ?_
  refine a_rd (i := 8) hok rfl (by kernel_rfl) rfl (r_nilc rfl) rfl ?_
  refine a_rd (i := 9) hok rfl (by kernel_rfl) rfl (r_faddr (fo := 0) Try.underlying51 rfl rfl Try.sizeOf28 rfl) rfl ?_
  refine a_rd (i := 10) hok rfl (by kernel_rfl) rfl (r_faddr (fo := 0) Try.underlying28 rfl rfl Try.sizeOf22 rfl) rfl ?_
  refine a_rd (i := 11) hok rfl (by kernel_rfl) rfl (r_cload Try.isAgg22 rfl (j := 0) rfl rfl) rfl ?_
  refine a_rd (i := 12) hok rfl (by kernel_rfl) rfl (r_move rfl) rfl ?_
  refine pull fun t9 h_t9 => ?_
  refine a_rd (i := 13) hok rfl (by kernel_rfl) rfl (r_oindex h_t9 Try.underlying22 el_3 rfl (j := 1) rfl rfl) rfl ?_
  refine a_rd (i := 14) hok rfl (by kernel_rfl) rfl (r_oload h_t9 el_3 rfl (j := 1) rfl) rfl ?_
  refine a_rd (i := 15) hok rfl (by kernel_rfl) rfl (r_build (ps := [(1, .tmp 48), (2, .tmp 56)]) (rs := [(1, [iv .i64 k1]), (2, [iv .i64 t9])]) st_55 zs_55 ⟨rfl, (part_at rfl iv_at), ⟨rfl, (part_at rfl iv_at), trivial⟩⟩ rfl rfl) rfl ?_
  refine a_next hok 16 [] (by kernel_rfl) ?_ trivial
  refine a_st (i := 16) hok rfl rfl (s_bslice (xs := [.tmp 57]) (ds := [(T_api_Packet.mk false k1 t9)]) Try.underlying26 el_55 rfl (Nat.le_of_ble_eq_true rfl) ⟨(part_agO (ψs := [bv false, iv .i64 k1, iv .i64 t9]) rfl ⟨.inl bv_at, .inl iv_at, .inl iv_at, trivial⟩), trivial⟩) (by intro _ h; cases h; rfl) (fun _ => ⟨trivial, ⟨⟨⟨rfl, rfl⟩, trivial⟩, ⟨trivial, ⟨trivial, ⟨⟨⟨rfl, rfl⟩, trivial⟩, ⟨trivial, ⟨trivial, ⟨trivial, ⟨trivial, ⟨trivial, ⟨⟨⟨rfl, rfl⟩, trivial⟩, ⟨trivial, ⟨trivial, ⟨trivial, ⟨trivial, ⟨trivial, trivial⟩⟩⟩⟩⟩⟩⟩⟩⟩⟩⟩⟩⟩⟩⟩⟩) (fun _ => ?_)
  refine pull fun t10 h_t10 => ?_
  refine a_next hok 17 [] (by kernel_rfl) ?_ trivial
  refine a_st (i := 17) hok rfl rfl (s_append h_t10 Try.underlying26 el_55 rfl (j := 4) rfl rfl) (by intro _ h; cases h; rfl) (fun _ => ⟨trivial, ⟨⟨⟨rfl, rfl⟩, trivial⟩, ⟨trivial, ⟨trivial, ⟨⟨⟨rfl, rfl⟩, trivial⟩, ⟨trivial, ⟨trivial, ⟨trivial, ⟨trivial, ⟨trivial, ⟨trivial, ⟨trivial, ⟨trivial, ⟨trivial, ⟨trivial, ⟨trivial, trivial⟩⟩⟩⟩⟩⟩⟩⟩⟩⟩⟩⟩⟩⟩⟩⟩) (fun o11 => ?_)
  refine a_rd (i := 18) hok rfl (by kernel_rfl) rfl (r_nilc rfl) rfl ?_
  refine a_rd (i := 19) hok rfl (by kernel_rfl) rfl (r_faddr (fo := 0) Try.underlying51 rfl rfl Try.sizeOf28 rfl) rfl ?_
  refine a_rd (i := 20) hok rfl (by kernel_rfl) rfl (r_faddr (fo := 5) Try.underlying28 rfl rfl Try.sizeOf26 rfl) rfl ?_
  refine a_next hok 21 [] (by kernel_rfl) ?_ trivial
  refine a_st (i := 21) hok rfl rfl (s_cstore (out := [pv h_1.1, iv .i64 l_0.c.Window, iv .i64 l_0.c.Base, pv h_2.1, pv h_3.1, pv o11.1]) Try.sizeOf26 rfl (j := 0) rfl (part_own rfl (j := 4) rfl) rfl rfl rfl) (by intro _ h; cases h) (fun _ => ⟨trivial, ⟨trivial, ⟨trivial, ⟨trivial, ⟨trivial, ⟨trivial, ⟨trivial, ⟨trivial, ⟨trivial, ⟨trivial, ⟨trivial, ⟨trivial, ⟨trivial, ⟨trivial, ⟨trivial, ⟨trivial, ⟨trivial, ⟨trivial, ⟨trivial, trivial⟩⟩⟩⟩⟩⟩⟩⟩⟩⟩⟩⟩⟩⟩⟩⟩⟩⟩⟩) (fun _ => ?_)
  refine a_fin hok (by kernel_rfl) ?_
  refine b_of (nrm [oc b_0 [pv h_1.1, iv .i64 l_0.c.Window, iv .i64 l_0.c.Base, pv h_2.1, pv h_3.1, pv o11.1], oa (rI .i64) h_1.1 h_1.2 l_0.c.Items, oa (rI .i64) h_2.1 h_2.2 l_0.c.Received, oa rT_api_Packet h_3.1 h_3.2 l_0.c.Held, oa rT_api_Packet o11.1 o11.2 t10] rfl) ?_
  refine n_then (ref_seq (ref_region ?_))
  refine as1 rfl rfl ?_
  refine l_nil (n_then (ref_ret ?_))
  exact fin1 (.inl rfl) o11 [0, 1, 2, 3, 4] rfl ⟨rfl, rfl, rfl, rfl, rfl, trivial⟩ rfl (rv_tmp rfl)

/-! slices.BinarySearchFunc[[]deliberation/api.Packet,deliberation/api.Packet,int] -/
noncomputable def slices_BinarySearchFunc_api_Packet_api_Packet_int_1_l1 (x_0 : (List T_api_Packet)) (target_1 : Int) (s9 : Int × Int) : Option (Sum (Int) (Int × Int)) :=
  bif decide (s9.1 < s9.2) then
    letM (IntKind.wrap .i64 (ishr .u64 (IntKind.wrap .u64 (iadd .i64 s9.1 s9.2)) 1)) fun h12 =>
    Option.bind (idxM x_0 h12) fun t13 =>
    Option.bind (channel_line_receive_1_m t13 target_1) fun t14 =>
    bif decide (t14 < 0) then
      letM (iadd .i64 h12 1) fun i16x =>
      some (Sum.inr (i16x, s9.2))
    else
      some (Sum.inr (s9.1, h12))
  else
    some (Sum.inl s9.1)

noncomputable def slices_BinarySearchFunc_api_Packet_api_Packet_int_1_m (x_0 : (List T_api_Packet)) (target_1 : Int) : Option (Int × Bool) :=
  letM ((x_0.length : Int)) fun n1 =>
  Option.bind (loopC (slices_BinarySearchFunc_api_Packet_api_Packet_int_1_l1 x_0 target_1) (0, n1)) fun q17 : Int =>
  bif decide (q17 < n1) then
    Option.bind (idxM x_0 q17) fun t19 =>
    Option.bind (channel_line_receive_1_m t19 target_1) fun t20 =>
    some (q17, t20 == 0)
  else
    some (q17, false)

theorem slices_BinarySearchFunc_api_Packet_api_Packet_int_1_ok {x_0 : (List T_api_Packet)} {target_1 : Int} {h_0 : Value × List Nat} {r : Int × Bool} (hm : slices_BinarySearchFunc_api_Packet_api_Packet_int_1_m x_0 target_1 = some r) :
    FnOk prog 41 [pv h_0.1, iv .i64 target_1, pv (.func (.func 42) #[] #[])] [oa rT_api_Packet h_0.1 h_0.2 x_0] (fun (x : Unit) => [iv .i64 r.1, bv r.2]) (fun (x : Unit) => [oa rT_api_Packet h_0.1 h_0.2 x_0]) := by
  refine fn_ok (fn := Try.f41) (N := 49) (res := fun r x => [iv .i64 r.1, bv r.2]) (Ω1 := fun r x => [oa rT_api_Packet h_0.1 h_0.2 x_0]) Try.func41 rfl rfl hm rfl (fun E hM => ?_)
  unfold slices_BinarySearchFunc_api_Packet_api_Packet_int_1_m
  refine ref_seq (ref_region ?_)
  refine as1 rfl rfl ?_
  refine as1 rfl rfl ?_
  refine l_nil (n_then (ref_seq (ref_region ?_)))
  refine mv1 rfl rfl ?_
  refine s_rd (r_olen Try.underlying26 rfl (j := 0) rfl) rfl ?_
  refine as1 rfl rfl ?_
  refine b_let (f := iv .i64) (t := 8) rfl fun n1 => ?_
  refine l_nil (n_then (ref_seq (ref_region ?_)))
  refine mv1 rfl rfl ?_
  refine as1 rfl rfl ?_
  refine as1 rfl rfl ?_
  refine l_nil (n_then (ref_seq ?_))
  refine ref_loopB (f := (slices_BinarySearchFunc_api_Packet_api_Packet_int_1_l1 x_0 target_1)) (Γl := (fun (s9 : Int × Int) (x10 : Unit) => [(0, pv h_0.1), (1, iv .i64 target_1), (2, pv (.func (.func 42) #[] #[])), (8, iv .i64 n1), (9, iv .i64 s9.1), (10, iv .i64 s9.2)])) (Ωl := (fun (s9 : Int × Int) (x10 : Unit) => [oa rT_api_Packet h_0.1 h_0.2 x_0])) (Γb := (fun (q17 : Int) (y18 : Unit) => [(0, pv h_0.1), (1, iv .i64 target_1), (2, pv (.func (.func 42) #[] #[])), (8, iv .i64 n1), (9, iv .i64 q17)])) (Ωb := (fun (q17 : Int) (y18 : Unit) => [oa rT_api_Packet h_0.1 h_0.2 x_0])) (0, n1) () (weak [0] ⟨rfl, rfl, rfl, rfl, rfl, rfl, trivial⟩ ⟨rfl, trivial⟩) (fun s9 x10 => ?_) (fun q17 y18 => ?_)
  · unfold slices_BinarySearchFunc_api_Packet_api_Packet_int_1_l1
    refine ref_seq (ref_seq (ref_region ?_))
    refine mv1 rfl rfl ?_
    refine mv1 rfl rfl ?_
    refine s_rd (r_lss rfl rfl) rfl ?_
    refine l_nil (n_then ?_)
    refine ref_cond rfl (fun hb11 => ?_) (fun hb11 => ?_)
    · refine ref_skip (n_then (ref_block (ref_seq (ref_region ?_))))
      refine mv1 rfl rfl ?_
      refine mv1 rfl rfl ?_
      refine s_rd (r_add rfl rfl) rfl ?_
      refine s_rd (r_conv (k' := .u64) rfl rfl rfl) rfl ?_
      refine s_rd (r_shr rfl rfl (by decide)) rfl ?_
      refine s_rd (r_conv (k' := .i64) rfl rfl rfl) rfl ?_
      refine as1 rfl rfl ?_
      refine b_let (f := iv .i64) (t := 11) rfl fun h12 => ?_
      refine l_nil (n_then (ref_seq (ref_region ?_)))
      refine mv1 rfl rfl ?_
      refine mv1 rfl rfl ?_
      refine mv1 rfl rfl ?_
      refine pull fun t13 h_t13 => ?_
      refine s_rd (r_oindex h_t13 Try.underlying26 el_55 rfl (j := 0) rfl rfl) rfl ?_
      refine s_rd (r_oload h_t13 el_55 rfl (j := 0) rfl) rfl ?_
      refine mv1 rfl rfl ?_
      refine pull fun t14 h_t14 => ?_
      refine s_st (s_call (ψ := fun (_ : Unit) => iv .i64 t14) (args := [.tmp 28, .tmp 29]) Try.call42 rfl (channel_line_receive_1_ok h_t14) ⟨arg rfl, arg rfl, trivial⟩ (fun _ _ _ _ h => h)) rfl (fun _ => ?_)
      refine s_rd (r_lss rfl rfl) rfl ?_
      refine l_nil (n_then ?_)
      refine ref_cond rfl (fun hb15 => ?_) (fun hb15 => ?_)
      · refine ref_region ?_
        refine mv1 rfl rfl ?_
        refine s_rd (r_add rfl rfl) rfl ?_
        refine as1 rfl rfl ?_
        refine b_let (f := iv .i64) (t := 9) rfl fun i16x => ?_
        refine l_nil (n_block ?_)
        exact goB () (weak [0] ⟨rfl, rfl, rfl, rfl, rfl, rfl, trivial⟩ ⟨rfl, trivial⟩)
      refine ref_region ?_
      refine mv1 rfl rfl ?_
      refine as1 rfl rfl ?_
      refine l_nil (n_block ?_)
      exact goB () (weak [0] ⟨rfl, rfl, rfl, rfl, rfl, rfl, trivial⟩ ⟨rfl, trivial⟩)
    refine ref_exit (x_then ?_)
    exact brkB () (weak [0] ⟨rfl, rfl, rfl, rfl, rfl, trivial⟩ ⟨rfl, trivial⟩)
  refine n_then (ref_seq (ref_region ?_))
  refine mv1 rfl rfl ?_
  refine mv1 rfl rfl ?_
  refine mv1 rfl rfl ?_
  refine s_rd (r_lss rfl rfl) rfl ?_
  refine mv1 rfl rfl ?_
  refine b_split (t := 39) rfl (fun _ => ?_) (fun _ => ?_)
  · refine s_on rfl rfl rfl ?_
    refine mv1 rfl rfl ?_
    refine s_on rfl rfl rfl ?_
    refine mv1 rfl rfl ?_
    refine s_on rfl rfl rfl ?_
    refine mv1 rfl rfl ?_
    refine s_on rfl rfl rfl ?_
    refine pull fun t19 h_t19 => ?_
    refine s_rd (r_oindex h_t19 Try.underlying26 el_55 rfl (j := 0) rfl rfl) rfl ?_
    refine s_on rfl rfl rfl ?_
    refine s_rd (r_oload h_t19 el_55 rfl (j := 0) rfl) rfl ?_
    refine s_on rfl rfl rfl ?_
    refine mv1 rfl rfl ?_
    refine s_on rfl rfl rfl ?_
    refine pull fun t20 h_t20 => ?_
    refine s_st (s_call (ψ := fun (_ : Unit) => iv .i64 t20) (args := [.tmp 44, .tmp 45]) Try.call42 rfl (channel_line_receive_1_ok h_t20) ⟨arg rfl, arg rfl, trivial⟩ (fun _ _ _ _ h => h)) rfl (fun _ => ?_)
    refine s_on rfl rfl rfl ?_
    refine s_rd (r_eql rfl rfl) rfl ?_
    refine s_rd (r_pickT rfl rfl) rfl ?_
    refine as1 rfl rfl ?_
    refine as1 rfl rfl ?_
    refine l_nil (n_then (ref_ret ?_))
    exact fin2 (.inl rfl) () [0] rfl ⟨rfl, trivial⟩ rfl (rv_tmp rfl) (rv_tmp rfl)
  refine s_off rfl rfl rfl rfl rfl ?_
  refine s_off rfl rfl rfl rfl rfl ?_
  refine s_off rfl rfl rfl rfl rfl ?_
  refine s_off rfl rfl rfl rfl rfl ?_
  refine s_off rfl rfl rfl rfl rfl ?_
  refine s_off rfl rfl rfl rfl rfl ?_
  refine s_off rfl rfl rfl rfl rfl ?_
  refine s_off rfl rfl rfl rfl rfl ?_
  refine s_rd (r_pickF rfl rfl) rfl ?_
  refine as1 rfl rfl ?_
  refine as1 rfl rfl ?_
  refine l_nil (n_then (ref_ret ?_))
  exact fin2 (.inl rfl) () [0] rfl ⟨rfl, trivial⟩ rfl (rv_tmp rfl) (rv_tmp rfl)

/-! (*deliberation/channel.line).receive -/
noncomputable def channel_line_receive_l1  (s23 : (List Int) × (List T_api_Packet)) : Option (Sum ((List Int) × (List T_api_Packet)) ((List Int) × (List T_api_Packet))) :=
  bif decide ((s23.2.length : Int) > 0) then
    Option.bind (idxM s23.2 0) fun t25 =>
    bif t25.Number == (s23.1.length : Int) then
      Option.bind (idxM s23.2 0) fun t27 =>
      Option.bind (appM 8 s23.1 [t27.Value]) fun t28 =>
      Option.bind (slM s23.2 1 (s23.2.length : Int)) fun t30 =>
      some (Sum.inr (t28, t30))
    else
      some (Sum.inl (s23.1, s23.2))
  else
    some (Sum.inl (s23.1, s23.2))

noncomputable def channel_line_receive_m (l_0 : T_channel_line) (p_1 : T_api_Packet) : Option (T_channel_line) :=
  letM ((l_0.c.Received.length : Int)) fun n2 =>
  Option.bind (slices_BinarySearchFunc_api_Packet_api_Packet_int_1_m l_0.c.Held p_1.Number) fun t3 =>
  joinM (fun j11 : (List T_api_Packet) =>
      Option.bind (loopC (channel_line_receive_l1) (l_0.c.Received, j11)) fun q32 : (List Int) × (List T_api_Packet) =>
      Option.bind (channel_line_full_1_m (T_channel_line.mk (T_api_Channel.mk l_0.c.Items l_0.c.Window l_0.c.Base q32.1 q32.2 l_0.c.Flight))) fun t34 =>
      bif !t34 then
        Option.bind (appM 24 (((T_channel_line.mk (T_api_Channel.mk l_0.c.Items l_0.c.Window l_0.c.Base q32.1 q32.2 l_0.c.Flight)).c).Flight) [(T_api_Packet.mk true ((((T_channel_line.mk (T_api_Channel.mk l_0.c.Items l_0.c.Window l_0.c.Base q32.1 q32.2 l_0.c.Flight)).c).Received).length : Int) 0)]) fun t36 =>
        some (T_channel_line.mk (T_api_Channel.mk (((T_channel_line.mk (T_api_Channel.mk l_0.c.Items l_0.c.Window l_0.c.Base q32.1 q32.2 l_0.c.Flight)).c).Items) l_0.c.Window l_0.c.Base (((T_channel_line.mk (T_api_Channel.mk l_0.c.Items l_0.c.Window l_0.c.Base q32.1 q32.2 l_0.c.Flight)).c).Received) (((T_channel_line.mk (T_api_Channel.mk l_0.c.Items l_0.c.Window l_0.c.Base q32.1 q32.2 l_0.c.Flight)).c).Held) t36))
      else
        some (T_channel_line.mk (T_api_Channel.mk (((T_channel_line.mk (T_api_Channel.mk l_0.c.Items l_0.c.Window l_0.c.Base q32.1 q32.2 l_0.c.Flight)).c).Items) l_0.c.Window l_0.c.Base (((T_channel_line.mk (T_api_Channel.mk l_0.c.Items l_0.c.Window l_0.c.Base q32.1 q32.2 l_0.c.Flight)).c).Received) (((T_channel_line.mk (T_api_Channel.mk l_0.c.Items l_0.c.Window l_0.c.Base q32.1 q32.2 l_0.c.Flight)).c).Held) (((T_channel_line.mk (T_api_Channel.mk l_0.c.Items l_0.c.Window l_0.c.Base q32.1 q32.2 l_0.c.Flight)).c).Flight)))) fun k13 =>
  joinM (fun j4 : Bool =>
      bif j4 then
        Option.bind (slices_Insert_api_Packet_api_Packet_m l_0.c.Held t3.1 [p_1]) fun t9 =>
        k13 t9
      else
        k13 l_0.c.Held) fun k6 =>
  bif decide (p_1.Number ≥ n2) then
    bif decide (p_1.Number < (iadd .i64 n2 l_0.c.Window)) then
      k6 (!t3.2)
    else
      k6 false
  else
    k6 false

theorem channel_line_receive_ok {l_0 : T_channel_line} {p_1 : T_api_Packet} {b_0 : Nat} {h_1 : Value × List Nat} {h_2 : Value × List Nat} {h_3 : Value × List Nat} {h_4 : Value × List Nat} {r : T_channel_line} (hm : channel_line_receive_m l_0 p_1 = some r) :
    FnOk prog 40 [pv (ptr b_0 0), ag [bv p_1.Ack, iv .i64 p_1.Number, iv .i64 p_1.Value]] [oc b_0 [pv h_1.1, iv .i64 l_0.c.Window, iv .i64 l_0.c.Base, pv h_2.1, pv h_3.1, pv h_4.1], oa (rI .i64) h_1.1 h_1.2 l_0.c.Items, oa (rI .i64) h_2.1 h_2.2 l_0.c.Received, oa rT_api_Packet h_3.1 h_3.2 l_0.c.Held, oa rT_api_Packet h_4.1 h_4.2 l_0.c.Flight] (fun (x : (Value × List Nat) × (Value × List Nat) × (Value × List Nat)) => []) (fun (x : (Value × List Nat) × (Value × List Nat) × (Value × List Nat)) => [oc b_0 [pv h_1.1, iv .i64 r.c.Window, iv .i64 r.c.Base, pv x.1.1, pv x.2.1.1, pv x.2.2.1], oa (rI .i64) h_1.1 h_1.2 r.c.Items, oa (rI .i64) x.1.1 x.1.2 r.c.Received, oa rT_api_Packet x.2.1.1 x.2.1.2 r.c.Held, oa rT_api_Packet x.2.2.1 x.2.2.2 r.c.Flight]) := by
  refine fn_ok (X := (Value × List Nat) × (Value × List Nat) × (Value × List Nat)) (fn := Try.f40) (N := 131) (res := fun r x => []) (Ω1 := fun r x => [oc b_0 [pv h_1.1, iv .i64 r.c.Window, iv .i64 r.c.Base, pv x.1.1, pv x.2.1.1, pv x.2.2.1], oa (rI .i64) h_1.1 h_1.2 r.c.Items, oa (rI .i64) x.1.1 x.1.2 r.c.Received, oa rT_api_Packet x.2.1.1 x.2.1.2 r.c.Held, oa rT_api_Packet x.2.2.1 x.2.2.2 r.c.Flight]) Try.func40 rfl rfl hm rfl (fun E hM => ?_)
  unfold channel_line_receive_m
  refine ref_seq (ref_region ?_)
  refine s_st (s_box (part_agO (ψs := [bv p_1.Ack, iv .i64 p_1.Number, iv .i64 p_1.Value]) rfl ⟨.inl bv_at, .inl iv_at, .inl iv_at, trivial⟩)) rfl (fun b1 => ?_)
  refine l_nil (n_then (ref_seq (ref_region ?_)))
  refine mv1 rfl rfl ?_
  refine s_rd (r_nilc rfl) rfl ?_
  refine s_rd (r_faddr (fo := 0) Try.underlying51 rfl rfl Try.sizeOf28 rfl) rfl ?_
  refine s_rd (r_faddr (fo := 3) Try.underlying28 rfl rfl Try.sizeOf22 rfl) rfl ?_
  refine s_rd (r_cload Try.isAgg22 rfl (j := 0) rfl rfl) rfl ?_
  refine s_rd (r_olen Try.underlying22 rfl (j := 2) rfl) rfl ?_
  refine as1 rfl rfl ?_
  refine b_let (f := iv .i64) (t := 4) rfl fun n2 => ?_
  refine l_nil (n_then (ref_seq ?_))
  refine ref_draw [0, 1, 2, 3, 4, 5, 6, 8, 9, 10] rfl (by kernel_rfl) (fun hok => ?_)
  refine a_rd (i := 0) hok rfl (by kernel_rfl) rfl (r_move rfl) rfl ?_
  refine a_rd (i := 1) hok rfl (by kernel_rfl) rfl (r_nilc rfl) rfl ?_
  refine a_rd (i := 2) hok rfl (by kernel_rfl) rfl (r_faddr (fo := 0) Try.underlying51 rfl rfl Try.sizeOf28 rfl) rfl ?_
  refine a_rd (i := 3) hok rfl (by kernel_rfl) rfl (r_faddr (fo := 4) Try.underlying28 rfl rfl Try.sizeOf26 rfl) rfl ?_
  refine a_rd (i := 4) hok rfl (by kernel_rfl) rfl (r_cload Try.isAgg26 rfl (j := 0) rfl rfl) rfl ?_
  refine a_rd (i := 5) hok rfl (by kernel_rfl) rfl (r_faddr (fo := 1) Try.underlying55 rfl rfl Try.sizeOf3 rfl) rfl ?_
  refine a_rd (i := 6) hok rfl (by kernel_rfl) rfl (r_cload Try.isAgg3 rfl (j := 5) rfl rfl) rfl ?_
  refine pull fun t3 h_t3 => ?_
  refine a_next hok 7 [] (by kernel_rfl) ?_ trivial
  refine a_st (i := 7) hok rfl rfl (s_callC [3] [true] (fun (_ : Unit) => [oa rT_api_Packet h_3.1 h_3.2 l_0.c.Held]) (fun (_ : Unit) => []) (fun (_ : Unit) => tup [iv .i64 t3.1, bv t3.2]) (args := [.tmp 18, .tmp 20, .func 42]) (caps := []) Try.call41 rfl (slices_BinarySearchFunc_api_Packet_api_Packet_int_1_ok h_t3) ⟨rfl, rfl, trivial⟩ (fun _ => rfl) (fun _ => trivial) (fun _ => rfl) ⟨arg rfl, arg rfl, arg rfl, trivial⟩ (fun _ _ _ _ h => h)) (by intro _ h; cases h; rfl) (fun _ => ⟨trivial, ⟨trivial, ⟨trivial, ⟨trivial, ⟨trivial, ⟨trivial, ⟨trivial, trivial⟩⟩⟩⟩⟩⟩⟩) (fun _ => ?_)
  refine a_rd (i := 8) hok rfl (by kernel_rfl) rfl (r_move rfl) rfl ?_
  refine a_rd (i := 9) hok rfl (by kernel_rfl) rfl (r_extract rfl rfl) rfl ?_
  refine a_rd (i := 10) hok rfl (by kernel_rfl) rfl (r_extract rfl rfl) rfl ?_
  refine a_next hok 11 [] (by kernel_rfl) ?_ trivial
  refine a_st (i := 11) hok rfl rfl (St.ofRd (r_assign rfl)) (by intro _ h; cases h; rfl) (fun _ => ⟨trivial, ⟨trivial, ⟨trivial, ⟨trivial, ⟨trivial, ⟨trivial, ⟨trivial, ⟨trivial, ⟨trivial, ⟨trivial, trivial⟩⟩⟩⟩⟩⟩⟩⟩⟩⟩) (fun _ => ?_)
  refine a_next hok 12 [] (by kernel_rfl) ?_ trivial
  refine a_st (i := 12) hok rfl rfl (St.ofRd (r_assign rfl)) (by intro _ h; cases h; rfl) (fun _ => ⟨trivial, ⟨trivial, ⟨trivial, ⟨trivial, ⟨trivial, ⟨trivial, ⟨trivial, ⟨trivial, ⟨trivial, ⟨trivial, trivial⟩⟩⟩⟩⟩⟩⟩⟩⟩⟩) (fun _ => ?_)
  refine a_fin hok (by kernel_rfl) ?_
  refine b_of (nrm [oc b_0 [pv h_1.1, iv .i64 l_0.c.Window, iv .i64 l_0.c.Base, pv h_2.1, pv h_3.1, pv h_4.1], oa (rI .i64) h_1.1 h_1.2 l_0.c.Items, oa (rI .i64) h_2.1 h_2.2 l_0.c.Received, oa rT_api_Packet h_3.1 h_3.2 l_0.c.Held, oa rT_api_Packet h_4.1 h_4.2 l_0.c.Flight, oc b1 [bv p_1.Ack, iv .i64 p_1.Number, iv .i64 p_1.Value]] rfl) ?_
  refine n_then (ref_seq ?_)
  refine ref_join (fun (j11 : (List T_api_Packet)) (x12 : (Value × List Nat)) => [(0, pv (ptr b_0 0))]) (fun (j11 : (List T_api_Packet)) (x12 : (Value × List Nat)) => [oc b_0 [pv h_1.1, iv .i64 l_0.c.Window, iv .i64 l_0.c.Base, pv h_2.1, pv x12.1, pv h_4.1], oa (rI .i64) h_1.1 h_1.2 l_0.c.Items, oa (rI .i64) h_2.1 h_2.2 l_0.c.Received, oa rT_api_Packet x12.1 x12.2 j11, oa rT_api_Packet h_4.1 h_4.2 l_0.c.Flight]) (fun k13 hk13 => ?_) (fun j11 x12 => ?_)
  · refine ref_seq ?_
    refine ref_join (fun (j4 : Bool) (x5 : Unit) => [(0, pv (ptr b_0 0)), (3, pv (ptr b1 0)), (5, iv .i64 t3.1), (43, bv j4)]) (fun (j4 : Bool) (x5 : Unit) => [oc b_0 [pv h_1.1, iv .i64 l_0.c.Window, iv .i64 l_0.c.Base, pv h_2.1, pv h_3.1, pv h_4.1], oa (rI .i64) h_1.1 h_1.2 l_0.c.Items, oa (rI .i64) h_2.1 h_2.2 l_0.c.Received, oa rT_api_Packet h_3.1 h_3.2 l_0.c.Held, oa rT_api_Packet h_4.1 h_4.2 l_0.c.Flight, oc b1 [bv p_1.Ack, iv .i64 p_1.Number, iv .i64 p_1.Value]]) (fun k6 hk6 => ?_) (fun j4 x5 => ?_)
    · refine ref_draw [0, 1, 2, 3, 4, 5, 6, 7, 8, 9, 10, 11, 12, 13, 14, 15, 16, 17, 18, 19] rfl (by kernel_rfl) (fun hok => ?_)
      refine a_rd (i := 0) hok rfl (by kernel_rfl) rfl (r_faddr (fo := 1) Try.underlying55 rfl rfl Try.sizeOf3 rfl) rfl ?_
      refine a_rd (i := 1) hok rfl (by kernel_rfl) rfl (r_cload Try.isAgg3 rfl (j := 5) rfl rfl) rfl ?_
      refine a_rd (i := 2) hok rfl (by kernel_rfl) rfl (r_move rfl) rfl ?_
      refine a_rd (i := 3) hok rfl (by kernel_rfl) rfl (r_geq rfl rfl) rfl ?_
      refine a_rd (i := 4) hok rfl (by kernel_rfl) rfl (r_move rfl) rfl ?_
      refine b_split (t := 28) rfl (fun _ => ?_) (fun _ => ?_)
      · refine a_rdOn (i := 5) hok rfl rfl rfl rfl (by kernel_rfl) rfl (r_faddr (fo := 1) Try.underlying55 rfl rfl Try.sizeOf3 rfl) rfl ?_
        refine a_rdOn (i := 6) hok rfl rfl rfl rfl (by kernel_rfl) rfl (r_cload Try.isAgg3 rfl (j := 5) rfl rfl) rfl ?_
        refine a_rdOn (i := 7) hok rfl rfl rfl rfl (by kernel_rfl) rfl (r_move rfl) rfl ?_
        refine a_rdOn (i := 8) hok rfl rfl rfl rfl (by kernel_rfl) rfl (r_move rfl) rfl ?_
        refine a_rdOn (i := 9) hok rfl rfl rfl rfl (by kernel_rfl) rfl (r_nilc rfl) rfl ?_
        refine a_rdOn (i := 10) hok rfl rfl rfl rfl (by kernel_rfl) rfl (r_faddr (fo := 0) Try.underlying51 rfl rfl Try.sizeOf28 rfl) rfl ?_
        refine a_rdOn (i := 11) hok rfl rfl rfl rfl (by kernel_rfl) rfl (r_faddr (fo := 1) Try.underlying28 rfl rfl Try.sizeOf3 rfl) rfl ?_
        refine a_rdOn (i := 12) hok rfl rfl rfl rfl (by kernel_rfl) rfl (r_cload Try.isAgg3 rfl (j := 0) rfl rfl) rfl ?_
        refine a_rdOn (i := 13) hok rfl rfl rfl rfl (by kernel_rfl) rfl (r_add rfl rfl) rfl ?_
        refine a_rdOn (i := 14) hok rfl rfl rfl rfl (by kernel_rfl) rfl (r_lss rfl rfl) rfl ?_
        refine a_rd (i := 15) hok rfl (by kernel_rfl) rfl (r_pickT rfl rfl) rfl ?_
        refine a_rd (i := 16) hok rfl (by kernel_rfl) rfl (r_move rfl) rfl ?_
        refine b_split (t := 40) rfl (fun _ => ?_) (fun _ => ?_)
        · refine a_rdOn (i := 17) hok rfl rfl rfl rfl (by kernel_rfl) rfl (r_move rfl) rfl ?_
          refine a_rdOn (i := 18) hok rfl rfl rfl rfl (by kernel_rfl) rfl (r_not rfl) rfl ?_
          refine a_rd (i := 19) hok rfl (by kernel_rfl) rfl (r_pickT rfl rfl) rfl ?_
          refine a_fin hok (by kernel_rfl) ?_
          exact b_to (hk6 (!t3.2) ()) (weak [0, 1, 2, 3, 4, 5] ⟨rfl, rfl, rfl, rfl, trivial⟩ ⟨rfl, rfl, rfl, rfl, rfl, rfl, trivial⟩)
        refine a_off (i := 17) hok rfl rfl rfl rfl rfl (by kernel_rfl) rfl rfl ?_
        refine a_off (i := 18) hok rfl rfl rfl rfl rfl (by kernel_rfl) rfl rfl ?_
        refine a_rd (i := 19) hok rfl (by kernel_rfl) rfl (r_pickF rfl rfl) rfl ?_
        refine a_fin hok (by kernel_rfl) ?_
        exact b_to (hk6 false ()) (weak [0, 1, 2, 3, 4, 5] ⟨rfl, rfl, rfl, rfl, trivial⟩ ⟨rfl, rfl, rfl, rfl, rfl, rfl, trivial⟩)
      refine a_off (i := 5) hok rfl rfl rfl rfl rfl (by kernel_rfl) rfl rfl ?_
      refine a_off (i := 6) hok rfl rfl rfl rfl rfl (by kernel_rfl) rfl rfl ?_
      refine a_off (i := 7) hok rfl rfl rfl rfl rfl (by kernel_rfl) rfl rfl ?_
      refine a_off (i := 8) hok rfl rfl rfl rfl rfl (by kernel_rfl) rfl rfl ?_
      refine a_off (i := 9) hok rfl rfl rfl rfl rfl (by kernel_rfl) rfl rfl ?_
      refine a_off (i := 10) hok rfl rfl rfl rfl rfl (by kernel_rfl) rfl rfl ?_
      refine a_off (i := 11) hok rfl rfl rfl rfl rfl (by kernel_rfl) rfl rfl ?_
      refine a_off (i := 12) hok rfl rfl rfl rfl rfl (by kernel_rfl) rfl rfl ?_
      refine a_off (i := 13) hok rfl rfl rfl rfl rfl (by kernel_rfl) rfl rfl ?_
      refine a_off (i := 14) hok rfl rfl rfl rfl rfl (by kernel_rfl) rfl rfl ?_
      refine a_rd (i := 15) hok rfl (by kernel_rfl) rfl (r_pickF rfl rfl) rfl ?_
      refine a_rd (i := 16) hok rfl (by kernel_rfl) rfl (r_move rfl) rfl ?_
      refine a_off (i := 17) hok rfl rfl rfl rfl rfl (by kernel_rfl) rfl rfl ?_
      refine a_off (i := 18) hok rfl rfl rfl rfl rfl (by kernel_rfl) rfl rfl ?_
      refine a_rd (i := 19) hok rfl (by kernel_rfl) rfl (r_pickF rfl rfl) rfl ?_
      refine a_fin hok (by kernel_rfl) ?_
      exact b_to (hk6 false ()) (weak [0, 1, 2, 3, 4, 5] ⟨rfl, rfl, rfl, rfl, trivial⟩ ⟨rfl, rfl, rfl, rfl, rfl, rfl, trivial⟩)
    refine n_then ?_
    refine ref_cond rfl (fun hb7 => ?_) (fun hb7 => ?_)
    · refine ref_draw [0, 1, 2, 3, 4, 5, 6, 7, 10, 11, 12] rfl (by kernel_rfl) (fun hok => ?_)
      refine a_rd (i := 0) hok rfl (by kernel_rfl) rfl (r_move rfl) rfl ?_
      refine a_rd (i := 1) hok rfl (by kernel_rfl) rfl (r_move rfl) rfl ?_
      refine a_rd (i := 2) hok rfl (by kernel_rfl) rfl (r_nilc rfl) rfl ?_
      refine a_rd (i := 3) hok rfl (by kernel_rfl) rfl (r_faddr (fo := 0) Try.underlying51 rfl rfl Try.sizeOf28 rfl) rfl ?_
      refine a_rd (i := 4) hok rfl (by kernel_rfl) rfl (r_faddr (fo := 4) Try.underlying28 rfl rfl Try.sizeOf26 rfl) rfl ?_
      refine a_rd (i := 5) hok rfl (by kernel_rfl) rfl (r_cload Try.isAgg26 rfl (j := 0) rfl rfl) rfl ?_
      refine a_rd (i := 6) hok rfl (by kernel_rfl) rfl (r_move rfl) rfl ?_
      refine a_rd (i := 7) hok rfl (by kernel_rfl) rfl (r_cloadS Try.isAgg55 Try.sizeOf55 rfl (j := 5) rfl rfl rfl) rfl ?_
      refine a_next hok 8 [] (by kernel_rfl) ?_ trivial
      refine a_st (i := 8) hok rfl rfl (s_bsliceO (xs := [.tmp 51]) (ds := [p_1]) Try.underlying26 el_55 rfl (Nat.le_of_ble_eq_true rfl) ⟨(part_agO (ψs := [bv p_1.Ack, iv .i64 p_1.Number, iv .i64 p_1.Value]) rfl ⟨.inl bv_at, .inl iv_at, .inl iv_at, trivial⟩), trivial⟩) (by intro _ h; cases h; rfl) (fun _ => ⟨trivial, ⟨trivial, ⟨⟨⟨rfl, rfl⟩, trivial⟩, ⟨trivial, ⟨trivial, ⟨trivial, ⟨trivial, ⟨trivial, trivial⟩⟩⟩⟩⟩⟩⟩⟩) (fun o8 => ?_)
      refine pull fun t9 h_t9 => ?_
      refine a_next hok 9 [] (by kernel_rfl) ?_ trivial
      refine a_st (i := 9) hok rfl rfl (s_callC [3, 6] [false, false] (fun (x10 : (Value × List Nat)) => [dead, dead]) (fun (x10 : (Value × List Nat)) => [oa rT_api_Packet x10.1 x10.2 t9]) (fun (x10 : (Value × List Nat)) => pv x10.1) (args := [.tmp 49, .tmp 50, .tmp 52]) (caps := []) Try.call43 rfl (slices_Insert_api_Packet_api_Packet_ok h_t9) ⟨rfl, rfl, ⟨rfl, rfl, trivial⟩⟩ (fun _ => rfl) (fun _ => ⟨rfl, ⟨rfl, trivial⟩⟩) (fun _ => rfl) ⟨arg rfl, arg rfl, arg rfl, trivial⟩ (fun _ _ _ _ h => h)) (by intro _ h; cases h; rfl) (fun _ => ⟨⟨⟨rfl, rfl⟩, trivial⟩, ⟨trivial, ⟨trivial, ⟨trivial, ⟨trivial, ⟨trivial, ⟨trivial, ⟨trivial, trivial⟩⟩⟩⟩⟩⟩⟩⟩) (fun x10 => ?_)
      refine a_rd (i := 10) hok rfl (by kernel_rfl) rfl (r_nilc rfl) rfl ?_
      refine a_rd (i := 11) hok rfl (by kernel_rfl) rfl (r_faddr (fo := 0) Try.underlying51 rfl rfl Try.sizeOf28 rfl) rfl ?_
      refine a_rd (i := 12) hok rfl (by kernel_rfl) rfl (r_faddr (fo := 4) Try.underlying28 rfl rfl Try.sizeOf26 rfl) rfl ?_
      refine a_next hok 13 [] (by kernel_rfl) ?_ trivial
      refine a_st (i := 13) hok rfl rfl (s_cstore (out := [pv h_1.1, iv .i64 l_0.c.Window, iv .i64 l_0.c.Base, pv h_2.1, pv x10.1, pv h_4.1]) Try.sizeOf26 rfl (j := 0) rfl (part_own rfl (j := 7) rfl) rfl rfl rfl) (by intro _ h; cases h) (fun _ => ⟨trivial, ⟨trivial, ⟨trivial, ⟨trivial, ⟨trivial, ⟨trivial, ⟨trivial, ⟨trivial, ⟨trivial, ⟨trivial, ⟨trivial, trivial⟩⟩⟩⟩⟩⟩⟩⟩⟩⟩⟩) (fun _ => ?_)
      refine a_fin hok (by kernel_rfl) ?_
      exact b_to (hk13 t9 x10) (weak [0, 1, 2, 7, 4] ⟨rfl, trivial⟩ ⟨rfl, rfl, rfl, rfl, rfl, trivial⟩)
    refine ref_skip ?_
    exact b_to (hk13 l_0.c.Held h_3) (weak [0, 1, 2, 3, 4] ⟨rfl, trivial⟩ ⟨rfl, rfl, rfl, rfl, rfl, trivial⟩)
  refine n_then (ref_seq ?_)
  refine ref_loopB (f := (channel_line_receive_l1)) (Γl := (fun (s23 : (List Int) × (List T_api_Packet)) (x24 : (Value × List Nat) × (Value × List Nat)) => [(0, pv (ptr b_0 0))])) (Ωl := (fun (s23 : (List Int) × (List T_api_Packet)) (x24 : (Value × List Nat) × (Value × List Nat)) => [oc b_0 [pv h_1.1, iv .i64 l_0.c.Window, iv .i64 l_0.c.Base, pv x24.1.1, pv x24.2.1, pv h_4.1], oa (rI .i64) h_1.1 h_1.2 l_0.c.Items, oa (rI .i64) x24.1.1 x24.1.2 s23.1, oa rT_api_Packet x24.2.1 x24.2.2 s23.2, oa rT_api_Packet h_4.1 h_4.2 l_0.c.Flight])) (Γb := (fun (q32 : (List Int) × (List T_api_Packet)) (y33 : (Value × List Nat) × (Value × List Nat)) => [(0, pv (ptr b_0 0))])) (Ωb := (fun (q32 : (List Int) × (List T_api_Packet)) (y33 : (Value × List Nat) × (Value × List Nat)) => [oc b_0 [pv h_1.1, iv .i64 l_0.c.Window, iv .i64 l_0.c.Base, pv y33.1.1, pv y33.2.1, pv h_4.1], oa (rI .i64) h_1.1 h_1.2 l_0.c.Items, oa (rI .i64) y33.1.1 y33.1.2 q32.1, oa rT_api_Packet y33.2.1 y33.2.2 q32.2, oa rT_api_Packet h_4.1 h_4.2 l_0.c.Flight])) (l_0.c.Received, j11) (h_2, x12) (weak [0, 1, 2, 3, 4] ⟨rfl, trivial⟩ ⟨rfl, rfl, rfl, rfl, rfl, trivial⟩) (fun s23 x24 => ?_) (fun q32 y33 => ?_)
  · unfold channel_line_receive_l1
    refine ref_seq (ref_seq ?_)
    refine ref_draw [0, 1, 2, 3, 4, 5, 6, 7, 8, 9, 10, 11, 12, 13, 14, 15, 16, 17, 18, 19, 20, 21, 22, 23] rfl (by kernel_rfl) (fun hok => ?_)
    refine a_rd (i := 0) hok rfl (by kernel_rfl) rfl (r_move rfl) rfl ?_
    refine a_rd (i := 1) hok rfl (by kernel_rfl) rfl (r_nilc rfl) rfl ?_
    refine a_rd (i := 2) hok rfl (by kernel_rfl) rfl (r_faddr (fo := 0) Try.underlying51 rfl rfl Try.sizeOf28 rfl) rfl ?_
    refine a_rd (i := 3) hok rfl (by kernel_rfl) rfl (r_faddr (fo := 4) Try.underlying28 rfl rfl Try.sizeOf26 rfl) rfl ?_
    refine a_rd (i := 4) hok rfl (by kernel_rfl) rfl (r_cload Try.isAgg26 rfl (j := 0) rfl rfl) rfl ?_
    refine a_rd (i := 5) hok rfl (by kernel_rfl) rfl (r_olen Try.underlying26 rfl (j := 3) rfl) rfl ?_
    refine a_rd (i := 6) hok rfl (by kernel_rfl) rfl (r_gtr rfl rfl) rfl ?_
    refine a_rd (i := 7) hok rfl (by kernel_rfl) rfl (r_move rfl) rfl ?_
    refine b_split (t := 64) rfl (fun _ => ?_) (fun _ => ?_)
    · refine a_rdOn (i := 8) hok rfl rfl rfl rfl (by kernel_rfl) rfl (r_move rfl) rfl ?_
      refine a_rdOn (i := 9) hok rfl rfl rfl rfl (by kernel_rfl) rfl (r_nilc rfl) rfl ?_
      refine a_rdOn (i := 10) hok rfl rfl rfl rfl (by kernel_rfl) rfl (r_faddr (fo := 0) Try.underlying51 rfl rfl Try.sizeOf28 rfl) rfl ?_
      refine a_rdOn (i := 11) hok rfl rfl rfl rfl (by kernel_rfl) rfl (r_faddr (fo := 4) Try.underlying28 rfl rfl Try.sizeOf26 rfl) rfl ?_
      refine a_rdOn (i := 12) hok rfl rfl rfl rfl (by kernel_rfl) rfl (r_cload Try.isAgg26 rfl (j := 0) rfl rfl) rfl ?_
      refine pull fun t25 h_t25 => ?_
      refine a_rdOn (i := 13) hok rfl rfl rfl rfl (by kernel_rfl) rfl (r_oindex h_t25 Try.underlying26 el_55 rfl (j := 3) rfl rfl) rfl ?_
      refine a_rdOn (i := 14) hok rfl rfl rfl rfl (by kernel_rfl) rfl (r_foea (ρ := rT_api_Packet) (fo := 1) h_t25 Try.underlying55 rfl rfl Try.sizeOf3 rfl (j := 3) rfl) rfl ?_
      refine a_rdOn (i := 15) hok rfl rfl rfl rfl (by kernel_rfl) rfl (r_foload (ρ := rT_api_Packet) (y := t25) (ρ' := (rI .i64)) (z := t25.Number) h_t25 el_3 rfl (j := 3) rfl rfl rfl) rfl ?_
      refine a_rdOn (i := 16) hok rfl rfl rfl rfl (by kernel_rfl) rfl (r_move rfl) rfl ?_
      refine a_rdOn (i := 17) hok rfl rfl rfl rfl (by kernel_rfl) rfl (r_nilc rfl) rfl ?_
      refine a_rdOn (i := 18) hok rfl rfl rfl rfl (by kernel_rfl) rfl (r_faddr (fo := 0) Try.underlying51 rfl rfl Try.sizeOf28 rfl) rfl ?_
      refine a_rdOn (i := 19) hok rfl rfl rfl rfl (by kernel_rfl) rfl (r_faddr (fo := 3) Try.underlying28 rfl rfl Try.sizeOf22 rfl) rfl ?_
      refine a_rdOn (i := 20) hok rfl rfl rfl rfl (by kernel_rfl) rfl (r_cload Try.isAgg22 rfl (j := 0) rfl rfl) rfl ?_
      refine a_rdOn (i := 21) hok rfl rfl rfl rfl (by kernel_rfl) rfl (r_olen Try.underlying22 rfl (j := 2) rfl) rfl ?_
      refine a_rdOn (i := 22) hok rfl rfl rfl rfl (by kernel_rfl) rfl (r_eql rfl rfl) rfl ?_
      refine a_rd (i := 23) hok rfl (by kernel_rfl) rfl (r_pickT rfl rfl) rfl ?_
      refine a_fin hok (by kernel_rfl) ?_
      refine n_then ?_
      refine ref_cond rfl (fun hb26 => ?_) (fun hb26 => ?_)
      · refine ref_skip (n_then (ref_block (ref_seq ?_)))
        refine ref_draw [0, 1, 2, 3, 4, 5, 6, 7, 8, 9, 10, 11, 12, 13, 16, 17, 18] rfl (by kernel_rfl) (fun hok => ?_)
        refine a_rd (i := 0) hok rfl (by kernel_rfl) rfl (r_move rfl) rfl ?_
        refine a_rd (i := 1) hok rfl (by kernel_rfl) rfl (r_move rfl) rfl ?_
        refine a_rd (i := 2) hok rfl (by kernel_rfl) rfl (r_nilc rfl) rfl ?_
        refine a_rd (i := 3) hok rfl (by kernel_rfl) rfl (r_faddr (fo := 0) Try.underlying51 rfl rfl Try.sizeOf28 rfl) rfl ?_
        refine a_rd (i := 4) hok rfl (by kernel_rfl) rfl (r_faddr (fo := 3) Try.underlying28 rfl rfl Try.sizeOf22 rfl) rfl ?_
        refine a_rd (i := 5) hok rfl (by kernel_rfl) rfl (r_cload Try.isAgg22 rfl (j := 0) rfl rfl) rfl ?_
        refine a_rd (i := 6) hok rfl (by kernel_rfl) rfl (r_move rfl) rfl ?_
        refine a_rd (i := 7) hok rfl (by kernel_rfl) rfl (r_nilc rfl) rfl ?_
        refine a_rd (i := 8) hok rfl (by kernel_rfl) rfl (r_faddr (fo := 0) Try.underlying51 rfl rfl Try.sizeOf28 rfl) rfl ?_
        refine a_rd (i := 9) hok rfl (by kernel_rfl) rfl (r_faddr (fo := 4) Try.underlying28 rfl rfl Try.sizeOf26 rfl) rfl ?_
        refine a_rd (i := 10) hok rfl (by kernel_rfl) rfl (r_cload Try.isAgg26 rfl (j := 0) rfl rfl) rfl ?_
        refine pull fun t27 h_t27 => ?_
        refine a_rd (i := 11) hok rfl (by kernel_rfl) rfl (r_oindex h_t27 Try.underlying26 el_55 rfl (j := 3) rfl rfl) rfl ?_
        refine a_rd (i := 12) hok rfl (by kernel_rfl) rfl (r_foea (ρ := rT_api_Packet) (fo := 2) h_t27 Try.underlying55 rfl rfl Try.sizeOf3 rfl (j := 3) rfl) rfl ?_
        refine a_rd (i := 13) hok rfl (by kernel_rfl) rfl (r_foload (ρ := rT_api_Packet) (y := t27) (ρ' := (rI .i64)) (z := t27.Value) h_t27 el_3 rfl (j := 3) rfl rfl rfl) rfl ?_
        refine a_next hok 14 [] (by kernel_rfl) ?_ trivial
        refine a_st (i := 14) hok rfl rfl (s_bslice (xs := [.tmp 94]) (ds := [t27.Value]) Try.underlying22 el_3 rfl (Nat.le_of_ble_eq_true rfl) ⟨(part_at rfl iv_at), trivial⟩) (by intro _ h; cases h; rfl) (fun _ => ⟨trivial, ⟨trivial, ⟨trivial, ⟨⟨⟨rfl, rfl⟩, trivial⟩, ⟨trivial, ⟨trivial, ⟨trivial, ⟨trivial, ⟨⟨⟨rfl, rfl⟩, trivial⟩, ⟨trivial, ⟨trivial, ⟨trivial, ⟨trivial, ⟨trivial, trivial⟩⟩⟩⟩⟩⟩⟩⟩⟩⟩⟩⟩⟩⟩) (fun _ => ?_)
        refine pull fun t28 h_t28 => ?_
        refine a_next hok 15 [] (by kernel_rfl) ?_ trivial
        refine a_st (i := 15) hok rfl rfl (s_append h_t28 Try.underlying22 el_3 rfl (j := 2) rfl rfl) (by intro _ h; cases h; rfl) (fun _ => ⟨⟨⟨rfl, rfl⟩, trivial⟩, ⟨trivial, ⟨trivial, ⟨⟨⟨rfl, rfl⟩, trivial⟩, ⟨trivial, ⟨trivial, ⟨trivial, ⟨trivial, ⟨trivial, ⟨trivial, ⟨trivial, ⟨trivial, ⟨trivial, ⟨trivial, trivial⟩⟩⟩⟩⟩⟩⟩⟩⟩⟩⟩⟩⟩⟩) (fun o29 => ?_)
        refine a_rd (i := 16) hok rfl (by kernel_rfl) rfl (r_nilc rfl) rfl ?_
        refine a_rd (i := 17) hok rfl (by kernel_rfl) rfl (r_faddr (fo := 0) Try.underlying51 rfl rfl Try.sizeOf28 rfl) rfl ?_
        refine a_rd (i := 18) hok rfl (by kernel_rfl) rfl (r_faddr (fo := 3) Try.underlying28 rfl rfl Try.sizeOf22 rfl) rfl ?_
        refine a_next hok 19 [] (by kernel_rfl) ?_ trivial
        refine a_st (i := 19) hok rfl rfl (s_cstore (out := [pv h_1.1, iv .i64 l_0.c.Window, iv .i64 l_0.c.Base, pv o29.1, pv x24.2.1, pv h_4.1]) Try.sizeOf22 rfl (j := 0) rfl (part_own rfl (j := 2) rfl) rfl rfl rfl) (by intro _ h; cases h) (fun _ => ⟨trivial, ⟨trivial, ⟨trivial, ⟨trivial, ⟨trivial, ⟨trivial, ⟨trivial, ⟨trivial, ⟨trivial, ⟨trivial, ⟨trivial, ⟨trivial, ⟨trivial, ⟨trivial, ⟨trivial, ⟨trivial, ⟨trivial, trivial⟩⟩⟩⟩⟩⟩⟩⟩⟩⟩⟩⟩⟩⟩⟩⟩⟩) (fun _ => ?_)
        refine a_fin hok (by kernel_rfl) ?_
        refine n_then (ref_region ?_)
        refine mv1 rfl rfl ?_
        refine mv1 rfl rfl ?_
        refine s_rd (r_nilc rfl) rfl ?_
        refine s_rd (r_faddr (fo := 0) Try.underlying51 rfl rfl Try.sizeOf28 rfl) rfl ?_
        refine s_rd (r_faddr (fo := 4) Try.underlying28 rfl rfl Try.sizeOf26 rfl) rfl ?_
        refine s_rd (r_cload Try.isAgg26 rfl (j := 0) rfl rfl) rfl ?_
        refine pull fun t30 h_t30 => ?_
        refine s_st (s_oslice h_t30 Try.underlying26 el_55 rfl (j := 3) rfl (.of rfl) .dft) rfl (fun o31 => ?_)
        refine s_rd (r_nilc rfl) rfl ?_
        refine s_rd (r_faddr (fo := 0) Try.underlying51 rfl rfl Try.sizeOf28 rfl) rfl ?_
        refine s_rd (r_faddr (fo := 4) Try.underlying28 rfl rfl Try.sizeOf26 rfl) rfl ?_
        refine s_st0 (s_cstore (out := [pv h_1.1, iv .i64 l_0.c.Window, iv .i64 l_0.c.Base, pv o29.1, pv o31.1, pv h_4.1]) Try.sizeOf26 rfl (j := 0) rfl (part_own rfl (j := 3) rfl) rfl rfl rfl) (fun _ => ?_)
        refine l_nil ?_
        refine b_of (nrm [oc b_0 [pv h_1.1, iv .i64 l_0.c.Window, iv .i64 l_0.c.Base, pv o29.1, pv o31.1, pv h_4.1], oa (rI .i64) h_1.1 h_1.2 l_0.c.Items, oa (rI .i64) o29.1 o29.2 t28, oa rT_api_Packet o31.1 o31.2 t30, oa rT_api_Packet h_4.1 h_4.2 l_0.c.Flight] rfl) ?_
        refine n_block ?_
        exact goB (o29, o31) (weak [0, 1, 2, 3, 4] ⟨rfl, trivial⟩ ⟨rfl, rfl, rfl, rfl, rfl, trivial⟩)
      refine ref_exit (x_then ?_)
      exact brkB (x24.1, x24.2) (weak [0, 1, 2, 3, 4] ⟨rfl, trivial⟩ ⟨rfl, rfl, rfl, rfl, rfl, trivial⟩)
    refine a_off (i := 8) hok rfl rfl rfl rfl rfl (by kernel_rfl) rfl rfl ?_
    refine a_off (i := 9) hok rfl rfl rfl rfl rfl (by kernel_rfl) rfl rfl ?_
    refine a_off (i := 10) hok rfl rfl rfl rfl rfl (by kernel_rfl) rfl rfl ?_
    refine a_off (i := 11) hok rfl rfl rfl rfl rfl (by kernel_rfl) rfl rfl ?_
    refine a_off (i := 12) hok rfl rfl rfl rfl rfl (by kernel_rfl) rfl rfl ?_
    refine a_off (i := 13) hok rfl rfl rfl rfl rfl (by kernel_rfl) rfl rfl ?_
    refine a_off (i := 14) hok rfl rfl rfl rfl rfl (by kernel_rfl) rfl rfl ?_
    refine a_off (i := 15) hok rfl rfl rfl rfl rfl (by kernel_rfl) rfl rfl ?_
    refine a_off (i := 16) hok rfl rfl rfl rfl rfl (by kernel_rfl) rfl rfl ?_
    refine a_off (i := 17) hok rfl rfl rfl rfl rfl (by kernel_rfl) rfl rfl ?_
    refine a_off (i := 18) hok rfl rfl rfl rfl rfl (by kernel_rfl) rfl rfl ?_
    refine a_off (i := 19) hok rfl rfl rfl rfl rfl (by kernel_rfl) rfl rfl ?_
    refine a_off (i := 20) hok rfl rfl rfl rfl rfl (by kernel_rfl) rfl rfl ?_
    refine a_off (i := 21) hok rfl rfl rfl rfl rfl (by kernel_rfl) rfl rfl ?_
    refine a_off (i := 22) hok rfl rfl rfl rfl rfl (by kernel_rfl) rfl rfl ?_
    refine a_rd (i := 23) hok rfl (by kernel_rfl) rfl (r_pickF rfl rfl) rfl ?_
    refine a_fin hok (by kernel_rfl) ?_
    refine n_then ?_
    refine ref_condF rfl rfl ?_
    refine ref_exit (x_then ?_)
    exact brkB (x24.1, x24.2) (weak [0, 1, 2, 3, 4] ⟨rfl, trivial⟩ ⟨rfl, rfl, rfl, rfl, rfl, trivial⟩)
  refine n_then (ref_seq (ref_region ?_))
  refine mv1 rfl rfl ?_
  refine pull fun t34 h_t34 => ?_
  refine s_st (s_callC [0, 1, 2, 3, 4] [true, true, true, true, true] (fun (_ : Unit) => [oc b_0 [pv h_1.1, iv .i64 (((T_channel_line.mk (T_api_Channel.mk l_0.c.Items l_0.c.Window l_0.c.Base q32.1 q32.2 l_0.c.Flight)).c).Window), iv .i64 (((T_channel_line.mk (T_api_Channel.mk l_0.c.Items l_0.c.Window l_0.c.Base q32.1 q32.2 l_0.c.Flight)).c).Base), pv y33.1.1, pv y33.2.1, pv h_4.1], oa (rI .i64) h_1.1 h_1.2 (((T_channel_line.mk (T_api_Channel.mk l_0.c.Items l_0.c.Window l_0.c.Base q32.1 q32.2 l_0.c.Flight)).c).Items), oa (rI .i64) y33.1.1 y33.1.2 (((T_channel_line.mk (T_api_Channel.mk l_0.c.Items l_0.c.Window l_0.c.Base q32.1 q32.2 l_0.c.Flight)).c).Received), oa rT_api_Packet y33.2.1 y33.2.2 (((T_channel_line.mk (T_api_Channel.mk l_0.c.Items l_0.c.Window l_0.c.Base q32.1 q32.2 l_0.c.Flight)).c).Held), oa rT_api_Packet h_4.1 h_4.2 (((T_channel_line.mk (T_api_Channel.mk l_0.c.Items l_0.c.Window l_0.c.Base q32.1 q32.2 l_0.c.Flight)).c).Flight)]) (fun (_ : Unit) => []) (fun (_ : Unit) => bv t34) (args := [.tmp 110]) (caps := []) Try.call29 rfl (channel_line_full_1_ok h_t34) ⟨rfl, rfl, ⟨rfl, rfl, ⟨rfl, rfl, ⟨rfl, rfl, ⟨rfl, rfl, trivial⟩⟩⟩⟩⟩ (fun _ => rfl) (fun _ => trivial) (fun _ => rfl) ⟨arg rfl, trivial⟩ (fun _ _ _ _ h => h)) rfl (fun _ => ?_)
  refine s_rd (r_not rfl) rfl ?_
  refine l_nil (n_then ?_)
  refine ref_cond rfl (fun hb35 => ?_) (fun hb35 => ?_)
  · refine ref_draw [0, 1, 2, 3, 4, 5, 6, 7, 8, 9, 10, 11, 12, 15, 16, 17] rfl (by kernel_rfl) (fun hok => ?_)
    refine a_rd (i := 0) hok rfl (by kernel_rfl) rfl (r_move rfl) rfl ?_
    refine a_rd (i := 1) hok rfl (by kernel_rfl) rfl (r_move rfl) rfl ?_
    refine a_rd (i := 2) hok rfl (by kernel_rfl) rfl (r_nilc rfl) rfl ?_
    refine a_rd (i := 3) hok rfl (by kernel_rfl) rfl (r_faddr (fo := 0) Try.underlying51 rfl rfl Try.sizeOf28 rfl) rfl ?_
    refine a_rd (i := 4) hok rfl (by kernel_rfl) rfl (r_faddr (fo := 5) Try.underlying28 rfl rfl Try.sizeOf26 rfl) rfl ?_
    refine a_rd (i := 5) hok rfl (by kernel_rfl) rfl (r_cload Try.isAgg26 rfl (j := 0) rfl rfl) rfl ?_
    refine a_rd (i := 6) hok rfl (by kernel_rfl) rfl (r_move rfl) rfl ?_
    refine a_rd (i := 7) hok rfl (by kernel_rfl) rfl (r_nilc rfl) rfl ?_
    refine a_rd (i := 8) hok rfl (by kernel_rfl) rfl (r_faddr (fo := 0) Try.underlying51 rfl rfl Try.sizeOf28 rfl) rfl ?_
    refine a_rd (i := 9) hok rfl (by kernel_rfl) rfl (r_faddr (fo := 3) Try.underlying28 rfl rfl Try.sizeOf22 rfl) rfl ?_
    refine a_rd (i := 10) hok rfl (by kernel_rfl) rfl (r_cload Try.isAgg22 rfl (j := 0) rfl rfl) rfl ?_
    refine a_rd (i := 11) hok rfl (by kernel_rfl) rfl (r_olen Try.underlying22 rfl (j := 2) rfl) rfl ?_
    refine a_rd (i := 12) hok rfl (by kernel_rfl) rfl (r_build (ps := [(0, .const (.bool true)), (1, .tmp 124)]) (rs := [(0, [bv true]), (1, [iv .i64 ((((T_channel_line.mk (T_api_Channel.mk l_0.c.Items l_0.c.Window l_0.c.Base q32.1 q32.2 l_0.c.Flight)).c).Received).length : Int)])]) st_55 zs_55 ⟨rfl, (part_at rfl bv_at), ⟨rfl, (part_at rfl iv_at), trivial⟩⟩ rfl rfl) rfl ?_
    refine a_next hok 13 [] (by kernel_rfl) ?_ trivial
    refine a_st (i := 13) hok rfl rfl (s_bslice (xs := [.tmp 125]) (ds := [(T_api_Packet.mk true ((((T_channel_line.mk (T_api_Channel.mk l_0.c.Items l_0.c.Window l_0.c.Base q32.1 q32.2 l_0.c.Flight)).c).Received).length : Int) 0)]) Try.underlying26 el_55 rfl (Nat.le_of_ble_eq_true rfl) ⟨(part_agO (ψs := [bv true, iv .i64 ((((T_channel_line.mk (T_api_Channel.mk l_0.c.Items l_0.c.Window l_0.c.Base q32.1 q32.2 l_0.c.Flight)).c).Received).length : Int), iv .i64 0]) rfl ⟨.inl bv_at, .inl iv_at, .inl iv_at, trivial⟩), trivial⟩) (by intro _ h; cases h; rfl) (fun _ => ⟨trivial, ⟨trivial, ⟨⟨⟨rfl, rfl⟩, trivial⟩, ⟨trivial, ⟨trivial, ⟨trivial, ⟨trivial, ⟨⟨⟨rfl, rfl⟩, trivial⟩, ⟨trivial, ⟨trivial, ⟨trivial, ⟨trivial, ⟨trivial, trivial⟩⟩⟩⟩⟩⟩⟩⟩⟩⟩⟩⟩⟩) (fun _ => ?_)
    refine pull fun t36 h_t36 => ?_
    refine a_next hok 14 [] (by kernel_rfl) ?_ trivial
    refine a_st (i := 14) hok rfl rfl (s_append h_t36 Try.underlying26 el_55 rfl (j := 4) rfl rfl) (by intro _ h; cases h; rfl) (fun _ => ⟨trivial, ⟨trivial, ⟨⟨⟨rfl, rfl⟩, trivial⟩, ⟨trivial, ⟨trivial, ⟨trivial, ⟨trivial, ⟨trivial, ⟨trivial, ⟨trivial, ⟨trivial, ⟨trivial, ⟨trivial, trivial⟩⟩⟩⟩⟩⟩⟩⟩⟩⟩⟩⟩⟩) (fun o37 => ?_)
    refine a_rd (i := 15) hok rfl (by kernel_rfl) rfl (r_nilc rfl) rfl ?_
    refine a_rd (i := 16) hok rfl (by kernel_rfl) rfl (r_faddr (fo := 0) Try.underlying51 rfl rfl Try.sizeOf28 rfl) rfl ?_
    refine a_rd (i := 17) hok rfl (by kernel_rfl) rfl (r_faddr (fo := 5) Try.underlying28 rfl rfl Try.sizeOf26 rfl) rfl ?_
    refine a_next hok 18 [] (by kernel_rfl) ?_ trivial
    refine a_st (i := 18) hok rfl rfl (s_cstore (out := [pv h_1.1, iv .i64 l_0.c.Window, iv .i64 l_0.c.Base, pv y33.1.1, pv y33.2.1, pv o37.1]) Try.sizeOf26 rfl (j := 0) rfl (part_own rfl (j := 4) rfl) rfl rfl rfl) (by intro _ h; cases h) (fun _ => ⟨trivial, ⟨trivial, ⟨trivial, ⟨trivial, ⟨trivial, ⟨trivial, ⟨trivial, ⟨trivial, ⟨trivial, ⟨trivial, ⟨trivial, ⟨trivial, ⟨trivial, ⟨trivial, ⟨trivial, ⟨trivial, trivial⟩⟩⟩⟩⟩⟩⟩⟩⟩⟩⟩⟩⟩⟩⟩⟩) (fun _ => ?_)
    refine a_fin hok (by kernel_rfl) ?_
    refine b_of (nrm [oc b_0 [pv h_1.1, iv .i64 l_0.c.Window, iv .i64 l_0.c.Base, pv y33.1.1, pv y33.2.1, pv o37.1], oa (rI .i64) h_1.1 h_1.2 (((T_channel_line.mk (T_api_Channel.mk l_0.c.Items l_0.c.Window l_0.c.Base q32.1 q32.2 l_0.c.Flight)).c).Items), oa (rI .i64) y33.1.1 y33.1.2 (((T_channel_line.mk (T_api_Channel.mk l_0.c.Items l_0.c.Window l_0.c.Base q32.1 q32.2 l_0.c.Flight)).c).Received), oa rT_api_Packet y33.2.1 y33.2.2 (((T_channel_line.mk (T_api_Channel.mk l_0.c.Items l_0.c.Window l_0.c.Base q32.1 q32.2 l_0.c.Flight)).c).Held), oa rT_api_Packet o37.1 o37.2 t36] rfl) ?_
    exact fin0 (.inr rfl) (y33.1, y33.2, o37) [0, 1, 2, 3, 4] rfl ⟨rfl, rfl, rfl, rfl, rfl, trivial⟩ rfl 
  refine ref_skip ?_
  exact fin0 (.inr rfl) (y33.1, y33.2, h_4) [0, 1, 2, 3, 4] rfl ⟨rfl, rfl, rfl, rfl, rfl, trivial⟩ rfl 

/-! (*deliberation/channel.line).deliver -/
noncomputable def channel_line_deliver_m (l_0 : T_channel_line) (n_1 : Int) : Option (T_channel_line) :=
  Option.bind (idxM l_0.c.Flight n_1) fun t1 =>
  Option.bind (slices_Delete_api_Packet_api_Packet_m l_0.c.Flight n_1 (iadd .i64 n_1 1)) fun t3 =>
  bif t1.Ack then
    some (T_channel_line.mk (T_api_Channel.mk l_0.c.Items l_0.c.Window (imax l_0.c.Base t1.Number) l_0.c.Received l_0.c.Held t3))
  else
    Option.bind (channel_line_receive_m (T_channel_line.mk (T_api_Channel.mk l_0.c.Items l_0.c.Window l_0.c.Base l_0.c.Received l_0.c.Held t3)) t1) fun t6 =>
    some t6

theorem channel_line_deliver_ok {l_0 : T_channel_line} {n_1 : Int} {b_0 : Nat} {h_1 : Value × List Nat} {h_2 : Value × List Nat} {h_3 : Value × List Nat} {h_4 : Value × List Nat} {r : T_channel_line} (hm : channel_line_deliver_m l_0 n_1 = some r) :
    FnOk prog 27 [pv (ptr b_0 0), iv .i64 n_1] [oc b_0 [pv h_1.1, iv .i64 l_0.c.Window, iv .i64 l_0.c.Base, pv h_2.1, pv h_3.1, pv h_4.1], oa (rI .i64) h_1.1 h_1.2 l_0.c.Items, oa (rI .i64) h_2.1 h_2.2 l_0.c.Received, oa rT_api_Packet h_3.1 h_3.2 l_0.c.Held, oa rT_api_Packet h_4.1 h_4.2 l_0.c.Flight] (fun (x : (Value × List Nat) × (Value × List Nat) × (Value × List Nat)) => []) (fun (x : (Value × List Nat) × (Value × List Nat) × (Value × List Nat)) => [oc b_0 [pv h_1.1, iv .i64 r.c.Window, iv .i64 r.c.Base, pv x.1.1, pv x.2.1.1, pv x.2.2.1], oa (rI .i64) h_1.1 h_1.2 r.c.Items, oa (rI .i64) x.1.1 x.1.2 r.c.Received, oa rT_api_Packet x.2.1.1 x.2.1.2 r.c.Held, oa rT_api_Packet x.2.2.1 x.2.2.2 r.c.Flight]) := by
  refine fn_ok (X := (Value × List Nat) × (Value × List Nat) × (Value × List Nat)) (fn := Try.f27) (N := 43) (res := fun r x => []) (Ω1 := fun r x => [oc b_0 [pv h_1.1, iv .i64 r.c.Window, iv .i64 r.c.Base, pv x.1.1, pv x.2.1.1, pv x.2.2.1], oa (rI .i64) h_1.1 h_1.2 r.c.Items, oa (rI .i64) x.1.1 x.1.2 r.c.Received, oa rT_api_Packet x.2.1.1 x.2.1.2 r.c.Held, oa rT_api_Packet x.2.2.1 x.2.2.2 r.c.Flight]) Try.func27 rfl rfl hm rfl (fun E hM => ?_)
  unfold channel_line_deliver_m
  refine ref_seq (ref_region ?_)
  refine mv1 rfl rfl ?_
  refine s_rd (r_nilc rfl) rfl ?_
  refine s_rd (r_faddr (fo := 0) Try.underlying51 rfl rfl Try.sizeOf28 rfl) rfl ?_
  refine s_rd (r_faddr (fo := 5) Try.underlying28 rfl rfl Try.sizeOf26 rfl) rfl ?_
  refine s_rd (r_cload Try.isAgg26 rfl (j := 0) rfl rfl) rfl ?_
  refine mv1 rfl rfl ?_
  refine pull fun t1 h_t1 => ?_
  refine s_rd (r_oindex h_t1 Try.underlying26 el_55 rfl (j := 4) rfl rfl) rfl ?_
  refine s_rd (r_oload h_t1 el_55 rfl (j := 4) rfl) rfl ?_
  refine s_st (s_alloc zt_55) rfl (fun b2 => ?_)
  refine s_st0 (s_cstore (out := [bv t1.Ack, iv .i64 t1.Number, iv .i64 t1.Value]) Try.sizeOf55 rfl (j := 5) rfl (part_agO (ψs := [bv t1.Ack, iv .i64 t1.Number, iv .i64 t1.Value]) rfl ⟨.inl bv_at, .inl iv_at, .inl iv_at, trivial⟩) rfl rfl rfl) (fun _ => ?_)
  refine l_nil (n_then (ref_seq (ref_region ?_)))
  refine mv1 rfl rfl ?_
  refine mv1 rfl rfl ?_
  refine s_rd (r_nilc rfl) rfl ?_
  refine s_rd (r_faddr (fo := 0) Try.underlying51 rfl rfl Try.sizeOf28 rfl) rfl ?_
  refine s_rd (r_faddr (fo := 5) Try.underlying28 rfl rfl Try.sizeOf26 rfl) rfl ?_
  refine s_rd (r_cload Try.isAgg26 rfl (j := 0) rfl rfl) rfl ?_
  refine mv1 rfl rfl ?_
  refine mv1 rfl rfl ?_
  refine s_rd (r_add rfl rfl) rfl ?_
  refine pull fun t3 h_t3 => ?_
  refine s_st (s_callC [4] [false] (fun (x4 : (Value × List Nat)) => [dead]) (fun (x4 : (Value × List Nat)) => [oa rT_api_Packet x4.1 x4.2 t3]) (fun (x4 : (Value × List Nat)) => pv x4.1) (args := [.tmp 18, .tmp 19, .tmp 21]) (caps := []) Try.call28 rfl (slices_Delete_api_Packet_api_Packet_ok h_t3) ⟨rfl, rfl, trivial⟩ (fun _ => rfl) (fun _ => ⟨rfl, trivial⟩) (fun _ => rfl) ⟨arg rfl, arg rfl, arg rfl, trivial⟩ (fun _ _ _ _ h => h)) rfl (fun x4 => ?_)
  refine s_rd (r_nilc rfl) rfl ?_
  refine s_rd (r_faddr (fo := 0) Try.underlying51 rfl rfl Try.sizeOf28 rfl) rfl ?_
  refine s_rd (r_faddr (fo := 5) Try.underlying28 rfl rfl Try.sizeOf26 rfl) rfl ?_
  refine s_st0 (s_cstore (out := [pv h_1.1, iv .i64 l_0.c.Window, iv .i64 l_0.c.Base, pv h_2.1, pv h_3.1, pv x4.1]) Try.sizeOf26 rfl (j := 0) rfl (part_own rfl (j := 6) rfl) rfl rfl rfl) (fun _ => ?_)
  refine l_nil ?_
  refine b_of (nrm [oc b_0 [pv h_1.1, iv .i64 l_0.c.Window, iv .i64 l_0.c.Base, pv h_2.1, pv h_3.1, pv x4.1], oa (rI .i64) h_1.1 h_1.2 l_0.c.Items, oa (rI .i64) h_2.1 h_2.2 l_0.c.Received, oa rT_api_Packet h_3.1 h_3.2 l_0.c.Held, dead, oc b2 [bv t1.Ack, iv .i64 t1.Number, iv .i64 t1.Value], oa rT_api_Packet x4.1 x4.2 t3] rfl) ?_
  refine n_then (ref_seq (ref_seq (ref_region ?_)))
  refine s_rd (r_faddr (fo := 0) Try.underlying55 rfl rfl Try.sizeOf4 rfl) rfl ?_
  refine s_rd (r_cload Try.isAgg4 rfl (j := 5) rfl rfl) rfl ?_
  refine l_nil (n_then ?_)
  refine ref_cond rfl (fun hb5 => ?_) (fun hb5 => ?_)
  · refine ref_seq ?_
    refine ref_draw [0, 1, 2, 3, 4, 5, 6, 7, 8, 9, 10, 11] rfl (by kernel_rfl) (fun hok => ?_)
    refine a_rd (i := 0) hok rfl (by kernel_rfl) rfl (r_move rfl) rfl ?_
    refine a_rd (i := 1) hok rfl (by kernel_rfl) rfl (r_move rfl) rfl ?_
    refine a_rd (i := 2) hok rfl (by kernel_rfl) rfl (r_nilc rfl) rfl ?_
    refine a_rd (i := 3) hok rfl (by kernel_rfl) rfl (r_faddr (fo := 0) Try.underlying51 rfl rfl Try.sizeOf28 rfl) rfl ?_
    refine a_rd (i := 4) hok rfl (by kernel_rfl) rfl (r_faddr (fo := 2) Try.underlying28 rfl rfl Try.sizeOf3 rfl) rfl ?_
    refine a_rd (i := 5) hok rfl (by kernel_rfl) rfl (r_cload Try.isAgg3 rfl (j := 0) rfl rfl) rfl ?_
    refine a_rd (i := 6) hok rfl (by kernel_rfl) rfl (r_faddr (fo := 1) Try.underlying55 rfl rfl Try.sizeOf3 rfl) rfl ?_
    refine a_rd (i := 7) hok rfl (by kernel_rfl) rfl (r_cload Try.isAgg3 rfl (j := 5) rfl rfl) rfl ?_
    refine a_rd (i := 8) hok rfl (by kernel_rfl) rfl (r_max rfl rfl) rfl ?_
    refine a_rd (i := 9) hok rfl (by kernel_rfl) rfl (r_nilc rfl) rfl ?_
    refine a_rd (i := 10) hok rfl (by kernel_rfl) rfl (r_faddr (fo := 0) Try.underlying51 rfl rfl Try.sizeOf28 rfl) rfl ?_
    refine a_rd (i := 11) hok rfl (by kernel_rfl) rfl (r_faddr (fo := 2) Try.underlying28 rfl rfl Try.sizeOf3 rfl) rfl ?_
    refine a_next hok 12 [] (by kernel_rfl) ?_ trivial
    refine a_st (i := 12) hok rfl rfl (s_cstore (out := [pv h_1.1, iv .i64 l_0.c.Window, iv .i64 (imax l_0.c.Base t1.Number), pv h_2.1, pv h_3.1, pv x4.1]) Try.sizeOf3 rfl (j := 0) rfl (part_at rfl iv_at) rfl rfl rfl) (by intro _ h; cases h) (fun _ => ⟨trivial, ⟨trivial, ⟨trivial, ⟨trivial, ⟨trivial, ⟨trivial, ⟨trivial, ⟨trivial, ⟨trivial, ⟨trivial, ⟨trivial, ⟨trivial, trivial⟩⟩⟩⟩⟩⟩⟩⟩⟩⟩⟩⟩) (fun _ => ?_)
    refine a_fin hok (by kernel_rfl) ?_
    refine n_then (ref_ret (r_then ?_))
    exact fin0 (.inl rfl) (h_2, h_3, x4) [0, 1, 2, 3, 6] rfl ⟨rfl, rfl, rfl, rfl, rfl, trivial⟩ rfl 
  refine ref_skip (n_then (ref_region ?_))
  refine mv1 rfl rfl ?_
  refine s_rd (r_cloadS Try.isAgg55 Try.sizeOf55 rfl (j := 5) rfl rfl rfl) rfl ?_
  refine pull fun t6 h_t6 => ?_
  refine s_st (s_callC [0, 1, 2, 3, 6] [true, true, true, true, true] (fun (x7 : (Value × List Nat) × (Value × List Nat) × (Value × List Nat)) => [oc b_0 [pv h_1.1, iv .i64 t6.c.Window, iv .i64 t6.c.Base, pv x7.1.1, pv x7.2.1.1, pv x7.2.2.1], oa (rI .i64) h_1.1 h_1.2 t6.c.Items, oa (rI .i64) x7.1.1 x7.1.2 t6.c.Received, oa rT_api_Packet x7.2.1.1 x7.2.1.2 t6.c.Held, oa rT_api_Packet x7.2.2.1 x7.2.2.2 t6.c.Flight]) (fun (x7 : (Value × List Nat) × (Value × List Nat) × (Value × List Nat)) => []) (fun (x7 : (Value × List Nat) × (Value × List Nat) × (Value × List Nat)) => tup []) (args := [.tmp 40, .tmp 41]) (caps := []) Try.call40 rfl (channel_line_receive_ok h_t6) ⟨rfl, rfl, ⟨rfl, rfl, ⟨rfl, rfl, ⟨rfl, rfl, ⟨rfl, rfl, trivial⟩⟩⟩⟩⟩ (fun _ => rfl) (fun _ => trivial) (fun _ => rfl) ⟨arg rfl, arg rfl, trivial⟩ (fun _ _ _ _ h => h)) rfl (fun x7 => ?_)
  refine l_nil ?_
  exact fin0 (.inr rfl) (x7.1, x7.2.1, x7.2.2) [0, 1, 2, 3, 6] rfl ⟨rfl, rfl, rfl, rfl, rfl, trivial⟩ rfl 

/-! deliberation/channel.Step -/
noncomputable def channel_Step_m (c_0 : T_api_Channel) (e_1 : T_api_NetEvent) : Option (T_api_Channel × Int) :=
  Option.bind (channel_copied_m c_0) fun l4 =>
  joinM (fun j15 : Unit =>
      bif decide (e_1.N < 0) then
        some ((T_api_Channel.mk [] 0 0 [] [] []), 1)
      else
        bif decide (e_1.N ≥ (c_0.Flight.length : Int)) then
          some ((T_api_Channel.mk [] 0 0 [] [] []), 1)
        else
          joinM (fun j33 : (List Int) × Int × Int × (List Int) × (List T_api_Packet) × (List T_api_Packet) =>
              some ((T_api_Channel.mk j33.1 j33.2.1 j33.2.2.1 j33.2.2.2.1 j33.2.2.2.2.1 j33.2.2.2.2.2), 0)) fun k35 =>
          bif e_1.Kind == 2 then
            Option.bind (channel_line_deliver_m l4 e_1.N) fun t20 =>
            k35 (t20.c.Items, t20.c.Window, t20.c.Base, t20.c.Received, t20.c.Held, t20.c.Flight)
          else
            bif e_1.Kind == 3 then
              Option.bind (slices_Delete_api_Packet_api_Packet_m l4.c.Flight e_1.N (iadd .i64 e_1.N 1)) fun t23 =>
              k35 (l4.c.Items, l4.c.Window, l4.c.Base, l4.c.Received, l4.c.Held, t23)
            else
              Option.bind (channel_line_full_1_m l4) fun t25 =>
              bif t25 then
                some ((T_api_Channel.mk [] 0 0 [] [] []), 2)
              else
                Option.bind (idxM l4.c.Flight e_1.N) fun t30 =>
                Option.bind (appM 24 l4.c.Flight [t30]) fun t31 =>
                k35 (l4.c.Items, l4.c.Window, l4.c.Base, l4.c.Received, l4.c.Held, t31)) fun k17 =>
  bif e_1.Kind == 1 then
    Option.bind (channel_line_send_m l4 e_1.N) fun bad7 =>
    bif bad7.1 != 0 then
      some ((T_api_Channel.mk [] 0 0 [] [] []), bad7.1)
    else
      some (bad7.2.c, 0)
  else
    bif e_1.Kind == 2 then
      bif e_1.Kind == 2 then
        k17 ()
      else
        some ((T_api_Channel.mk [] 0 0 [] [] []), 4)
    else
      bif e_1.Kind == 3 then
        bif e_1.Kind == 3 then
          k17 ()
        else
          some ((T_api_Channel.mk [] 0 0 [] [] []), 4)
      else
        bif e_1.Kind == 4 then
          k17 ()
        else
          some ((T_api_Channel.mk [] 0 0 [] [] []), 4)

theorem channel_Step_ok {c_0 : T_api_Channel} {e_1 : T_api_NetEvent} {r : T_api_Channel × Int} (hm : channel_Step_m c_0 e_1 = some r) :
    FnOk prog 12 [ag [slv (rI .i64) c_0.Items, iv .i64 c_0.Window, iv .i64 c_0.Base, slv (rI .i64) c_0.Received, slv rT_api_Packet c_0.Held, slv rT_api_Packet c_0.Flight], ag [iv .i64 e_1.Kind, iv .i64 e_1.N]] [] (fun (x : Unit) => [ag [slv (rI .i64) r.1.Items, iv .i64 r.1.Window, iv .i64 r.1.Base, slv (rI .i64) r.1.Received, slv rT_api_Packet r.1.Held, slv rT_api_Packet r.1.Flight], iv .i64 r.2]) (fun (x : Unit) => []) := by
  refine fn_ok (fn := Try.f12) (N := 95) (res := fun r x => [ag [slv (rI .i64) r.1.Items, iv .i64 r.1.Window, iv .i64 r.1.Base, slv (rI .i64) r.1.Received, slv rT_api_Packet r.1.Held, slv rT_api_Packet r.1.Flight], iv .i64 r.2]) (Ω1 := fun r x => []) Try.func12 rfl rfl hm rfl (fun E hM => ?_)
  unfold channel_Step_m
  refine ref_seq (ref_region ?_)
  refine s_st (s_box (part_agO (ψs := [slv (rI .i64) c_0.Items, iv .i64 c_0.Window, iv .i64 c_0.Base, slv (rI .i64) c_0.Received, slv rT_api_Packet c_0.Held, slv rT_api_Packet c_0.Flight]) rfl ⟨.inl slv_at, .inl iv_at, .inl iv_at, .inl slv_at, .inl slv_at, .inl slv_at, trivial⟩)) rfl (fun b1 => ?_)
  refine s_st (s_box (part_agO (ψs := [iv .i64 e_1.Kind, iv .i64 e_1.N]) rfl ⟨.inl iv_at, .inl iv_at, trivial⟩)) rfl (fun b2 => ?_)
  refine s_st (s_alloc zt_28) rfl (fun b3 => ?_)
  refine as1 rfl rfl ?_
  refine l_nil (n_then (ref_seq (ref_region ?_)))
  refine s_rd (r_cloadS Try.isAgg28 Try.sizeOf28 rfl (j := 0) rfl rfl rfl) rfl ?_
  refine pull fun l4 h_l4 => ?_
  refine s_st (s_call (ψ := fun (x5 : Nat × (Value × List Nat) × (Value × List Nat) × (Value × List Nat) × (Value × List Nat)) => pv (ptr x5.1 0)) (args := [.tmp 8]) Try.call25 rfl (channel_copied_ok h_l4) ⟨arg rfl, trivial⟩ (fun _ _ _ _ h => h)) rfl (fun x5 => ?_)
  refine as1 rfl rfl ?_
  refine l_nil ?_
  refine b_of (nrm [oc b1 [slv (rI .i64) c_0.Items, iv .i64 c_0.Window, iv .i64 c_0.Base, slv (rI .i64) c_0.Received, slv rT_api_Packet c_0.Held, slv rT_api_Packet c_0.Flight], oc b2 [iv .i64 e_1.Kind, iv .i64 e_1.N], oc b3 [pv (.slice none 0 0), iv .i64 0, iv .i64 0, pv (.slice none 0 0), pv (.slice none 0 0), pv (.slice none 0 0)], oc x5.1 [pv x5.2.1.1, iv .i64 l4.c.Window, iv .i64 l4.c.Base, pv x5.2.2.1.1, pv x5.2.2.2.1.1, pv x5.2.2.2.2.1], oa (rI .i64) x5.2.1.1 x5.2.1.2 l4.c.Items, oa (rI .i64) x5.2.2.1.1 x5.2.2.1.2 l4.c.Received, oa rT_api_Packet x5.2.2.2.1.1 x5.2.2.2.1.2 l4.c.Held, oa rT_api_Packet x5.2.2.2.2.1 x5.2.2.2.2.2 l4.c.Flight] rfl) ?_
  refine n_then (ref_seq ?_)
  refine ref_join (fun (j15 : Unit) (x16 : Unit) => [(2, pv (ptr b1 0)), (3, pv (ptr b2 0)), (4, pv (ptr b3 0)), (6, pv (ptr x5.1 0))]) (fun (j15 : Unit) (x16 : Unit) => [oc b1 [slv (rI .i64) c_0.Items, iv .i64 c_0.Window, iv .i64 c_0.Base, slv (rI .i64) c_0.Received, slv rT_api_Packet c_0.Held, slv rT_api_Packet c_0.Flight], oc b2 [iv .i64 e_1.Kind, iv .i64 e_1.N], oc b3 [pv (.slice none 0 0), iv .i64 0, iv .i64 0, pv (.slice none 0 0), pv (.slice none 0 0), pv (.slice none 0 0)], oc x5.1 [pv x5.2.1.1, iv .i64 l4.c.Window, iv .i64 l4.c.Base, pv x5.2.2.1.1, pv x5.2.2.2.1.1, pv x5.2.2.2.2.1], oa (rI .i64) x5.2.1.1 x5.2.1.2 l4.c.Items, oa (rI .i64) x5.2.2.1.1 x5.2.2.1.2 l4.c.Received, oa rT_api_Packet x5.2.2.2.1.1 x5.2.2.2.1.2 l4.c.Held, oa rT_api_Packet x5.2.2.2.2.1 x5.2.2.2.2.2 l4.c.Flight]) (fun k17 hk17 => ?_) (fun j15 x16 => ?_)
  · refine ref_seq (ref_region ?_)
    refine s_rd (r_faddr (fo := 0) Try.underlying35 rfl rfl Try.sizeOf3 rfl) rfl ?_
    refine s_rd (r_cload Try.isAgg3 rfl (j := 1) rfl rfl) rfl ?_
    refine l_nil (n_then (ref_block (ref_seq (ref_region ?_))))
    refine s_rd (r_eql rfl rfl) rfl ?_
    refine as1 rfl rfl ?_
    refine l_nil (n_then ?_)
    refine ref_cond rfl (fun hb6 => ?_) (fun hb6 => ?_)
    · refine ref_seq (ref_seq (ref_region ?_))
      refine mv1 rfl rfl ?_
      refine s_rd (r_faddr (fo := 1) Try.underlying35 rfl rfl Try.sizeOf3 rfl) rfl ?_
      refine s_rd (r_cload Try.isAgg3 rfl (j := 1) rfl rfl) rfl ?_
      refine pull fun bad7 h_bad7 => ?_
      refine s_st (s_callC [3, 4, 5, 6, 7] [true, true, true, true, true] (fun (x8 : (Value × List Nat)) => [oc x5.1 [pv x5.2.1.1, iv .i64 bad7.2.c.Window, iv .i64 bad7.2.c.Base, pv x5.2.2.1.1, pv x5.2.2.2.1.1, pv x8.1], oa (rI .i64) x5.2.1.1 x5.2.1.2 bad7.2.c.Items, oa (rI .i64) x5.2.2.1.1 x5.2.2.1.2 bad7.2.c.Received, oa rT_api_Packet x5.2.2.2.1.1 x5.2.2.2.1.2 bad7.2.c.Held, oa rT_api_Packet x8.1 x8.2 bad7.2.c.Flight]) (fun (x8 : (Value × List Nat)) => []) (fun (x8 : (Value × List Nat)) => iv .i64 bad7.1) (args := [.tmp 15, .tmp 17]) (caps := []) Try.call26 rfl (channel_line_send_ok h_bad7) ⟨rfl, rfl, ⟨rfl, rfl, ⟨rfl, rfl, ⟨rfl, rfl, ⟨rfl, rfl, trivial⟩⟩⟩⟩⟩ (fun _ => rfl) (fun _ => trivial) (fun _ => rfl) ⟨arg rfl, arg rfl, trivial⟩ (fun _ _ _ _ h => h)) rfl (fun x8 => ?_)
      refine as1 rfl rfl ?_
      refine l_nil (n_then (ref_seq (ref_region ?_)))
      refine mv1 rfl rfl ?_
      refine s_rd (r_neq rfl rfl) rfl ?_
      refine l_nil (n_then ?_)
      refine ref_cond rfl (fun hb9 => ?_) (fun hb9 => ?_)
      · refine ref_seq (ref_region ?_)
        refine s_rd (r_build (ps := []) (rs := []) st_28 zs_28 trivial rfl rfl) rfl ?_
        refine mv1 rfl rfl ?_
        refine s_st0 (s_cstore (out := [pv (.slice none 0 0), iv .i64 0, iv .i64 0, pv (.slice none 0 0), pv (.slice none 0 0), pv (.slice none 0 0)]) Try.sizeOf28 rfl (j := 2) rfl (part_agO (ψs := [pv (.slice none 0 0), iv .i64 0, iv .i64 0, pv (.slice none 0 0), pv (.slice none 0 0), pv (.slice none 0 0)]) rfl ⟨.inl (pv_at rfl), .inl iv_at, .inl iv_at, .inl (pv_at rfl), .inl (pv_at rfl), .inl (pv_at rfl), trivial⟩) rfl rfl rfl) (fun _ => ?_)
        refine as1 rfl rfl ?_
        refine l_nil (n_then (ref_ret (r_then (r_block (r_then ?_)))))
        refine b_of (ocW 2 [slv (rI .i64) [], iv .i64 0, iv .i64 0, slv (rI .i64) [], slv rT_api_Packet [], slv rT_api_Packet []] rfl ⟨nil_sl, imp_rfl, imp_rfl, nil_sl, nil_sl, nil_sl, trivial⟩) ?_
        exact fin2 (.inl rfl) () [] rfl trivial rfl (rv_cell rfl (j := 2) rfl Try.isAgg28 Try.sizeOf28 rfl rfl) (rv_tmp rfl)
      refine ref_skip (n_then (ref_seq (ref_region ?_)))
      refine mv1 rfl rfl ?_
      refine s_rd (r_nilc rfl) rfl ?_
      refine s_rd (r_faddr (fo := 0) Try.underlying51 rfl rfl Try.sizeOf28 rfl) rfl ?_
      refine s_rd (r_cloadS Try.isAgg28 Try.sizeOf28 rfl (j := 3) rfl rfl rfl) rfl ?_
      refine s_st0 (s_cstore (out := [pv x5.2.1.1, iv .i64 bad7.2.c.Window, iv .i64 bad7.2.c.Base, pv x5.2.2.1.1, pv x5.2.2.2.1.1, pv x8.1]) Try.sizeOf28 rfl (j := 2) rfl (part_agO (ψs := [pv x5.2.1.1, iv .i64 bad7.2.c.Window, iv .i64 bad7.2.c.Base, pv x5.2.2.1.1, pv x5.2.2.2.1.1, pv x8.1]) rfl ⟨.inr ⟨_, _, _, _, _, 4, rfl, rfl⟩, .inl iv_at, .inl iv_at, .inr ⟨_, _, _, _, _, 5, rfl, rfl⟩, .inr ⟨_, _, _, _, _, 6, rfl, rfl⟩, .inr ⟨_, _, _, _, _, 7, rfl, rfl⟩, trivial⟩) rfl rfl rfl) (fun _ => ?_)
      refine as1 rfl rfl ?_
      refine l_nil (n_then (ref_ret (r_block (r_then ?_))))
      refine b_of (frzGL [(26, ag [slv (rI .i64) bad7.2.c.Items, iv .i64 bad7.2.c.Window, iv .i64 bad7.2.c.Base, pv x5.2.2.1.1, pv x5.2.2.2.1.1, pv x8.1])] [(2, b3, [slv (rI .i64) bad7.2.c.Items, iv .i64 bad7.2.c.Window, iv .i64 bad7.2.c.Base, pv x5.2.2.1.1, pv x5.2.2.2.1.1, pv x8.1]), (3, x5.1, [slv (rI .i64) bad7.2.c.Items, iv .i64 bad7.2.c.Window, iv .i64 bad7.2.c.Base, pv x5.2.2.1.1, pv x5.2.2.2.1.1, pv x8.1])] (j := 4) rfl ⟨⟨_, rfl, .inr ⟨_, _, rfl, rfl, ⟨.inr ⟨rfl, rfl⟩, .inl rfl, .inl rfl, .inl rfl, .inl rfl, .inl rfl, trivial⟩⟩⟩, trivial⟩ ⟨⟨_, rfl, ⟨.inr ⟨rfl, rfl⟩, .inl rfl, .inl rfl, .inl rfl, .inl rfl, .inl rfl, trivial⟩⟩, ⟨_, rfl, ⟨.inr ⟨rfl, rfl⟩, .inl rfl, .inl rfl, .inl rfl, .inl rfl, .inl rfl, trivial⟩⟩, trivial⟩) ?_
      refine b_of (nrm [oc b1 [slv (rI .i64) c_0.Items, iv .i64 c_0.Window, iv .i64 c_0.Base, slv (rI .i64) c_0.Received, slv rT_api_Packet c_0.Held, slv rT_api_Packet c_0.Flight], oc b2 [iv .i64 e_1.Kind, iv .i64 e_1.N], oc b3 [slv (rI .i64) bad7.2.c.Items, iv .i64 bad7.2.c.Window, iv .i64 bad7.2.c.Base, pv x5.2.2.1.1, pv x5.2.2.2.1.1, pv x8.1], oc x5.1 [slv (rI .i64) bad7.2.c.Items, iv .i64 bad7.2.c.Window, iv .i64 bad7.2.c.Base, pv x5.2.2.1.1, pv x5.2.2.2.1.1, pv x8.1], dead, oa (rI .i64) x5.2.2.1.1 x5.2.2.1.2 bad7.2.c.Received, oa rT_api_Packet x5.2.2.2.1.1 x5.2.2.2.1.2 bad7.2.c.Held, oa rT_api_Packet x8.1 x8.2 bad7.2.c.Flight] rfl) ?_
      refine b_of (frzGL [(26, ag [slv (rI .i64) bad7.2.c.Items, iv .i64 bad7.2.c.Window, iv .i64 bad7.2.c.Base, slv (rI .i64) bad7.2.c.Received, pv x5.2.2.2.1.1, pv x8.1])] [(2, b3, [slv (rI .i64) bad7.2.c.Items, iv .i64 bad7.2.c.Window, iv .i64 bad7.2.c.Base, slv (rI .i64) bad7.2.c.Received, pv x5.2.2.2.1.1, pv x8.1]), (3, x5.1, [slv (rI .i64) bad7.2.c.Items, iv .i64 bad7.2.c.Window, iv .i64 bad7.2.c.Base, slv (rI .i64) bad7.2.c.Received, pv x5.2.2.2.1.1, pv x8.1])] (j := 5) rfl ⟨⟨_, rfl, .inr ⟨_, _, rfl, rfl, ⟨.inl rfl, .inl rfl, .inl rfl, .inr ⟨rfl, rfl⟩, .inl rfl, .inl rfl, trivial⟩⟩⟩, trivial⟩ ⟨⟨_, rfl, ⟨.inl rfl, .inl rfl, .inl rfl, .inr ⟨rfl, rfl⟩, .inl rfl, .inl rfl, trivial⟩⟩, ⟨_, rfl, ⟨.inl rfl, .inl rfl, .inl rfl, .inr ⟨rfl, rfl⟩, .inl rfl, .inl rfl, trivial⟩⟩, trivial⟩) ?_
      refine b_of (nrm [oc b1 [slv (rI .i64) c_0.Items, iv .i64 c_0.Window, iv .i64 c_0.Base, slv (rI .i64) c_0.Received, slv rT_api_Packet c_0.Held, slv rT_api_Packet c_0.Flight], oc b2 [iv .i64 e_1.Kind, iv .i64 e_1.N], oc b3 [slv (rI .i64) bad7.2.c.Items, iv .i64 bad7.2.c.Window, iv .i64 bad7.2.c.Base, slv (rI .i64) bad7.2.c.Received, pv x5.2.2.2.1.1, pv x8.1], oc x5.1 [slv (rI .i64) bad7.2.c.Items, iv .i64 bad7.2.c.Window, iv .i64 bad7.2.c.Base, slv (rI .i64) bad7.2.c.Received, pv x5.2.2.2.1.1, pv x8.1], dead, dead, oa rT_api_Packet x5.2.2.2.1.1 x5.2.2.2.1.2 bad7.2.c.Held, oa rT_api_Packet x8.1 x8.2 bad7.2.c.Flight] rfl) ?_
      refine b_of (frzGL [(26, ag [slv (rI .i64) bad7.2.c.Items, iv .i64 bad7.2.c.Window, iv .i64 bad7.2.c.Base, slv (rI .i64) bad7.2.c.Received, slv rT_api_Packet bad7.2.c.Held, pv x8.1])] [(2, b3, [slv (rI .i64) bad7.2.c.Items, iv .i64 bad7.2.c.Window, iv .i64 bad7.2.c.Base, slv (rI .i64) bad7.2.c.Received, slv rT_api_Packet bad7.2.c.Held, pv x8.1]), (3, x5.1, [slv (rI .i64) bad7.2.c.Items, iv .i64 bad7.2.c.Window, iv .i64 bad7.2.c.Base, slv (rI .i64) bad7.2.c.Received, slv rT_api_Packet bad7.2.c.Held, pv x8.1])] (j := 6) rfl ⟨⟨_, rfl, .inr ⟨_, _, rfl, rfl, ⟨.inl rfl, .inl rfl, .inl rfl, .inl rfl, .inr ⟨rfl, rfl⟩, .inl rfl, trivial⟩⟩⟩, trivial⟩ ⟨⟨_, rfl, ⟨.inl rfl, .inl rfl, .inl rfl, .inl rfl, .inr ⟨rfl, rfl⟩, .inl rfl, trivial⟩⟩, ⟨_, rfl, ⟨.inl rfl, .inl rfl, .inl rfl, .inl rfl, .inr ⟨rfl, rfl⟩, .inl rfl, trivial⟩⟩, trivial⟩) ?_
      refine b_of (nrm [oc b1 [slv (rI .i64) c_0.Items, iv .i64 c_0.Window, iv .i64 c_0.Base, slv (rI .i64) c_0.Received, slv rT_api_Packet c_0.Held, slv rT_api_Packet c_0.Flight], oc b2 [iv .i64 e_1.Kind, iv .i64 e_1.N], oc b3 [slv (rI .i64) bad7.2.c.Items, iv .i64 bad7.2.c.Window, iv .i64 bad7.2.c.Base, slv (rI .i64) bad7.2.c.Received, slv rT_api_Packet bad7.2.c.Held, pv x8.1], oc x5.1 [slv (rI .i64) bad7.2.c.Items, iv .i64 bad7.2.c.Window, iv .i64 bad7.2.c.Base, slv (rI .i64) bad7.2.c.Received, slv rT_api_Packet bad7.2.c.Held, pv x8.1], dead, dead, dead, oa rT_api_Packet x8.1 x8.2 bad7.2.c.Flight] rfl) ?_
      refine b_of (frzGL [(26, ag [slv (rI .i64) bad7.2.c.Items, iv .i64 bad7.2.c.Window, iv .i64 bad7.2.c.Base, slv (rI .i64) bad7.2.c.Received, slv rT_api_Packet bad7.2.c.Held, slv rT_api_Packet bad7.2.c.Flight])] [(2, b3, [slv (rI .i64) bad7.2.c.Items, iv .i64 bad7.2.c.Window, iv .i64 bad7.2.c.Base, slv (rI .i64) bad7.2.c.Received, slv rT_api_Packet bad7.2.c.Held, slv rT_api_Packet bad7.2.c.Flight]), (3, x5.1, [slv (rI .i64) bad7.2.c.Items, iv .i64 bad7.2.c.Window, iv .i64 bad7.2.c.Base, slv (rI .i64) bad7.2.c.Received, slv rT_api_Packet bad7.2.c.Held, slv rT_api_Packet bad7.2.c.Flight])] (j := 7) rfl ⟨⟨_, rfl, .inr ⟨_, _, rfl, rfl, ⟨.inl rfl, .inl rfl, .inl rfl, .inl rfl, .inl rfl, .inr ⟨rfl, rfl⟩, trivial⟩⟩⟩, trivial⟩ ⟨⟨_, rfl, ⟨.inl rfl, .inl rfl, .inl rfl, .inl rfl, .inl rfl, .inr ⟨rfl, rfl⟩, trivial⟩⟩, ⟨_, rfl, ⟨.inl rfl, .inl rfl, .inl rfl, .inl rfl, .inl rfl, .inr ⟨rfl, rfl⟩, trivial⟩⟩, trivial⟩) ?_
      refine b_of (nrm [oc b1 [slv (rI .i64) c_0.Items, iv .i64 c_0.Window, iv .i64 c_0.Base, slv (rI .i64) c_0.Received, slv rT_api_Packet c_0.Held, slv rT_api_Packet c_0.Flight], oc b2 [iv .i64 e_1.Kind, iv .i64 e_1.N], oc b3 [slv (rI .i64) bad7.2.c.Items, iv .i64 bad7.2.c.Window, iv .i64 bad7.2.c.Base, slv (rI .i64) bad7.2.c.Received, slv rT_api_Packet bad7.2.c.Held, slv rT_api_Packet bad7.2.c.Flight], oc x5.1 [slv (rI .i64) bad7.2.c.Items, iv .i64 bad7.2.c.Window, iv .i64 bad7.2.c.Base, slv (rI .i64) bad7.2.c.Received, slv rT_api_Packet bad7.2.c.Held, slv rT_api_Packet bad7.2.c.Flight], dead, dead, dead, dead] rfl) ?_
      exact fin2 (.inl rfl) () [] rfl trivial rfl (rv_cell rfl (j := 2) rfl Try.isAgg28 Try.sizeOf28 rfl rfl) (rv_tmp rfl)
    refine ref_seq (ref_seq (ref_region ?_))
    refine s_rd (r_eql rfl rfl) rfl ?_
    refine as1 rfl rfl ?_
    refine l_nil (n_then ?_)
    refine ref_cond rfl (fun hb10 => ?_) (fun hb10 => ?_)
    · refine ref_skip (n_then ?_)
      refine ref_cond rfl (fun hb12 => ?_) (fun hb12 => ?_)
      · refine ref_skip (n_block ?_)
        exact b_to (hk17 () ()) (weak [0, 1, 2, 3, 4, 5, 6, 7] ⟨rfl, rfl, rfl, rfl, trivial⟩ ⟨rfl, rfl, rfl, rfl, rfl, rfl, rfl, rfl, trivial⟩)
      refine ref_seq (ref_region ?_)
      refine s_rd (r_build (ps := []) (rs := []) st_28 zs_28 trivial rfl rfl) rfl ?_
      refine s_st0 (s_cstore (out := [pv (.slice none 0 0), iv .i64 0, iv .i64 0, pv (.slice none 0 0), pv (.slice none 0 0), pv (.slice none 0 0)]) Try.sizeOf28 rfl (j := 2) rfl (part_agO (ψs := [pv (.slice none 0 0), iv .i64 0, iv .i64 0, pv (.slice none 0 0), pv (.slice none 0 0), pv (.slice none 0 0)]) rfl ⟨.inl (pv_at rfl), .inl iv_at, .inl iv_at, .inl (pv_at rfl), .inl (pv_at rfl), .inl (pv_at rfl), trivial⟩) rfl rfl rfl) (fun _ => ?_)
      refine as1 rfl rfl ?_
      refine l_nil (n_then (ref_ret (r_block (r_then ?_))))
      refine b_of (ocW 2 [slv (rI .i64) [], iv .i64 0, iv .i64 0, slv (rI .i64) [], slv rT_api_Packet [], slv rT_api_Packet []] rfl ⟨nil_sl, imp_rfl, imp_rfl, nil_sl, nil_sl, nil_sl, trivial⟩) ?_
      exact fin2 (.inl rfl) () [] rfl trivial rfl (rv_cell rfl (j := 2) rfl Try.isAgg28 Try.sizeOf28 rfl rfl) (rv_tmp rfl)
    refine ref_seq (ref_region ?_)
    refine s_rd (r_eql rfl rfl) rfl ?_
    refine as1 rfl rfl ?_
    refine l_nil (n_then ?_)
    refine ref_cond rfl (fun hb11 => ?_) (fun hb11 => ?_)
    · refine ref_skip (n_then ?_)
      refine ref_cond rfl (fun hb13 => ?_) (fun hb13 => ?_)
      · refine ref_skip (n_block ?_)
        exact b_to (hk17 () ()) (weak [0, 1, 2, 3, 4, 5, 6, 7] ⟨rfl, rfl, rfl, rfl, trivial⟩ ⟨rfl, rfl, rfl, rfl, rfl, rfl, rfl, rfl, trivial⟩)
      refine ref_seq (ref_region ?_)
      refine s_rd (r_build (ps := []) (rs := []) st_28 zs_28 trivial rfl rfl) rfl ?_
      refine s_st0 (s_cstore (out := [pv (.slice none 0 0), iv .i64 0, iv .i64 0, pv (.slice none 0 0), pv (.slice none 0 0), pv (.slice none 0 0)]) Try.sizeOf28 rfl (j := 2) rfl (part_agO (ψs := [pv (.slice none 0 0), iv .i64 0, iv .i64 0, pv (.slice none 0 0), pv (.slice none 0 0), pv (.slice none 0 0)]) rfl ⟨.inl (pv_at rfl), .inl iv_at, .inl iv_at, .inl (pv_at rfl), .inl (pv_at rfl), .inl (pv_at rfl), trivial⟩) rfl rfl rfl) (fun _ => ?_)
      refine as1 rfl rfl ?_
      refine l_nil (n_then (ref_ret (r_block (r_then ?_))))
      refine b_of (ocW 2 [slv (rI .i64) [], iv .i64 0, iv .i64 0, slv (rI .i64) [], slv rT_api_Packet [], slv rT_api_Packet []] rfl ⟨nil_sl, imp_rfl, imp_rfl, nil_sl, nil_sl, nil_sl, trivial⟩) ?_
      exact fin2 (.inl rfl) () [] rfl trivial rfl (rv_cell rfl (j := 2) rfl Try.isAgg28 Try.sizeOf28 rfl rfl) (rv_tmp rfl)
    refine ref_region ?_
    refine s_rd (r_eql rfl rfl) rfl ?_
    refine as1 rfl rfl ?_
    refine l_nil (n_then ?_)
    refine ref_cond rfl (fun hb14 => ?_) (fun hb14 => ?_)
    · refine ref_skip (n_block ?_)
      exact b_to (hk17 () ()) (weak [0, 1, 2, 3, 4, 5, 6, 7] ⟨rfl, rfl, rfl, rfl, trivial⟩ ⟨rfl, rfl, rfl, rfl, rfl, rfl, rfl, rfl, trivial⟩)
    refine ref_seq (ref_region ?_)
    refine s_rd (r_build (ps := []) (rs := []) st_28 zs_28 trivial rfl rfl) rfl ?_
    refine s_st0 (s_cstore (out := [pv (.slice none 0 0), iv .i64 0, iv .i64 0, pv (.slice none 0 0), pv (.slice none 0 0), pv (.slice none 0 0)]) Try.sizeOf28 rfl (j := 2) rfl (part_agO (ψs := [pv (.slice none 0 0), iv .i64 0, iv .i64 0, pv (.slice none 0 0), pv (.slice none 0 0), pv (.slice none 0 0)]) rfl ⟨.inl (pv_at rfl), .inl iv_at, .inl iv_at, .inl (pv_at rfl), .inl (pv_at rfl), .inl (pv_at rfl), trivial⟩) rfl rfl rfl) (fun _ => ?_)
    refine as1 rfl rfl ?_
    refine l_nil (n_then (ref_ret (r_block (r_then ?_))))
    refine b_of (ocW 2 [slv (rI .i64) [], iv .i64 0, iv .i64 0, slv (rI .i64) [], slv rT_api_Packet [], slv rT_api_Packet []] rfl ⟨nil_sl, imp_rfl, imp_rfl, nil_sl, nil_sl, nil_sl, trivial⟩) ?_
    exact fin2 (.inl rfl) () [] rfl trivial rfl (rv_cell rfl (j := 2) rfl Try.isAgg28 Try.sizeOf28 rfl rfl) (rv_tmp rfl)
  refine n_then (ref_seq (ref_seq (ref_region ?_)))
  refine s_rd (r_faddr (fo := 1) Try.underlying35 rfl rfl Try.sizeOf3 rfl) rfl ?_
  refine s_rd (r_cload Try.isAgg3 rfl (j := 1) rfl rfl) rfl ?_
  refine s_rd (r_lss rfl rfl) rfl ?_
  refine mv1 rfl rfl ?_
  refine b_split (t := 34) rfl (fun _ => ?_) (fun _ => ?_)
  · refine s_off rfl rfl rfl rfl rfl ?_
    refine s_off rfl rfl rfl rfl rfl ?_
    refine s_off rfl rfl rfl rfl rfl ?_
    refine s_off rfl rfl rfl rfl rfl ?_
    refine s_off rfl rfl rfl rfl rfl ?_
    refine s_off rfl rfl rfl rfl rfl ?_
    refine s_rd (r_pickT rfl rfl) rfl ?_
    refine l_nil (n_then ?_)
    refine ref_condT rfl rfl ?_
    refine ref_seq (ref_region ?_)
    refine s_rd (r_build (ps := []) (rs := []) st_28 zs_28 trivial rfl rfl) rfl ?_
    refine s_st0 (s_cstore (out := [pv (.slice none 0 0), iv .i64 0, iv .i64 0, pv (.slice none 0 0), pv (.slice none 0 0), pv (.slice none 0 0)]) Try.sizeOf28 rfl (j := 2) rfl (part_agO (ψs := [pv (.slice none 0 0), iv .i64 0, iv .i64 0, pv (.slice none 0 0), pv (.slice none 0 0), pv (.slice none 0 0)]) rfl ⟨.inl (pv_at rfl), .inl iv_at, .inl iv_at, .inl (pv_at rfl), .inl (pv_at rfl), .inl (pv_at rfl), trivial⟩) rfl rfl rfl) (fun _ => ?_)
    refine as1 rfl rfl ?_
    refine l_nil (n_then (ref_ret (r_then ?_)))
    refine b_of (ocW 2 [slv (rI .i64) [], iv .i64 0, iv .i64 0, slv (rI .i64) [], slv rT_api_Packet [], slv rT_api_Packet []] rfl ⟨nil_sl, imp_rfl, imp_rfl, nil_sl, nil_sl, nil_sl, trivial⟩) ?_
    exact fin2 (.inl rfl) () [] rfl trivial rfl (rv_cell rfl (j := 2) rfl Try.isAgg28 Try.sizeOf28 rfl rfl) (rv_tmp rfl)
  refine s_on rfl rfl rfl ?_
  refine s_rd (r_faddr (fo := 1) Try.underlying35 rfl rfl Try.sizeOf3 rfl) rfl ?_
  refine s_on rfl rfl rfl ?_
  refine s_rd (r_cload Try.isAgg3 rfl (j := 1) rfl rfl) rfl ?_
  refine s_on rfl rfl rfl ?_
  refine s_rd (r_faddr (fo := 5) Try.underlying28 rfl rfl Try.sizeOf26 rfl) rfl ?_
  refine s_on rfl rfl rfl ?_
  refine s_rd (r_cload Try.isAgg26 rfl (j := 0) rfl rfl) rfl ?_
  refine s_on rfl rfl rfl ?_
  refine s_rd (r_len Try.underlying26 rfl) rfl ?_
  refine s_on rfl rfl rfl ?_
  refine s_rd (r_geq rfl rfl) rfl ?_
  refine s_rd (r_pickF rfl rfl) rfl ?_
  refine l_nil (n_then ?_)
  refine ref_cond rfl (fun hb18 => ?_) (fun hb18 => ?_)
  · refine ref_seq (ref_region ?_)
    refine s_rd (r_build (ps := []) (rs := []) st_28 zs_28 trivial rfl rfl) rfl ?_
    refine s_st0 (s_cstore (out := [pv (.slice none 0 0), iv .i64 0, iv .i64 0, pv (.slice none 0 0), pv (.slice none 0 0), pv (.slice none 0 0)]) Try.sizeOf28 rfl (j := 2) rfl (part_agO (ψs := [pv (.slice none 0 0), iv .i64 0, iv .i64 0, pv (.slice none 0 0), pv (.slice none 0 0), pv (.slice none 0 0)]) rfl ⟨.inl (pv_at rfl), .inl iv_at, .inl iv_at, .inl (pv_at rfl), .inl (pv_at rfl), .inl (pv_at rfl), trivial⟩) rfl rfl rfl) (fun _ => ?_)
    refine as1 rfl rfl ?_
    refine l_nil (n_then (ref_ret (r_then ?_)))
    refine b_of (ocW 2 [slv (rI .i64) [], iv .i64 0, iv .i64 0, slv (rI .i64) [], slv rT_api_Packet [], slv rT_api_Packet []] rfl ⟨nil_sl, imp_rfl, imp_rfl, nil_sl, nil_sl, nil_sl, trivial⟩) ?_
    exact fin2 (.inl rfl) () [] rfl trivial rfl (rv_cell rfl (j := 2) rfl Try.isAgg28 Try.sizeOf28 rfl rfl) (rv_tmp rfl)
  refine ref_skip (n_then (ref_seq ?_))
  refine ref_join (fun (j33 : (List Int) × Int × Int × (List Int) × (List T_api_Packet) × (List T_api_Packet)) (x34 : (Value × List Nat) × (Value × List Nat) × (Value × List Nat)) => [(4, pv (ptr b3 0)), (6, pv (ptr x5.1 0))]) (fun (j33 : (List Int) × Int × Int × (List Int) × (List T_api_Packet) × (List T_api_Packet)) (x34 : (Value × List Nat) × (Value × List Nat) × (Value × List Nat)) => [oc b3 [pv (.slice none 0 0), iv .i64 0, iv .i64 0, pv (.slice none 0 0), pv (.slice none 0 0), pv (.slice none 0 0)], oc x5.1 [pv x5.2.1.1, iv .i64 j33.2.1, iv .i64 j33.2.2.1, pv x34.1.1, pv x34.2.1.1, pv x34.2.2.1], oa (rI .i64) x5.2.1.1 x5.2.1.2 j33.1, oa (rI .i64) x34.1.1 x34.1.2 j33.2.2.2.1, oa rT_api_Packet x34.2.1.1 x34.2.1.2 j33.2.2.2.2.1, oa rT_api_Packet x34.2.2.1 x34.2.2.2 j33.2.2.2.2.2]) (fun k35 hk35 => ?_) (fun j33 x34 => ?_)
  · refine ref_seq (ref_region ?_)
    refine s_rd (r_faddr (fo := 0) Try.underlying35 rfl rfl Try.sizeOf3 rfl) rfl ?_
    refine s_rd (r_cload Try.isAgg3 rfl (j := 1) rfl rfl) rfl ?_
    refine l_nil (n_then (ref_block (ref_seq (ref_region ?_))))
    refine s_rd (r_eql rfl rfl) rfl ?_
    refine as1 rfl rfl ?_
    refine l_nil (n_then ?_)
    refine ref_cond rfl (fun hb19 => ?_) (fun hb19 => ?_)
    · refine ref_region ?_
      refine mv1 rfl rfl ?_
      refine s_rd (r_faddr (fo := 1) Try.underlying35 rfl rfl Try.sizeOf3 rfl) rfl ?_
      refine s_rd (r_cload Try.isAgg3 rfl (j := 1) rfl rfl) rfl ?_
      refine pull fun t20 h_t20 => ?_
      refine s_st (s_callC [3, 4, 5, 6, 7] [true, true, true, true, true] (fun (x21 : (Value × List Nat) × (Value × List Nat) × (Value × List Nat)) => [oc x5.1 [pv x5.2.1.1, iv .i64 t20.c.Window, iv .i64 t20.c.Base, pv x21.1.1, pv x21.2.1.1, pv x21.2.2.1], oa (rI .i64) x5.2.1.1 x5.2.1.2 t20.c.Items, oa (rI .i64) x21.1.1 x21.1.2 t20.c.Received, oa rT_api_Packet x21.2.1.1 x21.2.1.2 t20.c.Held, oa rT_api_Packet x21.2.2.1 x21.2.2.2 t20.c.Flight]) (fun (x21 : (Value × List Nat) × (Value × List Nat) × (Value × List Nat)) => []) (fun (x21 : (Value × List Nat) × (Value × List Nat) × (Value × List Nat)) => tup []) (args := [.tmp 70, .tmp 72]) (caps := []) Try.call27 rfl (channel_line_deliver_ok h_t20) ⟨rfl, rfl, ⟨rfl, rfl, ⟨rfl, rfl, ⟨rfl, rfl, ⟨rfl, rfl, trivial⟩⟩⟩⟩⟩ (fun _ => rfl) (fun _ => trivial) (fun _ => rfl) ⟨arg rfl, arg rfl, trivial⟩ (fun _ _ _ _ h => h)) rfl (fun x21 => ?_)
      refine l_nil (n_block ?_)
      exact b_to (hk35 (t20.c.Items, t20.c.Window, t20.c.Base, t20.c.Received, t20.c.Held, t20.c.Flight) (x21.1, x21.2.1, x21.2.2)) (weak [2, 3, 4, 5, 6, 7] ⟨rfl, rfl, trivial⟩ ⟨rfl, rfl, rfl, rfl, rfl, rfl, trivial⟩)
    refine ref_seq (ref_region ?_)
    refine s_rd (r_eql rfl rfl) rfl ?_
    refine as1 rfl rfl ?_
    refine l_nil (n_then ?_)
    refine ref_cond rfl (fun hb22 => ?_) (fun hb22 => ?_)
    · refine ref_draw [0, 1, 2, 3, 4, 5, 6, 7, 8, 9, 10, 12, 13, 14] rfl (by kernel_rfl) (fun hok => ?_)
      refine a_rd (i := 0) hok rfl (by kernel_rfl) rfl (r_move rfl) rfl ?_
      refine a_rd (i := 1) hok rfl (by kernel_rfl) rfl (r_move rfl) rfl ?_
      refine a_rd (i := 2) hok rfl (by kernel_rfl) rfl (r_nilc rfl) rfl ?_
      refine a_rd (i := 3) hok rfl (by kernel_rfl) rfl (r_faddr (fo := 0) Try.underlying51 rfl rfl Try.sizeOf28 rfl) rfl ?_
      refine a_rd (i := 4) hok rfl (by kernel_rfl) rfl (r_faddr (fo := 5) Try.underlying28 rfl rfl Try.sizeOf26 rfl) rfl ?_
      refine a_rd (i := 5) hok rfl (by kernel_rfl) rfl (r_cload Try.isAgg26 rfl (j := 3) rfl rfl) rfl ?_
      refine a_rd (i := 6) hok rfl (by kernel_rfl) rfl (r_faddr (fo := 1) Try.underlying35 rfl rfl Try.sizeOf3 rfl) rfl ?_
      refine a_rd (i := 7) hok rfl (by kernel_rfl) rfl (r_cload Try.isAgg3 rfl (j := 1) rfl rfl) rfl ?_
      refine a_rd (i := 8) hok rfl (by kernel_rfl) rfl (r_faddr (fo := 1) Try.underlying35 rfl rfl Try.sizeOf3 rfl) rfl ?_
      refine a_rd (i := 9) hok rfl (by kernel_rfl) rfl (r_cload Try.isAgg3 rfl (j := 1) rfl rfl) rfl ?_
      refine a_rd (i := 10) hok rfl (by kernel_rfl) rfl (r_add rfl rfl) rfl ?_
      refine pull fun t23 h_t23 => ?_
      refine a_next hok 11 [] (by kernel_rfl) ?_ trivial
      refine a_st (i := 11) hok rfl rfl (s_callC [7] [false] (fun (x24 : (Value × List Nat)) => [dead]) (fun (x24 : (Value × List Nat)) => [oa rT_api_Packet x24.1 x24.2 t23]) (fun (x24 : (Value × List Nat)) => pv x24.1) (args := [.tmp 81, .tmp 83, .tmp 86]) (caps := []) Try.call28 rfl (slices_Delete_api_Packet_api_Packet_ok h_t23) ⟨rfl, rfl, trivial⟩ (fun _ => rfl) (fun _ => ⟨rfl, trivial⟩) (fun _ => rfl) ⟨arg rfl, arg rfl, arg rfl, trivial⟩ (fun _ _ _ _ h => h)) (by intro _ h; cases h; rfl) (fun _ => ⟨trivial, ⟨⟨⟨rfl, rfl⟩, trivial⟩, ⟨trivial, ⟨trivial, ⟨trivial, ⟨trivial, ⟨trivial, ⟨trivial, ⟨trivial, ⟨trivial, ⟨trivial, trivial⟩⟩⟩⟩⟩⟩⟩⟩⟩⟩⟩) (fun x24 => ?_)
      refine a_rd (i := 12) hok rfl (by kernel_rfl) rfl (r_nilc rfl) rfl ?_
      refine a_rd (i := 13) hok rfl (by kernel_rfl) rfl (r_faddr (fo := 0) Try.underlying51 rfl rfl Try.sizeOf28 rfl) rfl ?_
      refine a_rd (i := 14) hok rfl (by kernel_rfl) rfl (r_faddr (fo := 5) Try.underlying28 rfl rfl Try.sizeOf26 rfl) rfl ?_
      refine a_next hok 15 [] (by kernel_rfl) ?_ trivial
      refine a_st (i := 15) hok rfl rfl (s_cstore (out := [pv x5.2.1.1, iv .i64 l4.c.Window, iv .i64 l4.c.Base, pv x5.2.2.1.1, pv x5.2.2.2.1.1, pv x24.1]) Try.sizeOf26 rfl (j := 3) rfl (part_own rfl (j := 8) rfl) rfl rfl rfl) (by intro _ h; cases h) (fun _ => ⟨trivial, ⟨trivial, ⟨trivial, ⟨trivial, ⟨trivial, ⟨trivial, ⟨trivial, ⟨trivial, ⟨trivial, ⟨trivial, ⟨trivial, ⟨trivial, ⟨trivial, ⟨trivial, trivial⟩⟩⟩⟩⟩⟩⟩⟩⟩⟩⟩⟩⟩⟩) (fun _ => ?_)
      refine a_fin hok (by kernel_rfl) ?_
      refine n_block ?_
      exact b_to (hk35 (l4.c.Items, l4.c.Window, l4.c.Base, l4.c.Received, l4.c.Held, t23) (x5.2.2.1, x5.2.2.2.1, x24)) (weak [2, 3, 4, 5, 6, 8] ⟨rfl, rfl, trivial⟩ ⟨rfl, rfl, rfl, rfl, rfl, rfl, trivial⟩)
    refine ref_seq (ref_seq (ref_region ?_))
    refine mv1 rfl rfl ?_
    refine pull fun t25 h_t25 => ?_
    refine s_st (s_callC [3, 4, 5, 6, 7] [true, true, true, true, true] (fun (_ : Unit) => [oc x5.1 [pv x5.2.1.1, iv .i64 l4.c.Window, iv .i64 l4.c.Base, pv x5.2.2.1.1, pv x5.2.2.2.1.1, pv x5.2.2.2.2.1], oa (rI .i64) x5.2.1.1 x5.2.1.2 l4.c.Items, oa (rI .i64) x5.2.2.1.1 x5.2.2.1.2 l4.c.Received, oa rT_api_Packet x5.2.2.2.1.1 x5.2.2.2.1.2 l4.c.Held, oa rT_api_Packet x5.2.2.2.2.1 x5.2.2.2.2.2 l4.c.Flight]) (fun (_ : Unit) => []) (fun (_ : Unit) => bv t25) (args := [.tmp 45]) (caps := []) Try.call29 rfl (channel_line_full_1_ok h_t25) ⟨rfl, rfl, ⟨rfl, rfl, ⟨rfl, rfl, ⟨rfl, rfl, ⟨rfl, rfl, trivial⟩⟩⟩⟩⟩ (fun _ => rfl) (fun _ => trivial) (fun _ => rfl) ⟨arg rfl, trivial⟩ (fun _ _ _ _ h => h)) rfl (fun _ => ?_)
    refine l_nil (n_then ?_)
    refine ref_cond rfl (fun hb26 => ?_) (fun hb26 => ?_)
    · refine ref_seq (ref_region ?_)
      refine s_rd (r_build (ps := []) (rs := []) st_28 zs_28 trivial rfl rfl) rfl ?_
      refine s_st0 (s_cstore (out := [pv (.slice none 0 0), iv .i64 0, iv .i64 0, pv (.slice none 0 0), pv (.slice none 0 0), pv (.slice none 0 0)]) Try.sizeOf28 rfl (j := 2) rfl (part_agO (ψs := [pv (.slice none 0 0), iv .i64 0, iv .i64 0, pv (.slice none 0 0), pv (.slice none 0 0), pv (.slice none 0 0)]) rfl ⟨.inl (pv_at rfl), .inl iv_at, .inl iv_at, .inl (pv_at rfl), .inl (pv_at rfl), .inl (pv_at rfl), trivial⟩) rfl rfl rfl) (fun _ => ?_)
      refine as1 rfl rfl ?_
      refine l_nil (n_then (ref_ret (r_then (r_block (r_then ?_)))))
      refine b_of (ocW 2 [slv (rI .i64) [], iv .i64 0, iv .i64 0, slv (rI .i64) [], slv rT_api_Packet [], slv rT_api_Packet []] rfl ⟨nil_sl, imp_rfl, imp_rfl, nil_sl, nil_sl, nil_sl, trivial⟩) ?_
      exact fin2 (.inl rfl) () [] rfl trivial rfl (rv_cell rfl (j := 2) rfl Try.isAgg28 Try.sizeOf28 rfl rfl) (rv_tmp rfl)
    refine ref_skip (n_then ?_)
    refine ref_draw [0, 1, 2, 3, 4, 5, 6, 7, 8, 9, 10, 11, 12, 13, 17, 18, 19] rfl (by kernel_rfl) (fun hok => ?_)
    refine a_rd (i := 0) hok rfl (by kernel_rfl) rfl (r_move rfl) rfl ?_
    refine a_rd (i := 1) hok rfl (by kernel_rfl) rfl (r_move rfl) rfl ?_
    refine a_rd (i := 2) hok rfl (by kernel_rfl) rfl (r_nilc rfl) rfl ?_
    refine a_rd (i := 3) hok rfl (by kernel_rfl) rfl (r_faddr (fo := 0) Try.underlying51 rfl rfl Try.sizeOf28 rfl) rfl ?_
    refine a_rd (i := 4) hok rfl (by kernel_rfl) rfl (r_faddr (fo := 5) Try.underlying28 rfl rfl Try.sizeOf26 rfl) rfl ?_
    refine a_rd (i := 5) hok rfl (by kernel_rfl) rfl (r_cload Try.isAgg26 rfl (j := 3) rfl rfl) rfl ?_
    refine a_rd (i := 6) hok rfl (by kernel_rfl) rfl (r_move rfl) rfl ?_
    refine a_rd (i := 7) hok rfl (by kernel_rfl) rfl (r_nilc rfl) rfl ?_
    refine a_rd (i := 8) hok rfl (by kernel_rfl) rfl (r_faddr (fo := 0) Try.underlying51 rfl rfl Try.sizeOf28 rfl) rfl ?_
    refine a_rd (i := 9) hok rfl (by kernel_rfl) rfl (r_faddr (fo := 5) Try.underlying28 rfl rfl Try.sizeOf26 rfl) rfl ?_
    refine a_rd (i := 10) hok rfl (by kernel_rfl) rfl (r_cload Try.isAgg26 rfl (j := 3) rfl rfl) rfl ?_
    refine a_rd (i := 11) hok rfl (by kernel_rfl) rfl (r_faddr (fo := 1) Try.underlying35 rfl rfl Try.sizeOf3 rfl) rfl ?_
    refine a_rd (i := 12) hok rfl (by kernel_rfl) rfl (r_cload Try.isAgg3 rfl (j := 1) rfl rfl) rfl ?_
    refine pull fun t30 h_t30 => ?_
    refine a_rd (i := 13) hok rfl (by kernel_rfl) rfl (r_oindex h_t30 Try.underlying26 el_55 rfl (j := 7) rfl rfl) rfl ?_
    refine a_next hok 14 [] (by kernel_rfl) ?_ trivial
    refine a_st (i := 14) hok rfl rfl (St.ofRd (r_oload h_t30 el_55 rfl (j := 7) rfl)) (by intro _ h; cases h; rfl) (fun _ => ⟨trivial, ⟨⟨⟨rfl, rfl⟩, trivial⟩, ⟨trivial, ⟨⟨⟨rfl, rfl⟩, trivial⟩, ⟨trivial, ⟨trivial, ⟨trivial, ⟨trivial, ⟨⟨⟨rfl, rfl⟩, trivial⟩, ⟨trivial, ⟨trivial, ⟨trivial, ⟨trivial, ⟨trivial, trivial⟩⟩⟩⟩⟩⟩⟩⟩⟩⟩⟩⟩⟩⟩) (fun _ => ?_)
    refine a_next hok 15 [] (by kernel_rfl) ?_ trivial
    refine a_st (i := 15) hok rfl rfl (s_bslice (xs := [.tmp 62]) (ds := [t30]) Try.underlying26 el_55 rfl (Nat.le_of_ble_eq_true rfl) ⟨(part_agO (ψs := [bv t30.Ack, iv .i64 t30.Number, iv .i64 t30.Value]) rfl ⟨.inl bv_at, .inl iv_at, .inl iv_at, trivial⟩), trivial⟩) (by intro _ h; cases h; rfl) (fun _ => ⟨trivial, ⟨⟨⟨rfl, rfl⟩, trivial⟩, ⟨trivial, ⟨⟨⟨rfl, rfl⟩, trivial⟩, ⟨trivial, ⟨trivial, ⟨trivial, ⟨trivial, ⟨⟨⟨rfl, rfl⟩, trivial⟩, ⟨trivial, ⟨trivial, ⟨trivial, ⟨trivial, ⟨trivial, trivial⟩⟩⟩⟩⟩⟩⟩⟩⟩⟩⟩⟩⟩⟩) (fun _ => ?_)
    refine pull fun t31 h_t31 => ?_
    refine a_next hok 16 [] (by kernel_rfl) ?_ trivial
    refine a_st (i := 16) hok rfl rfl (s_append h_t31 Try.underlying26 el_55 rfl (j := 7) rfl rfl) (by intro _ h; cases h; rfl) (fun _ => ⟨trivial, ⟨⟨⟨rfl, rfl⟩, trivial⟩, ⟨trivial, ⟨⟨⟨rfl, rfl⟩, trivial⟩, ⟨trivial, ⟨trivial, ⟨trivial, ⟨trivial, ⟨trivial, ⟨trivial, ⟨trivial, ⟨trivial, ⟨trivial, ⟨trivial, trivial⟩⟩⟩⟩⟩⟩⟩⟩⟩⟩⟩⟩⟩⟩) (fun o32 => ?_)
    refine a_rd (i := 17) hok rfl (by kernel_rfl) rfl (r_nilc rfl) rfl ?_
    refine a_rd (i := 18) hok rfl (by kernel_rfl) rfl (r_faddr (fo := 0) Try.underlying51 rfl rfl Try.sizeOf28 rfl) rfl ?_
    refine a_rd (i := 19) hok rfl (by kernel_rfl) rfl (r_faddr (fo := 5) Try.underlying28 rfl rfl Try.sizeOf26 rfl) rfl ?_
    refine a_next hok 20 [] (by kernel_rfl) ?_ trivial
    refine a_st (i := 20) hok rfl rfl (s_cstore (out := [pv x5.2.1.1, iv .i64 l4.c.Window, iv .i64 l4.c.Base, pv x5.2.2.1.1, pv x5.2.2.2.1.1, pv o32.1]) Try.sizeOf26 rfl (j := 3) rfl (part_own rfl (j := 7) rfl) rfl rfl rfl) (by intro _ h; cases h) (fun _ => ⟨trivial, ⟨trivial, ⟨trivial, ⟨trivial, ⟨trivial, ⟨trivial, ⟨trivial, ⟨trivial, ⟨trivial, ⟨trivial, ⟨trivial, ⟨trivial, ⟨trivial, ⟨trivial, ⟨trivial, ⟨trivial, ⟨trivial, trivial⟩⟩⟩⟩⟩⟩⟩⟩⟩⟩⟩⟩⟩⟩⟩⟩⟩) (fun _ => ?_)
    refine a_fin hok (by kernel_rfl) ?_
    refine b_of (nrm [oc b1 [slv (rI .i64) c_0.Items, iv .i64 c_0.Window, iv .i64 c_0.Base, slv (rI .i64) c_0.Received, slv rT_api_Packet c_0.Held, slv rT_api_Packet c_0.Flight], oc b2 [iv .i64 e_1.Kind, iv .i64 e_1.N], oc b3 [pv (.slice none 0 0), iv .i64 0, iv .i64 0, pv (.slice none 0 0), pv (.slice none 0 0), pv (.slice none 0 0)], oc x5.1 [pv x5.2.1.1, iv .i64 l4.c.Window, iv .i64 l4.c.Base, pv x5.2.2.1.1, pv x5.2.2.2.1.1, pv o32.1], oa (rI .i64) x5.2.1.1 x5.2.1.2 l4.c.Items, oa (rI .i64) x5.2.2.1.1 x5.2.2.1.2 l4.c.Received, oa rT_api_Packet x5.2.2.2.1.1 x5.2.2.2.1.2 l4.c.Held, oa rT_api_Packet o32.1 o32.2 t31] rfl) ?_
    refine n_block ?_
    exact b_to (hk35 (l4.c.Items, l4.c.Window, l4.c.Base, l4.c.Received, l4.c.Held, t31) (x5.2.2.1, x5.2.2.2.1, o32)) (weak [2, 3, 4, 5, 6, 7] ⟨rfl, rfl, trivial⟩ ⟨rfl, rfl, rfl, rfl, rfl, rfl, trivial⟩)
  refine n_then (ref_seq (ref_region ?_))
  refine mv1 rfl rfl ?_
  refine s_rd (r_nilc rfl) rfl ?_
  refine s_rd (r_faddr (fo := 0) Try.underlying51 rfl rfl Try.sizeOf28 rfl) rfl ?_
  refine s_rd (r_cloadS Try.isAgg28 Try.sizeOf28 rfl (j := 1) rfl rfl rfl) rfl ?_
  refine s_st0 (s_cstore (out := [pv x5.2.1.1, iv .i64 j33.2.1, iv .i64 j33.2.2.1, pv x34.1.1, pv x34.2.1.1, pv x34.2.2.1]) Try.sizeOf28 rfl (j := 0) rfl (part_agO (ψs := [pv x5.2.1.1, iv .i64 j33.2.1, iv .i64 j33.2.2.1, pv x34.1.1, pv x34.2.1.1, pv x34.2.2.1]) rfl ⟨.inr ⟨_, _, _, _, _, 2, rfl, rfl⟩, .inl iv_at, .inl iv_at, .inr ⟨_, _, _, _, _, 3, rfl, rfl⟩, .inr ⟨_, _, _, _, _, 4, rfl, rfl⟩, .inr ⟨_, _, _, _, _, 5, rfl, rfl⟩, trivial⟩) rfl rfl rfl) (fun _ => ?_)
  refine as1 rfl rfl ?_
  refine l_nil (n_then (ref_ret ?_))
  refine b_of (frzGL [(94, ag [slv (rI .i64) j33.1, iv .i64 j33.2.1, iv .i64 j33.2.2.1, pv x34.1.1, pv x34.2.1.1, pv x34.2.2.1])] [(0, b3, [slv (rI .i64) j33.1, iv .i64 j33.2.1, iv .i64 j33.2.2.1, pv x34.1.1, pv x34.2.1.1, pv x34.2.2.1]), (1, x5.1, [slv (rI .i64) j33.1, iv .i64 j33.2.1, iv .i64 j33.2.2.1, pv x34.1.1, pv x34.2.1.1, pv x34.2.2.1])] (j := 2) rfl ⟨⟨_, rfl, .inr ⟨_, _, rfl, rfl, ⟨.inr ⟨rfl, rfl⟩, .inl rfl, .inl rfl, .inl rfl, .inl rfl, .inl rfl, trivial⟩⟩⟩, trivial⟩ ⟨⟨_, rfl, ⟨.inr ⟨rfl, rfl⟩, .inl rfl, .inl rfl, .inl rfl, .inl rfl, .inl rfl, trivial⟩⟩, ⟨_, rfl, ⟨.inr ⟨rfl, rfl⟩, .inl rfl, .inl rfl, .inl rfl, .inl rfl, .inl rfl, trivial⟩⟩, trivial⟩) ?_
  refine b_of (nrm [oc b3 [slv (rI .i64) j33.1, iv .i64 j33.2.1, iv .i64 j33.2.2.1, pv x34.1.1, pv x34.2.1.1, pv x34.2.2.1], oc x5.1 [slv (rI .i64) j33.1, iv .i64 j33.2.1, iv .i64 j33.2.2.1, pv x34.1.1, pv x34.2.1.1, pv x34.2.2.1], dead, oa (rI .i64) x34.1.1 x34.1.2 j33.2.2.2.1, oa rT_api_Packet x34.2.1.1 x34.2.1.2 j33.2.2.2.2.1, oa rT_api_Packet x34.2.2.1 x34.2.2.2 j33.2.2.2.2.2] rfl) ?_
  refine b_of (frzGL [(94, ag [slv (rI .i64) j33.1, iv .i64 j33.2.1, iv .i64 j33.2.2.1, slv (rI .i64) j33.2.2.2.1, pv x34.2.1.1, pv x34.2.2.1])] [(0, b3, [slv (rI .i64) j33.1, iv .i64 j33.2.1, iv .i64 j33.2.2.1, slv (rI .i64) j33.2.2.2.1, pv x34.2.1.1, pv x34.2.2.1]), (1, x5.1, [slv (rI .i64) j33.1, iv .i64 j33.2.1, iv .i64 j33.2.2.1, slv (rI .i64) j33.2.2.2.1, pv x34.2.1.1, pv x34.2.2.1])] (j := 3) rfl ⟨⟨_, rfl, .inr ⟨_, _, rfl, rfl, ⟨.inl rfl, .inl rfl, .inl rfl, .inr ⟨rfl, rfl⟩, .inl rfl, .inl rfl, trivial⟩⟩⟩, trivial⟩ ⟨⟨_, rfl, ⟨.inl rfl, .inl rfl, .inl rfl, .inr ⟨rfl, rfl⟩, .inl rfl, .inl rfl, trivial⟩⟩, ⟨_, rfl, ⟨.inl rfl, .inl rfl, .inl rfl, .inr ⟨rfl, rfl⟩, .inl rfl, .inl rfl, trivial⟩⟩, trivial⟩) ?_
  refine b_of (nrm [oc b3 [slv (rI .i64) j33.1, iv .i64 j33.2.1, iv .i64 j33.2.2.1, slv (rI .i64) j33.2.2.2.1, pv x34.2.1.1, pv x34.2.2.1], oc x5.1 [slv (rI .i64) j33.1, iv .i64 j33.2.1, iv .i64 j33.2.2.1, slv (rI .i64) j33.2.2.2.1, pv x34.2.1.1, pv x34.2.2.1], dead, dead, oa rT_api_Packet x34.2.1.1 x34.2.1.2 j33.2.2.2.2.1, oa rT_api_Packet x34.2.2.1 x34.2.2.2 j33.2.2.2.2.2] rfl) ?_
  refine b_of (frzGL [(94, ag [slv (rI .i64) j33.1, iv .i64 j33.2.1, iv .i64 j33.2.2.1, slv (rI .i64) j33.2.2.2.1, slv rT_api_Packet j33.2.2.2.2.1, pv x34.2.2.1])] [(0, b3, [slv (rI .i64) j33.1, iv .i64 j33.2.1, iv .i64 j33.2.2.1, slv (rI .i64) j33.2.2.2.1, slv rT_api_Packet j33.2.2.2.2.1, pv x34.2.2.1]), (1, x5.1, [slv (rI .i64) j33.1, iv .i64 j33.2.1, iv .i64 j33.2.2.1, slv (rI .i64) j33.2.2.2.1, slv rT_api_Packet j33.2.2.2.2.1, pv x34.2.2.1])] (j := 4) rfl ⟨⟨_, rfl, .inr ⟨_, _, rfl, rfl, ⟨.inl rfl, .inl rfl, .inl rfl, .inl rfl, .inr ⟨rfl, rfl⟩, .inl rfl, trivial⟩⟩⟩, trivial⟩ ⟨⟨_, rfl, ⟨.inl rfl, .inl rfl, .inl rfl, .inl rfl, .inr ⟨rfl, rfl⟩, .inl rfl, trivial⟩⟩, ⟨_, rfl, ⟨.inl rfl, .inl rfl, .inl rfl, .inl rfl, .inr ⟨rfl, rfl⟩, .inl rfl, trivial⟩⟩, trivial⟩) ?_
  refine b_of (nrm [oc b3 [slv (rI .i64) j33.1, iv .i64 j33.2.1, iv .i64 j33.2.2.1, slv (rI .i64) j33.2.2.2.1, slv rT_api_Packet j33.2.2.2.2.1, pv x34.2.2.1], oc x5.1 [slv (rI .i64) j33.1, iv .i64 j33.2.1, iv .i64 j33.2.2.1, slv (rI .i64) j33.2.2.2.1, slv rT_api_Packet j33.2.2.2.2.1, pv x34.2.2.1], dead, dead, dead, oa rT_api_Packet x34.2.2.1 x34.2.2.2 j33.2.2.2.2.2] rfl) ?_
  refine b_of (frzGL [(94, ag [slv (rI .i64) j33.1, iv .i64 j33.2.1, iv .i64 j33.2.2.1, slv (rI .i64) j33.2.2.2.1, slv rT_api_Packet j33.2.2.2.2.1, slv rT_api_Packet j33.2.2.2.2.2])] [(0, b3, [slv (rI .i64) j33.1, iv .i64 j33.2.1, iv .i64 j33.2.2.1, slv (rI .i64) j33.2.2.2.1, slv rT_api_Packet j33.2.2.2.2.1, slv rT_api_Packet j33.2.2.2.2.2]), (1, x5.1, [slv (rI .i64) j33.1, iv .i64 j33.2.1, iv .i64 j33.2.2.1, slv (rI .i64) j33.2.2.2.1, slv rT_api_Packet j33.2.2.2.2.1, slv rT_api_Packet j33.2.2.2.2.2])] (j := 5) rfl ⟨⟨_, rfl, .inr ⟨_, _, rfl, rfl, ⟨.inl rfl, .inl rfl, .inl rfl, .inl rfl, .inl rfl, .inr ⟨rfl, rfl⟩, trivial⟩⟩⟩, trivial⟩ ⟨⟨_, rfl, ⟨.inl rfl, .inl rfl, .inl rfl, .inl rfl, .inl rfl, .inr ⟨rfl, rfl⟩, trivial⟩⟩, ⟨_, rfl, ⟨.inl rfl, .inl rfl, .inl rfl, .inl rfl, .inl rfl, .inr ⟨rfl, rfl⟩, trivial⟩⟩, trivial⟩) ?_
  refine b_of (nrm [oc b3 [slv (rI .i64) j33.1, iv .i64 j33.2.1, iv .i64 j33.2.2.1, slv (rI .i64) j33.2.2.2.1, slv rT_api_Packet j33.2.2.2.2.1, slv rT_api_Packet j33.2.2.2.2.2], oc x5.1 [slv (rI .i64) j33.1, iv .i64 j33.2.1, iv .i64 j33.2.2.1, slv (rI .i64) j33.2.2.2.1, slv rT_api_Packet j33.2.2.2.2.1, slv rT_api_Packet j33.2.2.2.2.2], dead, dead, dead, dead] rfl) ?_
  exact fin2 (.inl rfl) () [] rfl trivial rfl (rv_cell rfl (j := 0) rfl Try.isAgg28 Try.sizeOf28 rfl rfl) (rv_tmp rfl)

/-! deliberation/deliberationkeep.Ints -/
noncomputable def keep_Ints_l1 (a__0 : (List Int)) (b_1 : (List Int)) (s8 : Int) : Option (Sum ((Sum (Bool) (Unit))) (Int)) :=
  bif decide (s8 < (a__0.length : Int)) then
    Option.bind (idxM a__0 s8) fun t11 =>
    Option.bind (idxM b_1 s8) fun t12 =>
    bif t11 != t12 then
      some (Sum.inl (Sum.inl false))
    else
      some (Sum.inr (iadd .i64 s8 1))
  else
    some (Sum.inl (Sum.inr ()))

noncomputable def keep_Ints_m (a__0 : (List Int)) (b_1 : (List Int)) : Option (Bool) :=
  bif (a__0.length : Int) != (b_1.length : Int) then
    some false
  else
    Option.bind (loopC (keep_Ints_l1 a__0 b_1) 0) (sumK (fun a : Bool => some a) fun q14 : Unit =>
      some true)

theorem keep_Ints_ok {a__0 : (List Int)} {b_1 : (List Int)} {r : Bool} (hm : keep_Ints_m a__0 b_1 = some r) :
    FnOk prog 14 [slv (rI .i64) a__0, slv (rI .i64) b_1] [] (fun (x : Unit) => [bv r]) (fun (x : Unit) => []) := by
  refine fn_ok (fn := Try.f14) (N := 26) (res := fun r x => [bv r]) (Ω1 := fun r x => []) Try.func14 rfl rfl hm rfl (fun E hM => ?_)
  unfold keep_Ints_m
  refine ref_seq (ref_region ?_)
  refine as1 rfl rfl ?_
  refine l_nil (n_then (ref_seq (ref_seq (ref_region ?_))))
  refine mv1 rfl rfl ?_
  refine s_rd (r_len Try.underlying22 rfl) rfl ?_
  refine mv1 rfl rfl ?_
  refine s_rd (r_len Try.underlying22 rfl) rfl ?_
  refine s_rd (r_neq rfl rfl) rfl ?_
  refine l_nil (n_then ?_)
  refine ref_cond rfl (fun hb1 => ?_) (fun hb1 => ?_)
  · refine ref_seq (ref_region ?_)
    refine as1 rfl rfl ?_
    refine l_nil (n_then (ref_ret (r_then ?_)))
    exact fin1 (.inl rfl) () [] rfl trivial rfl (rv_tmp rfl)
  refine ref_skip (n_then (ref_seq (ref_seq (ref_region ?_))))
  refine mv1 rfl rfl ?_
  refine s_rd (r_len Try.underlying22 rfl) rfl ?_
  refine mv1 rfl rfl ?_
  refine l_nil (n_then ?_)
  refine ref_loopX (f := (keep_Ints_l1 a__0 b_1)) (Γl := (fun (s8 : Int) (x9 : Unit) => [(0, slv (rI .i64) a__0), (1, slv (rI .i64) b_1), (12, iv .i64 (a__0.length : Int)), (13, iv .i64 s8)])) (Ωl := (fun (s8 : Int) (x9 : Unit) => [])) (Γb := (fun (q14 : Unit) (y15 : Unit) => [])) (Ωb := (fun (q14 : Unit) (y15 : Unit) => [])) (kr := (fun a : Bool => some a)) 0 () (weak [] ⟨rfl, rfl, rfl, rfl, trivial⟩ trivial) (fun s8 x9 => ?_) (fun q14 y15 => ?_)
  · unfold keep_Ints_l1
    refine ref_seq (ref_region ?_)
    refine s_rd (r_lss rfl rfl) rfl ?_
    refine l_nil (n_then (ref_seq ?_))
    refine ref_cond rfl (fun hb10 => ?_) (fun hb10 => ?_)
    · refine ref_skip (n_then (ref_seq (ref_block (ref_seq (ref_region ?_)))))
      refine mv1 rfl rfl ?_
      refine as1 rfl rfl ?_
      refine l_nil (n_then (ref_seq ?_))
      refine ref_draw [0, 1, 2, 3, 4, 5, 6, 7, 8] rfl (by kernel_rfl) (fun hok => ?_)
      refine a_rd (i := 0) hok rfl (by kernel_rfl) rfl (r_move rfl) rfl ?_
      refine a_rd (i := 1) hok rfl (by kernel_rfl) rfl (r_move rfl) rfl ?_
      refine pull fun t11 h_t11 => ?_
      refine a_rd (i := 2) hok rfl (by kernel_rfl) rfl (r_index h_t11 Try.underlying22 el_3 rfl rfl) rfl ?_
      refine a_rd (i := 3) hok rfl (by kernel_rfl) rfl (r_load el_3 rfl) rfl ?_
      refine a_rd (i := 4) hok rfl (by kernel_rfl) rfl (r_move rfl) rfl ?_
      refine a_rd (i := 5) hok rfl (by kernel_rfl) rfl (r_move rfl) rfl ?_
      refine pull fun t12 h_t12 => ?_
      refine a_rd (i := 6) hok rfl (by kernel_rfl) rfl (r_index h_t12 Try.underlying22 el_3 rfl rfl) rfl ?_
      refine a_rd (i := 7) hok rfl (by kernel_rfl) rfl (r_load el_3 rfl) rfl ?_
      refine a_rd (i := 8) hok rfl (by kernel_rfl) rfl (r_neq rfl rfl) rfl ?_
      refine a_fin hok (by kernel_rfl) ?_
      refine n_then ?_
      refine ref_cond rfl (fun hb13 => ?_) (fun hb13 => ?_)
      · refine ref_seq (ref_region ?_)
        refine as1 rfl rfl ?_
        refine l_nil (n_then (ref_ret (r_block (r_then ?_))))
        refine retX ?_
        refine r_block (r_then ?_)
        exact fin1 (.inl rfl) () [] rfl trivial rfl (rv_tmp rfl)
      refine ref_skip (n_block (n_then (ref_region ?_)))
      refine s_rd (r_add rfl rfl) rfl ?_
      refine mv1 rfl rfl ?_
      refine l_nil ?_
      exact goX () (weak [] ⟨rfl, rfl, rfl, rfl, trivial⟩ trivial)
    refine ref_exit (x_then ?_)
    exact brkX () (weak [] trivial trivial)
  refine n_then (ref_seq (ref_region ?_))
  refine as1 rfl rfl ?_
  refine l_nil (n_then (ref_ret ?_))
  exact fin1 (.inl rfl) () [] rfl trivial rfl (rv_tmp rfl)

/-! deliberation/deliberationlaw29.awake -/
noncomputable def law29_awake_m  : Option (Bool) :=
  Option.bind (channel_New_m [7, 8] 2) fun t1 =>
  Option.bind (channel_Step_m t1.1 (T_api_NetEvent.mk 1 0)) fun t3 =>
  Option.bind (channel_Step_m t3.1 (T_api_NetEvent.mk 1 1)) fun t4 =>
  Option.bind (channel_Step_m t4.1 (T_api_NetEvent.mk 2 1)) fun t5 =>
  Option.bind (channel_Step_m t5.1 (T_api_NetEvent.mk 2 0)) fun t6 =>
  bif t1.2 == 0 then
    bif t3.2 == 0 then
      bif t4.2 == 0 then
        bif t5.2 == 0 then
          bif t6.2 == 0 then
            bif (t5.1.Held.length : Int) == 1 then
              bif (t5.1.Received.length : Int) == 0 then
                Option.bind (keep_Ints_m t6.1.Received [7, 8]) fun t8 =>
                bif t8 then
                  letM ((t6.1.Flight.length : Int) == 2) fun t9 =>
                  some t9
                else
                  some false
              else
                some false
            else
              some false
          else
            some false
        else
          some false
      else
        some false
    else
      some false
  else
    some false

theorem law29_awake_ok  {r : Bool} (hm : law29_awake_m  = some r) :
    FnOk prog 7 [] [] (fun (x : Unit) => [bv r]) (fun (x : Unit) => []) := by
  refine fn_ok (fn := Try.f7) (N := 79) (res := fun r x => [bv r]) (Ω1 := fun r x => []) Try.func7 rfl rfl hm rfl (fun E hM => ?_)
  unfold law29_awake_m
  refine ref_seq (ref_region ?_)
  refine as1 rfl rfl ?_
  refine l_nil (n_then (ref_seq (ref_region ?_)))
  refine s_st (s_bslice (xs := [.const (.int .i64 (7)), .const (.int .i64 (8))]) (ds := [7, 8]) Try.underlying22 el_3 rfl (Nat.le_of_ble_eq_true rfl) ⟨(part_at rfl iv_at), ⟨(part_at rfl iv_at), trivial⟩⟩) rfl (fun _ => ?_)
  refine pull fun t1 h_t1 => ?_
  refine s_st (s_call (ψ := fun (_ : Unit) => tup [ag [slv (rI .i64) t1.1.Items, iv .i64 t1.1.Window, iv .i64 t1.1.Base, slv (rI .i64) t1.1.Received, slv rT_api_Packet t1.1.Held, slv rT_api_Packet t1.1.Flight], iv .i64 t1.2]) (args := [.tmp 9, .const (.int .i64 (2))]) Try.call9 rfl (channel_New_ok h_t1) ⟨arg rfl, arg rfl, trivial⟩ (fun _ _ _ _ h => h)) rfl (fun _ => ?_)
  refine mv1 rfl rfl ?_
  refine s_rd (r_extract rfl rfl) rfl ?_
  refine s_rd (r_extract rfl rfl) rfl ?_
  refine s_st (s_alloc zt_28) rfl (fun b2 => ?_)
  refine s_st0 (s_cstore (out := [slv (rI .i64) t1.1.Items, iv .i64 t1.1.Window, iv .i64 t1.1.Base, slv (rI .i64) t1.1.Received, slv rT_api_Packet t1.1.Held, slv rT_api_Packet t1.1.Flight]) Try.sizeOf28 rfl (j := 0) rfl (part_agO (ψs := [slv (rI .i64) t1.1.Items, iv .i64 t1.1.Window, iv .i64 t1.1.Base, slv (rI .i64) t1.1.Received, slv rT_api_Packet t1.1.Held, slv rT_api_Packet t1.1.Flight]) rfl ⟨.inl slv_at, .inl iv_at, .inl iv_at, .inl slv_at, .inl slv_at, .inl slv_at, trivial⟩) rfl rfl rfl) (fun _ => ?_)
  refine as1 rfl rfl ?_
  refine l_nil ?_
  refine b_of (nrm [oc b2 [slv (rI .i64) t1.1.Items, iv .i64 t1.1.Window, iv .i64 t1.1.Base, slv (rI .i64) t1.1.Received, slv rT_api_Packet t1.1.Held, slv rT_api_Packet t1.1.Flight]] rfl) ?_
  refine n_then (ref_seq (ref_region ?_))
  refine s_rd (r_cloadS Try.isAgg28 Try.sizeOf28 rfl (j := 0) rfl rfl rfl) rfl ?_
  refine s_rd (r_build (ps := [(0, .const (.int .i64 (1)))]) (rs := [(0, [iv .i64 1])]) st_35 zs_35 ⟨rfl, (part_at rfl iv_at), trivial⟩ rfl rfl) rfl ?_
  refine pull fun t3 h_t3 => ?_
  refine s_st (s_call (ψ := fun (_ : Unit) => tup [ag [slv (rI .i64) t3.1.Items, iv .i64 t3.1.Window, iv .i64 t3.1.Base, slv (rI .i64) t3.1.Received, slv rT_api_Packet t3.1.Held, slv rT_api_Packet t3.1.Flight], iv .i64 t3.2]) (args := [.tmp 14, .tmp 15]) Try.call12 rfl (channel_Step_ok h_t3) ⟨arg rfl, arg rfl, trivial⟩ (fun _ _ _ _ h => h)) rfl (fun _ => ?_)
  refine mv1 rfl rfl ?_
  refine s_rd (r_extract rfl rfl) rfl ?_
  refine s_rd (r_extract rfl rfl) rfl ?_
  refine s_st0 (s_cstore (out := [slv (rI .i64) t3.1.Items, iv .i64 t3.1.Window, iv .i64 t3.1.Base, slv (rI .i64) t3.1.Received, slv rT_api_Packet t3.1.Held, slv rT_api_Packet t3.1.Flight]) Try.sizeOf28 rfl (j := 0) rfl (part_agO (ψs := [slv (rI .i64) t3.1.Items, iv .i64 t3.1.Window, iv .i64 t3.1.Base, slv (rI .i64) t3.1.Received, slv rT_api_Packet t3.1.Held, slv rT_api_Packet t3.1.Flight]) rfl ⟨.inl slv_at, .inl iv_at, .inl iv_at, .inl slv_at, .inl slv_at, .inl slv_at, trivial⟩) rfl rfl rfl) (fun _ => ?_)
  refine as1 rfl rfl ?_
  refine l_nil (n_then (ref_seq (ref_region ?_)))
  refine s_rd (r_cloadS Try.isAgg28 Try.sizeOf28 rfl (j := 0) rfl rfl rfl) rfl ?_
  refine s_rd (r_build (ps := [(0, .const (.int .i64 (1))), (1, .const (.int .i64 (1)))]) (rs := [(0, [iv .i64 1]), (1, [iv .i64 1])]) st_35 zs_35 ⟨rfl, (part_at rfl iv_at), ⟨rfl, (part_at rfl iv_at), trivial⟩⟩ rfl rfl) rfl ?_
  refine pull fun t4 h_t4 => ?_
  refine s_st (s_call (ψ := fun (_ : Unit) => tup [ag [slv (rI .i64) t4.1.Items, iv .i64 t4.1.Window, iv .i64 t4.1.Base, slv (rI .i64) t4.1.Received, slv rT_api_Packet t4.1.Held, slv rT_api_Packet t4.1.Flight], iv .i64 t4.2]) (args := [.tmp 20, .tmp 21]) Try.call12 rfl (channel_Step_ok h_t4) ⟨arg rfl, arg rfl, trivial⟩ (fun _ _ _ _ h => h)) rfl (fun _ => ?_)
  refine mv1 rfl rfl ?_
  refine s_rd (r_extract rfl rfl) rfl ?_
  refine s_rd (r_extract rfl rfl) rfl ?_
  refine s_st0 (s_cstore (out := [slv (rI .i64) t4.1.Items, iv .i64 t4.1.Window, iv .i64 t4.1.Base, slv (rI .i64) t4.1.Received, slv rT_api_Packet t4.1.Held, slv rT_api_Packet t4.1.Flight]) Try.sizeOf28 rfl (j := 0) rfl (part_agO (ψs := [slv (rI .i64) t4.1.Items, iv .i64 t4.1.Window, iv .i64 t4.1.Base, slv (rI .i64) t4.1.Received, slv rT_api_Packet t4.1.Held, slv rT_api_Packet t4.1.Flight]) rfl ⟨.inl slv_at, .inl iv_at, .inl iv_at, .inl slv_at, .inl slv_at, .inl slv_at, trivial⟩) rfl rfl rfl) (fun _ => ?_)
  refine as1 rfl rfl ?_
  refine l_nil ?_
  refine b_of (nrm [oc b2 [slv (rI .i64) t4.1.Items, iv .i64 t4.1.Window, iv .i64 t4.1.Base, slv (rI .i64) t4.1.Received, slv rT_api_Packet t4.1.Held, slv rT_api_Packet t4.1.Flight]] rfl) ?_
  refine n_then (ref_seq (ref_region ?_))
  refine s_rd (r_cloadS Try.isAgg28 Try.sizeOf28 rfl (j := 0) rfl rfl rfl) rfl ?_
  refine s_rd (r_build (ps := [(0, .const (.int .i64 (2))), (1, .const (.int .i64 (1)))]) (rs := [(0, [iv .i64 2]), (1, [iv .i64 1])]) st_35 zs_35 ⟨rfl, (part_at rfl iv_at), ⟨rfl, (part_at rfl iv_at), trivial⟩⟩ rfl rfl) rfl ?_
  refine pull fun t5 h_t5 => ?_
  refine s_st (s_call (ψ := fun (_ : Unit) => tup [ag [slv (rI .i64) t5.1.Items, iv .i64 t5.1.Window, iv .i64 t5.1.Base, slv (rI .i64) t5.1.Received, slv rT_api_Packet t5.1.Held, slv rT_api_Packet t5.1.Flight], iv .i64 t5.2]) (args := [.tmp 26, .tmp 27]) Try.call12 rfl (channel_Step_ok h_t5) ⟨arg rfl, arg rfl, trivial⟩ (fun _ _ _ _ h => h)) rfl (fun _ => ?_)
  refine mv1 rfl rfl ?_
  refine s_rd (r_extract rfl rfl) rfl ?_
  refine s_rd (r_extract rfl rfl) rfl ?_
  refine s_st0 (s_cstore (out := [slv (rI .i64) t5.1.Items, iv .i64 t5.1.Window, iv .i64 t5.1.Base, slv (rI .i64) t5.1.Received, slv rT_api_Packet t5.1.Held, slv rT_api_Packet t5.1.Flight]) Try.sizeOf28 rfl (j := 0) rfl (part_agO (ψs := [slv (rI .i64) t5.1.Items, iv .i64 t5.1.Window, iv .i64 t5.1.Base, slv (rI .i64) t5.1.Received, slv rT_api_Packet t5.1.Held, slv rT_api_Packet t5.1.Flight]) rfl ⟨.inl slv_at, .inl iv_at, .inl iv_at, .inl slv_at, .inl slv_at, .inl slv_at, trivial⟩) rfl rfl rfl) (fun _ => ?_)
  refine as1 rfl rfl ?_
  refine l_nil (n_then (ref_seq (ref_region ?_)))
  refine s_rd (r_cloadS Try.isAgg28 Try.sizeOf28 rfl (j := 0) rfl rfl rfl) rfl ?_
  refine s_rd (r_build (ps := [(0, .const (.int .i64 (2)))]) (rs := [(0, [iv .i64 2])]) st_35 zs_35 ⟨rfl, (part_at rfl iv_at), trivial⟩ rfl rfl) rfl ?_
  refine pull fun t6 h_t6 => ?_
  refine s_st (s_call (ψ := fun (_ : Unit) => tup [ag [slv (rI .i64) t6.1.Items, iv .i64 t6.1.Window, iv .i64 t6.1.Base, slv (rI .i64) t6.1.Received, slv rT_api_Packet t6.1.Held, slv rT_api_Packet t6.1.Flight], iv .i64 t6.2]) (args := [.tmp 32, .tmp 33]) Try.call12 rfl (channel_Step_ok h_t6) ⟨arg rfl, arg rfl, trivial⟩ (fun _ _ _ _ h => h)) rfl (fun _ => ?_)
  refine mv1 rfl rfl ?_
  refine s_rd (r_extract rfl rfl) rfl ?_
  refine s_rd (r_extract rfl rfl) rfl ?_
  refine s_st (s_alloc zt_28) rfl (fun b7 => ?_)
  refine s_st0 (s_cstore (out := [slv (rI .i64) t6.1.Items, iv .i64 t6.1.Window, iv .i64 t6.1.Base, slv (rI .i64) t6.1.Received, slv rT_api_Packet t6.1.Held, slv rT_api_Packet t6.1.Flight]) Try.sizeOf28 rfl (j := 1) rfl (part_agO (ψs := [slv (rI .i64) t6.1.Items, iv .i64 t6.1.Window, iv .i64 t6.1.Base, slv (rI .i64) t6.1.Received, slv rT_api_Packet t6.1.Held, slv rT_api_Packet t6.1.Flight]) rfl ⟨.inl slv_at, .inl iv_at, .inl iv_at, .inl slv_at, .inl slv_at, .inl slv_at, trivial⟩) rfl rfl rfl) (fun _ => ?_)
  refine as1 rfl rfl ?_
  refine l_nil ?_
  refine b_of (nrm [oc b2 [slv (rI .i64) t5.1.Items, iv .i64 t5.1.Window, iv .i64 t5.1.Base, slv (rI .i64) t5.1.Received, slv rT_api_Packet t5.1.Held, slv rT_api_Packet t5.1.Flight], oc b7 [slv (rI .i64) t6.1.Items, iv .i64 t6.1.Window, iv .i64 t6.1.Base, slv (rI .i64) t6.1.Received, slv rT_api_Packet t6.1.Held, slv rT_api_Packet t6.1.Flight]] rfl) ?_
  refine n_then (ref_seq (ref_region ?_))
  refine mv1 rfl rfl ?_
  refine s_rd (r_eql rfl rfl) rfl ?_
  refine mv1 rfl rfl ?_
  refine b_split (t := 39) rfl (fun _ => ?_) (fun _ => ?_)
  · refine s_on rfl rfl rfl ?_
    refine mv1 rfl rfl ?_
    refine s_on rfl rfl rfl ?_
    refine s_rd (r_eql rfl rfl) rfl ?_
    refine s_rd (r_pickT rfl rfl) rfl ?_
    refine mv1 rfl rfl ?_
    refine b_split (t := 43) rfl (fun _ => ?_) (fun _ => ?_)
    · refine s_on rfl rfl rfl ?_
      refine mv1 rfl rfl ?_
      refine s_on rfl rfl rfl ?_
      refine s_rd (r_eql rfl rfl) rfl ?_
      refine s_rd (r_pickT rfl rfl) rfl ?_
      refine mv1 rfl rfl ?_
      refine b_split (t := 47) rfl (fun _ => ?_) (fun _ => ?_)
      · refine s_on rfl rfl rfl ?_
        refine mv1 rfl rfl ?_
        refine s_on rfl rfl rfl ?_
        refine s_rd (r_eql rfl rfl) rfl ?_
        refine s_rd (r_pickT rfl rfl) rfl ?_
        refine mv1 rfl rfl ?_
        refine b_split (t := 51) rfl (fun _ => ?_) (fun _ => ?_)
        · refine s_on rfl rfl rfl ?_
          refine mv1 rfl rfl ?_
          refine s_on rfl rfl rfl ?_
          refine s_rd (r_eql rfl rfl) rfl ?_
          refine s_rd (r_pickT rfl rfl) rfl ?_
          refine mv1 rfl rfl ?_
          refine b_split (t := 55) rfl (fun _ => ?_) (fun _ => ?_)
          · refine s_on rfl rfl rfl ?_
            refine s_rd (r_faddr (fo := 4) Try.underlying28 rfl rfl Try.sizeOf26 rfl) rfl ?_
            refine s_on rfl rfl rfl ?_
            refine s_rd (r_cload Try.isAgg26 rfl (j := 0) rfl rfl) rfl ?_
            refine s_on rfl rfl rfl ?_
            refine s_rd (r_len Try.underlying26 rfl) rfl ?_
            refine s_on rfl rfl rfl ?_
            refine s_rd (r_eql rfl rfl) rfl ?_
            refine s_rd (r_pickT rfl rfl) rfl ?_
            refine mv1 rfl rfl ?_
            refine b_split (t := 61) rfl (fun _ => ?_) (fun _ => ?_)
            · refine s_on rfl rfl rfl ?_
              refine s_rd (r_faddr (fo := 3) Try.underlying28 rfl rfl Try.sizeOf22 rfl) rfl ?_
              refine s_on rfl rfl rfl ?_
              refine s_rd (r_cload Try.isAgg22 rfl (j := 0) rfl rfl) rfl ?_
              refine s_on rfl rfl rfl ?_
              refine s_rd (r_len Try.underlying22 rfl) rfl ?_
              refine s_on rfl rfl rfl ?_
              refine s_rd (r_eql rfl rfl) rfl ?_
              refine s_rd (r_pickT rfl rfl) rfl ?_
              refine mv1 rfl rfl ?_
              refine b_split (t := 67) rfl (fun _ => ?_) (fun _ => ?_)
              · refine s_on rfl rfl rfl ?_
                refine s_rd (r_faddr (fo := 3) Try.underlying28 rfl rfl Try.sizeOf22 rfl) rfl ?_
                refine s_on rfl rfl rfl ?_
                refine s_rd (r_cload Try.isAgg22 rfl (j := 1) rfl rfl) rfl ?_
                refine s_on rfl rfl rfl ?_
                refine s_st (s_bslice (xs := [.const (.int .i64 (7)), .const (.int .i64 (8))]) (ds := [7, 8]) Try.underlying22 el_3 rfl (Nat.le_of_ble_eq_true rfl) ⟨(part_at rfl iv_at), ⟨(part_at rfl iv_at), trivial⟩⟩) rfl (fun _ => ?_)
                refine s_on rfl rfl rfl ?_
                refine pull fun t8 h_t8 => ?_
                refine s_st (s_call (ψ := fun (_ : Unit) => bv t8) (args := [.tmp 69, .tmp 70]) Try.call14 rfl (keep_Ints_ok h_t8) ⟨arg rfl, arg rfl, trivial⟩ (fun _ _ _ _ h => h)) rfl (fun _ => ?_)
                refine s_rd (r_pickT rfl rfl) rfl ?_
                refine mv1 rfl rfl ?_
                refine b_split (t := 73) rfl (fun _ => ?_) (fun _ => ?_)
                · refine s_on rfl rfl rfl ?_
                  refine s_rd (r_faddr (fo := 5) Try.underlying28 rfl rfl Try.sizeOf26 rfl) rfl ?_
                  refine s_on rfl rfl rfl ?_
                  refine s_rd (r_cload Try.isAgg26 rfl (j := 1) rfl rfl) rfl ?_
                  refine s_on rfl rfl rfl ?_
                  refine s_rd (r_len Try.underlying26 rfl) rfl ?_
                  refine s_on rfl rfl rfl ?_
                  refine s_rd (r_eql rfl rfl) rfl ?_
                  refine s_rd (r_pickT rfl rfl) rfl ?_
                  refine as1 rfl rfl ?_
                  refine b_let (f := bv) (t := 0) rfl fun t9 => ?_
                  refine l_nil (n_then (ref_ret ?_))
                  exact fin1 (.inl rfl) () [] rfl trivial rfl (rv_tmp rfl)
                refine s_off rfl rfl rfl rfl rfl ?_
                refine s_off rfl rfl rfl rfl rfl ?_
                refine s_off rfl rfl rfl rfl rfl ?_
                refine s_off rfl rfl rfl rfl rfl ?_
                refine s_rd (r_pickF rfl rfl) rfl ?_
                refine as1 rfl rfl ?_
                refine l_nil (n_then (ref_ret ?_))
                exact fin1 (.inl rfl) () [] rfl trivial rfl (rv_tmp rfl)
              refine s_off rfl rfl rfl rfl rfl ?_
              refine s_off rfl rfl rfl rfl rfl ?_
              refine s_off rfl rfl rfl rfl rfl ?_
              refine s_off rfl rfl rfl rfl rfl ?_
              refine s_rd (r_pickF rfl rfl) rfl ?_
              refine mv1 rfl rfl ?_
              refine s_off rfl rfl rfl rfl rfl ?_
              refine s_off rfl rfl rfl rfl rfl ?_
              refine s_off rfl rfl rfl rfl rfl ?_
              refine s_off rfl rfl rfl rfl rfl ?_
              refine s_rd (r_pickF rfl rfl) rfl ?_
              refine as1 rfl rfl ?_
              refine l_nil (n_then (ref_ret ?_))
              exact fin1 (.inl rfl) () [] rfl trivial rfl (rv_tmp rfl)
            refine s_off rfl rfl rfl rfl rfl ?_
            refine s_off rfl rfl rfl rfl rfl ?_
            refine s_off rfl rfl rfl rfl rfl ?_
            refine s_off rfl rfl rfl rfl rfl ?_
            refine s_rd (r_pickF rfl rfl) rfl ?_
            refine mv1 rfl rfl ?_
            refine s_off rfl rfl rfl rfl rfl ?_
            refine s_off rfl rfl rfl rfl rfl ?_
            refine s_off rfl rfl rfl rfl rfl ?_
            refine s_off rfl rfl rfl rfl rfl ?_
            refine s_rd (r_pickF rfl rfl) rfl ?_
            refine mv1 rfl rfl ?_
            refine s_off rfl rfl rfl rfl rfl ?_
            refine s_off rfl rfl rfl rfl rfl ?_
            refine s_off rfl rfl rfl rfl rfl ?_
            refine s_off rfl rfl rfl rfl rfl ?_
            refine s_rd (r_pickF rfl rfl) rfl ?_
            refine as1 rfl rfl ?_
            refine l_nil (n_then (ref_ret ?_))
            exact fin1 (.inl rfl) () [] rfl trivial rfl (rv_tmp rfl)
          refine s_off rfl rfl rfl rfl rfl ?_
          refine s_off rfl rfl rfl rfl rfl ?_
          refine s_off rfl rfl rfl rfl rfl ?_
          refine s_off rfl rfl rfl rfl rfl ?_
          refine s_rd (r_pickF rfl rfl) rfl ?_
          refine mv1 rfl rfl ?_
          refine s_off rfl rfl rfl rfl rfl ?_
          refine s_off rfl rfl rfl rfl rfl ?_
          refine s_off rfl rfl rfl rfl rfl ?_
          refine s_off rfl rfl rfl rfl rfl ?_
          refine s_rd (r_pickF rfl rfl) rfl ?_
          refine mv1 rfl rfl ?_
          refine s_off rfl rfl rfl rfl rfl ?_
          refine s_off rfl rfl rfl rfl rfl ?_
          refine s_off rfl rfl rfl rfl rfl ?_
          refine s_off rfl rfl rfl rfl rfl ?_
          refine s_rd (r_pickF rfl rfl) rfl ?_
          refine mv1 rfl rfl ?_
          refine s_off rfl rfl rfl rfl rfl ?_
          refine s_off rfl rfl rfl rfl rfl ?_
          refine s_off rfl rfl rfl rfl rfl ?_
          refine s_off rfl rfl rfl rfl rfl ?_
          refine s_rd (r_pickF rfl rfl) rfl ?_
          refine as1 rfl rfl ?_
          refine l_nil (n_then (ref_ret ?_))
          exact fin1 (.inl rfl) () [] rfl trivial rfl (rv_tmp rfl)
        refine s_off rfl rfl rfl rfl rfl ?_
        refine s_off rfl rfl rfl rfl rfl ?_
        refine s_rd (r_pickF rfl rfl) rfl ?_
        refine mv1 rfl rfl ?_
        refine s_off rfl rfl rfl rfl rfl ?_
        refine s_off rfl rfl rfl rfl rfl ?_
        refine s_off rfl rfl rfl rfl rfl ?_
        refine s_off rfl rfl rfl rfl rfl ?_
        refine s_rd (r_pickF rfl rfl) rfl ?_
        refine mv1 rfl rfl ?_
        refine s_off rfl rfl rfl rfl rfl ?_
        refine s_off rfl rfl rfl rfl rfl ?_
        refine s_off rfl rfl rfl rfl rfl ?_
        refine s_off rfl rfl rfl rfl rfl ?_
        refine s_rd (r_pickF rfl rfl) rfl ?_
        refine mv1 rfl rfl ?_
        refine s_off rfl rfl rfl rfl rfl ?_
        refine s_off rfl rfl rfl rfl rfl ?_
        refine s_off rfl rfl rfl rfl rfl ?_
        refine s_off rfl rfl rfl rfl rfl ?_
        refine s_rd (r_pickF rfl rfl) rfl ?_
        refine mv1 rfl rfl ?_
        refine s_off rfl rfl rfl rfl rfl ?_
        refine s_off rfl rfl rfl rfl rfl ?_
        refine s_off rfl rfl rfl rfl rfl ?_
        refine s_off rfl rfl rfl rfl rfl ?_
        refine s_rd (r_pickF rfl rfl) rfl ?_
        refine as1 rfl rfl ?_
        refine l_nil (n_then (ref_ret ?_))
        exact fin1 (.inl rfl) () [] rfl trivial rfl (rv_tmp rfl)
      refine s_off rfl rfl rfl rfl rfl ?_
      refine s_off rfl rfl rfl rfl rfl ?_
      refine s_rd (r_pickF rfl rfl) rfl ?_
      refine mv1 rfl rfl ?_
      refine s_off rfl rfl rfl rfl rfl ?_
      refine s_off rfl rfl rfl rfl rfl ?_
      refine s_rd (r_pickF rfl rfl) rfl ?_
      refine mv1 rfl rfl ?_
      refine s_off rfl rfl rfl rfl rfl ?_
      refine s_off rfl rfl rfl rfl rfl ?_
      refine s_off rfl rfl rfl rfl rfl ?_
      refine s_off rfl rfl rfl rfl rfl ?_
      refine s_rd (r_pickF rfl rfl) rfl ?_
      refine mv1 rfl rfl ?_
      refine s_off rfl rfl rfl rfl rfl ?_
      refine s_off rfl rfl rfl rfl rfl ?_
      refine s_off rfl rfl rfl rfl rfl ?_
      refine s_off rfl rfl rfl rfl rfl ?_
      refine s_rd (r_pickF rfl rfl) rfl ?_
      refine mv1 rfl rfl ?_
      refine s_off rfl rfl rfl rfl rfl ?_
      refine s_off rfl rfl rfl rfl rfl ?_
      refine s_off rfl rfl rfl rfl rfl ?_
      refine s_off rfl rfl rfl rfl rfl ?_
      refine s_rd (r_pickF rfl rfl) rfl ?_
      refine mv1 rfl rfl ?_
      refine s_off rfl rfl rfl rfl rfl ?_
      refine s_off rfl rfl rfl rfl rfl ?_
      refine s_off rfl rfl rfl rfl rfl ?_
      refine s_off rfl rfl rfl rfl rfl ?_
      refine s_rd (r_pickF rfl rfl) rfl ?_
      refine as1 rfl rfl ?_
      refine l_nil (n_then (ref_ret ?_))
      exact fin1 (.inl rfl) () [] rfl trivial rfl (rv_tmp rfl)
    refine s_off rfl rfl rfl rfl rfl ?_
    refine s_off rfl rfl rfl rfl rfl ?_
    refine s_rd (r_pickF rfl rfl) rfl ?_
    refine mv1 rfl rfl ?_
    refine s_off rfl rfl rfl rfl rfl ?_
    refine s_off rfl rfl rfl rfl rfl ?_
    refine s_rd (r_pickF rfl rfl) rfl ?_
    refine mv1 rfl rfl ?_
    refine s_off rfl rfl rfl rfl rfl ?_
    refine s_off rfl rfl rfl rfl rfl ?_
    refine s_rd (r_pickF rfl rfl) rfl ?_
    refine mv1 rfl rfl ?_
    refine s_off rfl rfl rfl rfl rfl ?_
    refine s_off rfl rfl rfl rfl rfl ?_
    refine s_off rfl rfl rfl rfl rfl ?_
    refine s_off rfl rfl rfl rfl rfl ?_
    refine s_rd (r_pickF rfl rfl) rfl ?_
    refine mv1 rfl rfl ?_
    refine s_off rfl rfl rfl rfl rfl ?_
    refine s_off rfl rfl rfl rfl rfl ?_
    refine s_off rfl rfl rfl rfl rfl ?_
    refine s_off rfl rfl rfl rfl rfl ?_
    refine s_rd (r_pickF rfl rfl) rfl ?_
    refine mv1 rfl rfl ?_
    refine s_off rfl rfl rfl rfl rfl ?_
    refine s_off rfl rfl rfl rfl rfl ?_
    refine s_off rfl rfl rfl rfl rfl ?_
    refine s_off rfl rfl rfl rfl rfl ?_
    refine s_rd (r_pickF rfl rfl) rfl ?_
    refine mv1 rfl rfl ?_
    refine s_off rfl rfl rfl rfl rfl ?_
    refine s_off rfl rfl rfl rfl rfl ?_
    refine s_off rfl rfl rfl rfl rfl ?_
    refine s_off rfl rfl rfl rfl rfl ?_
    refine s_rd (r_pickF rfl rfl) rfl ?_
    refine as1 rfl rfl ?_
    refine l_nil (n_then (ref_ret ?_))
    exact fin1 (.inl rfl) () [] rfl trivial rfl (rv_tmp rfl)
  refine s_off rfl rfl rfl rfl rfl ?_
  refine s_off rfl rfl rfl rfl rfl ?_
  refine s_rd (r_pickF rfl rfl) rfl ?_
  refine mv1 rfl rfl ?_
  refine s_off rfl rfl rfl rfl rfl ?_
  refine s_off rfl rfl rfl rfl rfl ?_
  refine s_rd (r_pickF rfl rfl) rfl ?_
  refine mv1 rfl rfl ?_
  refine s_off rfl rfl rfl rfl rfl ?_
  refine s_off rfl rfl rfl rfl rfl ?_
  refine s_rd (r_pickF rfl rfl) rfl ?_
  refine mv1 rfl rfl ?_
  refine s_off rfl rfl rfl rfl rfl ?_
  refine s_off rfl rfl rfl rfl rfl ?_
  refine s_rd (r_pickF rfl rfl) rfl ?_
  refine mv1 rfl rfl ?_
  refine s_off rfl rfl rfl rfl rfl ?_
  refine s_off rfl rfl rfl rfl rfl ?_
  refine s_off rfl rfl rfl rfl rfl ?_
  refine s_off rfl rfl rfl rfl rfl ?_
  refine s_rd (r_pickF rfl rfl) rfl ?_
  refine mv1 rfl rfl ?_
  refine s_off rfl rfl rfl rfl rfl ?_
  refine s_off rfl rfl rfl rfl rfl ?_
  refine s_off rfl rfl rfl rfl rfl ?_
  refine s_off rfl rfl rfl rfl rfl ?_
  refine s_rd (r_pickF rfl rfl) rfl ?_
  refine mv1 rfl rfl ?_
  refine s_off rfl rfl rfl rfl rfl ?_
  refine s_off rfl rfl rfl rfl rfl ?_
  refine s_off rfl rfl rfl rfl rfl ?_
  refine s_off rfl rfl rfl rfl rfl ?_
  refine s_rd (r_pickF rfl rfl) rfl ?_
  refine mv1 rfl rfl ?_
  refine s_off rfl rfl rfl rfl rfl ?_
  refine s_off rfl rfl rfl rfl rfl ?_
  refine s_off rfl rfl rfl rfl rfl ?_
  refine s_off rfl rfl rfl rfl rfl ?_
  refine s_rd (r_pickF rfl rfl) rfl ?_
  refine as1 rfl rfl ?_
  refine l_nil (n_then (ref_ret ?_))
  exact fin1 (.inl rfl) () [] rfl trivial rfl (rv_tmp rfl)

/-! deliberation/deliberationkeep.New -/
noncomputable def keep_New_m (l_0 : (List Int)) : Option (T_deliberationkeep_Src) :=
  Option.bind (slM l_0 0 (imin (l_0.length : Int) 2000)) fun t1 =>
  some (T_deliberationkeep_Src.mk t1 0)

theorem keep_New_ok {l_0 : (List Int)} {r : T_deliberationkeep_Src} (hm : keep_New_m l_0 = some r) :
    FnOk prog 8 [slv (rI .i64) l_0] [] (fun (x : Nat) => [pv (ptr x 0)]) (fun (x : Nat) => [oc x [slv (rI .i64) r.L, iv .i64 r.At]]) := by
  refine fn_ok (X := Nat) (fn := Try.f8) (N := 10) (res := fun r x => [pv (ptr x 0)]) (Ω1 := fun r x => [oc x [slv (rI .i64) r.L, iv .i64 r.At]]) Try.func8 rfl rfl hm rfl (fun E hM => ?_)
  unfold keep_New_m
  refine ref_seq (ref_region ?_)
  refine as1 rfl rfl ?_
  refine l_nil (n_then (ref_seq (ref_region ?_)))
  refine mv1 rfl rfl ?_
  refine mv1 rfl rfl ?_
  refine s_rd (r_len Try.underlying22 rfl) rfl ?_
  refine s_rd (r_min rfl rfl) rfl ?_
  refine pull fun t1 h_t1 => ?_
  refine s_rd (r_slice h_t1 Try.underlying22 el_3 rfl .dft (.of rfl)) rfl ?_
  refine s_rd (r_build (ps := [(0, .tmp 7)]) (rs := [(0, [slv (rI .i64) t1])]) st_45 zs_45 ⟨rfl, (part_at rfl slv_at), trivial⟩ rfl rfl) rfl ?_
  refine s_st (s_box (part_agO (ψs := [slv (rI .i64) t1, iv .i64 0]) rfl ⟨.inl slv_at, .inl iv_at, trivial⟩)) rfl (fun b2 => ?_)
  refine as1 rfl rfl ?_
  refine l_nil (n_then (ref_ret ?_))
  exact fin1 (.inl rfl) b2 [0] rfl ⟨rfl, trivial⟩ rfl (rv_tmp rfl)

/-! (*deliberation/deliberationkeep.Src).Raw -/
noncomputable def keep_Src_Raw_m (s_0 : T_deliberationkeep_Src) : Option (Int × T_deliberationkeep_Src) :=
  bif decide (s_0.At ≥ (s_0.L.length : Int)) then
    some (0, s_0)
  else
    Option.bind (idxM s_0.L (isub .i64 (iadd .i64 s_0.At 1) 1)) fun t2 =>
    some (t2, (T_deliberationkeep_Src.mk s_0.L (iadd .i64 s_0.At 1)))

theorem keep_Src_Raw_ok {s_0 : T_deliberationkeep_Src} {b_0 : Nat} {r : Int × T_deliberationkeep_Src} (hm : keep_Src_Raw_m s_0 = some r) :
    FnOk prog 32 [pv (ptr b_0 0)] [oc b_0 [slv (rI .i64) s_0.L, iv .i64 s_0.At]] (fun (x : Unit) => [iv .i64 r.1]) (fun (x : Unit) => [oc b_0 [slv (rI .i64) r.2.L, iv .i64 r.2.At]]) := by
  refine fn_ok (fn := Try.f32) (N := 31) (res := fun r x => [iv .i64 r.1]) (Ω1 := fun r x => [oc b_0 [slv (rI .i64) r.2.L, iv .i64 r.2.At]]) Try.func32 rfl rfl hm rfl (fun E hM => ?_)
  unfold keep_Src_Raw_m
  refine ref_seq (ref_region ?_)
  refine as1 rfl rfl ?_
  refine l_nil (n_then (ref_seq (ref_seq ?_)))
  refine ref_draw [0, 1, 2, 3, 4, 5, 6, 7, 8, 9] rfl (by kernel_rfl) (fun hok => ?_)
  refine a_rd (i := 0) hok rfl (by kernel_rfl) rfl (r_move rfl) rfl ?_
  refine a_rd (i := 1) hok rfl (by kernel_rfl) rfl (r_nilc rfl) rfl ?_
  refine a_rd (i := 2) hok rfl (by kernel_rfl) rfl (r_faddr (fo := 1) Try.underlying45 rfl rfl Try.sizeOf3 rfl) rfl ?_
  refine a_rd (i := 3) hok rfl (by kernel_rfl) rfl (r_cload Try.isAgg3 rfl (j := 0) rfl rfl) rfl ?_
  refine a_rd (i := 4) hok rfl (by kernel_rfl) rfl (r_move rfl) rfl ?_
  refine a_rd (i := 5) hok rfl (by kernel_rfl) rfl (r_nilc rfl) rfl ?_
  refine a_rd (i := 6) hok rfl (by kernel_rfl) rfl (r_faddr (fo := 0) Try.underlying45 rfl rfl Try.sizeOf22 rfl) rfl ?_
  refine a_rd (i := 7) hok rfl (by kernel_rfl) rfl (r_cload Try.isAgg22 rfl (j := 0) rfl rfl) rfl ?_
  refine a_rd (i := 8) hok rfl (by kernel_rfl) rfl (r_len Try.underlying22 rfl) rfl ?_
  refine a_rd (i := 9) hok rfl (by kernel_rfl) rfl (r_geq rfl rfl) rfl ?_
  refine a_fin hok (by kernel_rfl) ?_
  refine n_then ?_
  refine ref_cond rfl (fun hb1 => ?_) (fun hb1 => ?_)
  · refine ref_seq (ref_region ?_)
    refine as1 rfl rfl ?_
    refine l_nil (n_then (ref_ret (r_then ?_)))
    exact fin1 (.inl rfl) () [0] rfl ⟨rfl, trivial⟩ rfl (rv_tmp rfl)
  refine ref_skip (n_then (ref_seq (ref_region ?_)))
  refine mv1 rfl rfl ?_
  refine s_rd (r_nilc rfl) rfl ?_
  refine s_rd (r_faddr (fo := 1) Try.underlying45 rfl rfl Try.sizeOf3 rfl) rfl ?_
  refine s_rd (r_cload Try.isAgg3 rfl (j := 0) rfl rfl) rfl ?_
  refine s_rd (r_add rfl rfl) rfl ?_
  refine s_rd (r_nilc rfl) rfl ?_
  refine s_rd (r_faddr (fo := 1) Try.underlying45 rfl rfl Try.sizeOf3 rfl) rfl ?_
  refine s_st0 (s_cstore (out := [slv (rI .i64) s_0.L, iv .i64 (iadd .i64 s_0.At 1)]) Try.sizeOf3 rfl (j := 0) rfl (part_at rfl iv_at) rfl rfl rfl) (fun _ => ?_)
  refine l_nil (n_then (ref_seq ?_))
  refine ref_draw [0, 1, 2, 3, 4, 5, 6, 7, 8, 9, 10] rfl (by kernel_rfl) (fun hok => ?_)
  refine a_rd (i := 0) hok rfl (by kernel_rfl) rfl (r_move rfl) rfl ?_
  refine a_rd (i := 1) hok rfl (by kernel_rfl) rfl (r_nilc rfl) rfl ?_
  refine a_rd (i := 2) hok rfl (by kernel_rfl) rfl (r_faddr (fo := 0) Try.underlying45 rfl rfl Try.sizeOf22 rfl) rfl ?_
  refine a_rd (i := 3) hok rfl (by kernel_rfl) rfl (r_cload Try.isAgg22 rfl (j := 0) rfl rfl) rfl ?_
  refine a_rd (i := 4) hok rfl (by kernel_rfl) rfl (r_move rfl) rfl ?_
  refine a_rd (i := 5) hok rfl (by kernel_rfl) rfl (r_nilc rfl) rfl ?_
  refine a_rd (i := 6) hok rfl (by kernel_rfl) rfl (r_faddr (fo := 1) Try.underlying45 rfl rfl Try.sizeOf3 rfl) rfl ?_
  refine a_rd (i := 7) hok rfl (by kernel_rfl) rfl (r_cload Try.isAgg3 rfl (j := 0) rfl rfl) rfl ?_
  refine a_rd (i := 8) hok rfl (by kernel_rfl) rfl (r_sub rfl rfl) rfl ?_
  refine pull fun t2 h_t2 => ?_
  refine a_rd (i := 9) hok rfl (by kernel_rfl) rfl (r_index h_t2 Try.underlying22 el_3 rfl rfl) rfl ?_
  refine a_rd (i := 10) hok rfl (by kernel_rfl) rfl (r_load el_3 rfl) rfl ?_
  refine a_next hok 11 [] (by kernel_rfl) ?_ trivial
  refine a_st (i := 11) hok rfl rfl (St.ofRd (r_assign rfl)) (by intro _ h; cases h; rfl) (fun _ => ⟨trivial, ⟨trivial, ⟨trivial, ⟨trivial, ⟨trivial, ⟨trivial, ⟨trivial, ⟨trivial, ⟨trivial, ⟨trivial, ⟨trivial, trivial⟩⟩⟩⟩⟩⟩⟩⟩⟩⟩⟩) (fun _ => ?_)
  refine a_fin hok (by kernel_rfl) ?_
  refine n_then (ref_ret ?_)
  exact fin1 (.inl rfl) () [0] rfl ⟨rfl, trivial⟩ rfl (rv_tmp rfl)

/-! deliberation/deliberationkeep.Mod -/
noncomputable def keep_Mod_m (x_0 : Int) (n_1 : Int) : Option (Int) :=
  bif decide (n_1 < 1) then
    some 0
  else
    Option.bind (iremM .i64 x_0 n_1) fun x2 =>
    bif decide (x2 < 0) then
      letM (iadd .i64 x2 n_1) fun x4 =>
      some x4
    else
      some x2

theorem keep_Mod_ok {x_0 : Int} {n_1 : Int} {r : Int} (hm : keep_Mod_m x_0 n_1 = some r) :
    FnOk prog 31 [iv .i64 x_0, iv .i64 n_1] [] (fun (x : Unit) => [iv .i64 r]) (fun (x : Unit) => []) := by
  refine fn_ok (fn := Try.f31) (N := 16) (res := fun r x => [iv .i64 r]) (Ω1 := fun r x => []) Try.func31 rfl rfl hm rfl (fun E hM => ?_)
  unfold keep_Mod_m
  refine ref_seq (ref_region ?_)
  refine as1 rfl rfl ?_
  refine l_nil (n_then (ref_seq (ref_seq (ref_region ?_))))
  refine mv1 rfl rfl ?_
  refine s_rd (r_lss rfl rfl) rfl ?_
  refine l_nil (n_then ?_)
  refine ref_cond rfl (fun hb1 => ?_) (fun hb1 => ?_)
  · refine ref_seq (ref_region ?_)
    refine as1 rfl rfl ?_
    refine l_nil (n_then (ref_ret (r_then ?_)))
    exact fin1 (.inl rfl) () [] rfl trivial rfl (rv_tmp rfl)
  refine ref_skip (n_then (ref_seq (ref_region ?_)))
  refine mv1 rfl rfl ?_
  refine mv1 rfl rfl ?_
  refine pull fun x2 h_x2 => ?_
  refine s_rd (r_remM h_x2 rfl rfl) rfl ?_
  refine as1 rfl rfl ?_
  refine l_nil (n_then (ref_seq (ref_seq (ref_region ?_))))
  refine mv1 rfl rfl ?_
  refine s_rd (r_lss rfl rfl) rfl ?_
  refine l_nil (n_then ?_)
  refine ref_cond rfl (fun hb3 => ?_) (fun hb3 => ?_)
  · refine ref_region ?_
    refine mv1 rfl rfl ?_
    refine mv1 rfl rfl ?_
    refine s_rd (r_add rfl rfl) rfl ?_
    refine as1 rfl rfl ?_
    refine b_let (f := iv .i64) (t := 0) rfl fun x4 => ?_
    refine l_nil (n_then (ref_seq (ref_region ?_)))
    refine mv1 rfl rfl ?_
    refine as1 rfl rfl ?_
    refine l_nil (n_then (ref_ret ?_))
    exact fin1 (.inl rfl) () [] rfl trivial rfl (rv_tmp rfl)
  refine ref_skip (n_then (ref_seq (ref_region ?_)))
  refine mv1 rfl rfl ?_
  refine as1 rfl rfl ?_
  refine l_nil (n_then (ref_ret ?_))
  exact fin1 (.inl rfl) () [] rfl trivial rfl (rv_tmp rfl)

/-! (*deliberation/deliberationkeep.Src).N -/
noncomputable def keep_Src_N_m (s_0 : T_deliberationkeep_Src) (n_1 : Int) : Option (Int × T_deliberationkeep_Src) :=
  Option.bind (keep_Src_Raw_m s_0) fun t1 =>
  Option.bind (keep_Mod_m t1.1 n_1) fun t2 =>
  some (t2, t1.2)

theorem keep_Src_N_ok {s_0 : T_deliberationkeep_Src} {n_1 : Int} {b_0 : Nat} {r : Int × T_deliberationkeep_Src} (hm : keep_Src_N_m s_0 n_1 = some r) :
    FnOk prog 15 [pv (ptr b_0 0), iv .i64 n_1] [oc b_0 [slv (rI .i64) s_0.L, iv .i64 s_0.At]] (fun (x : Unit) => [iv .i64 r.1]) (fun (x : Unit) => [oc b_0 [slv (rI .i64) r.2.L, iv .i64 r.2.At]]) := by
  refine fn_ok (fn := Try.f15) (N := 9) (res := fun r x => [iv .i64 r.1]) (Ω1 := fun r x => [oc b_0 [slv (rI .i64) r.2.L, iv .i64 r.2.At]]) Try.func15 rfl rfl hm rfl (fun E hM => ?_)
  unfold keep_Src_N_m
  refine ref_seq (ref_region ?_)
  refine as1 rfl rfl ?_
  refine l_nil (n_then (ref_seq (ref_region ?_)))
  refine mv1 rfl rfl ?_
  refine pull fun t1 h_t1 => ?_
  refine s_st (s_callC [0] [true] (fun (_ : Unit) => [oc b_0 [slv (rI .i64) t1.2.L, iv .i64 t1.2.At]]) (fun (_ : Unit) => []) (fun (_ : Unit) => iv .i64 t1.1) (args := [.tmp 5]) (caps := []) Try.call32 rfl (keep_Src_Raw_ok h_t1) ⟨rfl, rfl, trivial⟩ (fun _ => rfl) (fun _ => trivial) (fun _ => rfl) ⟨arg rfl, trivial⟩ (fun _ _ _ _ h => h)) rfl (fun _ => ?_)
  refine mv1 rfl rfl ?_
  refine pull fun t2 h_t2 => ?_
  refine s_st (s_call (ψ := fun (_ : Unit) => iv .i64 t2) (args := [.tmp 6, .tmp 7]) Try.call31 rfl (keep_Mod_ok h_t2) ⟨arg rfl, arg rfl, trivial⟩ (fun _ _ _ _ h => h)) rfl (fun _ => ?_)
  refine as1 rfl rfl ?_
  refine l_nil (n_then (ref_ret ?_))
  exact fin1 (.inl rfl) () [0] rfl ⟨rfl, trivial⟩ rfl (rv_tmp rfl)

/-! (*deliberation/deliberationkeep.Src).Range -/
noncomputable def keep_Src_Range_m (s_0 : T_deliberationkeep_Src) (lo_1 : Int) (hi_2 : Int) : Option (Int × T_deliberationkeep_Src) :=
  Option.bind (keep_Src_N_m s_0 (iadd .i64 (isub .i64 hi_2 lo_1) 1)) fun t1 =>
  letM (iadd .i64 lo_1 t1.1) fun t2 =>
  some (t2, t1.2)

theorem keep_Src_Range_ok {s_0 : T_deliberationkeep_Src} {lo_1 : Int} {hi_2 : Int} {b_0 : Nat} {r : Int × T_deliberationkeep_Src} (hm : keep_Src_Range_m s_0 lo_1 hi_2 = some r) :
    FnOk prog 10 [pv (ptr b_0 0), iv .i64 lo_1, iv .i64 hi_2] [oc b_0 [slv (rI .i64) s_0.L, iv .i64 s_0.At]] (fun (x : Unit) => [iv .i64 r.1]) (fun (x : Unit) => [oc b_0 [slv (rI .i64) r.2.L, iv .i64 r.2.At]]) := by
  refine fn_ok (fn := Try.f10) (N := 15) (res := fun r x => [iv .i64 r.1]) (Ω1 := fun r x => [oc b_0 [slv (rI .i64) r.2.L, iv .i64 r.2.At]]) Try.func10 rfl rfl hm rfl (fun E hM => ?_)
  unfold keep_Src_Range_m
  refine ref_seq (ref_region ?_)
  refine as1 rfl rfl ?_
  refine l_nil (n_then (ref_seq (ref_region ?_)))
  refine mv1 rfl rfl ?_
  refine mv1 rfl rfl ?_
  refine mv1 rfl rfl ?_
  refine mv1 rfl rfl ?_
  refine s_rd (r_sub rfl rfl) rfl ?_
  refine s_rd (r_add rfl rfl) rfl ?_
  refine pull fun t1 h_t1 => ?_
  refine s_st (s_callC [0] [true] (fun (_ : Unit) => [oc b_0 [slv (rI .i64) t1.2.L, iv .i64 t1.2.At]]) (fun (_ : Unit) => []) (fun (_ : Unit) => iv .i64 t1.1) (args := [.tmp 8, .tmp 12]) (caps := []) Try.call15 rfl (keep_Src_N_ok h_t1) ⟨rfl, rfl, trivial⟩ (fun _ => rfl) (fun _ => trivial) (fun _ => rfl) ⟨arg rfl, arg rfl, trivial⟩ (fun _ _ _ _ h => h)) rfl (fun _ => ?_)
  refine s_rd (r_add rfl rfl) rfl ?_
  refine as1 rfl rfl ?_
  refine b_let (f := iv .i64) (t := 6) rfl fun t2 => ?_
  refine l_nil (n_then (ref_ret ?_))
  exact fin1 (.inl rfl) () [0] rfl ⟨rfl, trivial⟩ rfl (rv_tmp rfl)

/-! (*deliberation/deliberationkeep.Src).More -/
noncomputable def keep_Src_More_m (s_0 : T_deliberationkeep_Src) : Option (Bool) :=
  some (decide (s_0.At < (s_0.L.length : Int)))

theorem keep_Src_More_ok {s_0 : T_deliberationkeep_Src} {b_0 : Nat} {r : Bool} (hm : keep_Src_More_m s_0 = some r) :
    FnOk prog 11 [pv (ptr b_0 0)] [oc b_0 [slv (rI .i64) s_0.L, iv .i64 s_0.At]] (fun (x : Unit) => [bv r]) (fun (x : Unit) => [oc b_0 [slv (rI .i64) s_0.L, iv .i64 s_0.At]]) := by
  refine fn_ok (fn := Try.f11) (N := 13) (res := fun r x => [bv r]) (Ω1 := fun r x => [oc b_0 [slv (rI .i64) s_0.L, iv .i64 s_0.At]]) Try.func11 rfl rfl hm rfl (fun E hM => ?_)
  unfold keep_Src_More_m
  refine ref_seq (ref_region ?_)
  refine as1 rfl rfl ?_
  refine l_nil (n_then (ref_seq ?_))
  refine ref_draw [0, 1, 2, 3, 4, 5, 6, 7, 8, 9] rfl (by kernel_rfl) (fun hok => ?_)
  refine a_rd (i := 0) hok rfl (by kernel_rfl) rfl (r_move rfl) rfl ?_
  refine a_rd (i := 1) hok rfl (by kernel_rfl) rfl (r_nilc rfl) rfl ?_
  refine a_rd (i := 2) hok rfl (by kernel_rfl) rfl (r_faddr (fo := 1) Try.underlying45 rfl rfl Try.sizeOf3 rfl) rfl ?_
  refine a_rd (i := 3) hok rfl (by kernel_rfl) rfl (r_cload Try.isAgg3 rfl (j := 0) rfl rfl) rfl ?_
  refine a_rd (i := 4) hok rfl (by kernel_rfl) rfl (r_move rfl) rfl ?_
  refine a_rd (i := 5) hok rfl (by kernel_rfl) rfl (r_nilc rfl) rfl ?_
  refine a_rd (i := 6) hok rfl (by kernel_rfl) rfl (r_faddr (fo := 0) Try.underlying45 rfl rfl Try.sizeOf22 rfl) rfl ?_
  refine a_rd (i := 7) hok rfl (by kernel_rfl) rfl (r_cload Try.isAgg22 rfl (j := 0) rfl rfl) rfl ?_
  refine a_rd (i := 8) hok rfl (by kernel_rfl) rfl (r_len Try.underlying22 rfl) rfl ?_
  refine a_rd (i := 9) hok rfl (by kernel_rfl) rfl (r_lss rfl rfl) rfl ?_
  refine a_next hok 10 [] (by kernel_rfl) ?_ trivial
  refine a_st (i := 10) hok rfl rfl (St.ofRd (r_assign rfl)) (by intro _ h; cases h; rfl) (fun _ => ⟨trivial, ⟨trivial, ⟨trivial, ⟨trivial, ⟨trivial, ⟨trivial, ⟨trivial, ⟨trivial, ⟨trivial, ⟨trivial, trivial⟩⟩⟩⟩⟩⟩⟩⟩⟩⟩) (fun _ => ?_)
  refine a_fin hok (by kernel_rfl) ?_
  refine n_then (ref_ret ?_)
  exact fin1 (.inl rfl) () [0] rfl ⟨rfl, trivial⟩ rfl (rv_tmp rfl)

/-! (*deliberation/deliberationkeep.Src).Pick -/
noncomputable def keep_Src_Pick_m (s_0 : T_deliberationkeep_Src) (l_1 : (List Int)) : Option (Int × T_deliberationkeep_Src) :=
  Option.bind (keep_Src_N_m s_0 (l_1.length : Int)) fun t1 =>
  Option.bind (idxM l_1 t1.1) fun t2 =>
  some (t2, t1.2)

theorem keep_Src_Pick_ok {s_0 : T_deliberationkeep_Src} {l_1 : (List Int)} {b_0 : Nat} {r : Int × T_deliberationkeep_Src} (hm : keep_Src_Pick_m s_0 l_1 = some r) :
    FnOk prog 30 [pv (ptr b_0 0), slv (rI .i64) l_1] [oc b_0 [slv (rI .i64) s_0.L, iv .i64 s_0.At]] (fun (x : Unit) => [iv .i64 r.1]) (fun (x : Unit) => [oc b_0 [slv (rI .i64) r.2.L, iv .i64 r.2.At]]) := by
  refine fn_ok (fn := Try.f30) (N := 12) (res := fun r x => [iv .i64 r.1]) (Ω1 := fun r x => [oc b_0 [slv (rI .i64) r.2.L, iv .i64 r.2.At]]) Try.func30 rfl rfl hm rfl (fun E hM => ?_)
  unfold keep_Src_Pick_m
  refine ref_seq (ref_region ?_)
  refine as1 rfl rfl ?_
  refine l_nil (n_then (ref_seq (ref_region ?_)))
  refine mv1 rfl rfl ?_
  refine mv1 rfl rfl ?_
  refine mv1 rfl rfl ?_
  refine s_rd (r_len Try.underlying22 rfl) rfl ?_
  refine pull fun t1 h_t1 => ?_
  refine s_st (s_callC [0] [true] (fun (_ : Unit) => [oc b_0 [slv (rI .i64) t1.2.L, iv .i64 t1.2.At]]) (fun (_ : Unit) => []) (fun (_ : Unit) => iv .i64 t1.1) (args := [.tmp 6, .tmp 8]) (caps := []) Try.call15 rfl (keep_Src_N_ok h_t1) ⟨rfl, rfl, trivial⟩ (fun _ => rfl) (fun _ => trivial) (fun _ => rfl) ⟨arg rfl, arg rfl, trivial⟩ (fun _ _ _ _ h => h)) rfl (fun _ => ?_)
  refine pull fun t2 h_t2 => ?_
  refine s_rd (r_index h_t2 Try.underlying22 el_3 rfl rfl) rfl ?_
  refine s_rd (r_load el_3 rfl) rfl ?_
  refine as1 rfl rfl ?_
  refine l_nil (n_then (ref_ret ?_))
  exact fin1 (.inl rfl) () [0] rfl ⟨rfl, trivial⟩ rfl (rv_tmp rfl)

/-! deliberation/deliberationlaw29.event -/
noncomputable def law29_event_m (s_0 : T_deliberationkeep_Src) (c_1 : T_api_Channel) : Option (T_api_NetEvent × T_deliberationkeep_Src) :=
  Option.bind (keep_Src_Pick_m s_0 [1, 1, 2, 2, 2, 3, 4, 0]) fun t3 =>
  Option.bind (keep_Src_N_m t3.2 3) fun t4 =>
  Option.bind (keep_Src_N_m t4.2 (iadd .i64 (c_1.Flight.length : Int) 1)) fun t5 =>
  Option.bind (keep_Src_Pick_m t5.2 [t4.1, t5.1, (-1)]) fun t6 =>
  some ((T_api_NetEvent.mk t3.1 t6.1), t6.2)

theorem law29_event_ok {s_0 : T_deliberationkeep_Src} {c_1 : T_api_Channel} {b_0 : Nat} {r : T_api_NetEvent × T_deliberationkeep_Src} (hm : law29_event_m s_0 c_1 = some r) :
    FnOk prog 13 [pv (ptr b_0 0), ag [slv (rI .i64) c_1.Items, iv .i64 c_1.Window, iv .i64 c_1.Base, slv (rI .i64) c_1.Received, slv rT_api_Packet c_1.Held, slv rT_api_Packet c_1.Flight]] [oc b_0 [slv (rI .i64) s_0.L, iv .i64 s_0.At]] (fun (x : Unit) => [ag [iv .i64 r.1.Kind, iv .i64 r.1.N]]) (fun (x : Unit) => [oc b_0 [slv (rI .i64) r.2.L, iv .i64 r.2.At]]) := by
  refine fn_ok (fn := Try.f13) (N := 20) (res := fun r x => [ag [iv .i64 r.1.Kind, iv .i64 r.1.N]]) (Ω1 := fun r x => [oc b_0 [slv (rI .i64) r.2.L, iv .i64 r.2.At]]) Try.func13 rfl rfl hm rfl (fun E hM => ?_)
  unfold law29_event_m
  refine ref_seq (ref_region ?_)
  refine s_st (s_box (part_agO (ψs := [slv (rI .i64) c_1.Items, iv .i64 c_1.Window, iv .i64 c_1.Base, slv (rI .i64) c_1.Received, slv rT_api_Packet c_1.Held, slv rT_api_Packet c_1.Flight]) rfl ⟨.inl slv_at, .inl iv_at, .inl iv_at, .inl slv_at, .inl slv_at, .inl slv_at, trivial⟩)) rfl (fun b1 => ?_)
  refine s_st (s_alloc zt_35) rfl (fun b2 => ?_)
  refine l_nil (n_then (ref_seq ?_))
  refine ref_draw [0, 3, 4, 6, 7, 8, 9, 10, 14] rfl (by kernel_rfl) (fun hok => ?_)
  refine a_rd (i := 0) hok rfl (by kernel_rfl) rfl (r_move rfl) rfl ?_
  refine a_rd (i := 3) hok rfl (by kernel_rfl) rfl (r_move rfl) rfl ?_
  refine a_rd (i := 4) hok rfl (by kernel_rfl) rfl (r_move rfl) rfl ?_
  refine a_rd (i := 6) hok rfl (by kernel_rfl) rfl (r_move rfl) rfl ?_
  refine a_rd (i := 7) hok rfl (by kernel_rfl) rfl (r_faddr (fo := 5) Try.underlying28 rfl rfl Try.sizeOf26 rfl) rfl ?_
  refine a_rd (i := 8) hok rfl (by kernel_rfl) rfl (r_cload Try.isAgg26 rfl (j := 1) rfl rfl) rfl ?_
  refine a_rd (i := 9) hok rfl (by kernel_rfl) rfl (r_len Try.underlying26 rfl) rfl ?_
  refine a_rd (i := 10) hok rfl (by kernel_rfl) rfl (r_add rfl rfl) rfl ?_
  refine a_next hok 1 [] (by kernel_rfl) ?_ trivial
  refine a_st (i := 1) hok rfl rfl (s_bslice (xs := [.const (.int .i64 (1)), .const (.int .i64 (1)), .const (.int .i64 (2)), .const (.int .i64 (2)), .const (.int .i64 (2)), .const (.int .i64 (3)), .const (.int .i64 (4)), .const (.int .i64 (0))]) (ds := [1, 1, 2, 2, 2, 3, 4, 0]) Try.underlying22 el_3 rfl (Nat.le_of_ble_eq_true rfl) ⟨(part_at rfl iv_at), ⟨(part_at rfl iv_at), ⟨(part_at rfl iv_at), ⟨(part_at rfl iv_at), ⟨(part_at rfl iv_at), ⟨(part_at rfl iv_at), ⟨(part_at rfl iv_at), ⟨(part_at rfl iv_at), trivial⟩⟩⟩⟩⟩⟩⟩⟩) (by intro _ h; cases h; rfl) (fun _ => ⟨trivial, ⟨trivial, ⟨⟨⟨rfl, rfl⟩, trivial⟩, ⟨trivial, ⟨trivial, ⟨trivial, ⟨trivial, ⟨trivial, trivial⟩⟩⟩⟩⟩⟩⟩⟩) (fun _ => ?_)
  refine pull fun t3 h_t3 => ?_
  refine a_next hok 2 [] (by kernel_rfl) ?_ trivial
  refine a_st (i := 2) hok rfl rfl (s_callC [0] [true] (fun (_ : Unit) => [oc b_0 [slv (rI .i64) t3.2.L, iv .i64 t3.2.At]]) (fun (_ : Unit) => []) (fun (_ : Unit) => iv .i64 t3.1) (args := [.tmp 5, .tmp 6]) (caps := []) Try.call30 rfl (keep_Src_Pick_ok h_t3) ⟨rfl, rfl, trivial⟩ (fun _ => rfl) (fun _ => trivial) (fun _ => rfl) ⟨arg rfl, arg rfl, trivial⟩ (fun _ _ _ _ h => h)) (by intro _ h; cases h; rfl) (fun _ => ⟨trivial, ⟨trivial, ⟨⟨⟨rfl, rfl⟩, trivial⟩, ⟨trivial, ⟨trivial, ⟨trivial, ⟨trivial, ⟨trivial, trivial⟩⟩⟩⟩⟩⟩⟩⟩) (fun _ => ?_)
  refine pull fun t4 h_t4 => ?_
  refine a_next hok 5 [] (by kernel_rfl) ?_ trivial
  refine a_st (i := 5) hok rfl rfl (s_callC [0] [true] (fun (_ : Unit) => [oc b_0 [slv (rI .i64) t4.2.L, iv .i64 t4.2.At]]) (fun (_ : Unit) => []) (fun (_ : Unit) => iv .i64 t4.1) (args := [.tmp 9, .const (.int .i64 (3))]) (caps := []) Try.call15 rfl (keep_Src_N_ok h_t4) ⟨rfl, rfl, trivial⟩ (fun _ => rfl) (fun _ => trivial) (fun _ => rfl) ⟨arg rfl, arg rfl, trivial⟩ (fun _ _ _ _ h => h)) (by intro _ h; cases h; rfl) (fun _ => ⟨trivial, ⟨trivial, ⟨⟨⟨rfl, rfl⟩, trivial⟩, ⟨trivial, ⟨trivial, ⟨trivial, ⟨trivial, ⟨trivial, trivial⟩⟩⟩⟩⟩⟩⟩⟩) (fun _ => ?_)
  refine pull fun t5 h_t5 => ?_
  refine a_next hok 11 [] (by kernel_rfl) ?_ trivial
  refine a_st (i := 11) hok rfl rfl (s_callC [0] [true] (fun (_ : Unit) => [oc b_0 [slv (rI .i64) t5.2.L, iv .i64 t5.2.At]]) (fun (_ : Unit) => []) (fun (_ : Unit) => iv .i64 t5.1) (args := [.tmp 11, .tmp 15]) (caps := []) Try.call15 rfl (keep_Src_N_ok h_t5) ⟨rfl, rfl, trivial⟩ (fun _ => rfl) (fun _ => trivial) (fun _ => rfl) ⟨arg rfl, arg rfl, trivial⟩ (fun _ _ _ _ h => h)) (by intro _ h; cases h; rfl) (fun _ => ⟨trivial, ⟨trivial, ⟨⟨⟨rfl, rfl⟩, trivial⟩, ⟨trivial, ⟨trivial, ⟨trivial, ⟨trivial, ⟨trivial, trivial⟩⟩⟩⟩⟩⟩⟩⟩) (fun _ => ?_)
  refine a_next hok 12 [] (by kernel_rfl) ?_ trivial
  refine a_st (i := 12) hok rfl rfl (s_bslice (xs := [.tmp 10, .tmp 16, .const (.int .i64 (-1))]) (ds := [t4.1, t5.1, (-1)]) Try.underlying22 el_3 rfl (Nat.le_of_ble_eq_true rfl) ⟨(part_at rfl iv_at), ⟨(part_at rfl iv_at), ⟨(part_at rfl iv_at), trivial⟩⟩⟩) (by intro _ h; cases h; rfl) (fun _ => ⟨trivial, ⟨trivial, ⟨⟨⟨rfl, rfl⟩, trivial⟩, ⟨trivial, ⟨trivial, ⟨trivial, ⟨trivial, ⟨trivial, trivial⟩⟩⟩⟩⟩⟩⟩⟩) (fun _ => ?_)
  refine pull fun t6 h_t6 => ?_
  refine a_next hok 13 [] (by kernel_rfl) ?_ trivial
  refine a_st (i := 13) hok rfl rfl (s_callC [0] [true] (fun (_ : Unit) => [oc b_0 [slv (rI .i64) t6.2.L, iv .i64 t6.2.At]]) (fun (_ : Unit) => []) (fun (_ : Unit) => iv .i64 t6.1) (args := [.tmp 8, .tmp 17]) (caps := []) Try.call30 rfl (keep_Src_Pick_ok h_t6) ⟨rfl, rfl, trivial⟩ (fun _ => rfl) (fun _ => trivial) (fun _ => rfl) ⟨arg rfl, arg rfl, trivial⟩ (fun _ _ _ _ h => h)) (by intro _ h; cases h; rfl) (fun _ => ⟨trivial, ⟨trivial, ⟨⟨⟨rfl, rfl⟩, trivial⟩, ⟨trivial, ⟨trivial, ⟨trivial, ⟨trivial, ⟨trivial, trivial⟩⟩⟩⟩⟩⟩⟩⟩) (fun _ => ?_)
  refine a_rd (i := 14) hok rfl (by kernel_rfl) rfl (r_build (ps := [(0, .tmp 7), (1, .tmp 18)]) (rs := [(0, [iv .i64 t3.1]), (1, [iv .i64 t6.1])]) st_35 zs_35 ⟨rfl, (part_at rfl iv_at), ⟨rfl, (part_at rfl iv_at), trivial⟩⟩ rfl rfl) rfl ?_
  refine a_next hok 15 [] (by kernel_rfl) ?_ trivial
  refine a_st (i := 15) hok rfl rfl (s_cstore (out := [iv .i64 t3.1, iv .i64 t6.1]) Try.sizeOf35 rfl (j := 2) rfl (part_agO (ψs := [iv .i64 t3.1, iv .i64 t6.1]) rfl ⟨.inl iv_at, .inl iv_at, trivial⟩) rfl rfl rfl) (by intro _ h; cases h) (fun _ => ⟨trivial, ⟨trivial, ⟨trivial, ⟨trivial, ⟨trivial, ⟨trivial, ⟨trivial, ⟨trivial, ⟨trivial, trivial⟩⟩⟩⟩⟩⟩⟩⟩⟩) (fun _ => ?_)
  refine a_fin hok (by kernel_rfl) ?_
  refine b_of (nrm [oc b_0 [slv (rI .i64) t6.2.L, iv .i64 t6.2.At], oc b1 [slv (rI .i64) c_1.Items, iv .i64 c_1.Window, iv .i64 c_1.Base, slv (rI .i64) c_1.Received, slv rT_api_Packet c_1.Held, slv rT_api_Packet c_1.Flight], oc b2 [iv .i64 t3.1, iv .i64 t6.1]] rfl) ?_
  refine n_then (ref_ret ?_)
  exact fin1 (.inl rfl) () [0] rfl ⟨rfl, trivial⟩ rfl (rv_cell rfl (j := 2) rfl Try.isAgg35 Try.sizeOf35 rfl rfl)

end Go.Dc
