/- Part LAW38Z.A2 of a proof: lemmas. -/
import Derived.Test.YtcpkdjlfgfikcaaGreatDoorLAW38ZA1
import Derived.Test.YtcpkdjlfgfikcaaGreatDoorProg
set_option linter.unusedVariables false
set_option maxRecDepth 100000
set_option maxHeartbeats 4000000
namespace Go.Dc
open Go.Proofs
open Go.Proofs.Tryz (prog)

/-! deliberation/deliberationlaw38.library -/
noncomputable def law38_library_l2 (own124 : List ByteArray) (s150 : Int × T_Src × (List ByteArray)) : Option (Sum (T_Src × (List ByteArray)) (Int × T_Src × (List ByteArray))) :=
 bif decide (s150.1 < (own124.length : Int)) then
  Option.bind (idxM own124 s150.1) fun x153 =>
  Option.bind (keep_Src_N_m s150.2.1 2) fun t154 =>
  bif t154.1 == 0 then
   Option.bind (appM 16 s150.2.2 [x153]) fun t156 =>
   some (Sum.inr (iadd .i64 s150.1 1, t154.2, t156))
  else
   some (Sum.inr (iadd .i64 s150.1 1, t154.2, s150.2.2))
 else
  some (Sum.inl (s150.2.1, s150.2.2))

noncomputable def law38_library_l1 (t2 : T_arr2_22) (s115 : Int × T_Src × (List T_Cas)) : Option (Sum (T_Src × (List T_Cas)) (Int × T_Src × (List T_Cas))) :=
 bif decide (s115.1 > 0) then
  Option.bind (sconM (ByteArray.mk #[110]) (bstr [IntKind.wrap .u8 (iadd .i64 97 (s115.2.2.length : Int))])) fun t119 =>
  Option.bind (law38_facts_m s115.2.1) fun t120 =>
  Option.bind (keep_Src_Range_m t120.2 1 2) fun t122 =>
  Option.bind (ref38_Own_m (T_Lib.mk t2 s115.2.2) t120.1 t122.1) fun own124 =>
  Option.bind (loopC (law38_library_l2 own124) (0, t122.2, [])) fun q158 : T_Src × (List ByteArray) =>
  bif (own124.length : Int) == 0 then
   letM (isub .i64 s115.1 1) fun i168 =>
   some (Sum.inr (i168, q158.1, s115.2.2))
  else
   joinM (fun j163 : (List ByteArray) =>
     Option.bind (appM 72 s115.2.2 [(T_Cas.mk t119 t120.1 t122.1 j163)]) fun t166 =>
     letM (isub .i64 s115.1 1) fun i169 =>
     some (Sum.inr (i169, q158.1, t166))) fun k165 =>
   bif (q158.2.length : Int) == 0 then
    Option.bind (slM own124 0 1) fun t162 =>
    k165 t162
   else
    k165 q158.2
 else
  some (Sum.inl (s115.2.1, s115.2.2))

noncomputable def law38_library_m (s_0 : T_Src) (most_1 : Int) : Option (T_Lib × T_Src) :=
 Option.bind (law38_sides_m ) fun t2 =>
 Option.bind (keep_Src_N_m s_0 (iadd .i64 most_1 1)) fun i4 =>
 Option.bind (loopC (law38_library_l1 t2) (i4.1, i4.2, [])) fun q170 : T_Src × (List T_Cas) =>
 some ((T_Lib.mk t2 q170.2), q170.1)

theorem law38_library_ok {s_0 : T_Src} {most_1 : Int} {b_0 : Nat} {r : T_Lib × T_Src} (hm : law38_library_m s_0 most_1 = some r) :
  FnOk prog 7 [pv (ptr b_0 0), iv .i64 most_1] [oc b_0 [slv (rI .i64) s_0.L, iv .i64 s_0.At]] (fun (x : Unit) => [ag [slv rS r.1.Sides.i0, slv rS r.1.Sides.i1, slv rT_Cas r.1.Cases]]) (fun (x : Unit) => [oc b_0 [slv (rI .i64) r.2.L, iv .i64 r.2.At]]) := by
 refine fn_ok (fn := Tryz.f7) (N := 73) (res := fun r x => [ag [slv rS r.1.Sides.i0, slv rS r.1.Sides.i1, slv rT_Cas r.1.Cases]]) (Ω1 := fun r x => [oc b_0 [slv (rI .i64) r.2.L, iv .i64 r.2.At]]) Tryz.func7 rfl rfl hm rfl (fun E hM => ?_)
 unfold law38_library_m
 refine ref_seq (ref_region (s_st (s_alloc zt_26) rfl (fun b1 => l_nil (n_then (ref_seq (ref_region (pull fun t2 h_t2 => s_st (s_call (ψ := fun (_ : Unit) => ag [slv rS t2.i0, slv rS t2.i1]) (args := []) Tryz.call28 rfl (law38_sides_ok h_t2) trivial (fun _ _ _ _ h => h)) rfl (fun _ => s_rd (r_build (ps := [(0, .tmp 11)]) (rs := [(0, [slv rS t2.i0, slv rS t2.i1])]) st_26 zs_26 ⟨rfl, (part_agO (ψs := [slv rS t2.i0, slv rS t2.i1]) rfl ⟨.inl slv_at, .inl slv_at, trivial⟩), trivial⟩ rfl rfl) rfl (s_st (s_alloc zt_26) rfl (fun b3 => s_st0 (s_cstore (out := [slv rS t2.i0, slv rS t2.i1, pv (.slice none 0 0)]) Tryz.sizeOf26 rfl (j := 2) rfl (part_agO (ψs := [slv rS t2.i0, slv rS t2.i1, pv (.slice none 0 0)]) rfl ⟨.inl slv_at, .inl slv_at, .inl (pv_at rfl), trivial⟩) rfl rfl rfl) (fun _ => l_nil (b_of (nrm [oc b_0 [slv (rI .i64) s_0.L, iv .i64 s_0.At], oc b1 [pv (.slice none 0 0), pv (.slice none 0 0), pv (.slice none 0 0)], oc b3 [slv rS t2.i0, slv rS t2.i1, pv (.slice none 0 0)]] rfl) (n_then (ref_seq (ref_seq (ref_region (mv1 rfl rfl (mv1 rfl rfl (s_rd (r_add rfl rfl) rfl (pull fun i4 h_i4 => s_st (s_callC [0] [true] (fun (_ : Unit) => [oc b_0 [slv (rI .i64) i4.2.L, iv .i64 i4.2.At]]) (fun (_ : Unit) => []) (fun (_ : Unit) => iv .i64 i4.1) (args := [.tmp 13, .tmp 15]) (caps := []) Tryz.call19 rfl (keep_Src_N_ok h_i4) ⟨rfl, rfl, trivial⟩ (fun _ => rfl) (fun _ => trivial) (fun _ => rfl) ⟨arg rfl, arg rfl, trivial⟩ (fun _ _ _ _ h => h)) rfl (fun _ => as1 rfl rfl (l_nil (n_then (b_of (own_nil rT_Cas) ?_))))))))))))))))))))))))
 refine ref_loopB (f := (law38_library_l1 t2)) (Γl := (fun (s115 : Int × T_Src × (List T_Cas)) (x116 : (Value × List Nat)) => [(0, pv (ptr b_0 0)), (4, pv (ptr b1 0)), (5, pv (ptr b3 0)), (6, iv .i64 s115.1)])) (Ωl := (fun (s115 : Int × T_Src × (List T_Cas)) (x116 : (Value × List Nat)) => [oc b_0 [slv (rI .i64) s115.2.1.L, iv .i64 s115.2.1.At], oc b1 [pv (.slice none 0 0), pv (.slice none 0 0), pv (.slice none 0 0)], oc b3 [slv rS t2.i0, slv rS t2.i1, pv x116.1], oa rT_Cas x116.1 x116.2 s115.2.2])) (Γb := (fun (q170 : T_Src × (List T_Cas)) (y171 : (Value × List Nat)) => [(0, pv (ptr b_0 0)), (4, pv (ptr b1 0)), (5, pv (ptr b3 0))])) (Ωb := (fun (q170 : T_Src × (List T_Cas)) (y171 : (Value × List Nat)) => [oc b_0 [slv (rI .i64) q170.1.L, iv .i64 q170.1.At], oc b1 [pv (.slice none 0 0), pv (.slice none 0 0), pv (.slice none 0 0)], oc b3 [slv rS t2.i0, slv rS t2.i1, pv y171.1], oa rT_Cas y171.1 y171.2 q170.2])) (i4.1, i4.2, []) ((.slice none 0 0), []) (weak [0, 1, 2, 3] ⟨rfl, rfl, rfl, rfl, trivial⟩ ⟨rfl, rfl, rfl, rfl, trivial⟩) (fun s115 x116 => ?_) (fun q170 y171 => ?_)
 ·unfold law38_library_l1
  refine ref_seq (ref_seq (ref_region (mv1 rfl rfl (s_rd (r_gtr rfl rfl) rfl (l_nil (n_then ?_))))))
  refine ref_cond rfl (fun hb117 => ?_) (fun hb117 => ?_)
  ·refine ref_skip (n_then (ref_seq (ref_block (ref_seq (pull fun t119 h_t119 => pull fun t120 h_t120 => pull fun t122 h_t122 => ?_)))))
   refine ref_drawI 2 [⟨[], [], [], [], [], fun us u => pv (ptr b3 2), fun us u => []⟩, ⟨[0], [], [], [2], [], fun us u => pv x116.1, fun us u => []⟩, ⟨[0, 1], [], [], [3], [], fun us u => iv .i64 (s115.2.2.length : Int), fun us u => []⟩, ⟨[0, 1, 2], [], [], [], [], fun us u => iv .i64 (iadd .i64 97 (s115.2.2.length : Int)), fun us u => []⟩, ⟨[0, 1, 2, 3], [], [], [], [], fun us u => iv .u8 (IntKind.wrap .u8 (iadd .i64 97 (s115.2.2.length : Int))), fun us u => []⟩, ⟨[0, 1, 2, 3, 4], [], [], [], [], fun us u => slv (rI .u8) [IntKind.wrap .u8 (iadd .i64 97 (s115.2.2.length : Int))], fun us u => []⟩, ⟨[0, 1, 2, 3, 4, 5], [], [], [], [], fun us u => sv (bstr [IntKind.wrap .u8 (iadd .i64 97 (s115.2.2.length : Int))]), fun us u => []⟩, ⟨[0, 1, 2, 3, 4, 5, 6], [], [], [], [], fun us u => sv t119, fun us u => []⟩, ⟨[], [], [], [], [], fun us u => pv (ptr b_0 0), fun us u => []⟩, ⟨[8], [], [0, 4], [0, 4], [0], fun us u => pv u.V.1, fun us u => [oc b_0 [slv (rI .i64) t120.2.L, iv .i64 t120.2.At], oa rS u.V.1 u.V.2 t120.1]⟩, ⟨[], [], [], [], [], fun us u => pv (ptr b_0 0), fun us u => []⟩, ⟨[8, 9, 10], [], [0], [0], [0], fun us u => iv .i64 t122.1, fun us u => [oc b_0 [slv (rI .i64) t122.2.L, iv .i64 t122.2.At]]⟩, ⟨[0, 1, 2, 3, 4, 5, 6, 7, 8, 9, 10, 11], [9], [], [4], [], fun us u => ag [sv t119, pv (us.getD 0 .none).V.1, iv .i64 t122.1, pv (.slice none 0 0)], fun us u => []⟩, ⟨[], [], [5], [5], [], fun us u => pv (ptr u.Nn 0), fun us u => [oc u.Nn [sv ByteArray.empty, pv (.slice none 0 0), iv .i64 0, pv (.slice none 0 0)]]⟩, ⟨[0, 1, 2, 3, 4, 5, 6, 7, 8, 9, 10, 11, 12, 13], [9, 13], [5], [4, 5], [5], fun us u => pv undef, fun us u => [oc (us.getD 1 .none).Nn [sv t119, pv (us.getD 0 .none).V.1, iv .i64 t122.1, pv (.slice none 0 0)]]⟩] (fun χ118 => [(0, pv (ptr b_0 0)), (4, pv (ptr b1 0)), (5, pv (ptr b3 0)), (6, iv .i64 s115.1), (7, pv (ptr (χ118 13).Nn 0))]) (fun χ118 => [oc b_0 [slv (rI .i64) t122.2.L, iv .i64 t122.2.At], oc b1 [pv (.slice none 0 0), pv (.slice none 0 0), pv (.slice none 0 0)], oc b3 [slv rS t2.i0, slv rS t2.i1, pv x116.1], oa rT_Cas x116.1 x116.2 s115.2.2, oa rS (χ118 9).V.1 (χ118 9).V.2 t120.1, oc (χ118 13).Nn [sv t119, pv (χ118 9).V.1, iv .i64 t122.1, pv (.slice none 0 0)]]) rfl (by kernel_rfl) ⟨fun χ118 Ω _ => St.toR (r_faddr (fo := 2) Tryz.underlying26 rfl rfl Tryz.sizeOf24 rfl) (fun _ => rfl) (fun _ => rfl), (by intro _ h; cases h; rfl), ⟨fun χ118 Ω ⟨h2, _⟩ => St.toR (r_cload Tryz.isAgg24 rfl (j := 2) h2 rfl) (fun _ => rfl) (fun _ => rfl), (by intro _ h; cases h; rfl), ⟨fun χ118 Ω ⟨h3, _⟩ => St.toR (r_olen Tryz.underlying24 rfl (j := 3) h3) (fun _ => rfl) (fun _ => rfl), (by intro _ h; cases h; rfl), ⟨fun χ118 Ω _ => St.toR (r_add rfl rfl) (fun _ => rfl) (fun _ => rfl), (by intro _ h; cases h; rfl), ⟨fun χ118 Ω _ => St.toR (r_conv (k' := .u8) rfl rfl rfl) (fun _ => rfl) (fun _ => rfl), (by intro _ h; cases h; rfl), ⟨fun χ118 Ω _ => St.to XU.U XU.hU (s_bslice (xs := [.tmp 25]) (ds := [IntKind.wrap .u8 (iadd .i64 97 (s115.2.2.length : Int))]) Tryz.underlying64 el_5 rfl (Nat.le_of_ble_eq_true rfl) ⟨(part_at rfl iv_at), trivial⟩) (fun _ => rfl) (fun _ => rfl), (by intro _ h; cases h; rfl), ⟨fun χ118 Ω _ => St.toR (r_b2s Tryz.underlying64 Tryz.underlying9 Tryz.underlying5 rfl) (fun _ => rfl) (fun _ => rfl), (by intro _ h; cases h; rfl), ⟨fun χ118 Ω _ => St.toR (r_sadd h_t119 rfl rfl) (fun _ => rfl) (fun _ => rfl), (by intro _ h; cases h; rfl), ⟨fun χ118 Ω _ => St.toR (r_move rfl) (fun _ => rfl) (fun _ => rfl), (by intro _ h; cases h; rfl), ⟨fun χ118 Ω ⟨h0, h4, _⟩ => St.to XU.V XU.hV (St.placeL [4] (s_callC [0] [true] (fun (x121 : (Value × List Nat)) => [oc b_0 [slv (rI .i64) t120.2.L, iv .i64 t120.2.At]]) (fun (x121 : (Value × List Nat)) => [oa rS x121.1 x121.2 t120.1]) (fun (x121 : (Value × List Nat)) => pv x121.1) (args := [.tmp 29]) (caps := []) Tryz.call13 rfl (law38_facts_ok h_t120) ⟨h0, rfl, trivial⟩ (fun _ => rfl) (fun _ => trivial) (fun _ => rfl) ⟨arg rfl, trivial⟩ (fun _ _ _ _ h => h)) (fun _ => rfl) (fun _ => ⟨(room_setAll (ks := [0]) h4 rfl), rfl, trivial⟩)) (fun _ => rfl) (fun _ => rfl), (by intro _ h; cases h; rfl), ⟨fun χ118 Ω _ => St.toR (r_move rfl) (fun _ => rfl) (fun _ => rfl), (by intro _ h; cases h; rfl), ⟨fun χ118 Ω ⟨h0, _⟩ => St.to XU.U XU.hU (St.placeL [] (s_callC [0] [true] (fun (_ : Unit) => [oc b_0 [slv (rI .i64) t122.2.L, iv .i64 t122.2.At]]) (fun (_ : Unit) => []) (fun (_ : Unit) => iv .i64 t122.1) (args := [.tmp 31, .const (.int .i64 (1)), .const (.int .i64 (2))]) (caps := []) Tryz.call29 rfl (keep_Src_Range_ok h_t122) ⟨h0, rfl, trivial⟩ (fun _ => rfl) (fun _ => trivial) (fun _ => rfl) ⟨arg rfl, arg rfl, arg rfl, trivial⟩ (fun _ _ _ _ h => h)) (fun _ => rfl) (fun _ => trivial)) (fun _ => rfl) (fun _ => rfl), (by intro _ h; cases h; rfl), ⟨fun χ118 Ω ⟨h4, _⟩ => St.toR (r_build (ps := [(0, .tmp 28), (1, .tmp 30), (2, .tmp 32)]) (rs := [(0, [sv t119]), (1, [pv (χ118 9).V.1]), (2, [iv .i64 t122.1])]) st_60 zs_60 ⟨rfl, (part_at rfl sv_at), ⟨rfl, (part_own rfl (j := 4) h4), ⟨rfl, (part_at rfl iv_at), trivial⟩⟩⟩ rfl rfl) (fun _ => rfl) (fun _ => rfl), (by intro _ h; cases h; rfl), ⟨fun χ118 Ω ⟨h5, _⟩ => St.to XU.Nn XU.hN (St.placeL (os := fun _ => [_]) [5] (s_alloc zt_60) (fun _ => rfl) (fun _ => ⟨h5, rfl, trivial⟩)) (fun _ => rfl) (fun _ => rfl), (by intro _ h; cases h; rfl), ⟨fun χ118 Ω ⟨h4, h5, _⟩ => St.to XU.U XU.hU (s_cstore (out := [sv t119, pv (χ118 9).V.1, iv .i64 t122.1, pv (.slice none 0 0)]) Tryz.sizeOf60 rfl (j := 5) h5 (part_agO (ψs := [sv t119, pv (χ118 9).V.1, iv .i64 t122.1, pv (.slice none 0 0)]) rfl ⟨.inl sv_at, .inr ⟨_, _, _, _, _, 4, rfl, h4⟩, .inl iv_at, .inl (pv_at rfl), trivial⟩) rfl rfl rfl) (fun _ => rfl) (fun _ => rfl), (by intro _ h; cases h), trivial⟩⟩⟩⟩⟩⟩⟩⟩⟩⟩⟩⟩⟩⟩⟩ (fun _ => ⟨rfl, rfl, rfl, rfl, rfl, trivial⟩) (fun _ => rfl) (fun χ118 => ?_)
   refine n_then (ref_seq (ref_region (s_rd (r_cloadS Tryz.isAgg26 Tryz.sizeOf26 rfl (j := 2) rfl rfl rfl) rfl (s_rd (r_faddr (fo := 1) Tryz.underlying60 rfl rfl Tryz.sizeOf22 rfl) rfl (s_rd (r_cload Tryz.isAgg22 rfl (j := 5) rfl rfl) rfl (s_rd (r_faddr (fo := 2) Tryz.underlying60 rfl rfl Tryz.sizeOf3 rfl) rfl (s_rd (r_cload Tryz.isAgg3 rfl (j := 5) rfl rfl) rfl (pull fun own124 h_own124 => s_st (s_callBO (ψ := fun (x125 : (Value × List Nat)) => pv x125.1) (args := [.tmp 34, .tmp 36, .tmp 38]) Tryz.call30 rfl (ref38_Own_ok h_own124) (fun _ => ⟨oa_free free_S, trivial⟩) ⟨argAG (ψs := [slv rS t2.i0, slv rS t2.i1, slv rT_Cas s115.2.2]) rfl ⟨.inl rfl, .inl rfl, .inr (.inl ⟨_, _, _, _, _, 3, rfl, rfl, rfl⟩), trivial⟩, argO rfl (j := 4) rfl, argB rfl, trivial⟩ (fun _ _ _ _ _ h => h)) rfl (fun x125 => as1 rfl rfl (l_nil (n_then (ref_seq (ref_seq (ref_region (mv1 rfl rfl (s_rd (r_olen Tryz.underlying22 rfl (j := 6) rfl) rfl (mv1 rfl rfl (l_nil (n_then (b_of (own_nil rS) ?_))))))))))))))))))))
   refine ref_loopB (f := (law38_library_l2 own124)) (Γl := (fun (s150 : Int × T_Src × (List ByteArray)) (x151 : (Value × List Nat)) => [(0, pv (ptr b_0 0)), (4, pv (ptr b1 0)), (5, pv (ptr b3 0)), (6, iv .i64 s115.1), (7, pv (ptr (χ118 13).Nn 0)), (8, pv x125.1), (40, pv x125.1), (41, iv .i64 (own124.length : Int)), (42, iv .i64 s150.1)])) (Ωl := (fun (s150 : Int × T_Src × (List ByteArray)) (x151 : (Value × List Nat)) => [oc b_0 [slv (rI .i64) s150.2.1.L, iv .i64 s150.2.1.At], oc b1 [pv (.slice none 0 0), pv (.slice none 0 0), pv (.slice none 0 0)], oc b3 [slv rS t2.i0, slv rS t2.i1, pv x116.1], oa rT_Cas x116.1 x116.2 s115.2.2, oc (χ118 13).Nn [sv t119, pv (χ118 9).V.1, iv .i64 t122.1, pv x151.1], oa rS (χ118 9).V.1 (χ118 9).V.2 t120.1, oa rS x151.1 x151.2 s150.2.2, oa rS x125.1 x125.2 own124])) (Γb := (fun (q158 : T_Src × (List ByteArray)) (y159 : (Value × List Nat)) => [(0, pv (ptr b_0 0)), (4, pv (ptr b1 0)), (5, pv (ptr b3 0)), (6, iv .i64 s115.1), (7, pv (ptr (χ118 13).Nn 0)), (8, pv x125.1)])) (Ωb := (fun (q158 : T_Src × (List ByteArray)) (y159 : (Value × List Nat)) => [oc b_0 [slv (rI .i64) q158.1.L, iv .i64 q158.1.At], oc b1 [pv (.slice none 0 0), pv (.slice none 0 0), pv (.slice none 0 0)], oc b3 [slv rS t2.i0, slv rS t2.i1, pv x116.1], oa rT_Cas x116.1 x116.2 s115.2.2, oc (χ118 13).Nn [sv t119, pv (χ118 9).V.1, iv .i64 t122.1, pv y159.1], oa rS (χ118 9).V.1 (χ118 9).V.2 t120.1, oa rS y159.1 y159.2 q158.2, oa rS x125.1 x125.2 own124])) (0, t122.2, []) ((.slice none 0 0), []) (weak [0, 1, 2, 3, 5, 4, 7, 6] ⟨rfl, rfl, rfl, rfl, rfl, rfl, rfl, rfl, rfl, trivial⟩ ⟨rfl, rfl, rfl, rfl, rfl, rfl, rfl, rfl, trivial⟩) (fun s150 x151 => ?_) (fun q158 y159 => ?_)
   ·unfold law38_library_l2
    refine ref_seq (ref_region (s_rd (r_lss rfl rfl) rfl (l_nil (n_then (ref_seq ?_)))))
    refine ref_cond rfl (fun hb152 => ?_) (fun hb152 => ?_)
    ·refine ref_skip (n_then (ref_seq (ref_block (ref_seq (ref_region (pull fun x153 h_x153 => s_rd (r_oindex h_x153 Tryz.underlying22 el_9 rfl (j := 7) rfl rfl) rfl (s_rd (r_oload h_x153 el_9 rfl (j := 7) rfl) rfl (as1 rfl rfl (l_nil (n_then (ref_seq (ref_region (mv1 rfl rfl (pull fun t154 h_t154 => s_st (s_callC [0] [true] (fun (_ : Unit) => [oc b_0 [slv (rI .i64) t154.2.L, iv .i64 t154.2.At]]) (fun (_ : Unit) => []) (fun (_ : Unit) => iv .i64 t154.1) (args := [.tmp 46, .const (.int .i64 (2))]) (caps := []) Tryz.call19 rfl (keep_Src_N_ok h_t154) ⟨rfl, rfl, trivial⟩ (fun _ => rfl) (fun _ => trivial) (fun _ => rfl) ⟨arg rfl, arg rfl, trivial⟩ (fun _ _ _ _ h => h)) rfl (fun _ => s_rd (r_eql rfl rfl) rfl (l_nil (n_then ?_)))))))))))))))))
     refine ref_cond rfl (fun hb155 => ?_) (fun hb155 => ?_)
     ·refine ref_region (s_rd (r_faddr (fo := 3) Tryz.underlying60 rfl rfl Tryz.sizeOf22 rfl) rfl (s_rd (r_cload Tryz.isAgg22 rfl (j := 4) rfl rfl) rfl (mv1 rfl rfl (s_st (s_bslice (xs := [.tmp 51]) (ds := [x153]) Tryz.underlying22 el_9 rfl (Nat.le_of_ble_eq_true rfl) ⟨(part_at rfl sv_at), trivial⟩) rfl (fun _ => pull fun t156 h_t156 => s_st (s_append h_t156 Tryz.underlying22 el_9 rfl (j := 6) rfl rfl) rfl (fun o157 => s_rd (r_faddr (fo := 3) Tryz.underlying60 rfl rfl Tryz.sizeOf22 rfl) rfl (s_st0 (s_cstore (out := [sv t119, pv (χ118 9).V.1, iv .i64 t122.1, pv o157.1]) Tryz.sizeOf22 rfl (j := 4) rfl (part_own rfl (j := 6) rfl) rfl rfl rfl) (fun _ => l_nil (b_of (nrm [oc b_0 [slv (rI .i64) t154.2.L, iv .i64 t154.2.At], oc b1 [pv (.slice none 0 0), pv (.slice none 0 0), pv (.slice none 0 0)], oc b3 [slv rS t2.i0, slv rS t2.i1, pv x116.1], oa rT_Cas x116.1 x116.2 s115.2.2, oc (χ118 13).Nn [sv t119, pv (χ118 9).V.1, iv .i64 t122.1, pv o157.1], oa rS (χ118 9).V.1 (χ118 9).V.2 t120.1, oa rS o157.1 o157.2 t156, oa rS x125.1 x125.2 own124] rfl) (n_block (n_then (ref_region (s_rd (r_add rfl rfl) rfl (mv1 rfl rfl (l_nil ?_)))))))))))))))
      exact goB o157 (weak [0, 1, 2, 3, 4, 5, 6, 7] ⟨rfl, rfl, rfl, rfl, rfl, rfl, rfl, rfl, rfl, trivial⟩ ⟨rfl, rfl, rfl, rfl, rfl, rfl, rfl, rfl, trivial⟩)
     refine ref_skip (n_block (n_then (ref_region (s_rd (r_add rfl rfl) rfl (mv1 rfl rfl (l_nil ?_))))))
     exact goB x151 (weak [0, 1, 2, 3, 4, 5, 6, 7] ⟨rfl, rfl, rfl, rfl, rfl, rfl, rfl, rfl, rfl, trivial⟩ ⟨rfl, rfl, rfl, rfl, rfl, rfl, rfl, rfl, trivial⟩)
    refine ref_exit (x_then ?_)
    exact brkB x151 (weak [0, 1, 2, 3, 4, 5, 6, 7] ⟨rfl, rfl, rfl, rfl, rfl, rfl, trivial⟩ ⟨rfl, rfl, rfl, rfl, rfl, rfl, rfl, rfl, trivial⟩)
   refine n_then (ref_seq (ref_seq (ref_region (mv1 rfl rfl (s_rd (r_olen Tryz.underlying22 rfl (j := 7) rfl) rfl (s_rd (r_eql rfl rfl) rfl (l_nil (n_then ?_))))))))
   refine ref_cond rfl (fun hb160 => ?_) (fun hb160 => ?_)
   ·refine ref_exit (x_then (x_eq (n_then (ref_region (mv1 rfl rfl (s_rd (r_sub rfl rfl) rfl (as1 rfl rfl (b_let (f := iv .i64) (t := 6) rfl fun i168 => l_nil ?_))))))))
    exact goB x116 (weak [0, 1, 2, 3] ⟨rfl, rfl, rfl, rfl, trivial⟩ ⟨rfl, rfl, rfl, rfl, trivial⟩)
   refine ref_skip (n_then (ref_seq ?_))
   refine ref_join (fun (j163 : (List ByteArray)) (x164 : Unit) => [(0, pv (ptr b_0 0)), (4, pv (ptr b1 0)), (5, pv (ptr b3 0)), (6, iv .i64 s115.1), (7, pv (ptr (χ118 13).Nn 0))]) (fun (j163 : (List ByteArray)) (x164 : Unit) => [oc b_0 [slv (rI .i64) q158.1.L, iv .i64 q158.1.At], oc b1 [pv (.slice none 0 0), pv (.slice none 0 0), pv (.slice none 0 0)], oc b3 [slv rS t2.i0, slv rS t2.i1, pv x116.1], oa rT_Cas x116.1 x116.2 s115.2.2, oc (χ118 13).Nn [sv t119, pv (χ118 9).V.1, iv .i64 t122.1, slv rS j163], oa rS (χ118 9).V.1 (χ118 9).V.2 t120.1]) (fun k165 hk165 => ?_) (fun j163 x164 => ?_)
   ·refine ref_seq (ref_region (s_rd (r_faddr (fo := 3) Tryz.underlying60 rfl rfl Tryz.sizeOf22 rfl) rfl (s_rd (r_cload Tryz.isAgg22 rfl (j := 4) rfl rfl) rfl (s_rd (r_olen Tryz.underlying22 rfl (j := 6) rfl) rfl (s_rd (r_eql rfl rfl) rfl (l_nil (n_then ?_)))))))
    refine ref_cond rfl (fun hb161 => ?_) (fun hb161 => ?_)
    ·refine ref_region (mv1 rfl rfl (b_of (frzL [8, 56, 63] (j := 7) rfl ⟨rfl, rfl, rfl, trivial⟩) (pull fun t162 h_t162 => s_rd (r_slice h_t162 Tryz.underlying22 el_9 rfl .dft (.of rfl)) rfl (s_rd (r_faddr (fo := 3) Tryz.underlying60 rfl rfl Tryz.sizeOf22 rfl) rfl (s_st0 (s_cstore (out := [sv t119, pv (χ118 9).V.1, iv .i64 t122.1, slv rS t162]) Tryz.sizeOf22 rfl (j := 4) rfl (part_at rfl slv_at) rfl rfl rfl) (fun _ => l_nil ?_))))))
     exact b_to (hk165 t162 ()) (weak [0, 1, 2, 3, 4, 5] ⟨rfl, rfl, rfl, rfl, rfl, trivial⟩ ⟨rfl, rfl, rfl, rfl, rfl, rfl, trivial⟩)
    refine ref_skip (b_of (frzGL [(60, slv rS q158.2)] [(4, (χ118 13).Nn, [sv t119, pv (χ118 9).V.1, iv .i64 t122.1, slv rS q158.2])] (j := 6) rfl ⟨⟨_, rfl, .inl ⟨rfl, rfl⟩⟩, trivial⟩ ⟨⟨_, rfl, ⟨.inl rfl, .inl rfl, .inl rfl, .inr ⟨rfl, rfl⟩, trivial⟩⟩, trivial⟩) ?_)
    exact b_to (hk165 q158.2 ()) (weak [0, 1, 2, 3, 4, 5] ⟨rfl, rfl, rfl, rfl, rfl, trivial⟩ ⟨rfl, rfl, rfl, rfl, rfl, rfl, trivial⟩)
   refine n_then (ref_region (s_rd (r_faddr (fo := 2) Tryz.underlying26 rfl rfl Tryz.sizeOf24 rfl) rfl (s_rd (r_cload Tryz.isAgg24 rfl (j := 2) rfl rfl) rfl (s_rd (r_cloadS Tryz.isAgg60 Tryz.sizeOf60 rfl (j := 4) rfl rfl rfl) rfl (b_of (frzGL [(68, ag [sv t119, slv rS t120.1, iv .i64 t122.1, slv rS j163])] [(4, (χ118 13).Nn, [sv t119, slv rS t120.1, iv .i64 t122.1, slv rS j163])] (j := 5) rfl ⟨⟨_, rfl, .inr ⟨_, _, rfl, rfl, ⟨.inl rfl, .inr ⟨rfl, rfl⟩, .inl rfl, .inl rfl, trivial⟩⟩⟩, trivial⟩ ⟨⟨_, rfl, ⟨.inl rfl, .inr ⟨rfl, rfl⟩, .inl rfl, .inl rfl, trivial⟩⟩, trivial⟩) (s_st (s_bslice (xs := [.tmp 68]) (ds := [(T_Cas.mk t119 t120.1 t122.1 j163)]) Tryz.underlying24 el_60 rfl (Nat.le_of_ble_eq_true rfl) ⟨(part_agO (ψs := [sv t119, slv rS t120.1, iv .i64 t122.1, slv rS j163]) rfl ⟨.inl sv_at, .inl slv_at, .inl iv_at, .inl slv_at, trivial⟩), trivial⟩) rfl (fun _ => pull fun t166 h_t166 => s_st (s_append h_t166 Tryz.underlying24 el_60 rfl (j := 3) rfl rfl) rfl (fun o167 => s_rd (r_faddr (fo := 2) Tryz.underlying26 rfl rfl Tryz.sizeOf24 rfl) rfl (s_st0 (s_cstore (out := [slv rS t2.i0, slv rS t2.i1, pv o167.1]) Tryz.sizeOf24 rfl (j := 2) rfl (part_own rfl (j := 3) rfl) rfl rfl rfl) (fun _ => l_nil (n_block (n_then (ref_region (mv1 rfl rfl (s_rd (r_sub rfl rfl) rfl (as1 rfl rfl (b_let (f := iv .i64) (t := 6) rfl fun i169 => l_nil ?_)))))))))))))))))
   exact goB o167 (weak [0, 1, 2, 3] ⟨rfl, rfl, rfl, rfl, trivial⟩ ⟨rfl, rfl, rfl, rfl, trivial⟩)
  refine ref_exit (x_then ?_)
  exact brkB x116 (weak [0, 1, 2, 3] ⟨rfl, rfl, rfl, trivial⟩ ⟨rfl, rfl, rfl, rfl, trivial⟩)
 refine n_then (ref_seq (ref_region (s_rd (r_cloadS Tryz.isAgg26 Tryz.sizeOf26 rfl (j := 2) rfl rfl rfl) rfl (s_st0 (s_cstore (out := [slv rS t2.i0, slv rS t2.i1, pv y171.1]) Tryz.sizeOf26 rfl (j := 1) rfl (part_agO (ψs := [slv rS t2.i0, slv rS t2.i1, pv y171.1]) rfl ⟨.inl slv_at, .inl slv_at, .inr ⟨_, _, _, _, _, 3, rfl, rfl⟩, trivial⟩) rfl rfl rfl) (fun _ => l_nil (n_then (ref_ret (b_of (frzGL [(72, ag [slv rS t2.i0, slv rS t2.i1, slv rT_Cas q170.2])] [(1, b1, [slv rS t2.i0, slv rS t2.i1, slv rT_Cas q170.2]), (2, b3, [slv rS t2.i0, slv rS t2.i1, slv rT_Cas q170.2])] (j := 3) rfl ⟨⟨_, rfl, .inr ⟨_, _, rfl, rfl, ⟨.inl rfl, .inl rfl, .inr ⟨rfl, rfl⟩, trivial⟩⟩⟩, trivial⟩ ⟨⟨_, rfl, ⟨.inl rfl, .inl rfl, .inr ⟨rfl, rfl⟩, trivial⟩⟩, ⟨_, rfl, ⟨.inl rfl, .inl rfl, .inr ⟨rfl, rfl⟩, trivial⟩⟩, trivial⟩) (b_of (nrm [oc b_0 [slv (rI .i64) q170.1.L, iv .i64 q170.1.At], oc b1 [slv rS t2.i0, slv rS t2.i1, slv rT_Cas q170.2], oc b3 [slv rS t2.i0, slv rS t2.i1, slv rT_Cas q170.2], dead] rfl) ?_)))))))))
 exact fin1 (.inl rfl) () [0] rfl ⟨rfl, trivial⟩ rfl (rv_cell rfl (j := 1) rfl Tryz.isAgg26 Tryz.sizeOf26 rfl rfl)

/-! (*deliberation/deliberationkeep.Src).Text -/
noncomputable def keep_Src_Text_m (s_0 : T_Src) (l_1 : (List ByteArray)) : Option (ByteArray × T_Src) :=
 Option.bind (keep_Src_N_m s_0 (l_1.length : Int)) fun t1 =>
 Option.bind (idxM l_1 t1.1) fun t2 =>
 some (t2, t1.2)

theorem keep_Src_Text_ok {s_0 : T_Src} {l_1 : (List ByteArray)} {b_0 : Nat} {r : ByteArray × T_Src} (hm : keep_Src_Text_m s_0 l_1 = some r) :
  FnOk prog 31 [pv (ptr b_0 0), slv rS l_1] [oc b_0 [slv (rI .i64) s_0.L, iv .i64 s_0.At]] (fun (x : Unit) => [sv r.1]) (fun (x : Unit) => [oc b_0 [slv (rI .i64) r.2.L, iv .i64 r.2.At]]) := by
 refine fn_ok (fn := Tryz.f31) (N := 12) (res := fun r x => [sv r.1]) (Ω1 := fun r x => [oc b_0 [slv (rI .i64) r.2.L, iv .i64 r.2.At]]) Tryz.func31 rfl rfl hm rfl (fun E hM => ?_)
 unfold keep_Src_Text_m
 refine ref_seq (ref_region (as1 rfl rfl (l_nil (n_then (ref_seq (ref_region (mv1 rfl rfl (mv1 rfl rfl (mv1 rfl rfl (s_rd (r_len Tryz.underlying22 rfl) rfl (pull fun t1 h_t1 => s_st (s_callC [0] [true] (fun (_ : Unit) => [oc b_0 [slv (rI .i64) t1.2.L, iv .i64 t1.2.At]]) (fun (_ : Unit) => []) (fun (_ : Unit) => iv .i64 t1.1) (args := [.tmp 6, .tmp 8]) (caps := []) Tryz.call19 rfl (keep_Src_N_ok h_t1) ⟨rfl, rfl, trivial⟩ (fun _ => rfl) (fun _ => trivial) (fun _ => rfl) ⟨arg rfl, arg rfl, trivial⟩ (fun _ _ _ _ h => h)) rfl (fun _ => pull fun t2 h_t2 => s_rd (r_index h_t2 Tryz.underlying22 el_9 rfl rfl) rfl (s_rd (r_load el_9 rfl) rfl (as1 rfl rfl (l_nil (n_then (ref_ret ?_)))))))))))))))))
 exact fin1 (.inl rfl) () [0] rfl ⟨rfl, trivial⟩ rfl (rv_tmp rfl)

/-! deliberation/deliberationlaw38.bent -/
noncomputable def law38_bent_m (s_0 : T_Src) (l_1 : T_Lib) : Option (T_Lib × T_Src) :=
 Option.bind (appM 72 [] l_1.Cases) fun t5 =>
 bif (t5.length : Int) == 0 then
  some ((T_Lib.mk (T_arr2_22.mk [(ByteArray.mk #[98]), (ByteArray.mk #[97])] l_1.Sides.i1) t5), s_0)
 else
  Option.bind (keep_Src_N_m s_0 (t5.length : Int)) fun t9 =>
  Option.bind (idxM t5 t9.1) fun c10 =>
  Option.bind (keep_Src_N_m t9.2 8) fun t11 =>
  bif t11.1 == 0 then
   Option.bind (keep_Src_N_m t11.2 4) fun t13 =>
   some ((T_Lib.mk l_1.Sides (t5.set (Int.toNat t9.1) (T_Cas.mk c10.Name c10.Facts t13.1 c10.Reason))), t13.2)
  else
   bif t11.1 == 1 then
    Option.bind (keep_Src_Text_m t11.2 [(ByteArray.mk #[110, 97]), (ByteArray.mk #[110, 98]), (ByteArray.mk #[]), (ByteArray.mk #[88])]) fun t15 =>
    some ((T_Lib.mk l_1.Sides (t5.set (Int.toNat t9.1) (T_Cas.mk t15.1 c10.Facts c10.Winner c10.Reason))), t15.2)
   else
    bif t11.1 == 2 then
     Option.bind (law38_facts_m t11.2) fun t17 =>
     some ((T_Lib.mk l_1.Sides (t5.set (Int.toNat t9.1) (T_Cas.mk c10.Name t17.1 c10.Winner c10.Reason))), t17.2)
    else
     bif t11.1 == 3 then
      Option.bind (law38_facts_m t11.2) fun t20 =>
      some ((T_Lib.mk l_1.Sides (t5.set (Int.toNat t9.1) (T_Cas.mk c10.Name c10.Facts c10.Winner t20.1))), t20.2)
     else
      bif t11.1 == 4 then
       some ((T_Lib.mk l_1.Sides (t5.set (Int.toNat t9.1) (T_Cas.mk c10.Name c10.Facts c10.Winner []))), t11.2)
      else
       bif t11.1 == 5 then
        some ((T_Lib.mk (T_arr2_22.mk [(ByteArray.mk #[97]), (ByteArray.mk #[98]), (ByteArray.mk #[99]), (ByteArray.mk #[120])] l_1.Sides.i1) t5), t11.2)
       else
        bif t11.1 == 6 then
         some ((T_Lib.mk (T_arr2_22.mk l_1.Sides.i0 [(ByteArray.mk #[120]), (ByteArray.mk #[121])]) t5), t11.2)
        else
         Option.bind (appM 16 [] c10.Facts) fun t26 =>
         Option.bind (keep_Src_Text_m t11.2 [(ByteArray.mk #[97]), (ByteArray.mk #[113]), (ByteArray.mk #[122, 122])]) fun t28 =>
         Option.bind (appM 16 t26 [t28.1]) fun t29 =>
         some ((T_Lib.mk l_1.Sides (t5.set (Int.toNat t9.1) (T_Cas.mk c10.Name t29 c10.Winner c10.Reason))), t28.2)

theorem law38_bent_ok {s_0 : T_Src} {l_1 : T_Lib} {b_0 : Nat} {r : T_Lib × T_Src} (hm : law38_bent_m s_0 l_1 = some r) :
  FnOk prog 8 [pv (ptr b_0 0), ag [slv rS l_1.Sides.i0, slv rS l_1.Sides.i1, slv rT_Cas l_1.Cases]] [oc b_0 [slv (rI .i64) s_0.L, iv .i64 s_0.At]] (fun (x : Unit) => [ag [slv rS r.1.Sides.i0, slv rS r.1.Sides.i1, slv rT_Cas r.1.Cases]]) (fun (x : Unit) => [oc b_0 [slv (rI .i64) r.2.L, iv .i64 r.2.At]]) := by
 refine fn_ok (fn := Tryz.f8) (N := 91) (res := fun r x => [ag [slv rS r.1.Sides.i0, slv rS r.1.Sides.i1, slv rT_Cas r.1.Cases]]) (Ω1 := fun r x => [oc b_0 [slv (rI .i64) r.2.L, iv .i64 r.2.At]]) Tryz.func8 rfl rfl hm rfl (fun E hM => ?_)
 unfold law38_bent_m
 refine ref_seq (ref_region (s_st (s_box (part_agO (ψs := [slv rS l_1.Sides.i0, slv rS l_1.Sides.i1, slv rT_Cas l_1.Cases]) rfl ⟨.inl slv_at, .inl slv_at, .inl slv_at, trivial⟩)) rfl (fun b1 => s_st (s_alloc zt_26) rfl (fun b2 => l_nil (n_then (ref_seq (pull fun t5 h_t5 => ?_)))))))
 refine ref_drawI 2 [⟨[], [], [], [], [], fun us u => pv (ptr b1 0), fun us u => []⟩, ⟨[0], [], [], [1], [], fun us u => ag [slv rS l_1.Sides.i0, slv rS l_1.Sides.i1], fun us u => []⟩, ⟨[], [], [3], [3], [], fun us u => pv u.V.1, fun us u => [oa rT_Cas u.V.1 u.V.2 []]⟩, ⟨[], [], [], [], [], fun us u => pv (ptr b1 2), fun us u => []⟩, ⟨[3], [], [], [1], [], fun us u => slv rT_Cas l_1.Cases, fun us u => []⟩, ⟨[2, 3, 4], [], [3], [3], [3], fun us u => pv u.V.1, fun us u => [oa rT_Cas u.V.1 u.V.2 t5]⟩, ⟨[0, 1, 2, 3, 4, 5], [5], [], [3], [], fun us u => ag [slv rS l_1.Sides.i0, slv rS l_1.Sides.i1, pv (us.getD 0 .none).V.1], fun us u => []⟩, ⟨[], [], [4], [4], [], fun us u => pv (ptr u.Nn 0), fun us u => [oc u.Nn [pv (.slice none 0 0), pv (.slice none 0 0), pv (.slice none 0 0)]]⟩, ⟨[0, 1, 2, 3, 4, 5, 6, 7], [5, 7], [4], [3, 4], [4], fun us u => pv undef, fun us u => [oc (us.getD 1 .none).Nn [slv rS l_1.Sides.i0, slv rS l_1.Sides.i1, pv (us.getD 0 .none).V.1]]⟩] (fun χ3 => [(0, pv (ptr b_0 0)), (4, pv (ptr b2 0)), (5, pv (ptr (χ3 7).Nn 0))]) (fun χ3 => [oc b_0 [slv (rI .i64) s_0.L, iv .i64 s_0.At], oc b1 [slv rS l_1.Sides.i0, slv rS l_1.Sides.i1, slv rT_Cas l_1.Cases], oc b2 [pv (.slice none 0 0), pv (.slice none 0 0), pv (.slice none 0 0)], oa rT_Cas (χ3 5).V.1 (χ3 5).V.2 t5, oc (χ3 7).Nn [slv rS l_1.Sides.i0, slv rS l_1.Sides.i1, pv (χ3 5).V.1]]) rfl (by kernel_rfl) ⟨fun χ3 Ω _ => St.toR (r_faddr (fo := 0) Tryz.underlying26 rfl rfl Tryz.sizeOf23 rfl) (fun _ => rfl) (fun _ => rfl), (by intro _ h; cases h; rfl), ⟨fun χ3 Ω ⟨h1, _⟩ => St.toR (r_cloadS Tryz.isAgg23 Tryz.sizeOf23 rfl (j := 1) h1 rfl rfl) (fun _ => rfl) (fun _ => rfl), (by intro _ h; cases h; rfl), ⟨fun χ3 Ω ⟨h3, _⟩ => St.to XU.V XU.hV (St.placeL (os := fun _ => [_]) [3] (s_bsliceO (xs := []) (ds := []) Tryz.underlying24 el_60 rfl (Nat.le_of_ble_eq_true rfl) trivial) (fun _ => rfl) (fun _ => ⟨h3, rfl, trivial⟩)) (fun _ => rfl) (fun _ => rfl), (by intro _ h; cases h; rfl), ⟨fun χ3 Ω _ => St.toR (r_faddr (fo := 2) Tryz.underlying26 rfl rfl Tryz.sizeOf24 rfl) (fun _ => rfl) (fun _ => rfl), (by intro _ h; cases h; rfl), ⟨fun χ3 Ω ⟨h1, _⟩ => St.toR (r_cload Tryz.isAgg24 rfl (j := 1) h1 rfl) (fun _ => rfl) (fun _ => rfl), (by intro _ h; cases h; rfl), ⟨fun χ3 Ω ⟨h3, _⟩ => St.to XU.V XU.hV (s_append h_t5 Tryz.underlying24 el_60 rfl (j := 3) h3 rfl) (fun _ => rfl) (fun _ => rfl), (by intro _ h; cases h; rfl), ⟨fun χ3 Ω ⟨h3, _⟩ => St.toR (r_build (ps := [(0, .tmp 8), (1, .tmp 12)]) (rs := [(0, [slv rS l_1.Sides.i0, slv rS l_1.Sides.i1]), (1, [pv (χ3 5).V.1])]) st_26 zs_26 ⟨rfl, (part_agO (ψs := [slv rS l_1.Sides.i0, slv rS l_1.Sides.i1]) rfl ⟨.inl slv_at, .inl slv_at, trivial⟩), ⟨rfl, (part_own rfl (j := 3) h3), trivial⟩⟩ rfl rfl) (fun _ => rfl) (fun _ => rfl), (by intro _ h; cases h; rfl), ⟨fun χ3 Ω ⟨h4, _⟩ => St.to XU.Nn XU.hN (St.placeL (os := fun _ => [_]) [4] (s_alloc zt_26) (fun _ => rfl) (fun _ => ⟨h4, rfl, trivial⟩)) (fun _ => rfl) (fun _ => rfl), (by intro _ h; cases h; rfl), ⟨fun χ3 Ω ⟨h3, h4, _⟩ => St.to XU.U XU.hU (s_cstore (out := [slv rS l_1.Sides.i0, slv rS l_1.Sides.i1, pv (χ3 5).V.1]) Tryz.sizeOf26 rfl (j := 4) h4 (part_agO (ψs := [slv rS l_1.Sides.i0, slv rS l_1.Sides.i1, pv (χ3 5).V.1]) rfl ⟨.inl slv_at, .inl slv_at, .inr ⟨_, _, _, _, _, 3, rfl, h3⟩, trivial⟩) rfl rfl rfl) (fun _ => rfl) (fun _ => rfl), (by intro _ h; cases h), trivial⟩⟩⟩⟩⟩⟩⟩⟩⟩ (fun _ => ⟨rfl, rfl, rfl, trivial⟩) (fun _ => rfl) (fun χ3 => ?_)
 refine n_then (ref_seq (ref_seq (ref_region (s_rd (r_faddr (fo := 2) Tryz.underlying26 rfl rfl Tryz.sizeOf24 rfl) rfl (s_rd (r_cload Tryz.isAgg24 rfl (j := 4) rfl rfl) rfl (s_rd (r_olen Tryz.underlying24 rfl (j := 3) rfl) rfl (s_rd (r_eql rfl rfl) rfl (l_nil (n_then ?_)))))))))
 refine ref_cond rfl (fun hb8 => ?_) (fun hb8 => ?_)
 ·refine ref_seq (ref_region (s_st (s_bslice (xs := [.const (.string (ByteArray.mk #[98])), .const (.string (ByteArray.mk #[97]))]) (ds := [(ByteArray.mk #[98]), (ByteArray.mk #[97])]) Tryz.underlying22 el_9 rfl (Nat.le_of_ble_eq_true rfl) ⟨(part_at rfl sv_at), ⟨(part_at rfl sv_at), trivial⟩⟩) rfl (fun _ => s_rd (r_faddr (fo := 0) Tryz.underlying26 rfl rfl Tryz.sizeOf23 rfl) rfl (s_rd (r_aaddr (sz := 1) ⟨by decide, by decide⟩ Tryz.underlying23 Tryz.sizeOf22 rfl rfl) rfl ?_))))
  refine s_st0 (s_cstore (out := [slv rS [(ByteArray.mk #[98]), (ByteArray.mk #[97])], slv rS l_1.Sides.i1, pv (χ3 5).V.1]) Tryz.sizeOf22 rfl (j := 4) rfl (part_at rfl slv_at) rfl rfl rfl) (fun _ => l_nil (n_then (ref_seq (ref_region (s_rd (r_cloadS Tryz.isAgg26 Tryz.sizeOf26 rfl (j := 4) rfl rfl rfl) rfl (s_st0 (s_cstore (out := [slv rS [(ByteArray.mk #[98]), (ByteArray.mk #[97])], slv rS l_1.Sides.i1, pv (χ3 5).V.1]) Tryz.sizeOf26 rfl (j := 2) rfl (part_agO (ψs := [slv rS [(ByteArray.mk #[98]), (ByteArray.mk #[97])], slv rS l_1.Sides.i1, pv (χ3 5).V.1]) rfl ⟨.inl slv_at, .inl slv_at, .inr ⟨_, _, _, _, _, 3, rfl, rfl⟩, trivial⟩) rfl rfl rfl) (fun _ => l_nil (n_then (ref_ret (r_then (b_of (frzGL [(15, slv rT_Cas t5), (21, ag [slv rS [(ByteArray.mk #[98]), (ByteArray.mk #[97])], slv rS l_1.Sides.i1, slv rT_Cas t5])] [(2, b2, [slv rS [(ByteArray.mk #[98]), (ByteArray.mk #[97])], slv rS l_1.Sides.i1, slv rT_Cas t5]), (4, (χ3 7).Nn, [slv rS [(ByteArray.mk #[98]), (ByteArray.mk #[97])], slv rS l_1.Sides.i1, slv rT_Cas t5])] (j := 3) rfl ⟨⟨_, rfl, .inl ⟨rfl, rfl⟩⟩, ⟨_, rfl, .inr ⟨_, _, rfl, rfl, ⟨.inl rfl, .inl rfl, .inr ⟨rfl, rfl⟩, trivial⟩⟩⟩, trivial⟩ ⟨⟨_, rfl, ⟨.inl rfl, .inl rfl, .inr ⟨rfl, rfl⟩, trivial⟩⟩, ⟨_, rfl, ⟨.inl rfl, .inl rfl, .inr ⟨rfl, rfl⟩, trivial⟩⟩, trivial⟩) (b_of (nrm [oc b_0 [slv (rI .i64) s_0.L, iv .i64 s_0.At], oc b1 [slv rS l_1.Sides.i0, slv rS l_1.Sides.i1, slv rT_Cas l_1.Cases], oc b2 [slv rS [(ByteArray.mk #[98]), (ByteArray.mk #[97])], slv rS l_1.Sides.i1, slv rT_Cas t5], dead, oc (χ3 7).Nn [slv rS [(ByteArray.mk #[98]), (ByteArray.mk #[97])], slv rS l_1.Sides.i1, slv rT_Cas t5]] rfl) ?_))))))))))))
  exact fin1 (.inl rfl) () [0] rfl ⟨rfl, trivial⟩ rfl (rv_cell rfl (j := 2) rfl Tryz.isAgg26 Tryz.sizeOf26 rfl rfl)
 refine ref_skip (n_then (ref_seq ?_))
 refine ref_draw [0, 1, 2, 3, 4, 5, 7] rfl (by kernel_rfl) (fun hok => ?_)
 refine a_rd (i := 0) hok rfl (by kernel_rfl) rfl (r_faddr (fo := 2) Tryz.underlying26 rfl rfl Tryz.sizeOf24 rfl) rfl ?_
 refine a_rd (i := 1) hok rfl (by kernel_rfl) rfl (r_cload Tryz.isAgg24 rfl (j := 4) rfl rfl) rfl ?_
 refine a_rd (i := 2) hok rfl (by kernel_rfl) rfl (r_move rfl) rfl ?_
 refine a_rd (i := 3) hok rfl (by kernel_rfl) rfl (r_faddr (fo := 2) Tryz.underlying26 rfl rfl Tryz.sizeOf24 rfl) rfl ?_
 refine a_rd (i := 4) hok rfl (by kernel_rfl) rfl (r_cload Tryz.isAgg24 rfl (j := 4) rfl rfl) rfl ?_
 refine a_rd (i := 5) hok rfl (by kernel_rfl) rfl (r_olen Tryz.underlying24 rfl (j := 3) rfl) rfl ?_
 refine pull fun t9 h_t9 => ?_
 refine a_next hok 6 [] (by kernel_rfl) ?_ trivial
 refine a_st (i := 6) hok rfl rfl (s_callC [0] [true] (fun (_ : Unit) => [oc b_0 [slv (rI .i64) t9.2.L, iv .i64 t9.2.At]]) (fun (_ : Unit) => []) (fun (_ : Unit) => iv .i64 t9.1) (args := [.tmp 24, .tmp 27]) (caps := []) Tryz.call19 rfl (keep_Src_N_ok h_t9) ⟨rfl, rfl, trivial⟩ (fun _ => rfl) (fun _ => trivial) (fun _ => rfl) ⟨arg rfl, arg rfl, trivial⟩ (fun _ _ _ _ h => h)) (by intro _ h; cases h; rfl) (fun _ => ⟨trivial, ⟨⟨⟨rfl, rfl⟩, trivial⟩, ⟨trivial, ⟨trivial, ⟨⟨⟨rfl, rfl⟩, trivial⟩, ⟨trivial, trivial⟩⟩⟩⟩⟩⟩) (fun _ => ?_)
 refine pull fun c10 h_c10 => ?_
 refine a_rd (i := 7) hok rfl (by kernel_rfl) rfl (r_oindex h_c10 Tryz.underlying24 el_60 rfl (j := 3) rfl rfl) rfl ?_
 refine a_next hok 8 [] (by kernel_rfl) ?_ trivial
 refine a_st (i := 8) hok rfl rfl (St.ofRd (r_assign rfl)) (by intro _ h; cases h; rfl) (fun _ => ⟨trivial, ⟨trivial, ⟨trivial, ⟨trivial, ⟨trivial, ⟨trivial, ⟨trivial, trivial⟩⟩⟩⟩⟩⟩⟩) (fun _ => ?_)
 refine a_fin hok (by kernel_rfl) ?_
 refine n_then (ref_seq (ref_seq (ref_region (mv1 rfl rfl (pull fun t11 h_t11 => s_st (s_callC [0] [true] (fun (_ : Unit) => [oc b_0 [slv (rI .i64) t11.2.L, iv .i64 t11.2.At]]) (fun (_ : Unit) => []) (fun (_ : Unit) => iv .i64 t11.1) (args := [.tmp 30, .const (.int .i64 (8))]) (caps := []) Tryz.call19 rfl (keep_Src_N_ok h_t11) ⟨rfl, rfl, trivial⟩ (fun _ => rfl) (fun _ => trivial) (fun _ => rfl) ⟨arg rfl, arg rfl, trivial⟩ (fun _ _ _ _ h => h)) rfl (fun _ => l_nil (n_then (ref_block (ref_seq (ref_region (s_rd (r_eql rfl rfl) rfl (as1 rfl rfl (l_nil (n_then ?_))))))))))))))
 refine ref_cond rfl (fun hb12 => ?_) (fun hb12 => ?_)
 ·refine ref_region (mv1 rfl rfl (mv1 rfl rfl (pull fun t13 h_t13 => s_st (s_callC [0] [true] (fun (_ : Unit) => [oc b_0 [slv (rI .i64) t13.2.L, iv .i64 t13.2.At]]) (fun (_ : Unit) => []) (fun (_ : Unit) => iv .i64 t13.1) (args := [.tmp 49, .const (.int .i64 (4))]) (caps := []) Tryz.call19 rfl (keep_Src_N_ok h_t13) ⟨rfl, rfl, trivial⟩ (fun _ => rfl) (fun _ => trivial) (fun _ => rfl) ⟨arg rfl, arg rfl, trivial⟩ (fun _ _ _ _ h => h)) rfl (fun _ => s_rd (r_onilc h_c10 rfl (j := 3) rfl) rfl (s_rd (r_foea (ρ := rT_Cas) (fo := 2) h_c10 Tryz.underlying60 rfl rfl Tryz.sizeOf3 rfl (j := 3) rfl) rfl (s_st0 (s_fostore (ρ := rT_Cas) (u := (T_Cas.mk c10.Name c10.Facts t13.1 c10.Reason)) (φs := [iv .i64 t13.1]) h_c10 Tryz.sizeOf3 rfl (j := 3) rfl (part_at rfl iv_at) rfl rfl) (fun _ => l_nil (b_of (nrm [oc b_0 [slv (rI .i64) t13.2.L, iv .i64 t13.2.At], oc b1 [slv rS l_1.Sides.i0, slv rS l_1.Sides.i1, slv rT_Cas l_1.Cases], oc b2 [pv (.slice none 0 0), pv (.slice none 0 0), pv (.slice none 0 0)], oa rT_Cas (χ3 5).V.1 (χ3 5).V.2 (t5.set (Int.toNat t9.1) (T_Cas.mk c10.Name c10.Facts t13.1 c10.Reason)), oc (χ3 7).Nn [slv rS l_1.Sides.i0, slv rS l_1.Sides.i1, pv (χ3 5).V.1]] rfl) (n_block (n_then (ref_seq (ref_region (s_rd (r_cloadS Tryz.isAgg26 Tryz.sizeOf26 rfl (j := 4) rfl rfl rfl) rfl (s_st0 (s_cstore (out := [slv rS l_1.Sides.i0, slv rS l_1.Sides.i1, pv (χ3 5).V.1]) Tryz.sizeOf26 rfl (j := 2) rfl (part_agO (ψs := [slv rS l_1.Sides.i0, slv rS l_1.Sides.i1, pv (χ3 5).V.1]) rfl ⟨.inl slv_at, .inl slv_at, .inr ⟨_, _, _, _, _, 3, rfl, rfl⟩, trivial⟩) rfl rfl rfl) (fun _ => l_nil (n_then (ref_ret (b_of (frzGL [(15, slv rT_Cas (t5.set (Int.toNat t9.1) (T_Cas.mk c10.Name c10.Facts t13.1 c10.Reason))), (23, slv rT_Cas (t5.set (Int.toNat t9.1) (T_Cas.mk c10.Name c10.Facts t13.1 c10.Reason))), (26, slv rT_Cas (t5.set (Int.toNat t9.1) (T_Cas.mk c10.Name c10.Facts t13.1 c10.Reason))), (90, ag [slv rS l_1.Sides.i0, slv rS l_1.Sides.i1, slv rT_Cas (t5.set (Int.toNat t9.1) (T_Cas.mk c10.Name c10.Facts t13.1 c10.Reason))])] [(2, b2, [slv rS l_1.Sides.i0, slv rS l_1.Sides.i1, slv rT_Cas (t5.set (Int.toNat t9.1) (T_Cas.mk c10.Name c10.Facts t13.1 c10.Reason))]), (4, (χ3 7).Nn, [slv rS l_1.Sides.i0, slv rS l_1.Sides.i1, slv rT_Cas (t5.set (Int.toNat t9.1) (T_Cas.mk c10.Name c10.Facts t13.1 c10.Reason))])] (j := 3) rfl ⟨⟨_, rfl, .inl ⟨rfl, rfl⟩⟩, ⟨_, rfl, .inl ⟨rfl, rfl⟩⟩, ⟨_, rfl, .inl ⟨rfl, rfl⟩⟩, ⟨_, rfl, .inr ⟨_, _, rfl, rfl, ⟨.inl rfl, .inl rfl, .inr ⟨rfl, rfl⟩, trivial⟩⟩⟩, trivial⟩ ⟨⟨_, rfl, ⟨.inl rfl, .inl rfl, .inr ⟨rfl, rfl⟩, trivial⟩⟩, ⟨_, rfl, ⟨.inl rfl, .inl rfl, .inr ⟨rfl, rfl⟩, trivial⟩⟩, trivial⟩) (b_of (nrm [oc b_0 [slv (rI .i64) t13.2.L, iv .i64 t13.2.At], oc b1 [slv rS l_1.Sides.i0, slv rS l_1.Sides.i1, slv rT_Cas l_1.Cases], oc b2 [slv rS l_1.Sides.i0, slv rS l_1.Sides.i1, slv rT_Cas (t5.set (Int.toNat t9.1) (T_Cas.mk c10.Name c10.Facts t13.1 c10.Reason))], dead, oc (χ3 7).Nn [slv rS l_1.Sides.i0, slv rS l_1.Sides.i1, slv rT_Cas (t5.set (Int.toNat t9.1) (T_Cas.mk c10.Name c10.Facts t13.1 c10.Reason))]] rfl) ?_)))))))))))))))))))
  exact fin1 (.inl rfl) () [0] rfl ⟨rfl, trivial⟩ rfl (rv_cell rfl (j := 2) rfl Tryz.isAgg26 Tryz.sizeOf26 rfl rfl)
 refine ref_seq (ref_region (s_rd (r_eql rfl rfl) rfl (as1 rfl rfl (l_nil (n_then ?_)))))
 refine ref_cond rfl (fun hb14 => ?_) (fun hb14 => ?_)
 ·refine ref_region (mv1 rfl rfl (mv1 rfl rfl (s_st (s_bslice (xs := [.const (.string (ByteArray.mk #[110, 97])), .const (.string (ByteArray.mk #[110, 98])), .const (.string (ByteArray.mk #[])), .const (.string (ByteArray.mk #[88]))]) (ds := [(ByteArray.mk #[110, 97]), (ByteArray.mk #[110, 98]), (ByteArray.mk #[]), (ByteArray.mk #[88])]) Tryz.underlying22 el_9 rfl (Nat.le_of_ble_eq_true rfl) ⟨(part_at rfl sv_at), ⟨(part_at rfl sv_at), ⟨(part_at rfl sv_at), ⟨(part_at rfl sv_at), trivial⟩⟩⟩⟩) rfl (fun _ => pull fun t15 h_t15 => s_st (s_callC [0] [true] (fun (_ : Unit) => [oc b_0 [slv (rI .i64) t15.2.L, iv .i64 t15.2.At]]) (fun (_ : Unit) => []) (fun (_ : Unit) => sv t15.1) (args := [.tmp 56, .tmp 57]) (caps := []) Tryz.call31 rfl (keep_Src_Text_ok h_t15) ⟨rfl, rfl, trivial⟩ (fun _ => rfl) (fun _ => trivial) (fun _ => rfl) ⟨arg rfl, arg rfl, trivial⟩ (fun _ _ _ _ h => h)) rfl (fun _ => s_rd (r_onilc h_c10 rfl (j := 3) rfl) rfl (s_rd (r_foea (ρ := rT_Cas) (fo := 0) h_c10 Tryz.underlying60 rfl rfl Tryz.sizeOf9 rfl (j := 3) rfl) rfl (s_st0 (s_fostore (ρ := rT_Cas) (u := (T_Cas.mk t15.1 c10.Facts c10.Winner c10.Reason)) (φs := [sv t15.1]) h_c10 Tryz.sizeOf9 rfl (j := 3) rfl (part_at rfl sv_at) rfl rfl) (fun _ => l_nil (b_of (nrm [oc b_0 [slv (rI .i64) t15.2.L, iv .i64 t15.2.At], oc b1 [slv rS l_1.Sides.i0, slv rS l_1.Sides.i1, slv rT_Cas l_1.Cases], oc b2 [pv (.slice none 0 0), pv (.slice none 0 0), pv (.slice none 0 0)], oa rT_Cas (χ3 5).V.1 (χ3 5).V.2 (t5.set (Int.toNat t9.1) (T_Cas.mk t15.1 c10.Facts c10.Winner c10.Reason)), oc (χ3 7).Nn [slv rS l_1.Sides.i0, slv rS l_1.Sides.i1, pv (χ3 5).V.1]] rfl) (n_block (n_then (ref_seq (ref_region (s_rd (r_cloadS Tryz.isAgg26 Tryz.sizeOf26 rfl (j := 4) rfl rfl rfl) rfl (s_st0 (s_cstore (out := [slv rS l_1.Sides.i0, slv rS l_1.Sides.i1, pv (χ3 5).V.1]) Tryz.sizeOf26 rfl (j := 2) rfl (part_agO (ψs := [slv rS l_1.Sides.i0, slv rS l_1.Sides.i1, pv (χ3 5).V.1]) rfl ⟨.inl slv_at, .inl slv_at, .inr ⟨_, _, _, _, _, 3, rfl, rfl⟩, trivial⟩) rfl rfl rfl) (fun _ => l_nil (n_then (ref_ret (b_of (frzGL [(15, slv rT_Cas (t5.set (Int.toNat t9.1) (T_Cas.mk t15.1 c10.Facts c10.Winner c10.Reason))), (23, slv rT_Cas (t5.set (Int.toNat t9.1) (T_Cas.mk t15.1 c10.Facts c10.Winner c10.Reason))), (26, slv rT_Cas (t5.set (Int.toNat t9.1) (T_Cas.mk t15.1 c10.Facts c10.Winner c10.Reason))), (90, ag [slv rS l_1.Sides.i0, slv rS l_1.Sides.i1, slv rT_Cas (t5.set (Int.toNat t9.1) (T_Cas.mk t15.1 c10.Facts c10.Winner c10.Reason))])] [(2, b2, [slv rS l_1.Sides.i0, slv rS l_1.Sides.i1, slv rT_Cas (t5.set (Int.toNat t9.1) (T_Cas.mk t15.1 c10.Facts c10.Winner c10.Reason))]), (4, (χ3 7).Nn, [slv rS l_1.Sides.i0, slv rS l_1.Sides.i1, slv rT_Cas (t5.set (Int.toNat t9.1) (T_Cas.mk t15.1 c10.Facts c10.Winner c10.Reason))])] (j := 3) rfl ⟨⟨_, rfl, .inl ⟨rfl, rfl⟩⟩, ⟨_, rfl, .inl ⟨rfl, rfl⟩⟩, ⟨_, rfl, .inl ⟨rfl, rfl⟩⟩, ⟨_, rfl, .inr ⟨_, _, rfl, rfl, ⟨.inl rfl, .inl rfl, .inr ⟨rfl, rfl⟩, trivial⟩⟩⟩, trivial⟩ ⟨⟨_, rfl, ⟨.inl rfl, .inl rfl, .inr ⟨rfl, rfl⟩, trivial⟩⟩, ⟨_, rfl, ⟨.inl rfl, .inl rfl, .inr ⟨rfl, rfl⟩, trivial⟩⟩, trivial⟩) (b_of (nrm [oc b_0 [slv (rI .i64) t15.2.L, iv .i64 t15.2.At], oc b1 [slv rS l_1.Sides.i0, slv rS l_1.Sides.i1, slv rT_Cas l_1.Cases], oc b2 [slv rS l_1.Sides.i0, slv rS l_1.Sides.i1, slv rT_Cas (t5.set (Int.toNat t9.1) (T_Cas.mk t15.1 c10.Facts c10.Winner c10.Reason))], dead, oc (χ3 7).Nn [slv rS l_1.Sides.i0, slv rS l_1.Sides.i1, slv rT_Cas (t5.set (Int.toNat t9.1) (T_Cas.mk t15.1 c10.Facts c10.Winner c10.Reason))]] rfl) ?_))))))))))))))))))))
  exact fin1 (.inl rfl) () [0] rfl ⟨rfl, trivial⟩ rfl (rv_cell rfl (j := 2) rfl Tryz.isAgg26 Tryz.sizeOf26 rfl rfl)
 refine ref_seq (ref_region (s_rd (r_eql rfl rfl) rfl (as1 rfl rfl (l_nil (n_then ?_)))))
 refine ref_cond rfl (fun hb16 => ?_) (fun hb16 => ?_)
 ·refine ref_region (mv1 rfl rfl (mv1 rfl rfl (pull fun t17 h_t17 => s_st (s_callC [0] [true] (fun (x18 : (Value × List Nat)) => [oc b_0 [slv (rI .i64) t17.2.L, iv .i64 t17.2.At]]) (fun (x18 : (Value × List Nat)) => [oa rS x18.1 x18.2 t17.1]) (fun (x18 : (Value × List Nat)) => pv x18.1) (args := [.tmp 64]) (caps := []) Tryz.call13 rfl (law38_facts_ok h_t17) ⟨rfl, rfl, trivial⟩ (fun _ => rfl) (fun _ => trivial) (fun _ => rfl) ⟨arg rfl, trivial⟩ (fun _ _ _ _ h => h)) rfl (fun x18 => s_rd (r_onilc h_c10 rfl (j := 3) rfl) rfl (s_rd (r_foea (ρ := rT_Cas) (fo := 1) h_c10 Tryz.underlying60 rfl rfl Tryz.sizeOf22 rfl (j := 3) rfl) rfl (b_of (frzL [65] (j := 5) rfl ⟨rfl, trivial⟩) (s_st0 (s_fostore (ρ := rT_Cas) (u := (T_Cas.mk c10.Name t17.1 c10.Winner c10.Reason)) (φs := [slv rS t17.1]) h_c10 Tryz.sizeOf22 rfl (j := 3) rfl (part_at rfl slv_at) rfl rfl) (fun _ => l_nil (b_of (nrm [oc b_0 [slv (rI .i64) t17.2.L, iv .i64 t17.2.At], oc b1 [slv rS l_1.Sides.i0, slv rS l_1.Sides.i1, slv rT_Cas l_1.Cases], oc b2 [pv (.slice none 0 0), pv (.slice none 0 0), pv (.slice none 0 0)], oa rT_Cas (χ3 5).V.1 (χ3 5).V.2 (t5.set (Int.toNat t9.1) (T_Cas.mk c10.Name t17.1 c10.Winner c10.Reason)), oc (χ3 7).Nn [slv rS l_1.Sides.i0, slv rS l_1.Sides.i1, pv (χ3 5).V.1], dead] rfl) (n_block (n_then (ref_seq (ref_region (s_rd (r_cloadS Tryz.isAgg26 Tryz.sizeOf26 rfl (j := 4) rfl rfl rfl) rfl (s_st0 (s_cstore (out := [slv rS l_1.Sides.i0, slv rS l_1.Sides.i1, pv (χ3 5).V.1]) Tryz.sizeOf26 rfl (j := 2) rfl (part_agO (ψs := [slv rS l_1.Sides.i0, slv rS l_1.Sides.i1, pv (χ3 5).V.1]) rfl ⟨.inl slv_at, .inl slv_at, .inr ⟨_, _, _, _, _, 3, rfl, rfl⟩, trivial⟩) rfl rfl rfl) (fun _ => l_nil (n_then (ref_ret (b_of (frzGL [(15, slv rT_Cas (t5.set (Int.toNat t9.1) (T_Cas.mk c10.Name t17.1 c10.Winner c10.Reason))), (23, slv rT_Cas (t5.set (Int.toNat t9.1) (T_Cas.mk c10.Name t17.1 c10.Winner c10.Reason))), (26, slv rT_Cas (t5.set (Int.toNat t9.1) (T_Cas.mk c10.Name t17.1 c10.Winner c10.Reason))), (90, ag [slv rS l_1.Sides.i0, slv rS l_1.Sides.i1, slv rT_Cas (t5.set (Int.toNat t9.1) (T_Cas.mk c10.Name t17.1 c10.Winner c10.Reason))])] [(2, b2, [slv rS l_1.Sides.i0, slv rS l_1.Sides.i1, slv rT_Cas (t5.set (Int.toNat t9.1) (T_Cas.mk c10.Name t17.1 c10.Winner c10.Reason))]), (4, (χ3 7).Nn, [slv rS l_1.Sides.i0, slv rS l_1.Sides.i1, slv rT_Cas (t5.set (Int.toNat t9.1) (T_Cas.mk c10.Name t17.1 c10.Winner c10.Reason))])] (j := 3) rfl ⟨⟨_, rfl, .inl ⟨rfl, rfl⟩⟩, ⟨_, rfl, .inl ⟨rfl, rfl⟩⟩, ⟨_, rfl, .inl ⟨rfl, rfl⟩⟩, ⟨_, rfl, .inr ⟨_, _, rfl, rfl, ⟨.inl rfl, .inl rfl, .inr ⟨rfl, rfl⟩, trivial⟩⟩⟩, trivial⟩ ⟨⟨_, rfl, ⟨.inl rfl, .inl rfl, .inr ⟨rfl, rfl⟩, trivial⟩⟩, ⟨_, rfl, ⟨.inl rfl, .inl rfl, .inr ⟨rfl, rfl⟩, trivial⟩⟩, trivial⟩) (b_of (nrm [oc b_0 [slv (rI .i64) t17.2.L, iv .i64 t17.2.At], oc b1 [slv rS l_1.Sides.i0, slv rS l_1.Sides.i1, slv rT_Cas l_1.Cases], oc b2 [slv rS l_1.Sides.i0, slv rS l_1.Sides.i1, slv rT_Cas (t5.set (Int.toNat t9.1) (T_Cas.mk c10.Name t17.1 c10.Winner c10.Reason))], dead, oc (χ3 7).Nn [slv rS l_1.Sides.i0, slv rS l_1.Sides.i1, slv rT_Cas (t5.set (Int.toNat t9.1) (T_Cas.mk c10.Name t17.1 c10.Winner c10.Reason))], dead] rfl) ?_))))))))))))))))))))
  exact fin1 (.inl rfl) () [0] rfl ⟨rfl, trivial⟩ rfl (rv_cell rfl (j := 2) rfl Tryz.isAgg26 Tryz.sizeOf26 rfl rfl)
 refine ref_seq (ref_region (s_rd (r_eql rfl rfl) rfl (as1 rfl rfl (l_nil (n_then ?_)))))
 refine ref_cond rfl (fun hb19 => ?_) (fun hb19 => ?_)
 ·refine ref_region (mv1 rfl rfl (mv1 rfl rfl (pull fun t20 h_t20 => s_st (s_callC [0] [true] (fun (x21 : (Value × List Nat)) => [oc b_0 [slv (rI .i64) t20.2.L, iv .i64 t20.2.At]]) (fun (x21 : (Value × List Nat)) => [oa rS x21.1 x21.2 t20.1]) (fun (x21 : (Value × List Nat)) => pv x21.1) (args := [.tmp 71]) (caps := []) Tryz.call13 rfl (law38_facts_ok h_t20) ⟨rfl, rfl, trivial⟩ (fun _ => rfl) (fun _ => trivial) (fun _ => rfl) ⟨arg rfl, trivial⟩ (fun _ _ _ _ h => h)) rfl (fun x21 => s_rd (r_onilc h_c10 rfl (j := 3) rfl) rfl (s_rd (r_foea (ρ := rT_Cas) (fo := 3) h_c10 Tryz.underlying60 rfl rfl Tryz.sizeOf22 rfl (j := 3) rfl) rfl (b_of (frzL [72] (j := 5) rfl ⟨rfl, trivial⟩) (s_st0 (s_fostore (ρ := rT_Cas) (u := (T_Cas.mk c10.Name c10.Facts c10.Winner t20.1)) (φs := [slv rS t20.1]) h_c10 Tryz.sizeOf22 rfl (j := 3) rfl (part_at rfl slv_at) rfl rfl) (fun _ => l_nil (b_of (nrm [oc b_0 [slv (rI .i64) t20.2.L, iv .i64 t20.2.At], oc b1 [slv rS l_1.Sides.i0, slv rS l_1.Sides.i1, slv rT_Cas l_1.Cases], oc b2 [pv (.slice none 0 0), pv (.slice none 0 0), pv (.slice none 0 0)], oa rT_Cas (χ3 5).V.1 (χ3 5).V.2 (t5.set (Int.toNat t9.1) (T_Cas.mk c10.Name c10.Facts c10.Winner t20.1)), oc (χ3 7).Nn [slv rS l_1.Sides.i0, slv rS l_1.Sides.i1, pv (χ3 5).V.1], dead] rfl) (n_block (n_then (ref_seq (ref_region (s_rd (r_cloadS Tryz.isAgg26 Tryz.sizeOf26 rfl (j := 4) rfl rfl rfl) rfl (s_st0 (s_cstore (out := [slv rS l_1.Sides.i0, slv rS l_1.Sides.i1, pv (χ3 5).V.1]) Tryz.sizeOf26 rfl (j := 2) rfl (part_agO (ψs := [slv rS l_1.Sides.i0, slv rS l_1.Sides.i1, pv (χ3 5).V.1]) rfl ⟨.inl slv_at, .inl slv_at, .inr ⟨_, _, _, _, _, 3, rfl, rfl⟩, trivial⟩) rfl rfl rfl) (fun _ => l_nil (n_then (ref_ret (b_of (frzGL [(15, slv rT_Cas (t5.set (Int.toNat t9.1) (T_Cas.mk c10.Name c10.Facts c10.Winner t20.1))), (23, slv rT_Cas (t5.set (Int.toNat t9.1) (T_Cas.mk c10.Name c10.Facts c10.Winner t20.1))), (26, slv rT_Cas (t5.set (Int.toNat t9.1) (T_Cas.mk c10.Name c10.Facts c10.Winner t20.1))), (90, ag [slv rS l_1.Sides.i0, slv rS l_1.Sides.i1, slv rT_Cas (t5.set (Int.toNat t9.1) (T_Cas.mk c10.Name c10.Facts c10.Winner t20.1))])] [(2, b2, [slv rS l_1.Sides.i0, slv rS l_1.Sides.i1, slv rT_Cas (t5.set (Int.toNat t9.1) (T_Cas.mk c10.Name c10.Facts c10.Winner t20.1))]), (4, (χ3 7).Nn, [slv rS l_1.Sides.i0, slv rS l_1.Sides.i1, slv rT_Cas (t5.set (Int.toNat t9.1) (T_Cas.mk c10.Name c10.Facts c10.Winner t20.1))])] (j := 3) rfl ⟨⟨_, rfl, .inl ⟨rfl, rfl⟩⟩, ⟨_, rfl, .inl ⟨rfl, rfl⟩⟩, ⟨_, rfl, .inl ⟨rfl, rfl⟩⟩, ⟨_, rfl, .inr ⟨_, _, rfl, rfl, ⟨.inl rfl, .inl rfl, .inr ⟨rfl, rfl⟩, trivial⟩⟩⟩, trivial⟩ ⟨⟨_, rfl, ⟨.inl rfl, .inl rfl, .inr ⟨rfl, rfl⟩, trivial⟩⟩, ⟨_, rfl, ⟨.inl rfl, .inl rfl, .inr ⟨rfl, rfl⟩, trivial⟩⟩, trivial⟩) (b_of (nrm [oc b_0 [slv (rI .i64) t20.2.L, iv .i64 t20.2.At], oc b1 [slv rS l_1.Sides.i0, slv rS l_1.Sides.i1, slv rT_Cas l_1.Cases], oc b2 [slv rS l_1.Sides.i0, slv rS l_1.Sides.i1, slv rT_Cas (t5.set (Int.toNat t9.1) (T_Cas.mk c10.Name c10.Facts c10.Winner t20.1))], dead, oc (χ3 7).Nn [slv rS l_1.Sides.i0, slv rS l_1.Sides.i1, slv rT_Cas (t5.set (Int.toNat t9.1) (T_Cas.mk c10.Name c10.Facts c10.Winner t20.1))], dead] rfl) ?_))))))))))))))))))))
  exact fin1 (.inl rfl) () [0] rfl ⟨rfl, trivial⟩ rfl (rv_cell rfl (j := 2) rfl Tryz.isAgg26 Tryz.sizeOf26 rfl rfl)
 refine ref_seq (ref_region (s_rd (r_eql rfl rfl) rfl (as1 rfl rfl (l_nil (n_then ?_)))))
 refine ref_cond rfl (fun hb22 => ?_) (fun hb22 => ?_)
 ·refine ref_region (mv1 rfl rfl (s_rd (r_onilc h_c10 rfl (j := 3) rfl) rfl (s_rd (r_foea (ρ := rT_Cas) (fo := 3) h_c10 Tryz.underlying60 rfl rfl Tryz.sizeOf22 rfl (j := 3) rfl) rfl (s_st0 (s_fostore (ρ := rT_Cas) (u := (T_Cas.mk c10.Name c10.Facts c10.Winner [])) (φs := [slv rS []]) h_c10 Tryz.sizeOf22 rfl (j := 3) rfl (part_nil0 rS rfl) rfl rfl) (fun _ => l_nil (b_of (nrm [oc b_0 [slv (rI .i64) t11.2.L, iv .i64 t11.2.At], oc b1 [slv rS l_1.Sides.i0, slv rS l_1.Sides.i1, slv rT_Cas l_1.Cases], oc b2 [pv (.slice none 0 0), pv (.slice none 0 0), pv (.slice none 0 0)], oa rT_Cas (χ3 5).V.1 (χ3 5).V.2 (t5.set (Int.toNat t9.1) (T_Cas.mk c10.Name c10.Facts c10.Winner [])), oc (χ3 7).Nn [slv rS l_1.Sides.i0, slv rS l_1.Sides.i1, pv (χ3 5).V.1]] rfl) (n_block (n_then (ref_seq (ref_region (s_rd (r_cloadS Tryz.isAgg26 Tryz.sizeOf26 rfl (j := 4) rfl rfl rfl) rfl (s_st0 (s_cstore (out := [slv rS l_1.Sides.i0, slv rS l_1.Sides.i1, pv (χ3 5).V.1]) Tryz.sizeOf26 rfl (j := 2) rfl (part_agO (ψs := [slv rS l_1.Sides.i0, slv rS l_1.Sides.i1, pv (χ3 5).V.1]) rfl ⟨.inl slv_at, .inl slv_at, .inr ⟨_, _, _, _, _, 3, rfl, rfl⟩, trivial⟩) rfl rfl rfl) (fun _ => l_nil (n_then (ref_ret (b_of (frzGL [(15, slv rT_Cas (t5.set (Int.toNat t9.1) (T_Cas.mk c10.Name c10.Facts c10.Winner []))), (23, slv rT_Cas (t5.set (Int.toNat t9.1) (T_Cas.mk c10.Name c10.Facts c10.Winner []))), (26, slv rT_Cas (t5.set (Int.toNat t9.1) (T_Cas.mk c10.Name c10.Facts c10.Winner []))), (90, ag [slv rS l_1.Sides.i0, slv rS l_1.Sides.i1, slv rT_Cas (t5.set (Int.toNat t9.1) (T_Cas.mk c10.Name c10.Facts c10.Winner []))])] [(2, b2, [slv rS l_1.Sides.i0, slv rS l_1.Sides.i1, slv rT_Cas (t5.set (Int.toNat t9.1) (T_Cas.mk c10.Name c10.Facts c10.Winner []))]), (4, (χ3 7).Nn, [slv rS l_1.Sides.i0, slv rS l_1.Sides.i1, slv rT_Cas (t5.set (Int.toNat t9.1) (T_Cas.mk c10.Name c10.Facts c10.Winner []))])] (j := 3) rfl ⟨⟨_, rfl, .inl ⟨rfl, rfl⟩⟩, ⟨_, rfl, .inl ⟨rfl, rfl⟩⟩, ⟨_, rfl, .inl ⟨rfl, rfl⟩⟩, ⟨_, rfl, .inr ⟨_, _, rfl, rfl, ⟨.inl rfl, .inl rfl, .inr ⟨rfl, rfl⟩, trivial⟩⟩⟩, trivial⟩ ⟨⟨_, rfl, ⟨.inl rfl, .inl rfl, .inr ⟨rfl, rfl⟩, trivial⟩⟩, ⟨_, rfl, ⟨.inl rfl, .inl rfl, .inr ⟨rfl, rfl⟩, trivial⟩⟩, trivial⟩) (b_of (nrm [oc b_0 [slv (rI .i64) t11.2.L, iv .i64 t11.2.At], oc b1 [slv rS l_1.Sides.i0, slv rS l_1.Sides.i1, slv rT_Cas l_1.Cases], oc b2 [slv rS l_1.Sides.i0, slv rS l_1.Sides.i1, slv rT_Cas (t5.set (Int.toNat t9.1) (T_Cas.mk c10.Name c10.Facts c10.Winner []))], dead, oc (χ3 7).Nn [slv rS l_1.Sides.i0, slv rS l_1.Sides.i1, slv rT_Cas (t5.set (Int.toNat t9.1) (T_Cas.mk c10.Name c10.Facts c10.Winner []))]] rfl) ?_)))))))))))))))))
  exact fin1 (.inl rfl) () [0] rfl ⟨rfl, trivial⟩ rfl (rv_cell rfl (j := 2) rfl Tryz.isAgg26 Tryz.sizeOf26 rfl rfl)
 refine ref_seq (ref_region (s_rd (r_eql rfl rfl) rfl (as1 rfl rfl (l_nil (n_then ?_)))))
 refine ref_cond rfl (fun hb23 => ?_) (fun hb23 => ?_)
 ·refine ref_region (s_st (s_bslice (xs := [.const (.string (ByteArray.mk #[97])), .const (.string (ByteArray.mk #[98])), .const (.string (ByteArray.mk #[99])), .const (.string (ByteArray.mk #[120]))]) (ds := [(ByteArray.mk #[97]), (ByteArray.mk #[98]), (ByteArray.mk #[99]), (ByteArray.mk #[120])]) Tryz.underlying22 el_9 rfl (Nat.le_of_ble_eq_true rfl) ⟨(part_at rfl sv_at), ⟨(part_at rfl sv_at), ⟨(part_at rfl sv_at), ⟨(part_at rfl sv_at), trivial⟩⟩⟩⟩) rfl (fun _ => s_rd (r_faddr (fo := 0) Tryz.underlying26 rfl rfl Tryz.sizeOf23 rfl) rfl (s_rd (r_aaddr (sz := 1) ⟨by decide, by decide⟩ Tryz.underlying23 Tryz.sizeOf22 rfl rfl) rfl ?_)))
  refine s_st0 (s_cstore (out := [slv rS [(ByteArray.mk #[97]), (ByteArray.mk #[98]), (ByteArray.mk #[99]), (ByteArray.mk #[120])], slv rS l_1.Sides.i1, pv (χ3 5).V.1]) Tryz.sizeOf22 rfl (j := 4) rfl (part_at rfl slv_at) rfl rfl rfl) (fun _ => l_nil (b_of (nrm [oc b_0 [slv (rI .i64) t11.2.L, iv .i64 t11.2.At], oc b1 [slv rS l_1.Sides.i0, slv rS l_1.Sides.i1, slv rT_Cas l_1.Cases], oc b2 [pv (.slice none 0 0), pv (.slice none 0 0), pv (.slice none 0 0)], oa rT_Cas (χ3 5).V.1 (χ3 5).V.2 t5, oc (χ3 7).Nn [slv rS [(ByteArray.mk #[97]), (ByteArray.mk #[98]), (ByteArray.mk #[99]), (ByteArray.mk #[120])], slv rS l_1.Sides.i1, pv (χ3 5).V.1]] rfl) (n_block (n_then (ref_seq (ref_region (s_rd (r_cloadS Tryz.isAgg26 Tryz.sizeOf26 rfl (j := 4) rfl rfl rfl) rfl (s_st0 (s_cstore (out := [slv rS [(ByteArray.mk #[97]), (ByteArray.mk #[98]), (ByteArray.mk #[99]), (ByteArray.mk #[120])], slv rS l_1.Sides.i1, pv (χ3 5).V.1]) Tryz.sizeOf26 rfl (j := 2) rfl (part_agO (ψs := [slv rS [(ByteArray.mk #[97]), (ByteArray.mk #[98]), (ByteArray.mk #[99]), (ByteArray.mk #[120])], slv rS l_1.Sides.i1, pv (χ3 5).V.1]) rfl ⟨.inl slv_at, .inl slv_at, .inr ⟨_, _, _, _, _, 3, rfl, rfl⟩, trivial⟩) rfl rfl rfl) (fun _ => l_nil (n_then (ref_ret (b_of (frzGL [(15, slv rT_Cas t5), (23, slv rT_Cas t5), (26, slv rT_Cas t5), (90, ag [slv rS [(ByteArray.mk #[97]), (ByteArray.mk #[98]), (ByteArray.mk #[99]), (ByteArray.mk #[120])], slv rS l_1.Sides.i1, slv rT_Cas t5])] [(2, b2, [slv rS [(ByteArray.mk #[97]), (ByteArray.mk #[98]), (ByteArray.mk #[99]), (ByteArray.mk #[120])], slv rS l_1.Sides.i1, slv rT_Cas t5]), (4, (χ3 7).Nn, [slv rS [(ByteArray.mk #[97]), (ByteArray.mk #[98]), (ByteArray.mk #[99]), (ByteArray.mk #[120])], slv rS l_1.Sides.i1, slv rT_Cas t5])] (j := 3) rfl ⟨⟨_, rfl, .inl ⟨rfl, rfl⟩⟩, ⟨_, rfl, .inl ⟨rfl, rfl⟩⟩, ⟨_, rfl, .inl ⟨rfl, rfl⟩⟩, ⟨_, rfl, .inr ⟨_, _, rfl, rfl, ⟨.inl rfl, .inl rfl, .inr ⟨rfl, rfl⟩, trivial⟩⟩⟩, trivial⟩ ⟨⟨_, rfl, ⟨.inl rfl, .inl rfl, .inr ⟨rfl, rfl⟩, trivial⟩⟩, ⟨_, rfl, ⟨.inl rfl, .inl rfl, .inr ⟨rfl, rfl⟩, trivial⟩⟩, trivial⟩) (b_of (nrm [oc b_0 [slv (rI .i64) t11.2.L, iv .i64 t11.2.At], oc b1 [slv rS l_1.Sides.i0, slv rS l_1.Sides.i1, slv rT_Cas l_1.Cases], oc b2 [slv rS [(ByteArray.mk #[97]), (ByteArray.mk #[98]), (ByteArray.mk #[99]), (ByteArray.mk #[120])], slv rS l_1.Sides.i1, slv rT_Cas t5], dead, oc (χ3 7).Nn [slv rS [(ByteArray.mk #[97]), (ByteArray.mk #[98]), (ByteArray.mk #[99]), (ByteArray.mk #[120])], slv rS l_1.Sides.i1, slv rT_Cas t5]] rfl) ?_)))))))))))))
  exact fin1 (.inl rfl) () [0] rfl ⟨rfl, trivial⟩ rfl (rv_cell rfl (j := 2) rfl Tryz.isAgg26 Tryz.sizeOf26 rfl rfl)
 refine ref_seq (ref_region (s_rd (r_eql rfl rfl) rfl (as1 rfl rfl (l_nil (n_then ?_)))))
 refine ref_cond rfl (fun hb24 => ?_) (fun hb24 => ?_)
 ·refine ref_region (s_st (s_bslice (xs := [.const (.string (ByteArray.mk #[120])), .const (.string (ByteArray.mk #[121]))]) (ds := [(ByteArray.mk #[120]), (ByteArray.mk #[121])]) Tryz.underlying22 el_9 rfl (Nat.le_of_ble_eq_true rfl) ⟨(part_at rfl sv_at), ⟨(part_at rfl sv_at), trivial⟩⟩) rfl (fun _ => s_rd (r_faddr (fo := 0) Tryz.underlying26 rfl rfl Tryz.sizeOf23 rfl) rfl (s_rd (r_aaddr (sz := 1) ⟨by decide, by decide⟩ Tryz.underlying23 Tryz.sizeOf22 rfl rfl) rfl ?_)))
  refine s_st0 (s_cstore (out := [slv rS l_1.Sides.i0, slv rS [(ByteArray.mk #[120]), (ByteArray.mk #[121])], pv (χ3 5).V.1]) Tryz.sizeOf22 rfl (j := 4) rfl (part_at rfl slv_at) rfl rfl rfl) (fun _ => l_nil (b_of (nrm [oc b_0 [slv (rI .i64) t11.2.L, iv .i64 t11.2.At], oc b1 [slv rS l_1.Sides.i0, slv rS l_1.Sides.i1, slv rT_Cas l_1.Cases], oc b2 [pv (.slice none 0 0), pv (.slice none 0 0), pv (.slice none 0 0)], oa rT_Cas (χ3 5).V.1 (χ3 5).V.2 t5, oc (χ3 7).Nn [slv rS l_1.Sides.i0, slv rS [(ByteArray.mk #[120]), (ByteArray.mk #[121])], pv (χ3 5).V.1]] rfl) (n_block (n_then (ref_seq (ref_region (s_rd (r_cloadS Tryz.isAgg26 Tryz.sizeOf26 rfl (j := 4) rfl rfl rfl) rfl (s_st0 (s_cstore (out := [slv rS l_1.Sides.i0, slv rS [(ByteArray.mk #[120]), (ByteArray.mk #[121])], pv (χ3 5).V.1]) Tryz.sizeOf26 rfl (j := 2) rfl (part_agO (ψs := [slv rS l_1.Sides.i0, slv rS [(ByteArray.mk #[120]), (ByteArray.mk #[121])], pv (χ3 5).V.1]) rfl ⟨.inl slv_at, .inl slv_at, .inr ⟨_, _, _, _, _, 3, rfl, rfl⟩, trivial⟩) rfl rfl rfl) (fun _ => l_nil (n_then (ref_ret (b_of (frzGL [(15, slv rT_Cas t5), (23, slv rT_Cas t5), (26, slv rT_Cas t5), (90, ag [slv rS l_1.Sides.i0, slv rS [(ByteArray.mk #[120]), (ByteArray.mk #[121])], slv rT_Cas t5])] [(2, b2, [slv rS l_1.Sides.i0, slv rS [(ByteArray.mk #[120]), (ByteArray.mk #[121])], slv rT_Cas t5]), (4, (χ3 7).Nn, [slv rS l_1.Sides.i0, slv rS [(ByteArray.mk #[120]), (ByteArray.mk #[121])], slv rT_Cas t5])] (j := 3) rfl ⟨⟨_, rfl, .inl ⟨rfl, rfl⟩⟩, ⟨_, rfl, .inl ⟨rfl, rfl⟩⟩, ⟨_, rfl, .inl ⟨rfl, rfl⟩⟩, ⟨_, rfl, .inr ⟨_, _, rfl, rfl, ⟨.inl rfl, .inl rfl, .inr ⟨rfl, rfl⟩, trivial⟩⟩⟩, trivial⟩ ⟨⟨_, rfl, ⟨.inl rfl, .inl rfl, .inr ⟨rfl, rfl⟩, trivial⟩⟩, ⟨_, rfl, ⟨.inl rfl, .inl rfl, .inr ⟨rfl, rfl⟩, trivial⟩⟩, trivial⟩) (b_of (nrm [oc b_0 [slv (rI .i64) t11.2.L, iv .i64 t11.2.At], oc b1 [slv rS l_1.Sides.i0, slv rS l_1.Sides.i1, slv rT_Cas l_1.Cases], oc b2 [slv rS l_1.Sides.i0, slv rS [(ByteArray.mk #[120]), (ByteArray.mk #[121])], slv rT_Cas t5], dead, oc (χ3 7).Nn [slv rS l_1.Sides.i0, slv rS [(ByteArray.mk #[120]), (ByteArray.mk #[121])], slv rT_Cas t5]] rfl) ?_)))))))))))))
  exact fin1 (.inl rfl) () [0] rfl ⟨rfl, trivial⟩ rfl (rv_cell rfl (j := 2) rfl Tryz.isAgg26 Tryz.sizeOf26 rfl rfl)
 refine ref_region (mv1 rfl rfl (s_st (s_bsliceO (xs := []) (ds := []) Tryz.underlying22 el_9 rfl (Nat.le_of_ble_eq_true rfl) trivial) rfl (fun o25 => mv1 rfl rfl (s_rd (r_onilc h_c10 rfl (j := 3) rfl) rfl (s_rd (r_foea (ρ := rT_Cas) (fo := 1) h_c10 Tryz.underlying60 rfl rfl Tryz.sizeOf22 rfl (j := 3) rfl) rfl (s_rd (r_foload (ρ := rT_Cas) (y := c10) (ρ' := (rSl rS)) (z := c10.Facts) h_c10 el_22 rfl (j := 3) rfl rfl rfl) rfl (pull fun t26 h_t26 => s_st (s_append h_t26 Tryz.underlying22 el_9 rfl (j := 5) rfl rfl) rfl (fun o27 => mv1 rfl rfl (s_st (s_bslice (xs := [.const (.string (ByteArray.mk #[97])), .const (.string (ByteArray.mk #[113])), .const (.string (ByteArray.mk #[122, 122]))]) (ds := [(ByteArray.mk #[97]), (ByteArray.mk #[113]), (ByteArray.mk #[122, 122])]) Tryz.underlying22 el_9 rfl (Nat.le_of_ble_eq_true rfl) ⟨(part_at rfl sv_at), ⟨(part_at rfl sv_at), ⟨(part_at rfl sv_at), trivial⟩⟩⟩) rfl (fun _ => pull fun t28 h_t28 => s_st (s_callC [0] [true] (fun (_ : Unit) => [oc b_0 [slv (rI .i64) t28.2.L, iv .i64 t28.2.At]]) (fun (_ : Unit) => []) (fun (_ : Unit) => sv t28.1) (args := [.tmp 39, .tmp 40]) (caps := []) Tryz.call31 rfl (keep_Src_Text_ok h_t28) ⟨rfl, rfl, trivial⟩ (fun _ => rfl) (fun _ => trivial) (fun _ => rfl) ⟨arg rfl, arg rfl, trivial⟩ (fun _ _ _ _ h => h)) rfl (fun _ => s_st (s_bslice (xs := [.tmp 41]) (ds := [t28.1]) Tryz.underlying22 el_9 rfl (Nat.le_of_ble_eq_true rfl) ⟨(part_at rfl sv_at), trivial⟩) rfl (fun _ => pull fun t29 h_t29 => s_st (s_append h_t29 Tryz.underlying22 el_9 rfl (j := 5) rfl rfl) rfl (fun o30 => s_rd (r_onilc h_c10 rfl (j := 3) rfl) rfl (s_rd (r_foea (ρ := rT_Cas) (fo := 1) h_c10 Tryz.underlying60 rfl rfl Tryz.sizeOf22 rfl (j := 3) rfl) rfl (b_of (frzL [43] (j := 5) rfl ⟨rfl, trivial⟩) (s_st0 (s_fostore (ρ := rT_Cas) (u := (T_Cas.mk c10.Name t29 c10.Winner c10.Reason)) (φs := [slv rS t29]) h_c10 Tryz.sizeOf22 rfl (j := 3) rfl (part_at rfl slv_at) rfl rfl) (fun _ => l_nil (b_of (nrm [oc b_0 [slv (rI .i64) t28.2.L, iv .i64 t28.2.At], oc b1 [slv rS l_1.Sides.i0, slv rS l_1.Sides.i1, slv rT_Cas l_1.Cases], oc b2 [pv (.slice none 0 0), pv (.slice none 0 0), pv (.slice none 0 0)], oa rT_Cas (χ3 5).V.1 (χ3 5).V.2 (t5.set (Int.toNat t9.1) (T_Cas.mk c10.Name t29 c10.Winner c10.Reason)), oc (χ3 7).Nn [slv rS l_1.Sides.i0, slv rS l_1.Sides.i1, pv (χ3 5).V.1], dead] rfl) (n_block (n_then (ref_seq (ref_region (s_rd (r_cloadS Tryz.isAgg26 Tryz.sizeOf26 rfl (j := 4) rfl rfl rfl) rfl (s_st0 (s_cstore (out := [slv rS l_1.Sides.i0, slv rS l_1.Sides.i1, pv (χ3 5).V.1]) Tryz.sizeOf26 rfl (j := 2) rfl (part_agO (ψs := [slv rS l_1.Sides.i0, slv rS l_1.Sides.i1, pv (χ3 5).V.1]) rfl ⟨.inl slv_at, .inl slv_at, .inr ⟨_, _, _, _, _, 3, rfl, rfl⟩, trivial⟩) rfl rfl rfl) (fun _ => l_nil (n_then (ref_ret (b_of (frzGL [(15, slv rT_Cas (t5.set (Int.toNat t9.1) (T_Cas.mk c10.Name t29 c10.Winner c10.Reason))), (23, slv rT_Cas (t5.set (Int.toNat t9.1) (T_Cas.mk c10.Name t29 c10.Winner c10.Reason))), (26, slv rT_Cas (t5.set (Int.toNat t9.1) (T_Cas.mk c10.Name t29 c10.Winner c10.Reason))), (90, ag [slv rS l_1.Sides.i0, slv rS l_1.Sides.i1, slv rT_Cas (t5.set (Int.toNat t9.1) (T_Cas.mk c10.Name t29 c10.Winner c10.Reason))])] [(2, b2, [slv rS l_1.Sides.i0, slv rS l_1.Sides.i1, slv rT_Cas (t5.set (Int.toNat t9.1) (T_Cas.mk c10.Name t29 c10.Winner c10.Reason))]), (4, (χ3 7).Nn, [slv rS l_1.Sides.i0, slv rS l_1.Sides.i1, slv rT_Cas (t5.set (Int.toNat t9.1) (T_Cas.mk c10.Name t29 c10.Winner c10.Reason))])] (j := 3) rfl ⟨⟨_, rfl, .inl ⟨rfl, rfl⟩⟩, ⟨_, rfl, .inl ⟨rfl, rfl⟩⟩, ⟨_, rfl, .inl ⟨rfl, rfl⟩⟩, ⟨_, rfl, .inr ⟨_, _, rfl, rfl, ⟨.inl rfl, .inl rfl, .inr ⟨rfl, rfl⟩, trivial⟩⟩⟩, trivial⟩ ⟨⟨_, rfl, ⟨.inl rfl, .inl rfl, .inr ⟨rfl, rfl⟩, trivial⟩⟩, ⟨_, rfl, ⟨.inl rfl, .inl rfl, .inr ⟨rfl, rfl⟩, trivial⟩⟩, trivial⟩) (b_of (nrm [oc b_0 [slv (rI .i64) t28.2.L, iv .i64 t28.2.At], oc b1 [slv rS l_1.Sides.i0, slv rS l_1.Sides.i1, slv rT_Cas l_1.Cases], oc b2 [slv rS l_1.Sides.i0, slv rS l_1.Sides.i1, slv rT_Cas (t5.set (Int.toNat t9.1) (T_Cas.mk c10.Name t29 c10.Winner c10.Reason))], dead, oc (χ3 7).Nn [slv rS l_1.Sides.i0, slv rS l_1.Sides.i1, slv rT_Cas (t5.set (Int.toNat t9.1) (T_Cas.mk c10.Name t29 c10.Winner c10.Reason))], dead] rfl) ?_)))))))))))))))))))))))))))))
 exact fin1 (.inl rfl) () [0] rfl ⟨rfl, trivial⟩ rfl (rv_cell rfl (j := 2) rfl Tryz.isAgg26 Tryz.sizeOf26 rfl rfl)

/-! deliberation/deliberationref01.ValidName -/
noncomputable def ref01_ValidName_l1 (s_0 : ByteArray) (s21 : Int) : Option (Sum ((Sum (Bool) (Unit))) (Int)) :=
 bif decide (s21 < (s_0.size : Int)) then
  Option.bind (sidxM s_0 s21) fun t24 =>
  bif decide (t24 < 97) then
   Option.bind (sidxM s_0 s21) fun t25 =>
   bif decide (t25 < 48) then
    Option.bind (sidxM s_0 s21) fun t26 =>
    bif t26 != 95 then
     some (Sum.inl (Sum.inl false))
    else
     letM (iadd .i64 s21 1) fun i38 =>
     some (Sum.inr i38)
   else
    Option.bind (sidxM s_0 s21) fun t27 =>
    bif decide (t27 > 57) then
     Option.bind (sidxM s_0 s21) fun t28 =>
     bif t28 != 95 then
      some (Sum.inl (Sum.inl false))
     else
      letM (iadd .i64 s21 1) fun i39 =>
      some (Sum.inr i39)
    else
     letM (iadd .i64 s21 1) fun i40 =>
     some (Sum.inr i40)
  else
   Option.bind (sidxM s_0 s21) fun t29 =>
   bif decide (t29 > 122) then
    Option.bind (sidxM s_0 s21) fun t30 =>
    bif decide (t30 < 48) then
     Option.bind (sidxM s_0 s21) fun t31 =>
     bif t31 != 95 then
      some (Sum.inl (Sum.inl false))
     else
      letM (iadd .i64 s21 1) fun i41 =>
      some (Sum.inr i41)
    else
     Option.bind (sidxM s_0 s21) fun t32 =>
     bif decide (t32 > 57) then
      Option.bind (sidxM s_0 s21) fun t33 =>
      bif t33 != 95 then
       some (Sum.inl (Sum.inl false))
      else
       letM (iadd .i64 s21 1) fun i42 =>
       some (Sum.inr i42)
     else
      letM (iadd .i64 s21 1) fun i43 =>
      some (Sum.inr i43)
   else
    letM (iadd .i64 s21 1) fun i44 =>
    some (Sum.inr i44)
 else
  some (Sum.inl (Sum.inr ()))

noncomputable def ref01_ValidName_m (s_0 : ByteArray) : Option (Bool) :=
 bif decide ((s_0.size : Int) < 1) then
  some false
 else
  bif decide ((s_0.size : Int) > 12) then
   some false
  else
   Option.bind (sidxM s_0 0) fun t1 =>
   bif decide (t1 < 97) then
    some false
   else
    Option.bind (sidxM s_0 0) fun t2 =>
    bif decide (t2 > 122) then
     some false
    else
     Option.bind (loopC (ref01_ValidName_l1 s_0) 0) (sumK (fun a : Bool => some a) fun q45 : Unit =>
      some true)

theorem ref01_ValidName_ok {s_0 : ByteArray} {r : Bool} (hm : ref01_ValidName_m s_0 = some r) :
  FnOk prog 77 [sv s_0] [] (fun (x : Unit) => [bv r]) (fun (x : Unit) => []) := by
 refine fn_ok (fn := Tryz.f77) (N := 56) (res := fun r x => [bv r]) (Ω1 := fun r x => []) Tryz.func77 rfl rfl hm rfl (fun E hM => ?_)
 unfold ref01_ValidName_m
 refine ref_seq (ref_region (as1 rfl rfl (l_nil (n_then (ref_seq (ref_seq (ref_region (mv1 rfl rfl (s_rd (r_slen Tryz.underlying9 rfl) rfl (s_rd (r_lss rfl rfl) rfl (mv1 rfl rfl ?_)))))))))))
 refine b_split (t := 7) rfl (fun _ => ?_) (fun _ => ?_)
 ·refine s_off rfl rfl rfl rfl rfl (s_off rfl rfl rfl rfl rfl (s_off rfl rfl rfl rfl rfl (s_rd (r_pickT rfl rfl) rfl (mv1 rfl rfl (s_off rfl rfl rfl rfl rfl (s_off rfl rfl rfl rfl rfl (s_off rfl rfl rfl rfl rfl (s_rd (r_pickT rfl rfl) rfl (mv1 rfl rfl (s_off rfl rfl rfl rfl rfl (s_off rfl rfl rfl rfl rfl (s_off rfl rfl rfl rfl rfl (s_rd (r_pickT rfl rfl) rfl (l_nil (n_then (ref_condT rfl rfl (ref_seq (ref_region (as1 rfl rfl (l_nil (n_then (ref_ret (r_then ?_)))))))))))))))))))))))
  exact fin1 (.inl rfl) () [] rfl trivial rfl (rv_tmp rfl)
 refine s_on rfl rfl rfl (mv1 rfl rfl (s_on rfl rfl rfl (s_rd (r_slen Tryz.underlying9 rfl) rfl (s_on rfl rfl rfl (s_rd (r_gtr rfl rfl) rfl (s_rd (r_pickF rfl rfl) rfl (mv1 rfl rfl ?_)))))))
 refine b_split (t := 12) rfl (fun _ => ?_) (fun _ => ?_)
 ·refine s_off rfl rfl rfl rfl rfl (s_off rfl rfl rfl rfl rfl (s_off rfl rfl rfl rfl rfl (s_rd (r_pickT rfl rfl) rfl (mv1 rfl rfl (s_off rfl rfl rfl rfl rfl (s_off rfl rfl rfl rfl rfl (s_off rfl rfl rfl rfl rfl (s_rd (r_pickT rfl rfl) rfl (l_nil (n_then (ref_condT rfl rfl (ref_seq (ref_region (as1 rfl rfl (l_nil (n_then (ref_ret (r_then ?_))))))))))))))))))
  exact fin1 (.inl rfl) () [] rfl trivial rfl (rv_tmp rfl)
 refine s_on rfl rfl rfl (mv1 rfl rfl (s_on rfl rfl rfl (pull fun t1 h_t1 => s_rd (r_sidx h_t1 Tryz.underlying9 rfl rfl) rfl (s_on rfl rfl rfl (s_rd (r_lss rfl rfl) rfl (s_rd (r_pickF rfl rfl) rfl (mv1 rfl rfl ?_)))))))
 refine b_split (t := 17) rfl (fun _ => ?_) (fun _ => ?_)
 ·refine s_off rfl rfl rfl rfl rfl (s_off rfl rfl rfl rfl rfl (s_off rfl rfl rfl rfl rfl (s_rd (r_pickT rfl rfl) rfl (l_nil (n_then (ref_condT rfl rfl (ref_seq (ref_region (as1 rfl rfl (l_nil (n_then (ref_ret (r_then ?_)))))))))))))
  exact fin1 (.inl rfl) () [] rfl trivial rfl (rv_tmp rfl)
 refine s_on rfl rfl rfl (mv1 rfl rfl (s_on rfl rfl rfl (pull fun t2 h_t2 => s_rd (r_sidx h_t2 Tryz.underlying9 rfl rfl) rfl (s_on rfl rfl rfl (s_rd (r_gtr rfl rfl) rfl (s_rd (r_pickF rfl rfl) rfl (l_nil (n_then ?_))))))))
 refine ref_cond rfl (fun hb3 => ?_) (fun hb3 => ?_)
 ·refine ref_seq (ref_region (as1 rfl rfl (l_nil (n_then (ref_ret (r_then ?_))))))
  exact fin1 (.inl rfl) () [] rfl trivial rfl (rv_tmp rfl)
 refine ref_skip (n_then (ref_seq (ref_seq (ref_region (as1 rfl rfl (l_nil (n_then ?_)))))))
 refine ref_loopX (f := (ref01_ValidName_l1 s_0)) (Γl := (fun (s21 : Int) (x22 : Unit) => [(0, sv s_0), (3, iv .i64 s21)])) (Ωl := (fun (s21 : Int) (x22 : Unit) => [])) (Γb := (fun (q45 : Unit) (y46 : Unit) => [])) (Ωb := (fun (q45 : Unit) (y46 : Unit) => [])) (kr := (fun a : Bool => some a)) 0 () (weak [] ⟨rfl, rfl, trivial⟩ trivial) (fun s21 x22 => ?_) (fun q45 y46 => ?_)
 ·unfold ref01_ValidName_l1
  refine ref_seq (ref_seq (ref_region (mv1 rfl rfl (mv1 rfl rfl (s_rd (r_slen Tryz.underlying9 rfl) rfl (s_rd (r_lss rfl rfl) rfl (l_nil (n_then ?_))))))))
  refine ref_cond rfl (fun hb23 => ?_) (fun hb23 => ?_)
  ·refine ref_skip (n_then (ref_seq (ref_block (ref_seq (ref_region (mv1 rfl rfl (mv1 rfl rfl (pull fun t24 h_t24 => s_rd (r_sidx h_t24 Tryz.underlying9 rfl rfl) rfl (s_rd (r_lss rfl rfl) rfl (mv1 rfl rfl ?_))))))))))
   refine b_split (t := 32) rfl (fun _ => ?_) (fun _ => ?_)
   ·refine s_off rfl rfl rfl rfl rfl (s_off rfl rfl rfl rfl rfl (s_off rfl rfl rfl rfl rfl (s_off rfl rfl rfl rfl rfl (s_rd (r_pickT rfl rfl) rfl (mv1 rfl rfl (s_on rfl rfl rfl (mv1 rfl rfl (s_on rfl rfl rfl (mv1 rfl rfl (s_on rfl rfl rfl (pull fun t25 h_t25 => s_rd (r_sidx h_t25 Tryz.underlying9 rfl rfl) rfl (s_on rfl rfl rfl (s_rd (r_lss rfl rfl) rfl (s_on rfl rfl rfl (mv1 rfl rfl ?_)))))))))))))))
    refine b_split (t := 43) rfl (fun _ => ?_) (fun _ => ?_)
    ·refine s_off rfl rfl rfl rfl rfl (s_off rfl rfl rfl rfl rfl (s_off rfl rfl rfl rfl rfl (s_off rfl rfl rfl rfl rfl (s_on rfl rfl rfl (s_rd (r_pickT rfl rfl) rfl (s_rd (r_pickT rfl rfl) rfl (mv1 rfl rfl (s_on rfl rfl rfl (mv1 rfl rfl (s_on rfl rfl rfl (mv1 rfl rfl (s_on rfl rfl rfl (pull fun t26 h_t26 => s_rd (r_sidx h_t26 Tryz.underlying9 rfl rfl) rfl (s_on rfl rfl rfl (s_rd (r_neq rfl rfl) rfl (s_rd (r_pickT rfl rfl) rfl (l_nil (n_then ?_))))))))))))))))))
     refine ref_cond rfl (fun hb34 => ?_) (fun hb34 => ?_)
     ·refine ref_seq (ref_region (as1 rfl rfl (l_nil (n_then (ref_ret (r_block (r_then ?_)))))))
      refine retX ?_
      refine r_block (r_then ?_)
      exact fin1 (.inl rfl) () [] rfl trivial rfl (rv_tmp rfl)
     refine ref_skip (n_block (n_then (ref_region (mv1 rfl rfl (s_rd (r_add rfl rfl) rfl (as1 rfl rfl (b_let (f := iv .i64) (t := 3) rfl fun i38 => l_nil ?_)))))))
     exact goX () (weak [] ⟨rfl, rfl, trivial⟩ trivial)
    refine s_on rfl rfl rfl (mv1 rfl rfl (s_on rfl rfl rfl (mv1 rfl rfl (s_on rfl rfl rfl (pull fun t27 h_t27 => s_rd (r_sidx h_t27 Tryz.underlying9 rfl rfl) rfl (s_on rfl rfl rfl (s_rd (r_gtr rfl rfl) rfl (s_on rfl rfl rfl (s_rd (r_pickF rfl rfl) rfl (s_rd (r_pickT rfl rfl) rfl (mv1 rfl rfl ?_)))))))))))
    refine b_split (t := 50) rfl (fun _ => ?_) (fun _ => ?_)
    ·refine s_on rfl rfl rfl (mv1 rfl rfl (s_on rfl rfl rfl (mv1 rfl rfl (s_on rfl rfl rfl (pull fun t28 h_t28 => s_rd (r_sidx h_t28 Tryz.underlying9 rfl rfl) rfl (s_on rfl rfl rfl (s_rd (r_neq rfl rfl) rfl (s_rd (r_pickT rfl rfl) rfl (l_nil (n_then ?_))))))))))
     refine ref_cond rfl (fun hb35 => ?_) (fun hb35 => ?_)
     ·refine ref_seq (ref_region (as1 rfl rfl (l_nil (n_then (ref_ret (r_block (r_then ?_)))))))
      refine retX ?_
      refine r_block (r_then ?_)
      exact fin1 (.inl rfl) () [] rfl trivial rfl (rv_tmp rfl)
     refine ref_skip (n_block (n_then (ref_region (mv1 rfl rfl (s_rd (r_add rfl rfl) rfl (as1 rfl rfl (b_let (f := iv .i64) (t := 3) rfl fun i39 => l_nil ?_)))))))
     exact goX () (weak [] ⟨rfl, rfl, trivial⟩ trivial)
    refine s_off rfl rfl rfl rfl rfl (s_off rfl rfl rfl rfl rfl (s_off rfl rfl rfl rfl rfl (s_off rfl rfl rfl rfl rfl (s_rd (r_pickF rfl rfl) rfl (l_nil (n_then (ref_condF rfl rfl (ref_skip (n_block (n_then (ref_region (mv1 rfl rfl (s_rd (r_add rfl rfl) rfl (as1 rfl rfl (b_let (f := iv .i64) (t := 3) rfl fun i40 => l_nil ?_)))))))))))))))
    exact goX () (weak [] ⟨rfl, rfl, trivial⟩ trivial)
   refine s_on rfl rfl rfl (mv1 rfl rfl (s_on rfl rfl rfl (mv1 rfl rfl (s_on rfl rfl rfl (pull fun t29 h_t29 => s_rd (r_sidx h_t29 Tryz.underlying9 rfl rfl) rfl (s_on rfl rfl rfl (s_rd (r_gtr rfl rfl) rfl (s_rd (r_pickF rfl rfl) rfl (mv1 rfl rfl ?_)))))))))
   refine b_split (t := 38) rfl (fun _ => ?_) (fun _ => ?_)
   ·refine s_on rfl rfl rfl (mv1 rfl rfl (s_on rfl rfl rfl (mv1 rfl rfl (s_on rfl rfl rfl (pull fun t30 h_t30 => s_rd (r_sidx h_t30 Tryz.underlying9 rfl rfl) rfl (s_on rfl rfl rfl (s_rd (r_lss rfl rfl) rfl (s_on rfl rfl rfl (mv1 rfl rfl ?_)))))))))
    refine b_split (t := 43) rfl (fun _ => ?_) (fun _ => ?_)
    ·refine s_off rfl rfl rfl rfl rfl (s_off rfl rfl rfl rfl rfl (s_off rfl rfl rfl rfl rfl (s_off rfl rfl rfl rfl rfl (s_on rfl rfl rfl (s_rd (r_pickT rfl rfl) rfl (s_rd (r_pickT rfl rfl) rfl (mv1 rfl rfl (s_on rfl rfl rfl (mv1 rfl rfl (s_on rfl rfl rfl (mv1 rfl rfl (s_on rfl rfl rfl (pull fun t31 h_t31 => s_rd (r_sidx h_t31 Tryz.underlying9 rfl rfl) rfl (s_on rfl rfl rfl (s_rd (r_neq rfl rfl) rfl (s_rd (r_pickT rfl rfl) rfl (l_nil (n_then ?_))))))))))))))))))
     refine ref_cond rfl (fun hb36 => ?_) (fun hb36 => ?_)
     ·refine ref_seq (ref_region (as1 rfl rfl (l_nil (n_then (ref_ret (r_block (r_then ?_)))))))
      refine retX ?_
      refine r_block (r_then ?_)
      exact fin1 (.inl rfl) () [] rfl trivial rfl (rv_tmp rfl)
     refine ref_skip (n_block (n_then (ref_region (mv1 rfl rfl (s_rd (r_add rfl rfl) rfl (as1 rfl rfl (b_let (f := iv .i64) (t := 3) rfl fun i41 => l_nil ?_)))))))
     exact goX () (weak [] ⟨rfl, rfl, trivial⟩ trivial)
    refine s_on rfl rfl rfl (mv1 rfl rfl (s_on rfl rfl rfl (mv1 rfl rfl (s_on rfl rfl rfl (pull fun t32 h_t32 => s_rd (r_sidx h_t32 Tryz.underlying9 rfl rfl) rfl (s_on rfl rfl rfl (s_rd (r_gtr rfl rfl) rfl (s_on rfl rfl rfl (s_rd (r_pickF rfl rfl) rfl (s_rd (r_pickT rfl rfl) rfl (mv1 rfl rfl ?_)))))))))))
    refine b_split (t := 50) rfl (fun _ => ?_) (fun _ => ?_)
    ·refine s_on rfl rfl rfl (mv1 rfl rfl (s_on rfl rfl rfl (mv1 rfl rfl (s_on rfl rfl rfl (pull fun t33 h_t33 => s_rd (r_sidx h_t33 Tryz.underlying9 rfl rfl) rfl (s_on rfl rfl rfl (s_rd (r_neq rfl rfl) rfl (s_rd (r_pickT rfl rfl) rfl (l_nil (n_then ?_))))))))))
     refine ref_cond rfl (fun hb37 => ?_) (fun hb37 => ?_)
     ·refine ref_seq (ref_region (as1 rfl rfl (l_nil (n_then (ref_ret (r_block (r_then ?_)))))))
      refine retX ?_
      refine r_block (r_then ?_)
      exact fin1 (.inl rfl) () [] rfl trivial rfl (rv_tmp rfl)
     refine ref_skip (n_block (n_then (ref_region (mv1 rfl rfl (s_rd (r_add rfl rfl) rfl (as1 rfl rfl (b_let (f := iv .i64) (t := 3) rfl fun i42 => l_nil ?_)))))))
     exact goX () (weak [] ⟨rfl, rfl, trivial⟩ trivial)
    refine s_off rfl rfl rfl rfl rfl (s_off rfl rfl rfl rfl rfl (s_off rfl rfl rfl rfl rfl (s_off rfl rfl rfl rfl rfl (s_rd (r_pickF rfl rfl) rfl (l_nil (n_then (ref_condF rfl rfl (ref_skip (n_block (n_then (ref_region (mv1 rfl rfl (s_rd (r_add rfl rfl) rfl (as1 rfl rfl (b_let (f := iv .i64) (t := 3) rfl fun i43 => l_nil ?_)))))))))))))))
    exact goX () (weak [] ⟨rfl, rfl, trivial⟩ trivial)
   refine s_off rfl rfl rfl rfl rfl (s_off rfl rfl rfl rfl rfl (s_off rfl rfl rfl rfl rfl (s_off rfl rfl rfl rfl rfl (s_off rfl rfl rfl rfl rfl (s_offU rfl rfl rfl (s_offU rfl rfl rfl (s_offU rfl rfl rfl (s_offU rfl rfl rfl (s_off rfl rfl rfl rfl rfl (s_rd (r_pickF rfl rfl) rfl (mv1 rfl rfl (s_off rfl rfl rfl rfl rfl (s_off rfl rfl rfl rfl rfl (s_off rfl rfl rfl rfl rfl (s_off rfl rfl rfl rfl rfl (s_rd (r_pickF rfl rfl) rfl (l_nil (n_then (ref_condF rfl rfl (ref_skip (n_block (n_then (ref_region (mv1 rfl rfl (s_rd (r_add rfl rfl) rfl (as1 rfl rfl (b_let (f := iv .i64) (t := 3) rfl fun i44 => l_nil ?_)))))))))))))))))))))))))))
   exact goX () (weak [] ⟨rfl, rfl, trivial⟩ trivial)
  refine ref_exit (x_then ?_)
  exact brkX () (weak [] trivial trivial)
 refine n_then (ref_seq (ref_region (as1 rfl rfl (l_nil (n_then (ref_ret ?_))))))
 exact fin1 (.inl rfl) () [] rfl trivial rfl (rv_tmp rfl)

/-! deliberation/deliberationref38.names -/
noncomputable def ref38_names_l1 (l_0 : (List ByteArray)) (s7 : Int) : Option (Sum ((Sum (Bool) (Unit))) (Int)) :=
 bif decide (s7 < (l_0.length : Int)) then
  Option.bind (idxM l_0 s7) fun t10 =>
  Option.bind (ref01_ValidName_m t10) fun t11 =>
  bif !t11 then
   some (Sum.inl (Sum.inl false))
  else
   some (Sum.inr (iadd .i64 s7 1))
 else
  some (Sum.inl (Sum.inr ()))

noncomputable def ref38_names_m (l_0 : (List ByteArray)) : Option (Bool) :=
 Option.bind (loopC (ref38_names_l1 l_0) 0) (sumK (fun a : Bool => some a) fun q13 : Unit =>
  some true)

theorem ref38_names_ok {l_0 : (List ByteArray)} {r : Bool} (hm : ref38_names_m l_0 = some r) :
  FnOk prog 76 [slv rS l_0] [] (fun (x : Unit) => [bv r]) (fun (x : Unit) => []) := by
 refine fn_ok (fn := Tryz.f76) (N := 16) (res := fun r x => [bv r]) (Ω1 := fun r x => []) Tryz.func76 rfl rfl hm rfl (fun E hM => ?_)
 unfold ref38_names_m
 refine ref_seq (ref_region (as1 rfl rfl (l_nil (n_then (ref_seq (ref_seq (ref_region (as1 rfl rfl (l_nil (n_then ?_))))))))))
 refine ref_loopX (f := (ref38_names_l1 l_0)) (Γl := (fun (s7 : Int) (x8 : Unit) => [(0, slv rS l_0), (3, iv .i64 s7)])) (Ωl := (fun (s7 : Int) (x8 : Unit) => [])) (Γb := (fun (q13 : Unit) (y14 : Unit) => [])) (Ωb := (fun (q13 : Unit) (y14 : Unit) => [])) (kr := (fun a : Bool => some a)) 0 () (weak [] ⟨rfl, rfl, trivial⟩ trivial) (fun s7 x8 => ?_) (fun q13 y14 => ?_)
 ·unfold ref38_names_l1
  refine ref_seq (ref_seq (ref_region (mv1 rfl rfl (mv1 rfl rfl (s_rd (r_len Tryz.underlying22 rfl) rfl (s_rd (r_lss rfl rfl) rfl (l_nil (n_then ?_))))))))
  refine ref_cond rfl (fun hb9 => ?_) (fun hb9 => ?_)
  ·refine ref_skip (n_then (ref_seq (ref_block (ref_seq (ref_region (mv1 rfl rfl (mv1 rfl rfl (pull fun t10 h_t10 => s_rd (r_index h_t10 Tryz.underlying22 el_9 rfl rfl) rfl (s_rd (r_load el_9 rfl) rfl (pull fun t11 h_t11 => s_st (s_call (ψ := fun (_ : Unit) => bv t11) (args := [.tmp 13]) Tryz.call77 rfl (ref01_ValidName_ok h_t11) ⟨arg rfl, trivial⟩ (fun _ _ _ _ h => h)) rfl (fun _ => s_rd (r_not rfl) rfl (l_nil (n_then ?_)))))))))))))
   refine ref_cond rfl (fun hb12 => ?_) (fun hb12 => ?_)
   ·refine ref_seq (ref_region (as1 rfl rfl (l_nil (n_then (ref_ret (r_block (r_then ?_)))))))
    refine retX ?_
    refine r_block (r_then ?_)
    exact fin1 (.inl rfl) () [] rfl trivial rfl (rv_tmp rfl)
   refine ref_skip (n_block (n_then (ref_region (mv1 rfl rfl (s_rd (r_add rfl rfl) rfl (as1 rfl rfl (l_nil ?_)))))))
   exact goX () (weak [] ⟨rfl, rfl, trivial⟩ trivial)
  refine ref_exit (x_then ?_)
  exact brkX () (weak [] trivial trivial)
 refine n_then (ref_seq (ref_region (as1 rfl rfl (l_nil (n_then (ref_ret ?_))))))
 exact fin1 (.inl rfl) () [] rfl trivial rfl (rv_tmp rfl)

/-! deliberation/deliberationref38.ascending -/
noncomputable def ref38_ascending_l1 (l_0 : (List ByteArray)) (s7 : Int) : Option (Sum ((Sum (Bool) (Unit))) (Int)) :=
 bif decide (s7 < (l_0.length : Int)) then
  Option.bind (idxM l_0 (isub .i64 s7 1)) fun t10 =>
  Option.bind (idxM l_0 s7) fun t11 =>
  bif !Op.bytesLess t10.toList t11.toList then
   some (Sum.inl (Sum.inl false))
  else
   some (Sum.inr (iadd .i64 s7 1))
 else
  some (Sum.inl (Sum.inr ()))

noncomputable def ref38_ascending_m (l_0 : (List ByteArray)) : Option (Bool) :=
 Option.bind (loopC (ref38_ascending_l1 l_0) 1) (sumK (fun a : Bool => some a) fun q13 : Unit =>
  some true)

theorem ref38_ascending_ok {l_0 : (List ByteArray)} {r : Bool} (hm : ref38_ascending_m l_0 = some r) :
  FnOk prog 78 [slv rS l_0] [] (fun (x : Unit) => [bv r]) (fun (x : Unit) => []) := by
 refine fn_ok (fn := Tryz.f78) (N := 20) (res := fun r x => [bv r]) (Ω1 := fun r x => []) Tryz.func78 rfl rfl hm rfl (fun E hM => ?_)
 unfold ref38_ascending_m
 refine ref_seq (ref_region (as1 rfl rfl (l_nil (n_then (ref_seq (ref_seq (ref_region (as1 rfl rfl (l_nil (n_then ?_))))))))))
 refine ref_loopX (f := (ref38_ascending_l1 l_0)) (Γl := (fun (s7 : Int) (x8 : Unit) => [(0, slv rS l_0), (3, iv .i64 s7)])) (Ωl := (fun (s7 : Int) (x8 : Unit) => [])) (Γb := (fun (q13 : Unit) (y14 : Unit) => [])) (Ωb := (fun (q13 : Unit) (y14 : Unit) => [])) (kr := (fun a : Bool => some a)) 1 () (weak [] ⟨rfl, rfl, trivial⟩ trivial) (fun s7 x8 => ?_) (fun q13 y14 => ?_)
 ·unfold ref38_ascending_l1
  refine ref_seq (ref_seq (ref_region (mv1 rfl rfl (mv1 rfl rfl (s_rd (r_len Tryz.underlying22 rfl) rfl (s_rd (r_lss rfl rfl) rfl (l_nil (n_then ?_))))))))
  refine ref_cond rfl (fun hb9 => ?_) (fun hb9 => ?_)
  ·refine ref_skip (n_then (ref_seq (ref_block (ref_seq ?_))))
   refine ref_draw [0, 1, 2, 3, 4, 5, 6, 7, 8, 9] rfl (by kernel_rfl) (fun hok => ?_)
   refine a_rd (i := 0) hok rfl (by kernel_rfl) rfl (r_move rfl) rfl ?_
   refine a_rd (i := 1) hok rfl (by kernel_rfl) rfl (r_move rfl) rfl ?_
   refine a_rd (i := 2) hok rfl (by kernel_rfl) rfl (r_sub rfl rfl) rfl ?_
   refine pull fun t10 h_t10 => ?_
   refine a_rd (i := 3) hok rfl (by kernel_rfl) rfl (r_index h_t10 Tryz.underlying22 el_9 rfl rfl) rfl ?_
   refine a_rd (i := 4) hok rfl (by kernel_rfl) rfl (r_load el_9 rfl) rfl ?_
   refine a_rd (i := 5) hok rfl (by kernel_rfl) rfl (r_move rfl) rfl ?_
   refine a_rd (i := 6) hok rfl (by kernel_rfl) rfl (r_move rfl) rfl ?_
   refine pull fun t11 h_t11 => ?_
   refine a_rd (i := 7) hok rfl (by kernel_rfl) rfl (r_index h_t11 Tryz.underlying22 el_9 rfl rfl) rfl ?_
   refine a_rd (i := 8) hok rfl (by kernel_rfl) rfl (r_load el_9 rfl) rfl ?_
   refine a_rd (i := 9) hok rfl (by kernel_rfl) rfl (r_sgeq rfl rfl) rfl ?_
   refine a_fin hok (by kernel_rfl) ?_
   refine n_then ?_
   refine ref_cond rfl (fun hb12 => ?_) (fun hb12 => ?_)
   ·refine ref_seq (ref_region (as1 rfl rfl (l_nil (n_then (ref_ret (r_block (r_then ?_)))))))
    refine retX ?_
    refine r_block (r_then ?_)
    exact fin1 (.inl rfl) () [] rfl trivial rfl (rv_tmp rfl)
   refine ref_skip (n_block (n_then (ref_region (mv1 rfl rfl (s_rd (r_add rfl rfl) rfl (as1 rfl rfl (l_nil ?_)))))))
   exact goX () (weak [] ⟨rfl, rfl, trivial⟩ trivial)
  refine ref_exit (x_then ?_)
  exact brkX () (weak [] trivial trivial)
 refine n_then (ref_seq (ref_region (as1 rfl rfl (l_nil (n_then (ref_ret ?_))))))
 exact fin1 (.inl rfl) () [] rfl trivial rfl (rv_tmp rfl)

/-! deliberation/deliberationref38.forms -/
noncomputable def ref38_forms_l1 (l_0 : T_Lib) (s12 : Int) : Option (Sum ((Sum (Int) (Unit))) (Int)) :=
 bif decide (s12 < (l_0.Cases.length : Int)) then
  Option.bind (idxM l_0.Cases s12) fun t15 =>
  Option.bind (ref01_ValidName_m t15.Name) fun t16 =>
  bif !t16 then
   some (Sum.inl (Sum.inl 3))
  else
   letM (iadd .i64 s12 1) fun i18 =>
   some (Sum.inr i18)
 else
  some (Sum.inl (Sum.inr ()))

noncomputable def ref38_forms_l2 (l_0 : T_Lib) (s32 : Int) : Option (Sum ((Sum (Int) (Unit))) (Int)) :=
 bif decide (s32 < (l_0.Cases.length : Int)) then
  Option.bind (idxM l_0.Cases s32) fun t35 =>
  Option.bind (ref38_ascending_m t35.Facts) fun t36 =>
  bif !t36 then
   some (Sum.inl (Sum.inl 8))
  else
   Option.bind (idxM l_0.Cases s32) fun t37 =>
   Option.bind (ref38_ascending_m t37.Reason) fun t38 =>
   bif !t38 then
    some (Sum.inl (Sum.inl 8))
   else
    letM (iadd .i64 s32 1) fun i40 =>
    some (Sum.inr i40)
 else
  some (Sum.inl (Sum.inr ()))

noncomputable def ref38_forms_m (l_0 : T_Lib) : Option (Int) :=
 bif decide ((l_0.Sides.i0.length : Int) > 12) then
  some 2
 else
  bif decide ((l_0.Sides.i1.length : Int) > 12) then
   some 2
  else
   bif decide ((l_0.Cases.length : Int) > 16) then
    some 2
   else
    Option.bind (ref38_names_m l_0.Sides.i0) fun t3 =>
    bif !t3 then
     some 3
    else
     Option.bind (ref38_names_m l_0.Sides.i1) fun t4 =>
     bif !t4 then
      some 3
     else
      Option.bind (loopC (ref38_forms_l1 l_0) 0) (sumK (fun a : Int => some a) fun q19 : Unit =>
       Option.bind (ref38_ascending_m l_0.Sides.i0) fun t21 =>
       bif !t21 then
        some 8
       else
        Option.bind (ref38_ascending_m l_0.Sides.i1) fun t22 =>
        bif !t22 then
         some 8
        else
         Option.bind (loopC (ref38_forms_l2 l_0) 0) (sumK (fun a : Int => some a) fun q41 : Unit =>
          some 0))

theorem ref38_forms_ok {l_0 : T_Lib} {r : Int} (hm : ref38_forms_m l_0 = some r) :
  FnOk prog 46 [ag [slv rS l_0.Sides.i0, slv rS l_0.Sides.i1, slv rT_Cas l_0.Cases]] [] (fun (x : Unit) => [iv .i64 r]) (fun (x : Unit) => []) := by
 refine fn_ok (fn := Tryz.f46) (N := 87) (res := fun r x => [iv .i64 r]) (Ω1 := fun r x => []) Tryz.func46 rfl rfl hm rfl (fun E hM => ?_)
 unfold ref38_forms_m
 refine ref_seq (ref_region (s_st (s_box (part_agO (ψs := [slv rS l_0.Sides.i0, slv rS l_0.Sides.i1, slv rT_Cas l_0.Cases]) rfl ⟨.inl slv_at, .inl slv_at, .inl slv_at, trivial⟩)) rfl (fun b1 => as1 rfl rfl (l_nil (n_then (ref_seq (ref_seq (ref_region (s_rd (r_faddr (fo := 0) Tryz.underlying26 rfl rfl Tryz.sizeOf23 rfl) rfl (s_rd (r_aaddr (sz := 1) ⟨by decide, by decide⟩ Tryz.underlying23 Tryz.sizeOf22 rfl rfl) rfl ?_))))))))))
 refine s_rd (r_cload Tryz.isAgg22 rfl (j := 0) rfl rfl) rfl (s_rd (r_len Tryz.underlying22 rfl) rfl (s_rd (r_gtr rfl rfl) rfl (mv1 rfl rfl ?_)))
 refine b_split (t := 10) rfl (fun _ => ?_) (fun _ => ?_)
 ·refine s_off rfl rfl rfl rfl rfl (s_off rfl rfl rfl rfl rfl (s_off rfl rfl rfl rfl rfl (s_off rfl rfl rfl rfl rfl (s_off rfl rfl rfl rfl rfl (s_rd (r_pickT rfl rfl) rfl (mv1 rfl rfl (s_off rfl rfl rfl rfl rfl (s_off rfl rfl rfl rfl rfl (s_off rfl rfl rfl rfl rfl (s_off rfl rfl rfl rfl rfl (s_rd (r_pickT rfl rfl) rfl (l_nil (n_then (ref_condT rfl rfl (ref_seq (ref_region (as1 rfl rfl (l_nil (n_then (ref_ret (r_then ?_)))))))))))))))))))))
  exact fin1 (.inl rfl) () [] rfl trivial rfl (rv_tmp rfl)
 refine s_on rfl rfl rfl (s_rd (r_faddr (fo := 0) Tryz.underlying26 rfl rfl Tryz.sizeOf23 rfl) rfl (s_on rfl rfl rfl (s_rd (r_aaddr (sz := 1) ⟨by decide, by decide⟩ Tryz.underlying23 Tryz.sizeOf22 rfl rfl) rfl ?_)))
 refine s_on rfl rfl rfl (s_rd (r_cload Tryz.isAgg22 rfl (j := 0) rfl rfl) rfl (s_on rfl rfl rfl (s_rd (r_len Tryz.underlying22 rfl) rfl (s_on rfl rfl rfl (s_rd (r_gtr rfl rfl) rfl (s_rd (r_pickF rfl rfl) rfl (mv1 rfl rfl ?_)))))))
 refine b_split (t := 17) rfl (fun _ => ?_) (fun _ => ?_)
 ·refine s_off rfl rfl rfl rfl rfl (s_off rfl rfl rfl rfl rfl (s_off rfl rfl rfl rfl rfl (s_off rfl rfl rfl rfl rfl (s_rd (r_pickT rfl rfl) rfl (l_nil (n_then (ref_condT rfl rfl (ref_seq (ref_region (as1 rfl rfl (l_nil (n_then (ref_ret (r_then ?_))))))))))))))
  exact fin1 (.inl rfl) () [] rfl trivial rfl (rv_tmp rfl)
 refine s_on rfl rfl rfl (s_rd (r_faddr (fo := 2) Tryz.underlying26 rfl rfl Tryz.sizeOf24 rfl) rfl (s_on rfl rfl rfl (s_rd (r_cload Tryz.isAgg24 rfl (j := 0) rfl rfl) rfl (s_on rfl rfl rfl (s_rd (r_len Tryz.underlying24 rfl) rfl (s_on rfl rfl rfl (s_rd (r_gtr rfl rfl) rfl (s_rd (r_pickF rfl rfl) rfl (l_nil (n_then ?_))))))))))
 refine ref_cond rfl (fun hb2 => ?_) (fun hb2 => ?_)
 ·refine ref_seq (ref_region (as1 rfl rfl (l_nil (n_then (ref_ret (r_then ?_))))))
  exact fin1 (.inl rfl) () [] rfl trivial rfl (rv_tmp rfl)
 refine ref_skip (n_then (ref_seq (ref_seq (ref_region (s_rd (r_faddr (fo := 0) Tryz.underlying26 rfl rfl Tryz.sizeOf23 rfl) rfl (s_rd (r_aaddr (sz := 1) ⟨by decide, by decide⟩ Tryz.underlying23 Tryz.sizeOf22 rfl rfl) rfl ?_))))))
 refine s_rd (r_cload Tryz.isAgg22 rfl (j := 0) rfl rfl) rfl (pull fun t3 h_t3 => s_st (s_call (ψ := fun (_ : Unit) => bv t3) (args := [.tmp 25]) Tryz.call76 rfl (ref38_names_ok h_t3) ⟨arg rfl, trivial⟩ (fun _ _ _ _ h => h)) rfl (fun _ => s_rd (r_not rfl) rfl (mv1 rfl rfl ?_)))
 refine b_split (t := 28) rfl (fun _ => ?_) (fun _ => ?_)
 ·refine s_off rfl rfl rfl rfl rfl (s_off rfl rfl rfl rfl rfl (s_off rfl rfl rfl rfl rfl (s_off rfl rfl rfl rfl rfl (s_off rfl rfl rfl rfl rfl (s_rd (r_pickT rfl rfl) rfl (l_nil (n_then (ref_condT rfl rfl (ref_seq (ref_region (as1 rfl rfl (l_nil (n_then (ref_ret (r_then ?_)))))))))))))))
  exact fin1 (.inl rfl) () [] rfl trivial rfl (rv_tmp rfl)
 refine s_on rfl rfl rfl (s_rd (r_faddr (fo := 0) Tryz.underlying26 rfl rfl Tryz.sizeOf23 rfl) rfl (s_on rfl rfl rfl (s_rd (r_aaddr (sz := 1) ⟨by decide, by decide⟩ Tryz.underlying23 Tryz.sizeOf22 rfl rfl) rfl ?_)))
 refine s_on rfl rfl rfl (s_rd (r_cload Tryz.isAgg22 rfl (j := 0) rfl rfl) rfl (s_on rfl rfl rfl (pull fun t4 h_t4 => s_st (s_call (ψ := fun (_ : Unit) => bv t4) (args := [.tmp 31]) Tryz.call76 rfl (ref38_names_ok h_t4) ⟨arg rfl, trivial⟩ (fun _ _ _ _ h => h)) rfl (fun _ => s_on rfl rfl rfl (s_rd (r_not rfl) rfl (s_rd (r_pickF rfl rfl) rfl (l_nil (n_then ?_))))))))
 refine ref_cond rfl (fun hb5 => ?_) (fun hb5 => ?_)
 ·refine ref_seq (ref_region (as1 rfl rfl (l_nil (n_then (ref_ret (r_then ?_))))))
  exact fin1 (.inl rfl) () [] rfl trivial rfl (rv_tmp rfl)
 refine ref_skip (n_then (ref_seq (ref_seq (ref_region (as1 rfl rfl (l_nil (n_then ?_)))))))
 refine ref_loopX (f := (ref38_forms_l1 l_0)) (Γl := (fun (s12 : Int) (x13 : Unit) => [(1, pv (ptr b1 0)), (3, iv .i64 s12)])) (Ωl := (fun (s12 : Int) (x13 : Unit) => [oc b1 [slv rS l_0.Sides.i0, slv rS l_0.Sides.i1, slv rT_Cas l_0.Cases]])) (Γb := (fun (q19 : Unit) (y20 : Unit) => [(1, pv (ptr b1 0))])) (Ωb := (fun (q19 : Unit) (y20 : Unit) => [oc b1 [slv rS l_0.Sides.i0, slv rS l_0.Sides.i1, slv rT_Cas l_0.Cases]])) (kr := (fun a : Int => some a)) 0 () (weak [0] ⟨rfl, rfl, trivial⟩ ⟨rfl, trivial⟩) (fun s12 x13 => ?_) (fun q19 y20 => ?_)
 ·unfold ref38_forms_l1
  refine ref_seq (ref_seq (ref_region (mv1 rfl rfl (s_rd (r_faddr (fo := 2) Tryz.underlying26 rfl rfl Tryz.sizeOf24 rfl) rfl (s_rd (r_cload Tryz.isAgg24 rfl (j := 0) rfl rfl) rfl (s_rd (r_len Tryz.underlying24 rfl) rfl (s_rd (r_lss rfl rfl) rfl (l_nil (n_then ?_)))))))))
  refine ref_cond rfl (fun hb14 => ?_) (fun hb14 => ?_)
  ·refine ref_skip (n_then (ref_seq (ref_block (ref_seq (ref_region (s_rd (r_faddr (fo := 2) Tryz.underlying26 rfl rfl Tryz.sizeOf24 rfl) rfl (s_rd (r_cload Tryz.isAgg24 rfl (j := 0) rfl rfl) rfl (mv1 rfl rfl (pull fun t15 h_t15 => s_rd (r_index h_t15 Tryz.underlying24 el_60 rfl rfl) rfl (s_rd (r_fea (fo := 0) (ρ := rT_Cas) (y := t15) (ρ' := rS) (z := t15.Name) Tryz.underlying60 rfl rfl Tryz.sizeOf9 rfl rfl rfl) rfl (s_rd (r_load el_9 rfl) rfl (pull fun t16 h_t16 => s_st (s_call (ψ := fun (_ : Unit) => bv t16) (args := [.tmp 47]) Tryz.call77 rfl (ref01_ValidName_ok h_t16) ⟨arg rfl, trivial⟩ (fun _ _ _ _ h => h)) rfl (fun _ => s_rd (r_not rfl) rfl (l_nil (b_of (nrm [oc b1 [slv rS l_0.Sides.i0, slv rS l_0.Sides.i1, slv rT_Cas l_0.Cases]] rfl) (n_then ?_))))))))))))))))
   refine ref_cond rfl (fun hb17 => ?_) (fun hb17 => ?_)
   ·refine ref_seq (ref_region (as1 rfl rfl (l_nil (n_then (ref_ret (r_block (r_then ?_)))))))
    refine retX ?_
    refine r_block (r_then ?_)
    exact fin1 (.inl rfl) () [] rfl trivial rfl (rv_tmp rfl)
   refine ref_skip (n_block (n_then (ref_region (mv1 rfl rfl (s_rd (r_add rfl rfl) rfl (as1 rfl rfl (b_let (f := iv .i64) (t := 3) rfl fun i18 => l_nil ?_)))))))
   exact goX () (weak [0] ⟨rfl, rfl, trivial⟩ ⟨rfl, trivial⟩)
  refine ref_exit (x_then ?_)
  exact brkX () (weak [0] ⟨rfl, trivial⟩ ⟨rfl, trivial⟩)
 refine n_then (ref_seq (ref_seq (ref_region (s_rd (r_faddr (fo := 0) Tryz.underlying26 rfl rfl Tryz.sizeOf23 rfl) rfl (s_rd (r_aaddr (sz := 1) ⟨by decide, by decide⟩ Tryz.underlying23 Tryz.sizeOf22 rfl rfl) rfl ?_)))))
 refine s_rd (r_cload Tryz.isAgg22 rfl (j := 0) rfl rfl) rfl (pull fun t21 h_t21 => s_st (s_call (ψ := fun (_ : Unit) => bv t21) (args := [.tmp 52]) Tryz.call78 rfl (ref38_ascending_ok h_t21) ⟨arg rfl, trivial⟩ (fun _ _ _ _ h => h)) rfl (fun _ => s_rd (r_not rfl) rfl (mv1 rfl rfl ?_)))
 refine b_split (t := 55) rfl (fun _ => ?_) (fun _ => ?_)
 ·refine s_off rfl rfl rfl rfl rfl (s_off rfl rfl rfl rfl rfl (s_off rfl rfl rfl rfl rfl (s_off rfl rfl rfl rfl rfl (s_off rfl rfl rfl rfl rfl (s_rd (r_pickT rfl rfl) rfl (l_nil (n_then (ref_condT rfl rfl (ref_seq (ref_region (as1 rfl rfl (l_nil (n_then (ref_ret (r_then ?_)))))))))))))))
  exact fin1 (.inl rfl) () [] rfl trivial rfl (rv_tmp rfl)
 refine s_on rfl rfl rfl (s_rd (r_faddr (fo := 0) Tryz.underlying26 rfl rfl Tryz.sizeOf23 rfl) rfl (s_on rfl rfl rfl (s_rd (r_aaddr (sz := 1) ⟨by decide, by decide⟩ Tryz.underlying23 Tryz.sizeOf22 rfl rfl) rfl ?_)))
 refine s_on rfl rfl rfl (s_rd (r_cload Tryz.isAgg22 rfl (j := 0) rfl rfl) rfl (s_on rfl rfl rfl (pull fun t22 h_t22 => s_st (s_call (ψ := fun (_ : Unit) => bv t22) (args := [.tmp 58]) Tryz.call78 rfl (ref38_ascending_ok h_t22) ⟨arg rfl, trivial⟩ (fun _ _ _ _ h => h)) rfl (fun _ => s_on rfl rfl rfl (s_rd (r_not rfl) rfl (s_rd (r_pickF rfl rfl) rfl (l_nil (n_then ?_))))))))
 refine ref_cond rfl (fun hb23 => ?_) (fun hb23 => ?_)
 ·refine ref_seq (ref_region (as1 rfl rfl (l_nil (n_then (ref_ret (r_then ?_))))))
  exact fin1 (.inl rfl) () [] rfl trivial rfl (rv_tmp rfl)
 refine ref_skip (n_then (ref_seq (ref_seq (ref_region (as1 rfl rfl (l_nil (n_then ?_)))))))
 refine ref_loopX (f := (ref38_forms_l2 l_0)) (Γl := (fun (s32 : Int) (x33 : Unit) => [(1, pv (ptr b1 0)), (4, iv .i64 s32)])) (Ωl := (fun (s32 : Int) (x33 : Unit) => [oc b1 [slv rS l_0.Sides.i0, slv rS l_0.Sides.i1, slv rT_Cas l_0.Cases]])) (Γb := (fun (q41 : Unit) (y42 : Unit) => [])) (Ωb := (fun (q41 : Unit) (y42 : Unit) => [])) (kr := (fun a : Int => some a)) 0 () (weak [0] ⟨rfl, rfl, trivial⟩ ⟨rfl, trivial⟩) (fun s32 x33 => ?_) (fun q41 y42 => ?_)
 ·unfold ref38_forms_l2
  refine ref_seq (ref_seq (ref_region (mv1 rfl rfl (s_rd (r_faddr (fo := 2) Tryz.underlying26 rfl rfl Tryz.sizeOf24 rfl) rfl (s_rd (r_cload Tryz.isAgg24 rfl (j := 0) rfl rfl) rfl (s_rd (r_len Tryz.underlying24 rfl) rfl (s_rd (r_lss rfl rfl) rfl (l_nil (n_then ?_)))))))))
  refine ref_cond rfl (fun hb34 => ?_) (fun hb34 => ?_)
  ·refine ref_skip (n_then (ref_seq (ref_block (ref_seq (ref_region (s_rd (r_faddr (fo := 2) Tryz.underlying26 rfl rfl Tryz.sizeOf24 rfl) rfl (s_rd (r_cload Tryz.isAgg24 rfl (j := 0) rfl rfl) rfl (mv1 rfl rfl (pull fun t35 h_t35 => s_rd (r_index h_t35 Tryz.underlying24 el_60 rfl rfl) rfl (s_rd (r_fea (fo := 1) (ρ := rT_Cas) (y := t35) (ρ' := (rSl rS)) (z := t35.Facts) Tryz.underlying60 rfl rfl Tryz.sizeOf22 rfl rfl rfl) rfl (s_rd (r_load el_22 rfl) rfl (pull fun t36 h_t36 => s_st (s_call (ψ := fun (_ : Unit) => bv t36) (args := [.tmp 74]) Tryz.call78 rfl (ref38_ascending_ok h_t36) ⟨arg rfl, trivial⟩ (fun _ _ _ _ h => h)) rfl (fun _ => s_rd (r_not rfl) rfl (mv1 rfl rfl ?_))))))))))))))
   refine b_split (t := 77) rfl (fun _ => ?_) (fun _ => ?_)
   ·refine s_off rfl rfl rfl rfl rfl (s_off rfl rfl rfl rfl rfl (s_off rfl rfl rfl rfl rfl (s_off rfl rfl rfl rfl rfl (s_off rfl rfl rfl rfl rfl (s_off rfl rfl rfl rfl rfl (s_off rfl rfl rfl rfl rfl (s_off rfl rfl rfl rfl rfl (s_rd (r_pickT rfl rfl) rfl (l_nil (n_then (ref_condT rfl rfl (ref_seq (ref_region (as1 rfl rfl (l_nil (n_then (ref_ret (r_block (r_then ?_)))))))))))))))))))
    refine retX ?_
    refine r_block (r_then ?_)
    exact fin1 (.inl rfl) () [] rfl trivial rfl (rv_tmp rfl)
   refine s_on rfl rfl rfl (s_rd (r_faddr (fo := 2) Tryz.underlying26 rfl rfl Tryz.sizeOf24 rfl) rfl (s_on rfl rfl rfl (s_rd (r_cload Tryz.isAgg24 rfl (j := 0) rfl rfl) rfl (s_on rfl rfl rfl (mv1 rfl rfl (s_on rfl rfl rfl (pull fun t37 h_t37 => s_rd (r_index h_t37 Tryz.underlying24 el_60 rfl rfl) rfl (s_on rfl rfl rfl (s_rd (r_fea (fo := 3) (ρ := rT_Cas) (y := t37) (ρ' := (rSl rS)) (z := t37.Reason) Tryz.underlying60 rfl rfl Tryz.sizeOf22 rfl rfl rfl) rfl (s_on rfl rfl rfl (s_rd (r_load el_22 rfl) rfl (s_on rfl rfl rfl (pull fun t38 h_t38 => s_st (s_call (ψ := fun (_ : Unit) => bv t38) (args := [.tmp 83]) Tryz.call78 rfl (ref38_ascending_ok h_t38) ⟨arg rfl, trivial⟩ (fun _ _ _ _ h => h)) rfl (fun _ => s_on rfl rfl rfl (s_rd (r_not rfl) rfl (s_rd (r_pickF rfl rfl) rfl (l_nil (b_of (nrm [oc b1 [slv rS l_0.Sides.i0, slv rS l_0.Sides.i1, slv rT_Cas l_0.Cases]] rfl) (n_then ?_)))))))))))))))))))
   refine ref_cond rfl (fun hb39 => ?_) (fun hb39 => ?_)
   ·refine ref_seq (ref_region (as1 rfl rfl (l_nil (n_then (ref_ret (r_block (r_then ?_)))))))
    refine retX ?_
    refine r_block (r_then ?_)
    exact fin1 (.inl rfl) () [] rfl trivial rfl (rv_tmp rfl)
   refine ref_skip (n_block (n_then (ref_region (mv1 rfl rfl (s_rd (r_add rfl rfl) rfl (as1 rfl rfl (b_let (f := iv .i64) (t := 4) rfl fun i40 => l_nil ?_)))))))
   exact goX () (weak [0] ⟨rfl, rfl, trivial⟩ ⟨rfl, trivial⟩)
  refine ref_exit (x_then ?_)
  exact brkX () (weak [] trivial trivial)
 refine n_then (ref_seq (ref_region (as1 rfl rfl (l_nil (n_then (ref_ret ?_))))))
 exact fin1 (.inl rfl) () [] rfl trivial rfl (rv_tmp rfl)

/-! deliberation/deliberationref38.factors -/
noncomputable def ref38_factors_l1 (l_0 : T_Lib) (s_1 : (List ByteArray)) (s10 : Int) : Option (Sum ((Sum (Bool) (Unit))) (Int)) :=
 bif decide (s10 < (s_1.length : Int)) then
  Option.bind (idxM s_1 s10) fun t13 =>
  Option.bind (ref38_In_m l_0.Sides.i0 t13) fun t14 =>
  bif !t14 then
   Option.bind (idxM s_1 s10) fun t15 =>
   Option.bind (ref38_In_m l_0.Sides.i1 t15) fun t16 =>
   bif !t16 then
    some (Sum.inl (Sum.inl false))
   else
    letM (iadd .i64 s10 1) fun i18 =>
    some (Sum.inr i18)
  else
   letM (iadd .i64 s10 1) fun i19 =>
   some (Sum.inr i19)
 else
  some (Sum.inl (Sum.inr ()))

noncomputable def ref38_factors_m (l_0 : T_Lib) (s_1 : (List ByteArray)) : Option (Bool) :=
 Option.bind (loopC (ref38_factors_l1 l_0 s_1) 0) (sumK (fun a : Bool => some a) fun q20 : Unit =>
  some true)

theorem ref38_factors_ok {l_0 : T_Lib} {s_1 : (List ByteArray)} {r : Bool} (hm : ref38_factors_m l_0 s_1 = some r) :
  FnOk prog 48 [ag [slv rS l_0.Sides.i0, slv rS l_0.Sides.i1, slv rT_Cas l_0.Cases], slv rS s_1] [] (fun (x : Unit) => [bv r]) (fun (x : Unit) => []) := by
 refine fn_ok (fn := Tryz.f48) (N := 32) (res := fun r x => [bv r]) (Ω1 := fun r x => []) Tryz.func48 rfl rfl hm rfl (fun E hM => ?_)
 unfold ref38_factors_m
 refine ref_seq (ref_region (s_st (s_box (part_agO (ψs := [slv rS l_0.Sides.i0, slv rS l_0.Sides.i1, slv rT_Cas l_0.Cases]) rfl ⟨.inl slv_at, .inl slv_at, .inl slv_at, trivial⟩)) rfl (fun b1 => as1 rfl rfl (l_nil (n_then (ref_seq (ref_seq (ref_region (as1 rfl rfl (l_nil (n_then ?_)))))))))))
 refine ref_loopX (f := (ref38_factors_l1 l_0 s_1)) (Γl := (fun (s10 : Int) (x11 : Unit) => [(1, slv rS s_1), (2, pv (ptr b1 0)), (5, iv .i64 s10)])) (Ωl := (fun (s10 : Int) (x11 : Unit) => [oc b1 [slv rS l_0.Sides.i0, slv rS l_0.Sides.i1, slv rT_Cas l_0.Cases]])) (Γb := (fun (q20 : Unit) (y21 : Unit) => [])) (Ωb := (fun (q20 : Unit) (y21 : Unit) => [])) (kr := (fun a : Bool => some a)) 0 () (weak [0] ⟨rfl, rfl, rfl, trivial⟩ ⟨rfl, trivial⟩) (fun s10 x11 => ?_) (fun q20 y21 => ?_)
 ·unfold ref38_factors_l1
  refine ref_seq (ref_seq (ref_region (mv1 rfl rfl (mv1 rfl rfl (s_rd (r_len Tryz.underlying22 rfl) rfl (s_rd (r_lss rfl rfl) rfl (l_nil (n_then ?_))))))))
  refine ref_cond rfl (fun hb12 => ?_) (fun hb12 => ?_)
  ·refine ref_skip (n_then (ref_seq (ref_block (ref_seq ?_))))
   refine ref_draw [0, 1, 2, 3, 4, 5, 6, 8, 9, 10, 11, 12, 13, 14, 15, 16, 18, 19] rfl (by kernel_rfl) (fun hok => ?_)
   refine a_rd (i := 0) hok rfl (by kernel_rfl) rfl (r_faddr (fo := 0) Tryz.underlying26 rfl rfl Tryz.sizeOf23 rfl) rfl ?_
   refine a_rd (i := 1) hok rfl (by kernel_rfl) rfl (r_aaddr (sz := 1) ⟨by decide, by decide⟩ Tryz.underlying23 Tryz.sizeOf22 rfl rfl) rfl ?_
   refine a_rd (i := 2) hok rfl (by kernel_rfl) rfl (r_cload Tryz.isAgg22 rfl (j := 0) rfl rfl) rfl ?_
   refine a_rd (i := 3) hok rfl (by kernel_rfl) rfl (r_move rfl) rfl ?_
   refine a_rd (i := 4) hok rfl (by kernel_rfl) rfl (r_move rfl) rfl ?_
   refine pull fun t13 h_t13 => ?_
   refine a_rd (i := 5) hok rfl (by kernel_rfl) rfl (r_index h_t13 Tryz.underlying22 el_9 rfl rfl) rfl ?_
   refine a_rd (i := 6) hok rfl (by kernel_rfl) rfl (r_load el_9 rfl) rfl ?_
   refine pull fun t14 h_t14 => ?_
   refine a_next hok 7 [] (by kernel_rfl) ?_ trivial
   refine a_st (i := 7) hok rfl rfl (s_call (ψ := fun (_ : Unit) => bv t14) (args := [.tmp 14, .tmp 18]) Tryz.call47 rfl (ref38_In_ok h_t14) ⟨arg rfl, arg rfl, trivial⟩ (fun _ _ _ _ h => h)) (by intro _ h; cases h; rfl) (fun _ => ⟨trivial, ⟨trivial, ⟨trivial, ⟨trivial, ⟨trivial, ⟨trivial, ⟨trivial, trivial⟩⟩⟩⟩⟩⟩⟩) (fun _ => ?_)
   refine a_rd (i := 8) hok rfl (by kernel_rfl) rfl (r_not rfl) rfl ?_
   refine a_rd (i := 9) hok rfl (by kernel_rfl) rfl (r_move rfl) rfl ?_
   refine b_split (t := 21) rfl (fun _ => ?_) (fun _ => ?_)
   ·refine a_rdOn (i := 10) hok rfl rfl rfl rfl (by kernel_rfl) rfl (r_faddr (fo := 0) Tryz.underlying26 rfl rfl Tryz.sizeOf23 rfl) rfl ?_
    refine a_rdOn (i := 11) hok rfl rfl rfl rfl (by kernel_rfl) rfl (r_aaddr (sz := 1) ⟨by decide, by decide⟩ Tryz.underlying23 Tryz.sizeOf22 rfl rfl) rfl ?_
    refine a_rdOn (i := 12) hok rfl rfl rfl rfl (by kernel_rfl) rfl (r_cload Tryz.isAgg22 rfl (j := 0) rfl rfl) rfl ?_
    refine a_rdOn (i := 13) hok rfl rfl rfl rfl (by kernel_rfl) rfl (r_move rfl) rfl ?_
    refine a_rdOn (i := 14) hok rfl rfl rfl rfl (by kernel_rfl) rfl (r_move rfl) rfl ?_
    refine pull fun t15 h_t15 => ?_
    refine a_rdOn (i := 15) hok rfl rfl rfl rfl (by kernel_rfl) rfl (r_index h_t15 Tryz.underlying22 el_9 rfl rfl) rfl ?_
    refine a_rdOn (i := 16) hok rfl rfl rfl rfl (by kernel_rfl) rfl (r_load el_9 rfl) rfl ?_
    refine pull fun t16 h_t16 => ?_
    refine a_next hok 17 [] (by kernel_rfl) ?_ trivial
    refine a_stOn (i := 17) hok rfl rfl rfl rfl rfl (s_call (ψ := fun (_ : Unit) => bv t16) (args := [.tmp 24, .tmp 28]) Tryz.call47 rfl (ref38_In_ok h_t16) ⟨arg rfl, arg rfl, trivial⟩ (fun _ _ _ _ h => h)) (by intro _ h; cases h; rfl) (fun _ => ⟨trivial, ⟨trivial, ⟨trivial, ⟨trivial, ⟨trivial, ⟨trivial, ⟨trivial, ⟨trivial, ⟨trivial, ⟨trivial, ⟨trivial, ⟨trivial, ⟨trivial, ⟨⟨⟨rfl, rfl⟩, trivial⟩, ⟨trivial, ⟨trivial, trivial⟩⟩⟩⟩⟩⟩⟩⟩⟩⟩⟩⟩⟩⟩⟩⟩) (fun _ => ?_)
    refine a_rdOn (i := 18) hok rfl rfl rfl rfl (by kernel_rfl) rfl (r_not rfl) rfl ?_
    refine a_rd (i := 19) hok rfl (by kernel_rfl) rfl (r_pickT rfl rfl) rfl ?_
    refine a_fin hok (by kernel_rfl) ?_
    refine n_then ?_
    refine ref_cond rfl (fun hb17 => ?_) (fun hb17 => ?_)
    ·refine ref_seq (ref_region (as1 rfl rfl (l_nil (n_then (ref_ret (r_block (r_then ?_)))))))
     refine retX ?_
     refine r_block (r_then ?_)
     exact fin1 (.inl rfl) () [] rfl trivial rfl (rv_tmp rfl)
    refine ref_skip (n_block (n_then (ref_region (mv1 rfl rfl (s_rd (r_add rfl rfl) rfl (as1 rfl rfl (b_let (f := iv .i64) (t := 5) rfl fun i18 => l_nil ?_)))))))
    exact goX () (weak [0] ⟨rfl, rfl, rfl, trivial⟩ ⟨rfl, trivial⟩)
   refine a_off (i := 10) hok rfl rfl rfl rfl rfl (by kernel_rfl) rfl rfl ?_
   refine a_off (i := 11) hok rfl rfl rfl rfl rfl (by kernel_rfl) rfl rfl ?_
   refine a_off (i := 12) hok rfl rfl rfl rfl rfl (by kernel_rfl) rfl rfl ?_
   refine a_off (i := 13) hok rfl rfl rfl rfl rfl (by kernel_rfl) rfl rfl ?_
   refine a_off (i := 14) hok rfl rfl rfl rfl rfl (by kernel_rfl) rfl rfl ?_
   refine a_off (i := 15) hok rfl rfl rfl rfl rfl (by kernel_rfl) rfl rfl ?_
   refine a_off (i := 16) hok rfl rfl rfl rfl rfl (by kernel_rfl) rfl rfl ?_
   refine a_next hok 17 [] (by kernel_rfl) ?_ trivial
   refine a_stOff (i := 17) hok rfl rfl rfl rfl rfl rfl (by intro _ h; cases h; rfl) ⟨trivial, ⟨trivial, ⟨trivial, ⟨trivial, ⟨trivial, ⟨trivial, ⟨trivial, ⟨trivial, ⟨trivial, ⟨trivial, ⟨trivial, ⟨trivial, ⟨trivial, ⟨⟨⟨rfl, rfl⟩, trivial⟩, ⟨trivial, ⟨trivial, trivial⟩⟩⟩⟩⟩⟩⟩⟩⟩⟩⟩⟩⟩⟩⟩⟩ ?_
   refine a_off (i := 18) hok rfl rfl rfl rfl rfl (by kernel_rfl) rfl rfl ?_
   refine a_rd (i := 19) hok rfl (by kernel_rfl) rfl (r_pickF rfl rfl) rfl ?_
   refine a_fin hok (by kernel_rfl) ?_
   refine n_then (ref_condF rfl rfl (ref_skip (n_block (n_then (ref_region (mv1 rfl rfl (s_rd (r_add rfl rfl) rfl (as1 rfl rfl (b_let (f := iv .i64) (t := 5) rfl fun i19 => l_nil ?_)))))))))
   exact goX () (weak [0] ⟨rfl, rfl, rfl, trivial⟩ ⟨rfl, trivial⟩)
  refine ref_exit (x_then ?_)
  exact brkX () (weak [] trivial trivial)
 refine n_then (ref_seq (ref_region (as1 rfl rfl (l_nil (n_then (ref_ret ?_))))))
 exact fin1 (.inl rfl) () [] rfl trivial rfl (rv_tmp rfl)

/-! deliberation/deliberationref38.Inside -/
noncomputable def ref38_Inside_l1 (a__0 : (List ByteArray)) (b_1 : (List ByteArray)) (s7 : Int) : Option (Sum ((Sum (Bool) (Unit))) (Int)) :=
 bif decide (s7 < (a__0.length : Int)) then
  Option.bind (idxM a__0 s7) fun t10 =>
  Option.bind (ref38_In_m b_1 t10) fun t11 =>
  bif !t11 then
   some (Sum.inl (Sum.inl false))
  else
   some (Sum.inr (iadd .i64 s7 1))
 else
  some (Sum.inl (Sum.inr ()))

noncomputable def ref38_Inside_m (a__0 : (List ByteArray)) (b_1 : (List ByteArray)) : Option (Bool) :=
 Option.bind (loopC (ref38_Inside_l1 a__0 b_1) 0) (sumK (fun a : Bool => some a) fun q13 : Unit =>
  some true)

theorem ref38_Inside_ok {a__0 : (List ByteArray)} {b_1 : (List ByteArray)} {r : Bool} (hm : ref38_Inside_m a__0 b_1 = some r) :
  FnOk prog 49 [slv rS a__0, slv rS b_1] [] (fun (x : Unit) => [bv r]) (fun (x : Unit) => []) := by
 refine fn_ok (fn := Tryz.f49) (N := 19) (res := fun r x => [bv r]) (Ω1 := fun r x => []) Tryz.func49 rfl rfl hm rfl (fun E hM => ?_)
 unfold ref38_Inside_m
 refine ref_seq (ref_region (as1 rfl rfl (l_nil (n_then (ref_seq (ref_seq (ref_region (as1 rfl rfl (l_nil (n_then ?_))))))))))
 refine ref_loopX (f := (ref38_Inside_l1 a__0 b_1)) (Γl := (fun (s7 : Int) (x8 : Unit) => [(0, slv rS a__0), (1, slv rS b_1), (5, iv .i64 s7)])) (Ωl := (fun (s7 : Int) (x8 : Unit) => [])) (Γb := (fun (q13 : Unit) (y14 : Unit) => [])) (Ωb := (fun (q13 : Unit) (y14 : Unit) => [])) (kr := (fun a : Bool => some a)) 0 () (weak [] ⟨rfl, rfl, rfl, trivial⟩ trivial) (fun s7 x8 => ?_) (fun q13 y14 => ?_)
 ·unfold ref38_Inside_l1
  refine ref_seq (ref_seq (ref_region (mv1 rfl rfl (mv1 rfl rfl (s_rd (r_len Tryz.underlying22 rfl) rfl (s_rd (r_lss rfl rfl) rfl (l_nil (n_then ?_))))))))
  refine ref_cond rfl (fun hb9 => ?_) (fun hb9 => ?_)
  ·refine ref_skip (n_then (ref_seq (ref_block (ref_seq (ref_region (mv1 rfl rfl (mv1 rfl rfl (mv1 rfl rfl (pull fun t10 h_t10 => s_rd (r_index h_t10 Tryz.underlying22 el_9 rfl rfl) rfl (s_rd (r_load el_9 rfl) rfl (pull fun t11 h_t11 => s_st (s_call (ψ := fun (_ : Unit) => bv t11) (args := [.tmp 12, .tmp 16]) Tryz.call47 rfl (ref38_In_ok h_t11) ⟨arg rfl, arg rfl, trivial⟩ (fun _ _ _ _ h => h)) rfl (fun _ => s_rd (r_not rfl) rfl (l_nil (n_then ?_))))))))))))))
   refine ref_cond rfl (fun hb12 => ?_) (fun hb12 => ?_)
   ·refine ref_seq (ref_region (as1 rfl rfl (l_nil (n_then (ref_ret (r_block (r_then ?_)))))))
    refine retX ?_
    refine r_block (r_then ?_)
    exact fin1 (.inl rfl) () [] rfl trivial rfl (rv_tmp rfl)
   refine ref_skip (n_block (n_then (ref_region (mv1 rfl rfl (s_rd (r_add rfl rfl) rfl (as1 rfl rfl (l_nil ?_)))))))
   exact goX () (weak [] ⟨rfl, rfl, rfl, trivial⟩ trivial)
  refine ref_exit (x_then ?_)
  exact brkX () (weak [] trivial trivial)
 refine n_then (ref_seq (ref_region (as1 rfl rfl (l_nil (n_then (ref_ret ?_))))))
 exact fin1 (.inl rfl) () [] rfl trivial rfl (rv_tmp rfl)

/-! deliberation/deliberationref38.Validate -/
noncomputable def ref38_Validate_l1 (l_0 : T_Lib) (s10 : Int) : Option (Sum ((Sum (Int) (Unit))) (Int)) :=
 bif decide (s10 < (l_0.Sides.i0.length : Int)) then
  Option.bind (idxM l_0.Sides.i0 s10) fun t13 =>
  Option.bind (ref38_In_m l_0.Sides.i1 t13) fun t14 =>
  bif t14 then
   some (Sum.inl (Sum.inl 10))
  else
   letM (iadd .i64 s10 1) fun i16x =>
   some (Sum.inr i16x)
 else
  some (Sum.inl (Sum.inr ()))

noncomputable def ref38_Validate_l3 (l_0 : T_Lib) (s37 : Int) (s46 : Int) : Option (Sum ((Sum (Int) (Unit))) (Int)) :=
 bif decide (s46 < s37) then
  Option.bind (idxM l_0.Cases s37) fun t49 =>
  Option.bind (idxM l_0.Cases s46) fun t50 =>
  bif t49.Name.toList == t50.Name.toList then
   some (Sum.inl (Sum.inl 5))
  else
   letM (iadd .i64 s46 1) fun k52 =>
   some (Sum.inr k52)
 else
  some (Sum.inl (Sum.inr ()))

noncomputable def ref38_Validate_l2 (l_0 : T_Lib) (s37 : Int) : Option (Sum ((Sum (Int) (Unit))) (Int)) :=
 bif decide (s37 < (l_0.Cases.length : Int)) then
  Option.bind (loopC (ref38_Validate_l3 l_0 s37) 0) (sumK (fun a : Int => some (Sum.inl (Sum.inl a))) fun q53 : Unit =>
   letM (iadd .i64 s37 1) fun i55 =>
   some (Sum.inr i55))
 else
  some (Sum.inl (Sum.inr ()))

noncomputable def ref38_Validate_l4 (l_0 : T_Lib) (s64 : Int) : Option (Sum ((Sum (Int) (Unit))) (Int)) :=
 bif decide (s64 < (l_0.Cases.length : Int)) then
  Option.bind (idxM l_0.Cases s64) fun t67 =>
  bif t67.Winner != 1 then
   Option.bind (idxM l_0.Cases s64) fun t68 =>
   bif t68.Winner != 2 then
    some (Sum.inl (Sum.inl 1))
   else
    letM (iadd .i64 s64 1) fun i70 =>
    some (Sum.inr i70)
  else
   letM (iadd .i64 s64 1) fun i71 =>
   some (Sum.inr i71)
 else
  some (Sum.inl (Sum.inr ()))

noncomputable def ref38_Validate_l5 (l_0 : T_Lib) (s84 : Int) : Option (Sum ((Sum (Int) (Unit))) (Int)) :=
 bif decide (s84 < (l_0.Cases.length : Int)) then
  Option.bind (idxM l_0.Cases s84) fun t87 =>
  Option.bind (ref38_factors_m l_0 t87.Facts) fun t89 =>
  bif !t89 then
   some (Sum.inl (Sum.inl 6))
  else
   bif (t87.Reason.length : Int) == 0 then
    some (Sum.inl (Sum.inl 6))
   else
    Option.bind (ref38_Own_m l_0 t87.Facts t87.Winner) fun t90 =>
    Option.bind (ref38_Inside_m t87.Reason t90) fun t92 =>
    bif !t92 then
     some (Sum.inl (Sum.inl 6))
    else
     letM (iadd .i64 s84 1) fun i94 =>
     some (Sum.inr i94)
 else
  some (Sum.inl (Sum.inr ()))

noncomputable def ref38_Validate_m (l_0 : T_Lib) : Option (Int) :=
 Option.bind (ref38_forms_m l_0) fun e2 =>
 bif e2 != 0 then
  some e2
 else
  Option.bind (loopC (ref38_Validate_l1 l_0) 0) (sumK (fun a : Int => some a) fun q17 : Unit =>
   Option.bind (loopC (ref38_Validate_l2 l_0) 0) (sumK (fun a : Int => some a) fun q56 : Unit =>
    Option.bind (loopC (ref38_Validate_l4 l_0) 0) (sumK (fun a : Int => some a) fun q72 : Unit =>
     Option.bind (loopC (ref38_Validate_l5 l_0) 0) (sumK (fun a : Int => some a) fun q95 : Unit =>
      some 0))))

theorem ref38_Validate_ok {l_0 : T_Lib} {r : Int} (hm : ref38_Validate_m l_0 = some r) :
  FnOk prog 10 [ag [slv rS l_0.Sides.i0, slv rS l_0.Sides.i1, slv rT_Cas l_0.Cases]] [] (fun (x : Unit) => [iv .i64 r]) (fun (x : Unit) => []) := by
 refine fn_ok (fn := Tryz.f10) (N := 116) (res := fun r x => [iv .i64 r]) (Ω1 := fun r x => []) Tryz.func10 rfl rfl hm rfl (fun E hM => ?_)
 unfold ref38_Validate_m
 refine ref_seq (ref_region (s_st (s_box (part_agO (ψs := [slv rS l_0.Sides.i0, slv rS l_0.Sides.i1, slv rT_Cas l_0.Cases]) rfl ⟨.inl slv_at, .inl slv_at, .inl slv_at, trivial⟩)) rfl (fun b1 => as1 rfl rfl (l_nil (n_then (ref_seq (ref_seq (ref_region (s_rd (r_cloadS Tryz.isAgg26 Tryz.sizeOf26 rfl (j := 0) rfl rfl rfl) rfl (pull fun e2 h_e2 => s_st (s_call (ψ := fun (_ : Unit) => iv .i64 e2) (args := [.tmp 10]) Tryz.call46 rfl (ref38_forms_ok h_e2) ⟨arg rfl, trivial⟩ (fun _ _ _ _ h => h)) rfl (fun _ => as1 rfl rfl (l_nil (n_then (ref_seq (ref_region (mv1 rfl rfl (s_rd (r_neq rfl rfl) rfl (l_nil (n_then ?_)))))))))))))))))))
 refine ref_cond rfl (fun hb3 => ?_) (fun hb3 => ?_)
 ·refine ref_seq (ref_region (mv1 rfl rfl (as1 rfl rfl (l_nil (n_then (ref_ret (r_then ?_)))))))
  exact fin1 (.inl rfl) () [] rfl trivial rfl (rv_tmp rfl)
 refine ref_skip (n_then (ref_seq (ref_seq (ref_region (as1 rfl rfl (l_nil (n_then ?_)))))))
 refine ref_loopX (f := (ref38_Validate_l1 l_0)) (Γl := (fun (s10 : Int) (x11 : Unit) => [(1, pv (ptr b1 0)), (4, iv .i64 s10)])) (Ωl := (fun (s10 : Int) (x11 : Unit) => [oc b1 [slv rS l_0.Sides.i0, slv rS l_0.Sides.i1, slv rT_Cas l_0.Cases]])) (Γb := (fun (q17 : Unit) (y18 : Unit) => [(1, pv (ptr b1 0))])) (Ωb := (fun (q17 : Unit) (y18 : Unit) => [oc b1 [slv rS l_0.Sides.i0, slv rS l_0.Sides.i1, slv rT_Cas l_0.Cases]])) (kr := (fun a : Int => some a)) 0 () (weak [0] ⟨rfl, rfl, trivial⟩ ⟨rfl, trivial⟩) (fun s10 x11 => ?_) (fun q17 y18 => ?_)
 ·unfold ref38_Validate_l1
  refine ref_seq (ref_seq (ref_region (mv1 rfl rfl (s_rd (r_faddr (fo := 0) Tryz.underlying26 rfl rfl Tryz.sizeOf23 rfl) rfl (s_rd (r_aaddr (sz := 1) ⟨by decide, by decide⟩ Tryz.underlying23 Tryz.sizeOf22 rfl rfl) rfl ?_)))))
  refine s_rd (r_cload Tryz.isAgg22 rfl (j := 0) rfl rfl) rfl (s_rd (r_len Tryz.underlying22 rfl) rfl (s_rd (r_lss rfl rfl) rfl (l_nil (n_then ?_))))
  refine ref_cond rfl (fun hb12 => ?_) (fun hb12 => ?_)
  ·refine ref_skip (n_then (ref_seq (ref_block (ref_seq ?_))))
   refine ref_draw [0, 1, 2, 3, 4, 5, 6, 7, 8] rfl (by kernel_rfl) (fun hok => ?_)
   refine a_rd (i := 0) hok rfl (by kernel_rfl) rfl (r_faddr (fo := 0) Tryz.underlying26 rfl rfl Tryz.sizeOf23 rfl) rfl ?_
   refine a_rd (i := 1) hok rfl (by kernel_rfl) rfl (r_aaddr (sz := 1) ⟨by decide, by decide⟩ Tryz.underlying23 Tryz.sizeOf22 rfl rfl) rfl ?_
   refine a_rd (i := 2) hok rfl (by kernel_rfl) rfl (r_cload Tryz.isAgg22 rfl (j := 0) rfl rfl) rfl ?_
   refine a_rd (i := 3) hok rfl (by kernel_rfl) rfl (r_faddr (fo := 0) Tryz.underlying26 rfl rfl Tryz.sizeOf23 rfl) rfl ?_
   refine a_rd (i := 4) hok rfl (by kernel_rfl) rfl (r_aaddr (sz := 1) ⟨by decide, by decide⟩ Tryz.underlying23 Tryz.sizeOf22 rfl rfl) rfl ?_
   refine a_rd (i := 5) hok rfl (by kernel_rfl) rfl (r_cload Tryz.isAgg22 rfl (j := 0) rfl rfl) rfl ?_
   refine a_rd (i := 6) hok rfl (by kernel_rfl) rfl (r_move rfl) rfl ?_
   refine pull fun t13 h_t13 => ?_
   refine a_rd (i := 7) hok rfl (by kernel_rfl) rfl (r_index h_t13 Tryz.underlying22 el_9 rfl rfl) rfl ?_
   refine a_rd (i := 8) hok rfl (by kernel_rfl) rfl (r_load el_9 rfl) rfl ?_
   refine pull fun t14 h_t14 => ?_
   refine a_next hok 9 [] (by kernel_rfl) ?_ trivial
   refine a_st (i := 9) hok rfl rfl (s_call (ψ := fun (_ : Unit) => bv t14) (args := [.tmp 25, .tmp 31]) Tryz.call47 rfl (ref38_In_ok h_t14) ⟨arg rfl, arg rfl, trivial⟩ (fun _ _ _ _ h => h)) (by intro _ h; cases h; rfl) (fun _ => ⟨trivial, ⟨trivial, ⟨trivial, ⟨⟨⟨rfl, rfl⟩, trivial⟩, ⟨trivial, ⟨trivial, ⟨trivial, ⟨trivial, ⟨trivial, trivial⟩⟩⟩⟩⟩⟩⟩⟩⟩) (fun _ => ?_)
   refine a_fin hok (by kernel_rfl) ?_
   refine n_then ?_
   refine ref_cond rfl (fun hb15 => ?_) (fun hb15 => ?_)
   ·refine ref_seq (ref_region (as1 rfl rfl (l_nil (n_then (ref_ret (r_block (r_then ?_)))))))
    refine retX ?_
    refine r_block (r_then ?_)
    exact fin1 (.inl rfl) () [] rfl trivial rfl (rv_tmp rfl)
   refine ref_skip (n_block (n_then (ref_region (mv1 rfl rfl (s_rd (r_add rfl rfl) rfl (as1 rfl rfl (b_let (f := iv .i64) (t := 4) rfl fun i16x => l_nil ?_)))))))
   exact goX () (weak [0] ⟨rfl, rfl, trivial⟩ ⟨rfl, trivial⟩)
  refine ref_exit (x_then ?_)
  exact brkX () (weak [0] ⟨rfl, trivial⟩ ⟨rfl, trivial⟩)
 refine n_then (ref_seq (ref_seq (ref_region (as1 rfl rfl (l_nil (n_then ?_))))))
 refine ref_loopX (f := (ref38_Validate_l2 l_0)) (Γl := (fun (s37 : Int) (x38 : Unit) => [(1, pv (ptr b1 0)), (5, iv .i64 s37)])) (Ωl := (fun (s37 : Int) (x38 : Unit) => [oc b1 [slv rS l_0.Sides.i0, slv rS l_0.Sides.i1, slv rT_Cas l_0.Cases]])) (Γb := (fun (q56 : Unit) (y57 : Unit) => [(1, pv (ptr b1 0))])) (Ωb := (fun (q56 : Unit) (y57 : Unit) => [oc b1 [slv rS l_0.Sides.i0, slv rS l_0.Sides.i1, slv rT_Cas l_0.Cases]])) (kr := (fun a : Int => some a)) 0 () (weak [0] ⟨rfl, rfl, trivial⟩ ⟨rfl, trivial⟩) (fun s37 x38 => ?_) (fun q56 y57 => ?_)
 ·unfold ref38_Validate_l2
  refine ref_seq (ref_seq (ref_region (mv1 rfl rfl (s_rd (r_faddr (fo := 2) Tryz.underlying26 rfl rfl Tryz.sizeOf24 rfl) rfl (s_rd (r_cload Tryz.isAgg24 rfl (j := 0) rfl rfl) rfl (s_rd (r_len Tryz.underlying24 rfl) rfl (s_rd (r_lss rfl rfl) rfl (l_nil (n_then ?_)))))))))
  refine ref_cond rfl (fun hb39 => ?_) (fun hb39 => ?_)
  ·refine ref_skip (n_then (ref_seq (ref_block (ref_seq (ref_region (as1 rfl rfl (l_nil (n_then ?_))))))))
   refine ref_loopX (f := (ref38_Validate_l3 l_0 s37)) (Γl := (fun (s46 : Int) (x47 : Unit) => [(1, pv (ptr b1 0)), (5, iv .i64 s37), (6, iv .i64 s46)])) (Ωl := (fun (s46 : Int) (x47 : Unit) => [oc b1 [slv rS l_0.Sides.i0, slv rS l_0.Sides.i1, slv rT_Cas l_0.Cases]])) (Γb := (fun (q53 : Unit) (y54 : Unit) => [(1, pv (ptr b1 0)), (5, iv .i64 s37)])) (Ωb := (fun (q53 : Unit) (y54 : Unit) => [oc b1 [slv rS l_0.Sides.i0, slv rS l_0.Sides.i1, slv rT_Cas l_0.Cases]])) (kr := (fun a : Int => some (Sum.inl (Sum.inl a)))) 0 () (weak [0] ⟨rfl, rfl, rfl, trivial⟩ ⟨rfl, trivial⟩) (fun s46 x47 => ?_) (fun q53 y54 => ?_)
   ·unfold ref38_Validate_l3
    refine ref_seq (ref_seq (ref_region (mv1 rfl rfl (mv1 rfl rfl (s_rd (r_lss rfl rfl) rfl (l_nil (n_then ?_)))))))
    refine ref_cond rfl (fun hb48 => ?_) (fun hb48 => ?_)
    ·refine ref_skip (n_then (ref_seq (ref_block (ref_seq ?_))))
     refine ref_draw [0, 1, 2, 3, 4, 5, 6, 7, 8, 9, 10, 11, 12] rfl (by kernel_rfl) (fun hok => ?_)
     refine a_rd (i := 0) hok rfl (by kernel_rfl) rfl (r_faddr (fo := 2) Tryz.underlying26 rfl rfl Tryz.sizeOf24 rfl) rfl ?_
     refine a_rd (i := 1) hok rfl (by kernel_rfl) rfl (r_cload Tryz.isAgg24 rfl (j := 0) rfl rfl) rfl ?_
     refine a_rd (i := 2) hok rfl (by kernel_rfl) rfl (r_move rfl) rfl ?_
     refine pull fun t49 h_t49 => ?_
     refine a_rd (i := 3) hok rfl (by kernel_rfl) rfl (r_index h_t49 Tryz.underlying24 el_60 rfl rfl) rfl ?_
     refine a_rd (i := 4) hok rfl (by kernel_rfl) rfl (r_fea (fo := 0) (ρ := rT_Cas) (y := t49) (ρ' := rS) (z := t49.Name) Tryz.underlying60 rfl rfl Tryz.sizeOf9 rfl rfl rfl) rfl ?_
     refine a_rd (i := 5) hok rfl (by kernel_rfl) rfl (r_load el_9 rfl) rfl ?_
     refine a_rd (i := 6) hok rfl (by kernel_rfl) rfl (r_faddr (fo := 2) Tryz.underlying26 rfl rfl Tryz.sizeOf24 rfl) rfl ?_
     refine a_rd (i := 7) hok rfl (by kernel_rfl) rfl (r_cload Tryz.isAgg24 rfl (j := 0) rfl rfl) rfl ?_
     refine a_rd (i := 8) hok rfl (by kernel_rfl) rfl (r_move rfl) rfl ?_
     refine pull fun t50 h_t50 => ?_
     refine a_rd (i := 9) hok rfl (by kernel_rfl) rfl (r_index h_t50 Tryz.underlying24 el_60 rfl rfl) rfl ?_
     refine a_rd (i := 10) hok rfl (by kernel_rfl) rfl (r_fea (fo := 0) (ρ := rT_Cas) (y := t50) (ρ' := rS) (z := t50.Name) Tryz.underlying60 rfl rfl Tryz.sizeOf9 rfl rfl rfl) rfl ?_
     refine a_rd (i := 11) hok rfl (by kernel_rfl) rfl (r_load el_9 rfl) rfl ?_
     refine a_rd (i := 12) hok rfl (by kernel_rfl) rfl (r_seql rfl rfl) rfl ?_
     refine a_fin hok (by kernel_rfl) ?_
     refine n_then ?_
     refine ref_cond rfl (fun hb51 => ?_) (fun hb51 => ?_)
     ·refine ref_seq (ref_region (as1 rfl rfl (l_nil (n_then (ref_ret (r_block (r_then ?_)))))))
      refine retX ?_
      refine r_block (r_block (r_then ?_))
      refine retX ?_
      refine r_block (r_then ?_)
      exact fin1 (.inl rfl) () [] rfl trivial rfl (rv_tmp rfl)
     refine ref_skip (n_block (n_then (ref_region (mv1 rfl rfl (s_rd (r_add rfl rfl) rfl (as1 rfl rfl (b_let (f := iv .i64) (t := 6) rfl fun k52 => l_nil ?_)))))))
     exact goX () (weak [0] ⟨rfl, rfl, rfl, trivial⟩ ⟨rfl, trivial⟩)
    refine ref_exit (x_then ?_)
    exact brkX () (weak [0] ⟨rfl, rfl, trivial⟩ ⟨rfl, trivial⟩)
   refine n_block (n_then (ref_region (mv1 rfl rfl (s_rd (r_add rfl rfl) rfl (as1 rfl rfl (b_let (f := iv .i64) (t := 5) rfl fun i55 => l_nil ?_))))))
   exact goX () (weak [0] ⟨rfl, rfl, trivial⟩ ⟨rfl, trivial⟩)
  refine ref_exit (x_then ?_)
  exact brkX () (weak [0] ⟨rfl, trivial⟩ ⟨rfl, trivial⟩)
 refine n_then (ref_seq (ref_seq (ref_region (as1 rfl rfl (l_nil (n_then ?_))))))
 refine ref_loopX (f := (ref38_Validate_l4 l_0)) (Γl := (fun (s64 : Int) (x65 : Unit) => [(1, pv (ptr b1 0)), (7, iv .i64 s64)])) (Ωl := (fun (s64 : Int) (x65 : Unit) => [oc b1 [slv rS l_0.Sides.i0, slv rS l_0.Sides.i1, slv rT_Cas l_0.Cases]])) (Γb := (fun (q72 : Unit) (y73 : Unit) => [(1, pv (ptr b1 0))])) (Ωb := (fun (q72 : Unit) (y73 : Unit) => [oc b1 [slv rS l_0.Sides.i0, slv rS l_0.Sides.i1, slv rT_Cas l_0.Cases]])) (kr := (fun a : Int => some a)) 0 () (weak [0] ⟨rfl, rfl, trivial⟩ ⟨rfl, trivial⟩) (fun s64 x65 => ?_) (fun q72 y73 => ?_)
 ·unfold ref38_Validate_l4
  refine ref_seq (ref_seq (ref_region (mv1 rfl rfl (s_rd (r_faddr (fo := 2) Tryz.underlying26 rfl rfl Tryz.sizeOf24 rfl) rfl (s_rd (r_cload Tryz.isAgg24 rfl (j := 0) rfl rfl) rfl (s_rd (r_len Tryz.underlying24 rfl) rfl (s_rd (r_lss rfl rfl) rfl (l_nil (n_then ?_)))))))))
  refine ref_cond rfl (fun hb66 => ?_) (fun hb66 => ?_)
  ·refine ref_skip (n_then (ref_seq (ref_block (ref_seq (ref_region (s_rd (r_faddr (fo := 2) Tryz.underlying26 rfl rfl Tryz.sizeOf24 rfl) rfl (s_rd (r_cload Tryz.isAgg24 rfl (j := 0) rfl rfl) rfl (mv1 rfl rfl (pull fun t67 h_t67 => s_rd (r_index h_t67 Tryz.underlying24 el_60 rfl rfl) rfl (s_rd (r_fea (fo := 2) (ρ := rT_Cas) (y := t67) (ρ' := (rI .i64)) (z := t67.Winner) Tryz.underlying60 rfl rfl Tryz.sizeOf3 rfl rfl rfl) rfl (s_rd (r_load el_3 rfl) rfl (s_rd (r_neq rfl rfl) rfl (mv1 rfl rfl ?_)))))))))))))
   refine b_split (t := 72) rfl (fun _ => ?_) (fun _ => ?_)
   ·refine s_on rfl rfl rfl (s_rd (r_faddr (fo := 2) Tryz.underlying26 rfl rfl Tryz.sizeOf24 rfl) rfl (s_on rfl rfl rfl (s_rd (r_cload Tryz.isAgg24 rfl (j := 0) rfl rfl) rfl (s_on rfl rfl rfl (mv1 rfl rfl (s_on rfl rfl rfl (pull fun t68 h_t68 => s_rd (r_index h_t68 Tryz.underlying24 el_60 rfl rfl) rfl (s_on rfl rfl rfl (s_rd (r_fea (fo := 2) (ρ := rT_Cas) (y := t68) (ρ' := (rI .i64)) (z := t68.Winner) Tryz.underlying60 rfl rfl Tryz.sizeOf3 rfl rfl rfl) rfl (s_on rfl rfl rfl (s_rd (r_load el_3 rfl) rfl (s_on rfl rfl rfl (s_rd (r_neq rfl rfl) rfl (s_rd (r_pickT rfl rfl) rfl (l_nil (n_then ?_))))))))))))))))
    refine ref_cond rfl (fun hb69 => ?_) (fun hb69 => ?_)
    ·refine ref_seq (ref_region (as1 rfl rfl (l_nil (n_then (ref_ret (r_block (r_then ?_)))))))
     refine retX ?_
     refine r_block (r_then ?_)
     exact fin1 (.inl rfl) () [] rfl trivial rfl (rv_tmp rfl)
    refine ref_skip (n_block (n_then (ref_region (mv1 rfl rfl (s_rd (r_add rfl rfl) rfl (as1 rfl rfl (b_let (f := iv .i64) (t := 7) rfl fun i70 => l_nil ?_)))))))
    exact goX () (weak [0] ⟨rfl, rfl, trivial⟩ ⟨rfl, trivial⟩)
   refine s_off rfl rfl rfl rfl rfl (s_off rfl rfl rfl rfl rfl (s_off rfl rfl rfl rfl rfl (s_off rfl rfl rfl rfl rfl (s_off rfl rfl rfl rfl rfl (s_off rfl rfl rfl rfl rfl (s_off rfl rfl rfl rfl rfl (s_rd (r_pickF rfl rfl) rfl (l_nil (n_then (ref_condF rfl rfl (ref_skip (n_block (n_then (ref_region (mv1 rfl rfl (s_rd (r_add rfl rfl) rfl (as1 rfl rfl (b_let (f := iv .i64) (t := 7) rfl fun i71 => l_nil ?_))))))))))))))))))
   exact goX () (weak [0] ⟨rfl, rfl, trivial⟩ ⟨rfl, trivial⟩)
  refine ref_exit (x_then ?_)
  exact brkX () (weak [0] ⟨rfl, trivial⟩ ⟨rfl, trivial⟩)
 refine n_then (ref_seq (ref_seq (ref_region (as1 rfl rfl (l_nil (n_then ?_))))))
 refine ref_loopX (f := (ref38_Validate_l5 l_0)) (Γl := (fun (s84 : Int) (x85 : Unit) => [(1, pv (ptr b1 0)), (8, iv .i64 s84)])) (Ωl := (fun (s84 : Int) (x85 : Unit) => [oc b1 [slv rS l_0.Sides.i0, slv rS l_0.Sides.i1, slv rT_Cas l_0.Cases]])) (Γb := (fun (q95 : Unit) (y96 : Unit) => [])) (Ωb := (fun (q95 : Unit) (y96 : Unit) => [])) (kr := (fun a : Int => some a)) 0 () (weak [0] ⟨rfl, rfl, trivial⟩ ⟨rfl, trivial⟩) (fun s84 x85 => ?_) (fun q95 y96 => ?_)
 ·unfold ref38_Validate_l5
  refine ref_seq (ref_seq (ref_region (mv1 rfl rfl (s_rd (r_faddr (fo := 2) Tryz.underlying26 rfl rfl Tryz.sizeOf24 rfl) rfl (s_rd (r_cload Tryz.isAgg24 rfl (j := 0) rfl rfl) rfl (s_rd (r_len Tryz.underlying24 rfl) rfl (s_rd (r_lss rfl rfl) rfl (l_nil (n_then ?_)))))))))
  refine ref_cond rfl (fun hb86 => ?_) (fun hb86 => ?_)
  ·refine ref_skip (n_then (ref_seq (ref_block (ref_seq (ref_region (s_rd (r_faddr (fo := 2) Tryz.underlying26 rfl rfl Tryz.sizeOf24 rfl) rfl (s_rd (r_cload Tryz.isAgg24 rfl (j := 0) rfl rfl) rfl (mv1 rfl rfl (pull fun t87 h_t87 => s_rd (r_index h_t87 Tryz.underlying24 el_60 rfl rfl) rfl (s_rd (r_load el_60 rfl) rfl (s_st (s_alloc zt_60) rfl (fun b88 => s_st0 (s_cstore (out := [sv t87.Name, slv rS t87.Facts, iv .i64 t87.Winner, slv rS t87.Reason]) Tryz.sizeOf60 rfl (j := 1) rfl (part_agO (ψs := [sv t87.Name, slv rS t87.Facts, iv .i64 t87.Winner, slv rS t87.Reason]) rfl ⟨.inl sv_at, .inl slv_at, .inl iv_at, .inl slv_at, trivial⟩) rfl rfl rfl) (fun _ => l_nil (n_then (ref_seq ?_)))))))))))))))
   refine ref_draw [0, 1, 2, 4, 5, 6, 7, 8, 9, 10, 11, 12, 13, 14, 15, 16, 17, 18, 21, 22] rfl (by kernel_rfl) (fun hok => ?_)
   refine a_rd (i := 0) hok rfl (by kernel_rfl) rfl (r_cloadS Tryz.isAgg26 Tryz.sizeOf26 rfl (j := 0) rfl rfl rfl) rfl ?_
   refine a_rd (i := 1) hok rfl (by kernel_rfl) rfl (r_faddr (fo := 1) Tryz.underlying60 rfl rfl Tryz.sizeOf22 rfl) rfl ?_
   refine a_rd (i := 2) hok rfl (by kernel_rfl) rfl (r_cload Tryz.isAgg22 rfl (j := 1) rfl rfl) rfl ?_
   refine pull fun t89 h_t89 => ?_
   refine a_next hok 3 [] (by kernel_rfl) ?_ trivial
   refine a_st (i := 3) hok rfl rfl (s_call (ψ := fun (_ : Unit) => bv t89) (args := [.tmp 93, .tmp 95]) Tryz.call48 rfl (ref38_factors_ok h_t89) ⟨arg rfl, arg rfl, trivial⟩ (fun _ _ _ _ h => h)) (by intro _ h; cases h; rfl) (fun _ => ⟨trivial, ⟨trivial, ⟨trivial, trivial⟩⟩⟩) (fun _ => ?_)
   refine a_rd (i := 4) hok rfl (by kernel_rfl) rfl (r_not rfl) rfl ?_
   refine a_rd (i := 5) hok rfl (by kernel_rfl) rfl (r_move rfl) rfl ?_
   refine b_split (t := 98) rfl (fun _ => ?_) (fun _ => ?_)
   ·refine a_off (i := 6) hok rfl rfl rfl rfl rfl (by kernel_rfl) rfl rfl ?_
    refine a_off (i := 7) hok rfl rfl rfl rfl rfl (by kernel_rfl) rfl rfl ?_
    refine a_off (i := 8) hok rfl rfl rfl rfl rfl (by kernel_rfl) rfl rfl ?_
    refine a_off (i := 9) hok rfl rfl rfl rfl rfl (by kernel_rfl) rfl rfl ?_
    refine a_rd (i := 10) hok rfl (by kernel_rfl) rfl (r_pickT rfl rfl) rfl ?_
    refine a_rd (i := 11) hok rfl (by kernel_rfl) rfl (r_move rfl) rfl ?_
    refine a_off (i := 12) hok rfl rfl rfl rfl rfl (by kernel_rfl) rfl rfl ?_
    refine a_off (i := 13) hok rfl rfl rfl rfl rfl (by kernel_rfl) rfl rfl ?_
    refine a_off (i := 14) hok rfl rfl rfl rfl rfl (by kernel_rfl) rfl rfl ?_
    refine a_off (i := 15) hok rfl rfl rfl rfl rfl (by kernel_rfl) rfl rfl ?_
    refine a_off (i := 16) hok rfl rfl rfl rfl rfl (by kernel_rfl) rfl rfl ?_
    refine a_off (i := 17) hok rfl rfl rfl rfl rfl (by kernel_rfl) rfl rfl ?_
    refine a_off (i := 18) hok rfl rfl rfl rfl rfl (by kernel_rfl) rfl rfl ?_
    refine a_next hok 19 [] (by kernel_rfl) ?_ trivial
    refine a_stOff (i := 19) hok rfl rfl rfl rfl rfl rfl (by intro _ h; cases h; rfl) ⟨trivial, ⟨trivial, ⟨trivial, ⟨trivial, ⟨trivial, ⟨trivial, ⟨trivial, ⟨trivial, ⟨trivial, ⟨trivial, ⟨trivial, ⟨trivial, ⟨trivial, ⟨trivial, ⟨trivial, ⟨⟨⟨rfl, rfl⟩, trivial⟩, ⟨trivial, ⟨⟨⟨rfl, rfl⟩, trivial⟩, trivial⟩⟩⟩⟩⟩⟩⟩⟩⟩⟩⟩⟩⟩⟩⟩⟩⟩⟩ ?_
    refine a_next hok 20 [] (by kernel_rfl) ?_ trivial
    refine a_stOff (i := 20) hok rfl rfl rfl rfl rfl rfl (by intro _ h; cases h; rfl) ⟨trivial, ⟨trivial, ⟨trivial, ⟨trivial, ⟨trivial, ⟨trivial, ⟨trivial, ⟨trivial, ⟨trivial, ⟨trivial, ⟨trivial, ⟨trivial, ⟨trivial, ⟨trivial, ⟨trivial, ⟨⟨⟨rfl, rfl⟩, trivial⟩, ⟨trivial, ⟨⟨⟨rfl, rfl⟩, trivial⟩, trivial⟩⟩⟩⟩⟩⟩⟩⟩⟩⟩⟩⟩⟩⟩⟩⟩⟩⟩ ?_
    refine a_off (i := 21) hok rfl rfl rfl rfl rfl (by kernel_rfl) rfl rfl ?_
    refine a_rd (i := 22) hok rfl (by kernel_rfl) rfl (r_pickT rfl rfl) rfl ?_
    refine a_fin hok (by kernel_rfl) ?_
    refine n_then (ref_condT rfl rfl (ref_seq (ref_region (as1 rfl rfl (l_nil (n_then (ref_ret (r_block (r_then ?_)))))))))
    refine retX ?_
    refine r_block (r_then ?_)
    exact fin1 (.inl rfl) () [] rfl trivial rfl (rv_tmp rfl)
   refine a_rdOn (i := 6) hok rfl rfl rfl rfl (by kernel_rfl) rfl (r_faddr (fo := 3) Tryz.underlying60 rfl rfl Tryz.sizeOf22 rfl) rfl ?_
   refine a_rdOn (i := 7) hok rfl rfl rfl rfl (by kernel_rfl) rfl (r_cload Tryz.isAgg22 rfl (j := 1) rfl rfl) rfl ?_
   refine a_rdOn (i := 8) hok rfl rfl rfl rfl (by kernel_rfl) rfl (r_len Tryz.underlying22 rfl) rfl ?_
   refine a_rdOn (i := 9) hok rfl rfl rfl rfl (by kernel_rfl) rfl (r_eql rfl rfl) rfl ?_
   refine a_rd (i := 10) hok rfl (by kernel_rfl) rfl (r_pickF rfl rfl) rfl ?_
   refine a_rd (i := 11) hok rfl (by kernel_rfl) rfl (r_move rfl) rfl ?_
   refine b_split (t := 104) rfl (fun _ => ?_) (fun _ => ?_)
   ·refine a_off (i := 12) hok rfl rfl rfl rfl rfl (by kernel_rfl) rfl rfl ?_
    refine a_off (i := 13) hok rfl rfl rfl rfl rfl (by kernel_rfl) rfl rfl ?_
    refine a_off (i := 14) hok rfl rfl rfl rfl rfl (by kernel_rfl) rfl rfl ?_
    refine a_off (i := 15) hok rfl rfl rfl rfl rfl (by kernel_rfl) rfl rfl ?_
    refine a_off (i := 16) hok rfl rfl rfl rfl rfl (by kernel_rfl) rfl rfl ?_
    refine a_off (i := 17) hok rfl rfl rfl rfl rfl (by kernel_rfl) rfl rfl ?_
    refine a_off (i := 18) hok rfl rfl rfl rfl rfl (by kernel_rfl) rfl rfl ?_
    refine a_next hok 19 [] (by kernel_rfl) ?_ trivial
    refine a_stOff (i := 19) hok rfl rfl rfl rfl rfl rfl (by intro _ h; cases h; rfl) ⟨trivial, ⟨trivial, ⟨trivial, ⟨trivial, ⟨trivial, ⟨trivial, ⟨trivial, ⟨trivial, ⟨trivial, ⟨trivial, ⟨trivial, ⟨⟨⟨rfl, rfl⟩, trivial⟩, ⟨trivial, ⟨trivial, ⟨trivial, ⟨⟨⟨rfl, rfl⟩, trivial⟩, ⟨trivial, ⟨⟨⟨rfl, rfl⟩, trivial⟩, trivial⟩⟩⟩⟩⟩⟩⟩⟩⟩⟩⟩⟩⟩⟩⟩⟩⟩⟩ ?_
    refine a_next hok 20 [] (by kernel_rfl) ?_ trivial
    refine a_stOff (i := 20) hok rfl rfl rfl rfl rfl rfl (by intro _ h; cases h; rfl) ⟨trivial, ⟨trivial, ⟨trivial, ⟨trivial, ⟨trivial, ⟨trivial, ⟨trivial, ⟨trivial, ⟨trivial, ⟨trivial, ⟨trivial, ⟨⟨⟨rfl, rfl⟩, trivial⟩, ⟨trivial, ⟨trivial, ⟨trivial, ⟨⟨⟨rfl, rfl⟩, trivial⟩, ⟨trivial, ⟨⟨⟨rfl, rfl⟩, trivial⟩, trivial⟩⟩⟩⟩⟩⟩⟩⟩⟩⟩⟩⟩⟩⟩⟩⟩⟩⟩ ?_
    refine a_off (i := 21) hok rfl rfl rfl rfl rfl (by kernel_rfl) rfl rfl ?_
    refine a_rd (i := 22) hok rfl (by kernel_rfl) rfl (r_pickT rfl rfl) rfl ?_
    refine a_fin hok (by kernel_rfl) ?_
    refine n_then (ref_condT rfl rfl (ref_seq (ref_region (as1 rfl rfl (l_nil (n_then (ref_ret (r_block (r_then ?_)))))))))
    refine retX ?_
    refine r_block (r_then ?_)
    exact fin1 (.inl rfl) () [] rfl trivial rfl (rv_tmp rfl)
   refine a_rdOn (i := 12) hok rfl rfl rfl rfl (by kernel_rfl) rfl (r_faddr (fo := 3) Tryz.underlying60 rfl rfl Tryz.sizeOf22 rfl) rfl ?_
   refine a_rdOn (i := 13) hok rfl rfl rfl rfl (by kernel_rfl) rfl (r_cload Tryz.isAgg22 rfl (j := 1) rfl rfl) rfl ?_
   refine a_rdOn (i := 14) hok rfl rfl rfl rfl (by kernel_rfl) rfl (r_cloadS Tryz.isAgg26 Tryz.sizeOf26 rfl (j := 0) rfl rfl rfl) rfl ?_
   refine a_rdOn (i := 15) hok rfl rfl rfl rfl (by kernel_rfl) rfl (r_faddr (fo := 1) Tryz.underlying60 rfl rfl Tryz.sizeOf22 rfl) rfl ?_
   refine a_rdOn (i := 16) hok rfl rfl rfl rfl (by kernel_rfl) rfl (r_cload Tryz.isAgg22 rfl (j := 1) rfl rfl) rfl ?_
   refine a_rdOn (i := 17) hok rfl rfl rfl rfl (by kernel_rfl) rfl (r_faddr (fo := 2) Tryz.underlying60 rfl rfl Tryz.sizeOf3 rfl) rfl ?_
   refine a_rdOn (i := 18) hok rfl rfl rfl rfl (by kernel_rfl) rfl (r_cload Tryz.isAgg3 rfl (j := 1) rfl rfl) rfl ?_
   refine pull fun t90 h_t90 => ?_
   refine a_next hok 19 [] (by kernel_rfl) ?_ trivial
   refine a_stOn (i := 19) hok rfl rfl rfl rfl rfl (s_call (ψ := fun (x91 : (Value × List Nat)) => pv x91.1) (args := [.tmp 107, .tmp 109, .tmp 111]) Tryz.call30 rfl (ref38_Own_ok h_t90) ⟨arg rfl, arg rfl, arg rfl, trivial⟩ (fun _ _ _ _ h => h)) (by intro _ h; cases h; rfl) (fun _ => ⟨trivial, ⟨trivial, ⟨trivial, ⟨trivial, ⟨trivial, ⟨⟨⟨rfl, rfl⟩, trivial⟩, ⟨trivial, ⟨trivial, ⟨trivial, ⟨trivial, ⟨trivial, ⟨⟨⟨rfl, rfl⟩, trivial⟩, ⟨trivial, ⟨trivial, ⟨trivial, ⟨⟨⟨rfl, rfl⟩, trivial⟩, ⟨trivial, ⟨⟨⟨rfl, rfl⟩, trivial⟩, trivial⟩⟩⟩⟩⟩⟩⟩⟩⟩⟩⟩⟩⟩⟩⟩⟩⟩⟩) (fun x91 => ?_)
   refine pull fun t92 h_t92 => ?_
   refine a_next hok 20 [] (by kernel_rfl) ?_ trivial
   refine a_stOn (i := 20) hok rfl rfl rfl rfl rfl (s_callB (ψ := fun (_ : Unit) => bv t92) (args := [.tmp 106, .tmp 112]) Tryz.call49 rfl (ref38_Inside_ok h_t92) ⟨argB rfl, argO rfl (j := 2) rfl, trivial⟩ (fun _ _ _ _ _ h => h)) (by intro _ h; cases h; rfl) (fun _ => ⟨⟨⟨rfl, rfl⟩, trivial⟩, ⟨trivial, ⟨⟨⟨rfl, rfl⟩, trivial⟩, ⟨trivial, ⟨⟨⟨rfl, rfl⟩, trivial⟩, ⟨trivial, ⟨trivial, ⟨trivial, ⟨trivial, ⟨trivial, ⟨trivial, ⟨⟨⟨rfl, rfl⟩, trivial⟩, ⟨trivial, ⟨trivial, ⟨trivial, ⟨⟨⟨rfl, rfl⟩, trivial⟩, ⟨trivial, ⟨⟨⟨rfl, rfl⟩, trivial⟩, trivial⟩⟩⟩⟩⟩⟩⟩⟩⟩⟩⟩⟩⟩⟩⟩⟩⟩⟩) (fun _ => ?_)
   refine a_rdOn (i := 21) hok rfl rfl rfl rfl (by kernel_rfl) rfl (r_not rfl) rfl ?_
   refine a_rd (i := 22) hok rfl (by kernel_rfl) rfl (r_pickF rfl rfl) rfl ?_
   refine a_fin hok (by kernel_rfl) ?_
   refine b_of (nrm [oc b1 [slv rS l_0.Sides.i0, slv rS l_0.Sides.i1, slv rT_Cas l_0.Cases], oc b88 [sv t87.Name, slv rS t87.Facts, iv .i64 t87.Winner, slv rS t87.Reason], oa rS x91.1 x91.2 t90] rfl) (n_then ?_)
   refine ref_cond rfl (fun hb93 => ?_) (fun hb93 => ?_)
   ·refine ref_seq (ref_region (as1 rfl rfl (l_nil (n_then (ref_ret (r_block (r_then ?_)))))))
    refine retX ?_
    refine r_block (r_then ?_)
    exact fin1 (.inl rfl) () [] rfl trivial rfl (rv_tmp rfl)
   refine ref_skip (n_block (n_then (ref_region (mv1 rfl rfl (s_rd (r_add rfl rfl) rfl (as1 rfl rfl (b_let (f := iv .i64) (t := 8) rfl fun i94 => l_nil ?_)))))))
   exact goX () (weak [0] ⟨rfl, rfl, trivial⟩ ⟨rfl, trivial⟩)
  refine ref_exit (x_then ?_)
  exact brkX () (weak [] trivial trivial)
 refine n_then (ref_seq (ref_region (as1 rfl rfl (l_nil (n_then (ref_ret ?_))))))
 exact fin1 (.inl rfl) () [] rfl trivial rfl (rv_tmp rfl)

/-! deliberation/precedent.Conflict -/
noncomputable def pc_Conflict_l2 (l_0 : T_Lib) (s33 : Int) (t36 : T_Cas) (s49 : Int) : Option (Sum ((Sum (Int × Int × Bool) (Unit))) (Int)) :=
 bif decide (s49 < (l_0.Cases.length : Int)) then
  Option.bind (idxM l_0.Cases s49) fun t52 =>
  joinM (fun j56 : Bool =>
    bif j56 then
     some (Sum.inl (Sum.inl (s33, s49, true)))
    else
     some (Sum.inr (iadd .i64 s49 1))) fun k58 =>
  bif t36.Winner == 1 then
   bif t52.Winner == 2 then
    Option.bind (pc_within_m t36.Reason t52.Facts) fun t54 =>
    bif t54 then
     Option.bind (pc_within_m t52.Reason t36.Facts) fun t55 =>
     k58 t55
    else
     k58 false
   else
    k58 false
  else
   k58 false
 else
  some (Sum.inl (Sum.inr ()))

noncomputable def pc_Conflict_l1 (l_0 : T_Lib) (s33 : Int) : Option (Sum ((Sum (Int × Int × Bool) (Unit))) (Int)) :=
 bif decide (s33 < (l_0.Cases.length : Int)) then
  Option.bind (idxM l_0.Cases s33) fun t36 =>
  Option.bind (loopC (pc_Conflict_l2 l_0 s33 t36) 0) (sumK (fun a : Int × Int × Bool => some (Sum.inl (Sum.inl a))) fun q60 : Unit =>
   some (Sum.inr (iadd .i64 s33 1)))
 else
  some (Sum.inl (Sum.inr ()))

noncomputable def pc_Conflict_m (l_0 : T_Lib) : Option (Int × Int × Bool) :=
 Option.bind (pc_Validate_m l_0) fun t2 =>
 bif t2 != 0 then
  some (0, 0, false)
 else
  Option.bind (loopC (pc_Conflict_l1 l_0) 0) (sumK (fun a : Int × Int × Bool => some a) fun q62 : Unit =>
   some (0, 0, false))

theorem pc_Conflict_ok {l_0 : T_Lib} {r : Int × Int × Bool} (hm : pc_Conflict_m l_0 = some r) :
  FnOk prog 11 [ag [slv rS l_0.Sides.i0, slv rS l_0.Sides.i1, slv rT_Cas l_0.Cases]] [] (fun (x : Unit) => [iv .i64 r.1, iv .i64 r.2.1, bv r.2.2]) (fun (x : Unit) => []) := by
 refine fn_ok (fn := Tryz.f11) (N := 54) (res := fun r x => [iv .i64 r.1, iv .i64 r.2.1, bv r.2.2]) (Ω1 := fun r x => []) Tryz.func11 rfl rfl hm rfl (fun E hM => ?_)
 unfold pc_Conflict_m
 refine ref_seq (ref_region (s_st (s_box (part_agO (ψs := [slv rS l_0.Sides.i0, slv rS l_0.Sides.i1, slv rT_Cas l_0.Cases]) rfl ⟨.inl slv_at, .inl slv_at, .inl slv_at, trivial⟩)) rfl (fun b1 => as1 rfl rfl (as1 rfl rfl (as1 rfl rfl (l_nil (n_then (ref_seq (ref_seq (ref_region (s_rd (r_cloadS Tryz.isAgg26 Tryz.sizeOf26 rfl (j := 0) rfl rfl rfl) rfl (pull fun t2 h_t2 => s_st (s_call (ψ := fun (_ : Unit) => iv .i64 t2) (args := [.tmp 9]) Tryz.call9 rfl (pc_Validate_ok h_t2) ⟨arg rfl, trivial⟩ (fun _ _ _ _ h => h)) rfl (fun _ => s_rd (r_neq rfl rfl) rfl (l_nil (n_then ?_)))))))))))))))
 refine ref_cond rfl (fun hb3 => ?_) (fun hb3 => ?_)
 ·refine ref_seq (ref_region (as1 rfl rfl (as1 rfl rfl (as1 rfl rfl (l_nil (n_then (ref_ret (r_then ?_))))))))
  exact fin3 (.inl rfl) () [] rfl trivial rfl (rv_tmp rfl) (rv_tmp rfl) (rv_tmp rfl)
 refine ref_skip (n_then (ref_seq (ref_seq (ref_region (s_rd (r_faddr (fo := 2) Tryz.underlying26 rfl rfl Tryz.sizeOf24 rfl) rfl (s_rd (r_cload Tryz.isAgg24 rfl (j := 0) rfl rfl) rfl (s_rd (r_len Tryz.underlying24 rfl) rfl (mv1 rfl rfl (l_nil (n_then ?_))))))))))
 refine ref_loopX (f := (pc_Conflict_l1 l_0)) (Γl := (fun (s33 : Int) (x34 : Unit) => [(1, pv (ptr b1 0)), (13, slv rT_Cas l_0.Cases), (14, iv .i64 (l_0.Cases.length : Int)), (15, iv .i64 s33)])) (Ωl := (fun (s33 : Int) (x34 : Unit) => [oc b1 [slv rS l_0.Sides.i0, slv rS l_0.Sides.i1, slv rT_Cas l_0.Cases]])) (Γb := (fun (q62 : Unit) (y63 : Unit) => [])) (Ωb := (fun (q62 : Unit) (y63 : Unit) => [])) (kr := (fun a : Int × Int × Bool => some a)) 0 () (weak [0] ⟨rfl, rfl, rfl, rfl, trivial⟩ ⟨rfl, trivial⟩) (fun s33 x34 => ?_) (fun q62 y63 => ?_)
 ·unfold pc_Conflict_l1
  refine ref_seq (ref_region (s_rd (r_lss rfl rfl) rfl (l_nil (n_then (ref_seq ?_)))))
  refine ref_cond rfl (fun hb35 => ?_) (fun hb35 => ?_)
  ·refine ref_skip (n_then (ref_seq (ref_block (ref_seq (ref_region (mv1 rfl rfl (pull fun t36 h_t36 => s_rd (r_index h_t36 Tryz.underlying24 el_60 rfl rfl) rfl (s_rd (r_load el_60 rfl) rfl (s_st (s_alloc zt_60) rfl (fun b37 => as1 rfl rfl (s_st0 (s_cstore (out := [sv t36.Name, slv rS t36.Facts, iv .i64 t36.Winner, slv rS t36.Reason]) Tryz.sizeOf60 rfl (j := 1) rfl (part_agO (ψs := [sv t36.Name, slv rS t36.Facts, iv .i64 t36.Winner, slv rS t36.Reason]) rfl ⟨.inl sv_at, .inl slv_at, .inl iv_at, .inl slv_at, trivial⟩) rfl rfl rfl) (fun _ => l_nil (b_of (nrm [oc b1 [slv rS l_0.Sides.i0, slv rS l_0.Sides.i1, slv rT_Cas l_0.Cases], oc b37 [sv t36.Name, slv rS t36.Facts, iv .i64 t36.Winner, slv rS t36.Reason]] rfl) (n_then (ref_seq (ref_region (s_rd (r_faddr (fo := 2) Tryz.underlying26 rfl rfl Tryz.sizeOf24 rfl) rfl (s_rd (r_cload Tryz.isAgg24 rfl (j := 0) rfl rfl) rfl (s_rd (r_len Tryz.underlying24 rfl) rfl (mv1 rfl rfl (l_nil (n_then ?_))))))))))))))))))))))
   refine ref_loopX (f := (pc_Conflict_l2 l_0 s33 t36)) (Γl := (fun (s49 : Int) (x50 : Unit) => [(1, pv (ptr b1 0)), (5, iv .i64 s33), (6, pv (ptr b37 0)), (13, slv rT_Cas l_0.Cases), (14, iv .i64 (l_0.Cases.length : Int)), (15, iv .i64 s33), (21, slv rT_Cas l_0.Cases), (22, iv .i64 (l_0.Cases.length : Int)), (23, iv .i64 s49)])) (Ωl := (fun (s49 : Int) (x50 : Unit) => [oc b1 [slv rS l_0.Sides.i0, slv rS l_0.Sides.i1, slv rT_Cas l_0.Cases], oc b37 [sv t36.Name, slv rS t36.Facts, iv .i64 t36.Winner, slv rS t36.Reason]])) (Γb := (fun (q60 : Unit) (y61 : Unit) => [(1, pv (ptr b1 0)), (13, slv rT_Cas l_0.Cases), (14, iv .i64 (l_0.Cases.length : Int)), (15, iv .i64 s33)])) (Ωb := (fun (q60 : Unit) (y61 : Unit) => [oc b1 [slv rS l_0.Sides.i0, slv rS l_0.Sides.i1, slv rT_Cas l_0.Cases]])) (kr := (fun a : Int × Int × Bool => some (Sum.inl (Sum.inl a)))) 0 () (weak [0, 1] ⟨rfl, rfl, rfl, rfl, rfl, rfl, rfl, rfl, rfl, trivial⟩ ⟨rfl, rfl, trivial⟩) (fun s49 x50 => ?_) (fun q60 y61 => ?_)
   ·unfold pc_Conflict_l2
    refine ref_seq (ref_region (s_rd (r_lss rfl rfl) rfl (l_nil (n_then (ref_seq ?_)))))
    refine ref_cond rfl (fun hb51 => ?_) (fun hb51 => ?_)
    ·refine ref_skip (n_then (ref_seq (ref_block (ref_seq (ref_region (mv1 rfl rfl (pull fun t52 h_t52 => s_rd (r_index h_t52 Tryz.underlying24 el_60 rfl rfl) rfl (s_rd (r_load el_60 rfl) rfl (s_st (s_alloc zt_60) rfl (fun b53 => as1 rfl rfl (s_st0 (s_cstore (out := [sv t52.Name, slv rS t52.Facts, iv .i64 t52.Winner, slv rS t52.Reason]) Tryz.sizeOf60 rfl (j := 2) rfl (part_agO (ψs := [sv t52.Name, slv rS t52.Facts, iv .i64 t52.Winner, slv rS t52.Reason]) rfl ⟨.inl sv_at, .inl slv_at, .inl iv_at, .inl slv_at, trivial⟩) rfl rfl rfl) (fun _ => l_nil (n_then (ref_seq ?_))))))))))))))
     refine ref_join (fun (j56 : Bool) (x57 : Unit) => [(1, pv (ptr b1 0)), (5, iv .i64 s33), (6, pv (ptr b37 0)), (7, iv .i64 s49), (13, slv rT_Cas l_0.Cases), (14, iv .i64 (l_0.Cases.length : Int)), (15, iv .i64 s33), (21, slv rT_Cas l_0.Cases), (22, iv .i64 (l_0.Cases.length : Int)), (23, iv .i64 s49), (49, bv j56)]) (fun (j56 : Bool) (x57 : Unit) => [oc b1 [slv rS l_0.Sides.i0, slv rS l_0.Sides.i1, slv rT_Cas l_0.Cases], oc b37 [sv t36.Name, slv rS t36.Facts, iv .i64 t36.Winner, slv rS t36.Reason]]) (fun k58 hk58 => ?_) (fun j56 x57 => ?_)
     ·refine ref_region (s_rd (r_faddr (fo := 2) Tryz.underlying60 rfl rfl Tryz.sizeOf3 rfl) rfl (s_rd (r_cload Tryz.isAgg3 rfl (j := 1) rfl rfl) rfl (s_rd (r_eql rfl rfl) rfl (mv1 rfl rfl ?_))))
      refine b_split (t := 31) rfl (fun _ => ?_) (fun _ => ?_)
      ·refine s_on rfl rfl rfl (s_rd (r_faddr (fo := 2) Tryz.underlying60 rfl rfl Tryz.sizeOf3 rfl) rfl (s_on rfl rfl rfl (s_rd (r_cload Tryz.isAgg3 rfl (j := 2) rfl rfl) rfl (s_on rfl rfl rfl (s_rd (r_eql rfl rfl) rfl (s_rd (r_pickT rfl rfl) rfl (mv1 rfl rfl ?_)))))))
       refine b_split (t := 36) rfl (fun _ => ?_) (fun _ => ?_)
       ·refine s_on rfl rfl rfl (s_rd (r_faddr (fo := 3) Tryz.underlying60 rfl rfl Tryz.sizeOf22 rfl) rfl (s_on rfl rfl rfl (s_rd (r_cload Tryz.isAgg22 rfl (j := 1) rfl rfl) rfl (s_on rfl rfl rfl (s_rd (r_faddr (fo := 1) Tryz.underlying60 rfl rfl Tryz.sizeOf22 rfl) rfl (s_on rfl rfl rfl (s_rd (r_cload Tryz.isAgg22 rfl (j := 2) rfl rfl) rfl (s_on rfl rfl rfl (pull fun t54 h_t54 => s_st (s_call (ψ := fun (_ : Unit) => bv t54) (args := [.tmp 38, .tmp 40]) Tryz.call43 rfl (pc_within_ok h_t54) ⟨arg rfl, arg rfl, trivial⟩ (fun _ _ _ _ h => h)) rfl (fun _ => s_rd (r_pickT rfl rfl) rfl (mv1 rfl rfl ?_)))))))))))
        refine b_split (t := 43) rfl (fun _ => ?_) (fun _ => ?_)
        ·refine s_on rfl rfl rfl (s_rd (r_faddr (fo := 3) Tryz.underlying60 rfl rfl Tryz.sizeOf22 rfl) rfl (s_on rfl rfl rfl (s_rd (r_cload Tryz.isAgg22 rfl (j := 2) rfl rfl) rfl (s_on rfl rfl rfl (s_rd (r_faddr (fo := 1) Tryz.underlying60 rfl rfl Tryz.sizeOf22 rfl) rfl (s_on rfl rfl rfl (s_rd (r_cload Tryz.isAgg22 rfl (j := 1) rfl rfl) rfl (s_on rfl rfl rfl (pull fun t55 h_t55 => s_st (s_call (ψ := fun (_ : Unit) => bv t55) (args := [.tmp 45, .tmp 47]) Tryz.call43 rfl (pc_within_ok h_t55) ⟨arg rfl, arg rfl, trivial⟩ (fun _ _ _ _ h => h)) rfl (fun _ => s_rd (r_pickT rfl rfl) rfl (l_nil (b_of (nrm [oc b1 [slv rS l_0.Sides.i0, slv rS l_0.Sides.i1, slv rT_Cas l_0.Cases], oc b37 [sv t36.Name, slv rS t36.Facts, iv .i64 t36.Winner, slv rS t36.Reason], oc b53 [sv t52.Name, slv rS t52.Facts, iv .i64 t52.Winner, slv rS t52.Reason]] rfl) ?_))))))))))))
         exact b_to (hk58 t55 ()) (weak [0, 1] ⟨rfl, rfl, rfl, rfl, rfl, rfl, rfl, rfl, rfl, rfl, rfl, trivial⟩ ⟨rfl, rfl, trivial⟩)
        refine s_off rfl rfl rfl rfl rfl (s_off rfl rfl rfl rfl rfl (s_off rfl rfl rfl rfl rfl (s_off rfl rfl rfl rfl rfl (s_off rfl rfl rfl rfl rfl (s_rd (r_pickF rfl rfl) rfl (l_nil ?_))))))
        exact b_to (hk58 false ()) (weak [0, 1] ⟨rfl, rfl, rfl, rfl, rfl, rfl, rfl, rfl, rfl, rfl, rfl, trivial⟩ ⟨rfl, rfl, trivial⟩)
       refine s_off rfl rfl rfl rfl rfl (s_off rfl rfl rfl rfl rfl (s_off rfl rfl rfl rfl rfl (s_off rfl rfl rfl rfl rfl (s_off rfl rfl rfl rfl rfl (s_rd (r_pickF rfl rfl) rfl (mv1 rfl rfl (s_off rfl rfl rfl rfl rfl (s_off rfl rfl rfl rfl rfl (s_off rfl rfl rfl rfl rfl (s_off rfl rfl rfl rfl rfl (s_off rfl rfl rfl rfl rfl (s_rd (r_pickF rfl rfl) rfl (l_nil ?_)))))))))))))
       exact b_to (hk58 false ()) (weak [0, 1] ⟨rfl, rfl, rfl, rfl, rfl, rfl, rfl, rfl, rfl, rfl, rfl, trivial⟩ ⟨rfl, rfl, trivial⟩)
      refine s_off rfl rfl rfl rfl rfl (s_off rfl rfl rfl rfl rfl (s_off rfl rfl rfl rfl rfl (s_rd (r_pickF rfl rfl) rfl (mv1 rfl rfl (s_off rfl rfl rfl rfl rfl (s_off rfl rfl rfl rfl rfl (s_off rfl rfl rfl rfl rfl (s_off rfl rfl rfl rfl rfl (s_off rfl rfl rfl rfl rfl (s_rd (r_pickF rfl rfl) rfl (mv1 rfl rfl (s_off rfl rfl rfl rfl rfl (s_off rfl rfl rfl rfl rfl (s_off rfl rfl rfl rfl rfl (s_off rfl rfl rfl rfl rfl (s_off rfl rfl rfl rfl rfl (s_rd (r_pickF rfl rfl) rfl (l_nil ?_))))))))))))))))))
      exact b_to (hk58 false ()) (weak [0, 1] ⟨rfl, rfl, rfl, rfl, rfl, rfl, rfl, rfl, rfl, rfl, rfl, trivial⟩ ⟨rfl, rfl, trivial⟩)
     refine n_then ?_
     refine ref_cond rfl (fun hb59 => ?_) (fun hb59 => ?_)
     ·refine ref_seq (ref_region (mv1 rfl rfl (mv1 rfl rfl (as1 rfl rfl (as1 rfl rfl (as1 rfl rfl (l_nil (n_then (ref_ret (r_block (r_then ?_)))))))))))
      refine retX ?_
      refine r_block (r_block (r_then ?_))
      refine retX ?_
      refine r_block (r_then ?_)
      exact fin3 (.inl rfl) () [] rfl trivial rfl (rv_tmp rfl) (rv_tmp rfl) (rv_tmp rfl)
     refine ref_skip (n_block (n_then (ref_region (s_rd (r_add rfl rfl) rfl (mv1 rfl rfl (l_nil ?_))))))
     exact goX () (weak [0, 1] ⟨rfl, rfl, rfl, rfl, rfl, rfl, rfl, rfl, rfl, trivial⟩ ⟨rfl, rfl, trivial⟩)
    refine ref_exit (x_then ?_)
    exact brkX () (weak [0] ⟨rfl, rfl, rfl, rfl, trivial⟩ ⟨rfl, trivial⟩)
   refine n_block (n_then (ref_region (s_rd (r_add rfl rfl) rfl (mv1 rfl rfl (l_nil ?_)))))
   exact goX () (weak [0] ⟨rfl, rfl, rfl, rfl, trivial⟩ ⟨rfl, trivial⟩)
  refine ref_exit (x_then ?_)
  exact brkX () (weak [] trivial trivial)
 refine n_then (ref_seq (ref_region (as1 rfl rfl (as1 rfl rfl (as1 rfl rfl (l_nil (n_then (ref_ret ?_))))))))
 exact fin3 (.inl rfl) () [] rfl trivial rfl (rv_tmp rfl) (rv_tmp rfl) (rv_tmp rfl)

/-! deliberation/deliberationref38.Conflict -/
noncomputable def ref38_Conflict_l2 (l_0 : T_Lib) (s38 : Int) (s55 : Int) : Option (Sum ((Sum (Int × Int × Bool) (Unit))) (Int)) :=
 bif decide (s55 < (l_0.Cases.length : Int)) then
  Option.bind (idxM l_0.Cases s38) fun t59 =>
  Option.bind (idxM l_0.Cases s55) fun t60 =>
  joinM (fun j65 : Bool =>
    bif j65 then
     some (Sum.inl (Sum.inl (s38, s55, true)))
    else
     letM (iadd .i64 s55 1) fun j69 =>
     some (Sum.inr j69)) fun k67 =>
  bif t59.Winner == 1 then
   bif t60.Winner == 2 then
    Option.bind (ref38_Inside_m t59.Reason t60.Facts) fun t63 =>
    bif t63 then
     Option.bind (ref38_Inside_m t60.Reason t59.Facts) fun t64 =>
     k67 t64
    else
     k67 false
   else
    k67 false
  else
   k67 false
 else
  some (Sum.inl (Sum.inr ()))

noncomputable def ref38_Conflict_l1 (l_0 : T_Lib) (s38 : Int) : Option (Sum ((Sum (Int × Int × Bool) (Unit))) (Int)) :=
 bif decide (s38 < (l_0.Cases.length : Int)) then
  Option.bind (loopC (ref38_Conflict_l2 l_0 s38) 0) (sumK (fun a : Int × Int × Bool => some (Sum.inl (Sum.inl a))) fun q70 : Unit =>
   letM (iadd .i64 s38 1) fun i72 =>
   some (Sum.inr i72))
 else
  some (Sum.inl (Sum.inr ()))

noncomputable def ref38_Conflict_m (l_0 : T_Lib) : Option (Int × Int × Bool) :=
 Option.bind (ref38_Validate_m l_0) fun t2 =>
 bif t2 != 0 then
  some (0, 0, false)
 else
  Option.bind (loopC (ref38_Conflict_l1 l_0) 0) (sumK (fun a : Int × Int × Bool => some a) fun q73 : Unit =>
   some (0, 0, false))

theorem ref38_Conflict_ok {l_0 : T_Lib} {r : Int × Int × Bool} (hm : ref38_Conflict_m l_0 = some r) :
  FnOk prog 12 [ag [slv rS l_0.Sides.i0, slv rS l_0.Sides.i1, slv rT_Cas l_0.Cases]] [] (fun (x : Unit) => [iv .i64 r.1, iv .i64 r.2.1, bv r.2.2]) (fun (x : Unit) => []) := by
 refine fn_ok (fn := Tryz.f12) (N := 60) (res := fun r x => [iv .i64 r.1, iv .i64 r.2.1, bv r.2.2]) (Ω1 := fun r x => []) Tryz.func12 rfl rfl hm rfl (fun E hM => ?_)
 unfold ref38_Conflict_m
 refine ref_seq (ref_region (s_st (s_box (part_agO (ψs := [slv rS l_0.Sides.i0, slv rS l_0.Sides.i1, slv rT_Cas l_0.Cases]) rfl ⟨.inl slv_at, .inl slv_at, .inl slv_at, trivial⟩)) rfl (fun b1 => as1 rfl rfl (as1 rfl rfl (as1 rfl rfl (l_nil (n_then (ref_seq (ref_seq (ref_region (s_rd (r_cloadS Tryz.isAgg26 Tryz.sizeOf26 rfl (j := 0) rfl rfl rfl) rfl (pull fun t2 h_t2 => s_st (s_call (ψ := fun (_ : Unit) => iv .i64 t2) (args := [.tmp 9]) Tryz.call10 rfl (ref38_Validate_ok h_t2) ⟨arg rfl, trivial⟩ (fun _ _ _ _ h => h)) rfl (fun _ => s_rd (r_neq rfl rfl) rfl (l_nil (n_then ?_)))))))))))))))
 refine ref_cond rfl (fun hb3 => ?_) (fun hb3 => ?_)
 ·refine ref_seq (ref_region (as1 rfl rfl (as1 rfl rfl (as1 rfl rfl (l_nil (n_then (ref_ret (r_then ?_))))))))
  exact fin3 (.inl rfl) () [] rfl trivial rfl (rv_tmp rfl) (rv_tmp rfl) (rv_tmp rfl)
 refine ref_skip (n_then (ref_seq (ref_seq (ref_region (as1 rfl rfl (l_nil (n_then ?_)))))))
 refine ref_loopX (f := (ref38_Conflict_l1 l_0)) (Γl := (fun (s38 : Int) (x39 : Unit) => [(1, pv (ptr b1 0)), (5, iv .i64 s38)])) (Ωl := (fun (s38 : Int) (x39 : Unit) => [oc b1 [slv rS l_0.Sides.i0, slv rS l_0.Sides.i1, slv rT_Cas l_0.Cases]])) (Γb := (fun (q73 : Unit) (y74 : Unit) => [])) (Ωb := (fun (q73 : Unit) (y74 : Unit) => [])) (kr := (fun a : Int × Int × Bool => some a)) 0 () (weak [0] ⟨rfl, rfl, trivial⟩ ⟨rfl, trivial⟩) (fun s38 x39 => ?_) (fun q73 y74 => ?_)
 ·unfold ref38_Conflict_l1
  refine ref_seq (ref_seq (ref_region (mv1 rfl rfl (s_rd (r_faddr (fo := 2) Tryz.underlying26 rfl rfl Tryz.sizeOf24 rfl) rfl (s_rd (r_cload Tryz.isAgg24 rfl (j := 0) rfl rfl) rfl (s_rd (r_len Tryz.underlying24 rfl) rfl (s_rd (r_lss rfl rfl) rfl (l_nil (n_then ?_)))))))))
  refine ref_cond rfl (fun hb40 => ?_) (fun hb40 => ?_)
  ·refine ref_skip (n_then (ref_seq (ref_block (ref_seq (ref_region (as1 rfl rfl (l_nil (n_then ?_))))))))
   refine ref_loopX (f := (ref38_Conflict_l2 l_0 s38)) (Γl := (fun (s55 : Int) (x56 : Unit) => [(1, pv (ptr b1 0)), (5, iv .i64 s38), (6, iv .i64 s55)])) (Ωl := (fun (s55 : Int) (x56 : Unit) => [oc b1 [slv rS l_0.Sides.i0, slv rS l_0.Sides.i1, slv rT_Cas l_0.Cases]])) (Γb := (fun (q70 : Unit) (y71 : Unit) => [(1, pv (ptr b1 0)), (5, iv .i64 s38)])) (Ωb := (fun (q70 : Unit) (y71 : Unit) => [oc b1 [slv rS l_0.Sides.i0, slv rS l_0.Sides.i1, slv rT_Cas l_0.Cases]])) (kr := (fun a : Int × Int × Bool => some (Sum.inl (Sum.inl a)))) 0 () (weak [0] ⟨rfl, rfl, rfl, trivial⟩ ⟨rfl, trivial⟩) (fun s55 x56 => ?_) (fun q70 y71 => ?_)
   ·unfold ref38_Conflict_l2
    refine ref_seq (ref_seq (ref_region (mv1 rfl rfl (s_rd (r_faddr (fo := 2) Tryz.underlying26 rfl rfl Tryz.sizeOf24 rfl) rfl (s_rd (r_cload Tryz.isAgg24 rfl (j := 0) rfl rfl) rfl (s_rd (r_len Tryz.underlying24 rfl) rfl (s_rd (r_lss rfl rfl) rfl (l_nil (n_then ?_)))))))))
    refine ref_cond rfl (fun hb57 => ?_) (fun hb57 => ?_)
    ·refine ref_skip (n_then (ref_seq (ref_block (ref_seq (pull fun t59 h_t59 => pull fun t60 h_t60 => ?_)))))
     refine ref_drawI 2 [⟨[], [], [], [], [], fun us u => pv (ptr b1 2), fun us u => []⟩, ⟨[0], [], [], [0], [], fun us u => slv rT_Cas l_0.Cases, fun us u => []⟩, ⟨[], [], [], [], [], fun us u => iv .i64 s38, fun us u => []⟩, ⟨[0, 1, 2], [], [], [], [], fun us u => ea rT_Cas t59, fun us u => []⟩, ⟨[0, 1, 2, 3], [], [], [], [], fun us u => ag [sv t59.Name, slv rS t59.Facts, iv .i64 t59.Winner, slv rS t59.Reason], fun us u => []⟩, ⟨[], [], [], [], [], fun us u => pv (ptr b1 2), fun us u => []⟩, ⟨[5], [], [], [0], [], fun us u => slv rT_Cas l_0.Cases, fun us u => []⟩, ⟨[], [], [], [], [], fun us u => iv .i64 s55, fun us u => []⟩, ⟨[5, 6, 7], [], [], [], [], fun us u => ea rT_Cas t60, fun us u => []⟩, ⟨[5, 6, 7, 8], [], [], [], [], fun us u => ag [sv t60.Name, slv rS t60.Facts, iv .i64 t60.Winner, slv rS t60.Reason], fun us u => []⟩, ⟨[], [], [1], [1], [], fun us u => pv (ptr u.Nn 0), fun us u => [oc u.Nn [sv ByteArray.empty, pv (.slice none 0 0), iv .i64 0, pv (.slice none 0 0)]]⟩, ⟨[], [], [2], [2], [], fun us u => pv (ptr u.Nn 0), fun us u => [oc u.Nn [sv ByteArray.empty, pv (.slice none 0 0), iv .i64 0, pv (.slice none 0 0)]]⟩, ⟨[0, 1, 2, 3, 4, 10, 11], [10], [1], [1], [1], fun us u => pv undef, fun us u => [oc (us.getD 0 .none).Nn [sv t59.Name, slv rS t59.Facts, iv .i64 t59.Winner, slv rS t59.Reason]]⟩, ⟨[0, 1, 2, 3, 4, 5, 6, 7, 8, 9, 10, 11, 12], [11], [2], [2], [2], fun us u => pv undef, fun us u => [oc (us.getD 0 .none).Nn [sv t60.Name, slv rS t60.Facts, iv .i64 t60.Winner, slv rS t60.Reason]]⟩] (fun χ58 => [(1, pv (ptr b1 0)), (5, iv .i64 s38), (6, iv .i64 s55), (7, pv (ptr (χ58 10).Nn 0)), (8, pv (ptr (χ58 11).Nn 0))]) (fun χ58 => [oc b1 [slv rS l_0.Sides.i0, slv rS l_0.Sides.i1, slv rT_Cas l_0.Cases], oc (χ58 10).Nn [sv t59.Name, slv rS t59.Facts, iv .i64 t59.Winner, slv rS t59.Reason], oc (χ58 11).Nn [sv t60.Name, slv rS t60.Facts, iv .i64 t60.Winner, slv rS t60.Reason]]) rfl (by kernel_rfl) ⟨fun χ58 Ω _ => St.toR (r_faddr (fo := 2) Tryz.underlying26 rfl rfl Tryz.sizeOf24 rfl) (fun _ => rfl) (fun _ => rfl), (by intro _ h; cases h; rfl), ⟨fun χ58 Ω ⟨h0, _⟩ => St.toR (r_cload Tryz.isAgg24 rfl (j := 0) h0 rfl) (fun _ => rfl) (fun _ => rfl), (by intro _ h; cases h; rfl), ⟨fun χ58 Ω _ => St.toR (r_move rfl) (fun _ => rfl) (fun _ => rfl), (by intro _ h; cases h; rfl), ⟨fun χ58 Ω _ => St.toR (r_index h_t59 Tryz.underlying24 el_60 rfl rfl) (fun _ => rfl) (fun _ => rfl), (by intro _ h; cases h; rfl), ⟨fun χ58 Ω _ => St.toR (r_load el_60 rfl) (fun _ => rfl) (fun _ => rfl), (by intro _ h; cases h; rfl), ⟨fun χ58 Ω _ => St.toR (r_faddr (fo := 2) Tryz.underlying26 rfl rfl Tryz.sizeOf24 rfl) (fun _ => rfl) (fun _ => rfl), (by intro _ h; cases h; rfl), ⟨fun χ58 Ω ⟨h0, _⟩ => St.toR (r_cload Tryz.isAgg24 rfl (j := 0) h0 rfl) (fun _ => rfl) (fun _ => rfl), (by intro _ h; cases h; rfl), ⟨fun χ58 Ω _ => St.toR (r_move rfl) (fun _ => rfl) (fun _ => rfl), (by intro _ h; cases h; rfl), ⟨fun χ58 Ω _ => St.toR (r_index h_t60 Tryz.underlying24 el_60 rfl rfl) (fun _ => rfl) (fun _ => rfl), (by intro _ h; cases h; rfl), ⟨fun χ58 Ω _ => St.toR (r_load el_60 rfl) (fun _ => rfl) (fun _ => rfl), (by intro _ h; cases h; rfl), ⟨fun χ58 Ω ⟨h1, _⟩ => St.to XU.Nn XU.hN (St.placeL (os := fun _ => [_]) [1] (s_alloc zt_60) (fun _ => rfl) (fun _ => ⟨h1, rfl, trivial⟩)) (fun _ => rfl) (fun _ => rfl), (by intro _ h; cases h; rfl), ⟨fun χ58 Ω ⟨h2, _⟩ => St.to XU.Nn XU.hN (St.placeL (os := fun _ => [_]) [2] (s_alloc zt_60) (fun _ => rfl) (fun _ => ⟨h2, rfl, trivial⟩)) (fun _ => rfl) (fun _ => rfl), (by intro _ h; cases h; rfl), ⟨fun χ58 Ω ⟨h1, _⟩ => St.to XU.U XU.hU (s_cstore (out := [sv t59.Name, slv rS t59.Facts, iv .i64 t59.Winner, slv rS t59.Reason]) Tryz.sizeOf60 rfl (j := 1) h1 (part_agO (ψs := [sv t59.Name, slv rS t59.Facts, iv .i64 t59.Winner, slv rS t59.Reason]) rfl ⟨.inl sv_at, .inl slv_at, .inl iv_at, .inl slv_at, trivial⟩) rfl rfl rfl) (fun _ => rfl) (fun _ => rfl), (by intro _ h; cases h), ⟨fun χ58 Ω ⟨h2, _⟩ => St.to XU.U XU.hU (s_cstore (out := [sv t60.Name, slv rS t60.Facts, iv .i64 t60.Winner, slv rS t60.Reason]) Tryz.sizeOf60 rfl (j := 2) h2 (part_agO (ψs := [sv t60.Name, slv rS t60.Facts, iv .i64 t60.Winner, slv rS t60.Reason]) rfl ⟨.inl sv_at, .inl slv_at, .inl iv_at, .inl slv_at, trivial⟩) rfl rfl rfl) (fun _ => rfl) (fun _ => rfl), (by intro _ h; cases h), trivial⟩⟩⟩⟩⟩⟩⟩⟩⟩⟩⟩⟩⟩⟩ (fun _ => ⟨rfl, rfl, rfl, rfl, rfl, trivial⟩) (fun _ => rfl) (fun χ58 => ?_)
     refine n_then (ref_seq ?_)
     refine ref_join (fun (j65 : Bool) (x66 : Unit) => [(1, pv (ptr b1 0)), (5, iv .i64 s38), (6, iv .i64 s55), (57, bv j65)]) (fun (j65 : Bool) (x66 : Unit) => [oc b1 [slv rS l_0.Sides.i0, slv rS l_0.Sides.i1, slv rT_Cas l_0.Cases]]) (fun k67 hk67 => ?_) (fun j65 x66 => ?_)
     ·refine ref_region (s_rd (r_faddr (fo := 2) Tryz.underlying60 rfl rfl Tryz.sizeOf3 rfl) rfl (s_rd (r_cload Tryz.isAgg3 rfl (j := 1) rfl rfl) rfl (s_rd (r_eql rfl rfl) rfl (mv1 rfl rfl ?_))))
      refine b_split (t := 39) rfl (fun _ => ?_) (fun _ => ?_)
      ·refine s_on rfl rfl rfl (s_rd (r_faddr (fo := 2) Tryz.underlying60 rfl rfl Tryz.sizeOf3 rfl) rfl (s_on rfl rfl rfl (s_rd (r_cload Tryz.isAgg3 rfl (j := 2) rfl rfl) rfl (s_on rfl rfl rfl (s_rd (r_eql rfl rfl) rfl (s_rd (r_pickT rfl rfl) rfl (mv1 rfl rfl ?_)))))))
       refine b_split (t := 44) rfl (fun _ => ?_) (fun _ => ?_)
       ·refine s_on rfl rfl rfl (s_rd (r_faddr (fo := 3) Tryz.underlying60 rfl rfl Tryz.sizeOf22 rfl) rfl (s_on rfl rfl rfl (s_rd (r_cload Tryz.isAgg22 rfl (j := 1) rfl rfl) rfl (s_on rfl rfl rfl (s_rd (r_faddr (fo := 1) Tryz.underlying60 rfl rfl Tryz.sizeOf22 rfl) rfl (s_on rfl rfl rfl (s_rd (r_cload Tryz.isAgg22 rfl (j := 2) rfl rfl) rfl (s_on rfl rfl rfl (pull fun t63 h_t63 => s_st (s_call (ψ := fun (_ : Unit) => bv t63) (args := [.tmp 46, .tmp 48]) Tryz.call49 rfl (ref38_Inside_ok h_t63) ⟨arg rfl, arg rfl, trivial⟩ (fun _ _ _ _ h => h)) rfl (fun _ => s_rd (r_pickT rfl rfl) rfl (mv1 rfl rfl ?_)))))))))))
        refine b_split (t := 51) rfl (fun _ => ?_) (fun _ => ?_)
        ·refine s_on rfl rfl rfl (s_rd (r_faddr (fo := 3) Tryz.underlying60 rfl rfl Tryz.sizeOf22 rfl) rfl (s_on rfl rfl rfl (s_rd (r_cload Tryz.isAgg22 rfl (j := 2) rfl rfl) rfl (s_on rfl rfl rfl (s_rd (r_faddr (fo := 1) Tryz.underlying60 rfl rfl Tryz.sizeOf22 rfl) rfl (s_on rfl rfl rfl (s_rd (r_cload Tryz.isAgg22 rfl (j := 1) rfl rfl) rfl (s_on rfl rfl rfl (pull fun t64 h_t64 => s_st (s_call (ψ := fun (_ : Unit) => bv t64) (args := [.tmp 53, .tmp 55]) Tryz.call49 rfl (ref38_Inside_ok h_t64) ⟨arg rfl, arg rfl, trivial⟩ (fun _ _ _ _ h => h)) rfl (fun _ => s_rd (r_pickT rfl rfl) rfl (l_nil ?_)))))))))))
         exact b_to (hk67 t64 ()) (weak [0] ⟨rfl, rfl, rfl, rfl, trivial⟩ ⟨rfl, trivial⟩)
        refine s_off rfl rfl rfl rfl rfl (s_off rfl rfl rfl rfl rfl (s_off rfl rfl rfl rfl rfl (s_off rfl rfl rfl rfl rfl (s_off rfl rfl rfl rfl rfl (s_rd (r_pickF rfl rfl) rfl (l_nil ?_))))))
        exact b_to (hk67 false ()) (weak [0] ⟨rfl, rfl, rfl, rfl, trivial⟩ ⟨rfl, trivial⟩)
       refine s_off rfl rfl rfl rfl rfl (s_off rfl rfl rfl rfl rfl (s_off rfl rfl rfl rfl rfl (s_off rfl rfl rfl rfl rfl (s_off rfl rfl rfl rfl rfl (s_rd (r_pickF rfl rfl) rfl (mv1 rfl rfl (s_off rfl rfl rfl rfl rfl (s_off rfl rfl rfl rfl rfl (s_off rfl rfl rfl rfl rfl (s_off rfl rfl rfl rfl rfl (s_off rfl rfl rfl rfl rfl (s_rd (r_pickF rfl rfl) rfl (l_nil ?_)))))))))))))
       exact b_to (hk67 false ()) (weak [0] ⟨rfl, rfl, rfl, rfl, trivial⟩ ⟨rfl, trivial⟩)
      refine s_off rfl rfl rfl rfl rfl (s_off rfl rfl rfl rfl rfl (s_off rfl rfl rfl rfl rfl (s_rd (r_pickF rfl rfl) rfl (mv1 rfl rfl (s_off rfl rfl rfl rfl rfl (s_off rfl rfl rfl rfl rfl (s_off rfl rfl rfl rfl rfl (s_off rfl rfl rfl rfl rfl (s_off rfl rfl rfl rfl rfl (s_rd (r_pickF rfl rfl) rfl (mv1 rfl rfl (s_off rfl rfl rfl rfl rfl (s_off rfl rfl rfl rfl rfl (s_off rfl rfl rfl rfl rfl (s_off rfl rfl rfl rfl rfl (s_off rfl rfl rfl rfl rfl (s_rd (r_pickF rfl rfl) rfl (l_nil ?_))))))))))))))))))
      exact b_to (hk67 false ()) (weak [0] ⟨rfl, rfl, rfl, rfl, trivial⟩ ⟨rfl, trivial⟩)
     refine n_then ?_
     refine ref_cond rfl (fun hb68 => ?_) (fun hb68 => ?_)
     ·refine ref_seq (ref_region (mv1 rfl rfl (mv1 rfl rfl (as1 rfl rfl (as1 rfl rfl (as1 rfl rfl (l_nil (n_then (ref_ret (r_block (r_then ?_)))))))))))
      refine retX ?_
      refine r_block (r_block (r_then ?_))
      refine retX ?_
      refine r_block (r_then ?_)
      exact fin3 (.inl rfl) () [] rfl trivial rfl (rv_tmp rfl) (rv_tmp rfl) (rv_tmp rfl)
     refine ref_skip (n_block (n_then (ref_region (mv1 rfl rfl (s_rd (r_add rfl rfl) rfl (as1 rfl rfl (b_let (f := iv .i64) (t := 6) rfl fun j69 => l_nil ?_)))))))
     exact goX () (weak [0] ⟨rfl, rfl, rfl, trivial⟩ ⟨rfl, trivial⟩)
    refine ref_exit (x_then ?_)
    exact brkX () (weak [0] ⟨rfl, rfl, trivial⟩ ⟨rfl, trivial⟩)
   refine n_block (n_then (ref_region (mv1 rfl rfl (s_rd (r_add rfl rfl) rfl (as1 rfl rfl (b_let (f := iv .i64) (t := 5) rfl fun i72 => l_nil ?_))))))
   exact goX () (weak [0] ⟨rfl, rfl, trivial⟩ ⟨rfl, trivial⟩)
  refine ref_exit (x_then ?_)
  exact brkX () (weak [] trivial trivial)
 refine n_then (ref_seq (ref_region (as1 rfl rfl (as1 rfl rfl (as1 rfl rfl (l_nil (n_then (ref_ret ?_))))))))
 exact fin3 (.inl rfl) () [] rfl trivial rfl (rv_tmp rfl) (rv_tmp rfl) (rv_tmp rfl)

/-! deliberation/deliberationref38.situation -/
noncomputable def ref38_situation_m (l_0 : T_Lib) (facts_1 : (List ByteArray)) : Option (Int) :=
 Option.bind (ref38_Validate_m l_0) fun e2 =>
 bif e2 != 0 then
  some e2
 else
  Option.bind (ref38_ascending_m facts_1) fun t4 =>
  bif !t4 then
   some 8
  else
   Option.bind (ref38_factors_m l_0 facts_1) fun t6 =>
   bif !t6 then
    some 6
   else
    some 0

theorem ref38_situation_ok {l_0 : T_Lib} {facts_1 : (List ByteArray)} {r : Int} (hm : ref38_situation_m l_0 facts_1 = some r) :
  FnOk prog 61 [ag [slv rS l_0.Sides.i0, slv rS l_0.Sides.i1, slv rT_Cas l_0.Cases], slv rS facts_1] [] (fun (x : Unit) => [iv .i64 r]) (fun (x : Unit) => []) := by
 refine fn_ok (fn := Tryz.f61) (N := 18) (res := fun r x => [iv .i64 r]) (Ω1 := fun r x => []) Tryz.func61 rfl rfl hm rfl (fun E hM => ?_)
 unfold ref38_situation_m
 refine ref_seq (ref_region (s_st (s_box (part_agO (ψs := [slv rS l_0.Sides.i0, slv rS l_0.Sides.i1, slv rT_Cas l_0.Cases]) rfl ⟨.inl slv_at, .inl slv_at, .inl slv_at, trivial⟩)) rfl (fun b1 => as1 rfl rfl (l_nil (n_then (ref_seq (ref_seq (ref_region (s_rd (r_cloadS Tryz.isAgg26 Tryz.sizeOf26 rfl (j := 0) rfl rfl rfl) rfl (pull fun e2 h_e2 => s_st (s_call (ψ := fun (_ : Unit) => iv .i64 e2) (args := [.tmp 6]) Tryz.call10 rfl (ref38_Validate_ok h_e2) ⟨arg rfl, trivial⟩ (fun _ _ _ _ h => h)) rfl (fun _ => as1 rfl rfl (l_nil (n_then (ref_seq (ref_region (mv1 rfl rfl (s_rd (r_neq rfl rfl) rfl (l_nil (n_then ?_)))))))))))))))))))
 refine ref_cond rfl (fun hb3 => ?_) (fun hb3 => ?_)
 ·refine ref_seq (ref_region (mv1 rfl rfl (as1 rfl rfl (l_nil (n_then (ref_ret (r_then ?_)))))))
  exact fin1 (.inl rfl) () [] rfl trivial rfl (rv_tmp rfl)
 refine ref_skip (n_then (ref_seq (ref_seq (ref_region (mv1 rfl rfl (pull fun t4 h_t4 => s_st (s_call (ψ := fun (_ : Unit) => bv t4) (args := [.tmp 11]) Tryz.call78 rfl (ref38_ascending_ok h_t4) ⟨arg rfl, trivial⟩ (fun _ _ _ _ h => h)) rfl (fun _ => s_rd (r_not rfl) rfl (l_nil (n_then ?_)))))))))
 refine ref_cond rfl (fun hb5 => ?_) (fun hb5 => ?_)
 ·refine ref_seq (ref_region (as1 rfl rfl (l_nil (n_then (ref_ret (r_then ?_))))))
  exact fin1 (.inl rfl) () [] rfl trivial rfl (rv_tmp rfl)
 refine ref_skip (n_then (ref_seq (ref_seq (ref_region (s_rd (r_cloadS Tryz.isAgg26 Tryz.sizeOf26 rfl (j := 0) rfl rfl rfl) rfl (mv1 rfl rfl (pull fun t6 h_t6 => s_st (s_call (ψ := fun (_ : Unit) => bv t6) (args := [.tmp 14, .tmp 15]) Tryz.call48 rfl (ref38_factors_ok h_t6) ⟨arg rfl, arg rfl, trivial⟩ (fun _ _ _ _ h => h)) rfl (fun _ => s_rd (r_not rfl) rfl (l_nil (b_of (nrm [oc b1 [slv rS l_0.Sides.i0, slv rS l_0.Sides.i1, slv rT_Cas l_0.Cases]] rfl) (n_then ?_)))))))))))
 refine ref_cond rfl (fun hb7 => ?_) (fun hb7 => ?_)
 ·refine ref_seq (ref_region (as1 rfl rfl (l_nil (n_then (ref_ret (r_then ?_))))))
  exact fin1 (.inl rfl) () [] rfl trivial rfl (rv_tmp rfl)
 refine ref_skip (n_then (ref_seq (ref_region (as1 rfl rfl (l_nil (n_then (ref_ret ?_)))))))
 exact fin1 (.inl rfl) () [] rfl trivial rfl (rv_tmp rfl)

/-! deliberation/deliberationref38.force -/
noncomputable def ref38_force_l1 (l_0 : T_Lib) (facts_1 : (List ByteArray)) (reasons_2 : Bool) (s52 : Int × (List Int) × (List Int)) : Option (Sum ((List Int) × (List Int)) (Int × (List Int) × (List Int))) :=
 bif decide (s52.1 < (l_0.Cases.length : Int)) then
  Option.bind (idxM l_0.Cases s52.1) fun t55 =>
  Option.bind (ref38_Own_m l_0 t55.Facts t55.Winner) fun need57 =>
  joinM (fun j60 : (List ByteArray) =>
    Option.bind (ref38_Inside_m j60 facts_1) fun t63 =>
    bif !t63 then
     letM (iadd .i64 s52.1 1) fun i73 =>
     some (Sum.inr (i73, s52.2.1, s52.2.2))
    else
     Option.bind (ref38_Own_m l_0 facts_1 (isub .i64 3 t55.Winner)) fun t64 =>
     Option.bind (ref38_Inside_m t64 t55.Facts) fun t66 =>
     bif !t66 then
      letM (iadd .i64 s52.1 1) fun i74 =>
      some (Sum.inr (i74, s52.2.1, s52.2.2))
     else
      bif t55.Winner == 1 then
       Option.bind (appM 8 s52.2.1 [s52.1]) fun t69 =>
       letM (iadd .i64 s52.1 1) fun i75 =>
       some (Sum.inr (i75, t69, s52.2.2))
      else
       Option.bind (appM 8 s52.2.2 [s52.1]) fun t71 =>
       letM (iadd .i64 s52.1 1) fun i76 =>
       some (Sum.inr (i76, s52.2.1, t71))) fun k62 =>
  bif reasons_2 then
   k62 t55.Reason
  else
   k62 need57
 else
  some (Sum.inl (s52.2.1, s52.2.2))

noncomputable def ref38_force_m (l_0 : T_Lib) (facts_1 : (List ByteArray)) (reasons_2 : Bool) : Option (T_For × Int) :=
 Option.bind (ref38_situation_m l_0 facts_1) fun e3 =>
 bif e3 != 0 then
  some ((T_For.mk [] []), e3)
 else
  Option.bind (loopC (ref38_force_l1 l_0 facts_1 reasons_2) (0, [], [])) fun q77 : (List Int) × (List Int) =>
  some ((T_For.mk q77.1 q77.2), 0)

theorem ref38_force_ok {l_0 : T_Lib} {facts_1 : (List ByteArray)} {reasons_2 : Bool} {r : T_For × Int} (hm : ref38_force_m l_0 facts_1 reasons_2 = some r) :
  FnOk prog 52 [ag [slv rS l_0.Sides.i0, slv rS l_0.Sides.i1, slv rT_Cas l_0.Cases], slv rS facts_1, bv reasons_2] [] (fun (x : Unit) => [ag [slv (rI .i64) r.1.For, slv (rI .i64) r.1.Against], iv .i64 r.2]) (fun (x : Unit) => []) := by
 refine fn_ok (fn := Tryz.f52) (N := 73) (res := fun r x => [ag [slv (rI .i64) r.1.For, slv (rI .i64) r.1.Against], iv .i64 r.2]) (Ω1 := fun r x => []) Tryz.func52 rfl rfl hm rfl (fun E hM => ?_)
 unfold ref38_force_m
 refine ref_seq (ref_region (s_st (s_box (part_agO (ψs := [slv rS l_0.Sides.i0, slv rS l_0.Sides.i1, slv rT_Cas l_0.Cases]) rfl ⟨.inl slv_at, .inl slv_at, .inl slv_at, trivial⟩)) rfl (fun b1 => s_st (s_alloc zt_42) rfl (fun b2 => as1 rfl rfl (l_nil (n_then (ref_seq (ref_seq (ref_region (s_rd (r_cloadS Tryz.isAgg26 Tryz.sizeOf26 rfl (j := 0) rfl rfl rfl) rfl (mv1 rfl rfl (pull fun e3 h_e3 => s_st (s_call (ψ := fun (_ : Unit) => iv .i64 e3) (args := [.tmp 13, .tmp 14]) Tryz.call61 rfl (ref38_situation_ok h_e3) ⟨arg rfl, arg rfl, trivial⟩ (fun _ _ _ _ h => h)) rfl (fun _ => as1 rfl rfl (l_nil (n_then (ref_seq (ref_region (mv1 rfl rfl (s_rd (r_neq rfl rfl) rfl (l_nil (n_then ?_)))))))))))))))))))))
 refine ref_cond rfl (fun hb4 => ?_) (fun hb4 => ?_)
 ·refine ref_seq (ref_region (s_rd (r_build (ps := []) (rs := []) st_42 zs_42 trivial rfl rfl) rfl (mv1 rfl rfl (s_st0 (s_cstore (out := [pv (.slice none 0 0), pv (.slice none 0 0)]) Tryz.sizeOf42 rfl (j := 1) rfl (part_agO (ψs := [pv (.slice none 0 0), pv (.slice none 0 0)]) rfl ⟨.inl (pv_at rfl), .inl (pv_at rfl), trivial⟩) rfl rfl rfl) (fun _ => as1 rfl rfl (l_nil (b_of (nrm [oc b1 [slv rS l_0.Sides.i0, slv rS l_0.Sides.i1, slv rT_Cas l_0.Cases], oc b2 [pv (.slice none 0 0), pv (.slice none 0 0)]] rfl) (n_then (ref_ret (r_then (b_of (ocW 1 [slv (rI .i64) [], slv (rI .i64) []] rfl ⟨nil_sl, nil_sl, trivial⟩) ?_)))))))))))
  exact fin2 (.inl rfl) () [] rfl trivial rfl (rv_cell rfl (j := 1) rfl Tryz.isAgg42 Tryz.sizeOf42 rfl rfl) (rv_tmp rfl)
 refine ref_skip (n_then (ref_seq (ref_region (s_st (s_alloc zt_42) rfl (fun b5 => l_nil (b_of (nrm [oc b1 [slv rS l_0.Sides.i0, slv rS l_0.Sides.i1, slv rT_Cas l_0.Cases], oc b2 [pv (.slice none 0 0), pv (.slice none 0 0)], oc b5 [pv (.slice none 0 0), pv (.slice none 0 0)]] rfl) (n_then (ref_seq (ref_seq (ref_region (as1 rfl rfl (l_nil (n_then (b_of (own_nil (rI .i64)) (b_of (own_nil (rI .i64)) ?_)))))))))))))))
 refine ref_loopB (f := (ref38_force_l1 l_0 facts_1 reasons_2)) (Γl := (fun (s52 : Int × (List Int) × (List Int)) (x53 : (Value × List Nat) × (Value × List Nat)) => [(1, slv rS facts_1), (2, bv reasons_2), (3, pv (ptr b1 0)), (6, pv (ptr b2 0)), (9, pv (ptr b5 0)), (10, iv .i64 s52.1)])) (Ωl := (fun (s52 : Int × (List Int) × (List Int)) (x53 : (Value × List Nat) × (Value × List Nat)) => [oc b1 [slv rS l_0.Sides.i0, slv rS l_0.Sides.i1, slv rT_Cas l_0.Cases], oc b2 [pv (.slice none 0 0), pv (.slice none 0 0)], oc b5 [pv x53.1.1, pv x53.2.1], oa (rI .i64) x53.1.1 x53.1.2 s52.2.1, oa (rI .i64) x53.2.1 x53.2.2 s52.2.2])) (Γb := (fun (q77 : (List Int) × (List Int)) (y78 : (Value × List Nat) × (Value × List Nat)) => [(6, pv (ptr b2 0)), (9, pv (ptr b5 0))])) (Ωb := (fun (q77 : (List Int) × (List Int)) (y78 : (Value × List Nat) × (Value × List Nat)) => [oc b2 [pv (.slice none 0 0), pv (.slice none 0 0)], oc b5 [pv y78.1.1, pv y78.2.1], oa (rI .i64) y78.1.1 y78.1.2 q77.1, oa (rI .i64) y78.2.1 y78.2.2 q77.2])) (0, [], []) (((.slice none 0 0), []), ((.slice none 0 0), [])) (weak [0, 1, 2, 3, 4] ⟨rfl, rfl, rfl, rfl, rfl, rfl, trivial⟩ ⟨rfl, rfl, rfl, rfl, rfl, trivial⟩) (fun s52 x53 => ?_) (fun q77 y78 => ?_)
 ·unfold ref38_force_l1
  refine ref_seq (ref_seq (ref_region (mv1 rfl rfl (s_rd (r_faddr (fo := 2) Tryz.underlying26 rfl rfl Tryz.sizeOf24 rfl) rfl (s_rd (r_cload Tryz.isAgg24 rfl (j := 0) rfl rfl) rfl (s_rd (r_len Tryz.underlying24 rfl) rfl (s_rd (r_lss rfl rfl) rfl (l_nil (n_then ?_)))))))))
  refine ref_cond rfl (fun hb54 => ?_) (fun hb54 => ?_)
  ·refine ref_skip (n_then (ref_seq (ref_block (ref_seq (ref_region (s_rd (r_faddr (fo := 2) Tryz.underlying26 rfl rfl Tryz.sizeOf24 rfl) rfl (s_rd (r_cload Tryz.isAgg24 rfl (j := 0) rfl rfl) rfl (mv1 rfl rfl (pull fun t55 h_t55 => s_rd (r_index h_t55 Tryz.underlying24 el_60 rfl rfl) rfl (s_rd (r_load el_60 rfl) rfl (s_st (s_alloc zt_60) rfl (fun b56 => s_st0 (s_cstore (out := [sv t55.Name, slv rS t55.Facts, iv .i64 t55.Winner, slv rS t55.Reason]) Tryz.sizeOf60 rfl (j := 5) rfl (part_agO (ψs := [sv t55.Name, slv rS t55.Facts, iv .i64 t55.Winner, slv rS t55.Reason]) rfl ⟨.inl sv_at, .inl slv_at, .inl iv_at, .inl slv_at, trivial⟩) rfl rfl rfl) (fun _ => l_nil (n_then (ref_seq (ref_region (s_rd (r_cloadS Tryz.isAgg26 Tryz.sizeOf26 rfl (j := 0) rfl rfl rfl) rfl (s_rd (r_faddr (fo := 1) Tryz.underlying60 rfl rfl Tryz.sizeOf22 rfl) rfl (s_rd (r_cload Tryz.isAgg22 rfl (j := 5) rfl rfl) rfl (s_rd (r_faddr (fo := 2) Tryz.underlying60 rfl rfl Tryz.sizeOf3 rfl) rfl (s_rd (r_cload Tryz.isAgg3 rfl (j := 5) rfl rfl) rfl (pull fun need57 h_need57 => s_st (s_call (ψ := fun (x58 : (Value × List Nat)) => pv x58.1) (args := [.tmp 32, .tmp 34, .tmp 36]) Tryz.call30 rfl (ref38_Own_ok h_need57) ⟨arg rfl, arg rfl, arg rfl, trivial⟩ (fun _ _ _ _ h => h)) rfl (fun x58 => as1 rfl rfl (l_nil (n_then (ref_seq ?_))))))))))))))))))))))))))
   refine ref_join (fun (j60 : (List ByteArray)) (x61 : Unit) => [(1, slv rS facts_1), (2, bv reasons_2), (3, pv (ptr b1 0)), (6, pv (ptr b2 0)), (9, pv (ptr b5 0)), (10, iv .i64 s52.1), (11, pv (ptr b56 0)), (12, slv rS j60)]) (fun (j60 : (List ByteArray)) (x61 : Unit) => [oc b1 [slv rS l_0.Sides.i0, slv rS l_0.Sides.i1, slv rT_Cas l_0.Cases], oc b2 [pv (.slice none 0 0), pv (.slice none 0 0)], oc b5 [pv x53.1.1, pv x53.2.1], oa (rI .i64) x53.1.1 x53.1.2 s52.2.1, oa (rI .i64) x53.2.1 x53.2.2 s52.2.2, oc b56 [sv t55.Name, slv rS t55.Facts, iv .i64 t55.Winner, slv rS t55.Reason]]) (fun k62 hk62 => ?_) (fun j60 x61 => ?_)
   ·refine ref_seq (ref_region (mv1 rfl rfl (l_nil (n_then ?_))))
    refine ref_cond rfl (fun hb59 => ?_) (fun hb59 => ?_)
    ·refine ref_region (s_rd (r_faddr (fo := 3) Tryz.underlying60 rfl rfl Tryz.sizeOf22 rfl) rfl (s_rd (r_cload Tryz.isAgg22 rfl (j := 5) rfl rfl) rfl (as1 rfl rfl (l_nil ?_))))
     exact b_to (hk62 t55.Reason ()) (weak [0, 1, 2, 3, 4, 5] ⟨rfl, rfl, rfl, rfl, rfl, rfl, rfl, rfl, trivial⟩ ⟨rfl, rfl, rfl, rfl, rfl, rfl, trivial⟩)
    refine ref_skip (b_of (frzL [37, 12] (j := 6) rfl ⟨rfl, rfl, trivial⟩) ?_)
    exact b_to (hk62 need57 ()) (weak [0, 1, 2, 3, 4, 5] ⟨rfl, rfl, rfl, rfl, rfl, rfl, rfl, rfl, trivial⟩ ⟨rfl, rfl, rfl, rfl, rfl, rfl, trivial⟩)
   refine n_then (ref_seq (ref_seq ?_))
   refine ref_draw [0, 1, 3, 4, 5, 6, 7, 8, 9, 11, 12, 14, 15] rfl (by kernel_rfl) (fun hok => ?_)
   refine a_rd (i := 0) hok rfl (by kernel_rfl) rfl (r_move rfl) rfl ?_
   refine a_rd (i := 1) hok rfl (by kernel_rfl) rfl (r_move rfl) rfl ?_
   refine pull fun t63 h_t63 => ?_
   refine a_next hok 2 [] (by kernel_rfl) ?_ trivial
   refine a_st (i := 2) hok rfl rfl (s_call (ψ := fun (_ : Unit) => bv t63) (args := [.tmp 41, .tmp 42]) Tryz.call49 rfl (ref38_Inside_ok h_t63) ⟨arg rfl, arg rfl, trivial⟩ (fun _ _ _ _ h => h)) (by intro _ h; cases h; rfl) (fun _ => ⟨trivial, ⟨trivial, trivial⟩⟩) (fun _ => ?_)
   refine a_rd (i := 3) hok rfl (by kernel_rfl) rfl (r_not rfl) rfl ?_
   refine a_rd (i := 4) hok rfl (by kernel_rfl) rfl (r_move rfl) rfl ?_
   refine b_split (t := 45) rfl (fun _ => ?_) (fun _ => ?_)
   ·refine a_off (i := 5) hok rfl rfl rfl rfl rfl (by kernel_rfl) rfl rfl ?_
    refine a_off (i := 6) hok rfl rfl rfl rfl rfl (by kernel_rfl) rfl rfl ?_
    refine a_off (i := 7) hok rfl rfl rfl rfl rfl (by kernel_rfl) rfl rfl ?_
    refine a_off (i := 8) hok rfl rfl rfl rfl rfl (by kernel_rfl) rfl rfl ?_
    refine a_off (i := 9) hok rfl rfl rfl rfl rfl (by kernel_rfl) rfl rfl ?_
    refine a_off (i := 11) hok rfl rfl rfl rfl rfl (by kernel_rfl) rfl rfl ?_
    refine a_off (i := 12) hok rfl rfl rfl rfl rfl (by kernel_rfl) rfl rfl ?_
    refine a_next hok 10 [] (by kernel_rfl) ?_ trivial
    refine a_stOff (i := 10) hok rfl rfl rfl rfl rfl rfl (by intro _ h; cases h; rfl) ⟨trivial, ⟨trivial, ⟨trivial, ⟨trivial, ⟨trivial, ⟨trivial, ⟨trivial, ⟨trivial, ⟨trivial, ⟨trivial, ⟨trivial, trivial⟩⟩⟩⟩⟩⟩⟩⟩⟩⟩⟩ ?_
    refine a_next hok 13 [] (by kernel_rfl) ?_ trivial
    refine a_stOff (i := 13) hok rfl rfl rfl rfl rfl rfl (by intro _ h; cases h; rfl) ⟨trivial, ⟨trivial, ⟨trivial, ⟨trivial, ⟨trivial, ⟨trivial, ⟨trivial, ⟨trivial, ⟨trivial, ⟨trivial, ⟨trivial, trivial⟩⟩⟩⟩⟩⟩⟩⟩⟩⟩⟩ ?_
    refine a_off (i := 14) hok rfl rfl rfl rfl rfl (by kernel_rfl) rfl rfl ?_
    refine a_rd (i := 15) hok rfl (by kernel_rfl) rfl (r_pickT rfl rfl) rfl ?_
    refine a_fin hok (by kernel_rfl) ?_
    refine n_then (ref_condT rfl rfl (ref_exit (x_then (x_eq (n_then (ref_region (mv1 rfl rfl (s_rd (r_add rfl rfl) rfl (as1 rfl rfl (b_let (f := iv .i64) (t := 10) rfl fun i73 => l_nil ?_))))))))))
    exact goB (x53.1, x53.2) (weak [0, 1, 2, 3, 4] ⟨rfl, rfl, rfl, rfl, rfl, rfl, trivial⟩ ⟨rfl, rfl, rfl, rfl, rfl, trivial⟩)
   refine a_rdOn (i := 5) hok rfl rfl rfl rfl (by kernel_rfl) rfl (r_cloadS Tryz.isAgg26 Tryz.sizeOf26 rfl (j := 0) rfl rfl rfl) rfl ?_
   refine a_rdOn (i := 6) hok rfl rfl rfl rfl (by kernel_rfl) rfl (r_move rfl) rfl ?_
   refine a_rdOn (i := 7) hok rfl rfl rfl rfl (by kernel_rfl) rfl (r_faddr (fo := 2) Tryz.underlying60 rfl rfl Tryz.sizeOf3 rfl) rfl ?_
   refine a_rdOn (i := 8) hok rfl rfl rfl rfl (by kernel_rfl) rfl (r_cload Tryz.isAgg3 rfl (j := 5) rfl rfl) rfl ?_
   refine a_rdOn (i := 9) hok rfl rfl rfl rfl (by kernel_rfl) rfl (r_sub rfl rfl) rfl ?_
   refine a_rdOn (i := 11) hok rfl rfl rfl rfl (by kernel_rfl) rfl (r_faddr (fo := 1) Tryz.underlying60 rfl rfl Tryz.sizeOf22 rfl) rfl ?_
   refine a_rdOn (i := 12) hok rfl rfl rfl rfl (by kernel_rfl) rfl (r_cload Tryz.isAgg22 rfl (j := 5) rfl rfl) rfl ?_
   refine pull fun t64 h_t64 => ?_
   refine a_next hok 10 [] (by kernel_rfl) ?_ trivial
   refine a_stOn (i := 10) hok rfl rfl rfl rfl rfl (s_call (ψ := fun (x65 : (Value × List Nat)) => pv x65.1) (args := [.tmp 46, .tmp 47, .tmp 50]) Tryz.call30 rfl (ref38_Own_ok h_t64) ⟨arg rfl, arg rfl, arg rfl, trivial⟩ (fun _ _ _ _ h => h)) (by intro _ h; cases h; rfl) (fun _ => ⟨⟨⟨rfl, rfl⟩, trivial⟩, ⟨trivial, ⟨trivial, ⟨⟨⟨rfl, rfl⟩, trivial⟩, ⟨trivial, ⟨trivial, ⟨trivial, ⟨trivial, ⟨trivial, ⟨trivial, ⟨trivial, trivial⟩⟩⟩⟩⟩⟩⟩⟩⟩⟩⟩) (fun x65 => ?_)
   refine pull fun t66 h_t66 => ?_
   refine a_next hok 13 [] (by kernel_rfl) ?_ trivial
   refine a_stOn (i := 13) hok rfl rfl rfl rfl rfl (s_callB (ψ := fun (_ : Unit) => bv t66) (args := [.tmp 51, .tmp 53]) Tryz.call49 rfl (ref38_Inside_ok h_t66) ⟨argO rfl (j := 6) rfl, argB rfl, trivial⟩ (fun _ _ _ _ _ h => h)) (by intro _ h; cases h; rfl) (fun _ => ⟨trivial, ⟨trivial, ⟨trivial, ⟨⟨⟨rfl, rfl⟩, trivial⟩, ⟨trivial, ⟨trivial, ⟨⟨⟨rfl, rfl⟩, trivial⟩, ⟨trivial, ⟨trivial, ⟨trivial, ⟨trivial, trivial⟩⟩⟩⟩⟩⟩⟩⟩⟩⟩⟩) (fun _ => ?_)
   refine a_rdOn (i := 14) hok rfl rfl rfl rfl (by kernel_rfl) rfl (r_not rfl) rfl ?_
   refine a_rd (i := 15) hok rfl (by kernel_rfl) rfl (r_pickF rfl rfl) rfl ?_
   refine a_fin hok (by kernel_rfl) ?_
   refine n_then ?_
   refine ref_cond rfl (fun hb67 => ?_) (fun hb67 => ?_)
   ·refine ref_exit (x_then (x_eq (n_then (ref_region (mv1 rfl rfl (s_rd (r_add rfl rfl) rfl (as1 rfl rfl (b_let (f := iv .i64) (t := 10) rfl fun i74 => l_nil ?_))))))))
    exact goB (x53.1, x53.2) (weak [0, 1, 2, 3, 4] ⟨rfl, rfl, rfl, rfl, rfl, rfl, trivial⟩ ⟨rfl, rfl, rfl, rfl, rfl, trivial⟩)
   refine ref_skip (n_then (ref_seq (ref_region (s_rd (r_faddr (fo := 2) Tryz.underlying60 rfl rfl Tryz.sizeOf3 rfl) rfl (s_rd (r_cload Tryz.isAgg3 rfl (j := 5) rfl rfl) rfl (s_rd (r_eql rfl rfl) rfl (l_nil (n_then ?_))))))))
   refine ref_cond rfl (fun hb68 => ?_) (fun hb68 => ?_)
   ·refine ref_region (s_rd (r_faddr (fo := 0) Tryz.underlying42 rfl rfl Tryz.sizeOf27 rfl) rfl (s_rd (r_cload Tryz.isAgg27 rfl (j := 2) rfl rfl) rfl (mv1 rfl rfl (s_st (s_bslice (xs := [.tmp 62]) (ds := [s52.1]) Tryz.underlying27 el_3 rfl (Nat.le_of_ble_eq_true rfl) ⟨(part_at rfl iv_at), trivial⟩) rfl (fun _ => pull fun t69 h_t69 => s_st (s_append h_t69 Tryz.underlying27 el_3 rfl (j := 3) rfl rfl) rfl (fun o70 => s_rd (r_faddr (fo := 0) Tryz.underlying42 rfl rfl Tryz.sizeOf27 rfl) rfl (s_st0 (s_cstore (out := [pv o70.1, pv x53.2.1]) Tryz.sizeOf27 rfl (j := 2) rfl (part_own rfl (j := 3) rfl) rfl rfl rfl) (fun _ => l_nil (b_of (nrm [oc b1 [slv rS l_0.Sides.i0, slv rS l_0.Sides.i1, slv rT_Cas l_0.Cases], oc b2 [pv (.slice none 0 0), pv (.slice none 0 0)], oc b5 [pv o70.1, pv x53.2.1], oa (rI .i64) o70.1 o70.2 t69, oa (rI .i64) x53.2.1 x53.2.2 s52.2.2, oc b56 [sv t55.Name, slv rS t55.Facts, iv .i64 t55.Winner, slv rS t55.Reason], oa rS x65.1 x65.2 t64] rfl) (n_block (n_then (ref_region (mv1 rfl rfl (s_rd (r_add rfl rfl) rfl (as1 rfl rfl (b_let (f := iv .i64) (t := 10) rfl fun i75 => l_nil ?_))))))))))))))))
    exact goB (o70, x53.2) (weak [0, 1, 2, 3, 4] ⟨rfl, rfl, rfl, rfl, rfl, rfl, trivial⟩ ⟨rfl, rfl, rfl, rfl, rfl, trivial⟩)
   refine ref_region (s_rd (r_faddr (fo := 1) Tryz.underlying42 rfl rfl Tryz.sizeOf27 rfl) rfl (s_rd (r_cload Tryz.isAgg27 rfl (j := 2) rfl rfl) rfl (mv1 rfl rfl (s_st (s_bslice (xs := [.tmp 68]) (ds := [s52.1]) Tryz.underlying27 el_3 rfl (Nat.le_of_ble_eq_true rfl) ⟨(part_at rfl iv_at), trivial⟩) rfl (fun _ => pull fun t71 h_t71 => s_st (s_append h_t71 Tryz.underlying27 el_3 rfl (j := 4) rfl rfl) rfl (fun o72 => s_rd (r_faddr (fo := 1) Tryz.underlying42 rfl rfl Tryz.sizeOf27 rfl) rfl (s_st0 (s_cstore (out := [pv x53.1.1, pv o72.1]) Tryz.sizeOf27 rfl (j := 2) rfl (part_own rfl (j := 4) rfl) rfl rfl rfl) (fun _ => l_nil (b_of (nrm [oc b1 [slv rS l_0.Sides.i0, slv rS l_0.Sides.i1, slv rT_Cas l_0.Cases], oc b2 [pv (.slice none 0 0), pv (.slice none 0 0)], oc b5 [pv x53.1.1, pv o72.1], oa (rI .i64) x53.1.1 x53.1.2 s52.2.1, oa (rI .i64) o72.1 o72.2 t71, oc b56 [sv t55.Name, slv rS t55.Facts, iv .i64 t55.Winner, slv rS t55.Reason], oa rS x65.1 x65.2 t64] rfl) (n_block (n_then (ref_region (mv1 rfl rfl (s_rd (r_add rfl rfl) rfl (as1 rfl rfl (b_let (f := iv .i64) (t := 10) rfl fun i76 => l_nil ?_))))))))))))))))
   exact goB (x53.1, o72) (weak [0, 1, 2, 3, 4] ⟨rfl, rfl, rfl, rfl, rfl, rfl, trivial⟩ ⟨rfl, rfl, rfl, rfl, rfl, trivial⟩)
  refine ref_exit (x_then ?_)
  exact brkB (x53.1, x53.2) (weak [1, 2, 3, 4] ⟨rfl, rfl, trivial⟩ ⟨rfl, rfl, rfl, rfl, trivial⟩)
 refine n_then (ref_seq (ref_region (s_rd (r_cloadS Tryz.isAgg42 Tryz.sizeOf42 rfl (j := 1) rfl rfl rfl) rfl (s_st0 (s_cstore (out := [pv y78.1.1, pv y78.2.1]) Tryz.sizeOf42 rfl (j := 0) rfl (part_agO (ψs := [pv y78.1.1, pv y78.2.1]) rfl ⟨.inr ⟨_, _, _, _, _, 2, rfl, rfl⟩, .inr ⟨_, _, _, _, _, 3, rfl, rfl⟩, trivial⟩) rfl rfl rfl) (fun _ => as1 rfl rfl (l_nil (n_then (ref_ret (b_of (frzGL [(72, ag [slv (rI .i64) q77.1, pv y78.2.1])] [(0, b2, [slv (rI .i64) q77.1, pv y78.2.1]), (1, b5, [slv (rI .i64) q77.1, pv y78.2.1])] (j := 2) rfl ⟨⟨_, rfl, .inr ⟨_, _, rfl, rfl, ⟨.inr ⟨rfl, rfl⟩, .inl rfl, trivial⟩⟩⟩, trivial⟩ ⟨⟨_, rfl, ⟨.inr ⟨rfl, rfl⟩, .inl rfl, trivial⟩⟩, ⟨_, rfl, ⟨.inr ⟨rfl, rfl⟩, .inl rfl, trivial⟩⟩, trivial⟩) (b_of (nrm [oc b2 [slv (rI .i64) q77.1, pv y78.2.1], oc b5 [slv (rI .i64) q77.1, pv y78.2.1], dead, oa (rI .i64) y78.2.1 y78.2.2 q77.2] rfl) (b_of (frzGL [(72, ag [slv (rI .i64) q77.1, slv (rI .i64) q77.2])] [(0, b2, [slv (rI .i64) q77.1, slv (rI .i64) q77.2]), (1, b5, [slv (rI .i64) q77.1, slv (rI .i64) q77.2])] (j := 3) rfl ⟨⟨_, rfl, .inr ⟨_, _, rfl, rfl, ⟨.inl rfl, .inr ⟨rfl, rfl⟩, trivial⟩⟩⟩, trivial⟩ ⟨⟨_, rfl, ⟨.inl rfl, .inr ⟨rfl, rfl⟩, trivial⟩⟩, ⟨_, rfl, ⟨.inl rfl, .inr ⟨rfl, rfl⟩, trivial⟩⟩, trivial⟩) (b_of (nrm [oc b2 [slv (rI .i64) q77.1, slv (rI .i64) q77.2], oc b5 [slv (rI .i64) q77.1, slv (rI .i64) q77.2], dead, dead] rfl) ?_))))))))))))
 exact fin2 (.inl rfl) () [] rfl trivial rfl (rv_cell rfl (j := 0) rfl Tryz.isAgg42 Tryz.sizeOf42 rfl rfl) (rv_tmp rfl)

/-! deliberation/deliberationref38.Strong -/
noncomputable def ref38_Strong_m (l_0 : T_Lib) (facts_1 : (List ByteArray)) : Option (T_For × Int) :=
 Option.bind (ref38_force_m l_0 facts_1 false) fun t3 =>
 some (t3.1, t3.2)

theorem ref38_Strong_ok {l_0 : T_Lib} {facts_1 : (List ByteArray)} {r : T_For × Int} (hm : ref38_Strong_m l_0 facts_1 = some r) :
  FnOk prog 15 [ag [slv rS l_0.Sides.i0, slv rS l_0.Sides.i1, slv rT_Cas l_0.Cases], slv rS facts_1] [] (fun (x : Unit) => [ag [slv (rI .i64) r.1.For, slv (rI .i64) r.1.Against], iv .i64 r.2]) (fun (x : Unit) => []) := by
 refine fn_ok (fn := Tryz.f15) (N := 11) (res := fun r x => [ag [slv (rI .i64) r.1.For, slv (rI .i64) r.1.Against], iv .i64 r.2]) (Ω1 := fun r x => []) Tryz.func15 rfl rfl hm rfl (fun E hM => ?_)
 unfold ref38_Strong_m
 refine ref_seq (ref_region (s_st (s_box (part_agO (ψs := [slv rS l_0.Sides.i0, slv rS l_0.Sides.i1, slv rT_Cas l_0.Cases]) rfl ⟨.inl slv_at, .inl slv_at, .inl slv_at, trivial⟩)) rfl (fun b1 => s_st (s_alloc zt_42) rfl (fun b2 => as1 rfl rfl (l_nil (n_then (ref_seq (ref_region (s_rd (r_cloadS Tryz.isAgg26 Tryz.sizeOf26 rfl (j := 0) rfl rfl rfl) rfl (mv1 rfl rfl (pull fun t3 h_t3 => s_st (s_call (ψ := fun (_ : Unit) => tup [ag [slv (rI .i64) t3.1.For, slv (rI .i64) t3.1.Against], iv .i64 t3.2]) (args := [.tmp 6, .tmp 7, .const (.bool false)]) Tryz.call52 rfl (ref38_force_ok h_t3) ⟨arg rfl, arg rfl, arg rfl, trivial⟩ (fun _ _ _ _ h => h)) rfl (fun _ => s_rd (r_extract rfl rfl) rfl (s_rd (r_extract rfl rfl) rfl (s_st0 (s_cstore (out := [slv (rI .i64) t3.1.For, slv (rI .i64) t3.1.Against]) Tryz.sizeOf42 rfl (j := 1) rfl (part_agO (ψs := [slv (rI .i64) t3.1.For, slv (rI .i64) t3.1.Against]) rfl ⟨.inl slv_at, .inl slv_at, trivial⟩) rfl rfl rfl) (fun _ => as1 rfl rfl (l_nil (b_of (nrm [oc b1 [slv rS l_0.Sides.i0, slv rS l_0.Sides.i1, slv rT_Cas l_0.Cases], oc b2 [slv (rI .i64) t3.1.For, slv (rI .i64) t3.1.Against]] rfl) (n_then (ref_ret ?_)))))))))))))))))))
 exact fin2 (.inl rfl) () [] rfl trivial rfl (rv_cell rfl (j := 1) rfl Tryz.isAgg42 Tryz.sizeOf42 rfl rfl) (rv_tmp rfl)

/-! deliberation/deliberationref38.Reasons -/
noncomputable def ref38_Reasons_m (l_0 : T_Lib) (facts_1 : (List ByteArray)) : Option (T_For × Int) :=
 Option.bind (ref38_force_m l_0 facts_1 true) fun t3 =>
 some (t3.1, t3.2)

theorem ref38_Reasons_ok {l_0 : T_Lib} {facts_1 : (List ByteArray)} {r : T_For × Int} (hm : ref38_Reasons_m l_0 facts_1 = some r) :
  FnOk prog 18 [ag [slv rS l_0.Sides.i0, slv rS l_0.Sides.i1, slv rT_Cas l_0.Cases], slv rS facts_1] [] (fun (x : Unit) => [ag [slv (rI .i64) r.1.For, slv (rI .i64) r.1.Against], iv .i64 r.2]) (fun (x : Unit) => []) := by
 refine fn_ok (fn := Tryz.f18) (N := 11) (res := fun r x => [ag [slv (rI .i64) r.1.For, slv (rI .i64) r.1.Against], iv .i64 r.2]) (Ω1 := fun r x => []) Tryz.func18 rfl rfl hm rfl (fun E hM => ?_)
 unfold ref38_Reasons_m
 refine ref_seq (ref_region (s_st (s_box (part_agO (ψs := [slv rS l_0.Sides.i0, slv rS l_0.Sides.i1, slv rT_Cas l_0.Cases]) rfl ⟨.inl slv_at, .inl slv_at, .inl slv_at, trivial⟩)) rfl (fun b1 => s_st (s_alloc zt_42) rfl (fun b2 => as1 rfl rfl (l_nil (n_then (ref_seq (ref_region (s_rd (r_cloadS Tryz.isAgg26 Tryz.sizeOf26 rfl (j := 0) rfl rfl rfl) rfl (mv1 rfl rfl (pull fun t3 h_t3 => s_st (s_call (ψ := fun (_ : Unit) => tup [ag [slv (rI .i64) t3.1.For, slv (rI .i64) t3.1.Against], iv .i64 t3.2]) (args := [.tmp 6, .tmp 7, .const (.bool true)]) Tryz.call52 rfl (ref38_force_ok h_t3) ⟨arg rfl, arg rfl, arg rfl, trivial⟩ (fun _ _ _ _ h => h)) rfl (fun _ => s_rd (r_extract rfl rfl) rfl (s_rd (r_extract rfl rfl) rfl (s_st0 (s_cstore (out := [slv (rI .i64) t3.1.For, slv (rI .i64) t3.1.Against]) Tryz.sizeOf42 rfl (j := 1) rfl (part_agO (ψs := [slv (rI .i64) t3.1.For, slv (rI .i64) t3.1.Against]) rfl ⟨.inl slv_at, .inl slv_at, trivial⟩) rfl rfl rfl) (fun _ => as1 rfl rfl (l_nil (b_of (nrm [oc b1 [slv rS l_0.Sides.i0, slv rS l_0.Sides.i1, slv rT_Cas l_0.Cases], oc b2 [slv (rI .i64) t3.1.For, slv (rI .i64) t3.1.Against]] rfl) (n_then (ref_ret ?_)))))))))))))))))))
 exact fin2 (.inl rfl) () [] rfl trivial rfl (rv_cell rfl (j := 1) rfl Tryz.isAgg42 Tryz.sizeOf42 rfl rfl) (rv_tmp rfl)

end Go.Dc
