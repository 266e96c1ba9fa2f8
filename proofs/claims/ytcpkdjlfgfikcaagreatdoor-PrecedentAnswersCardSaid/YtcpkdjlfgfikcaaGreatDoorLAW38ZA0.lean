/- Part LAW38Z.A0 of a proof: lemmas. -/
import Derived.Test.YtcpkdjlfgfikcaaGreatDoorLAW38ZLay
import Derived.Test.YtcpkdjlfgfikcaaGreatDoorProg
set_option linter.unusedVariables false
set_option maxRecDepth 100000
set_option maxHeartbeats 4000000
namespace Go.Dc
open Go.Proofs
open Go.Proofs.Tryz (prog)

/-! deliberation/deliberationlaw38.small -/
noncomputable def law38_small_l1 (l_0 : T_Lib) (s8 : Int × Int) : Option (Sum (Int) (Int × Int)) :=
 bif decide (s8.2 < (l_0.Cases.length : Int)) then
  bif decide (s8.1 < 500) then
   Option.bind (idxM l_0.Cases s8.2) fun t11 =>
   Option.bind (idxM l_0.Cases s8.2) fun t12 =>
   letM (iadd .i64 s8.2 1) fun i13 =>
   some (Sum.inr (iadd .i64 s8.1 (iadd .i64 (t11.Facts.length : Int) (t12.Reason.length : Int)), i13))
  else
   some (Sum.inl s8.1)
 else
  some (Sum.inl s8.1)

noncomputable def law38_small_m (l_0 : T_Lib) : Option (Bool) :=
 letM (iadd .i64 (iadd .i64 (l_0.Sides.i0.length : Int) (l_0.Sides.i1.length : Int)) (l_0.Cases.length : Int)) fun n2 =>
 Option.bind (loopC (law38_small_l1 l_0) (n2, 0)) fun q14 : Int =>
 letM (decide (q14 ≤ 300)) fun t16 =>
 some t16

theorem law38_small_ok {l_0 : T_Lib} {r : Bool} (hm : law38_small_m l_0 = some r) :
  FnOk prog 4 [ag [slv rS l_0.Sides.i0, slv rS l_0.Sides.i1, slv rT_Cas l_0.Cases]] [] (fun (x : Unit) => [bv r]) (fun (x : Unit) => []) := by
 refine fn_ok (fn := Tryz.f4) (N := 48) (res := fun r x => [bv r]) (Ω1 := fun r x => []) Tryz.func4 rfl rfl hm rfl (fun E hM => ?_)
 unfold law38_small_m
 refine ref_seq (ref_region (s_st (s_box (part_agO (ψs := [slv rS l_0.Sides.i0, slv rS l_0.Sides.i1, slv rT_Cas l_0.Cases]) rfl ⟨.inl slv_at, .inl slv_at, .inl slv_at, trivial⟩)) rfl (fun b1 => as1 rfl rfl (l_nil (n_then (ref_seq (ref_region (s_rd (r_faddr (fo := 0) Tryz.underlying26 rfl rfl Tryz.sizeOf23 rfl) rfl (s_rd (r_aaddr (sz := 1) ⟨by decide, by decide⟩ Tryz.underlying23 Tryz.sizeOf22 rfl rfl) rfl ?_)))))))))
 refine s_rd (r_cload Tryz.isAgg22 rfl (j := 0) rfl rfl) rfl (s_rd (r_len Tryz.underlying22 rfl) rfl (s_rd (r_faddr (fo := 0) Tryz.underlying26 rfl rfl Tryz.sizeOf23 rfl) rfl (s_rd (r_aaddr (sz := 1) ⟨by decide, by decide⟩ Tryz.underlying23 Tryz.sizeOf22 rfl rfl) rfl ?_)))
 refine s_rd (r_cload Tryz.isAgg22 rfl (j := 0) rfl rfl) rfl (s_rd (r_len Tryz.underlying22 rfl) rfl (s_rd (r_add rfl rfl) rfl (s_rd (r_faddr (fo := 2) Tryz.underlying26 rfl rfl Tryz.sizeOf24 rfl) rfl (s_rd (r_cload Tryz.isAgg24 rfl (j := 0) rfl rfl) rfl (s_rd (r_len Tryz.underlying24 rfl) rfl (s_rd (r_add rfl rfl) rfl (as1 rfl rfl (b_let (f := iv .i64) (t := 3) rfl fun n2 => l_nil (n_then (ref_seq (ref_seq (ref_region (as1 rfl rfl (l_nil (n_then ?_)))))))))))))))
 refine ref_loopB (f := (law38_small_l1 l_0)) (Γl := (fun (s8 : Int × Int) (x9 : Unit) => [(1, pv (ptr b1 0)), (3, iv .i64 s8.1), (4, iv .i64 s8.2)])) (Ωl := (fun (s8 : Int × Int) (x9 : Unit) => [oc b1 [slv rS l_0.Sides.i0, slv rS l_0.Sides.i1, slv rT_Cas l_0.Cases]])) (Γb := (fun (q14 : Int) (y15 : Unit) => [(3, iv .i64 q14)])) (Ωb := (fun (q14 : Int) (y15 : Unit) => [])) (n2, 0) () (weak [0] ⟨rfl, rfl, rfl, trivial⟩ ⟨rfl, trivial⟩) (fun s8 x9 => ?_) (fun q14 y15 => ?_)
 ·unfold law38_small_l1
  refine ref_seq (ref_seq (ref_region (mv1 rfl rfl (s_rd (r_faddr (fo := 2) Tryz.underlying26 rfl rfl Tryz.sizeOf24 rfl) rfl (s_rd (r_cload Tryz.isAgg24 rfl (j := 0) rfl rfl) rfl (s_rd (r_len Tryz.underlying24 rfl) rfl (s_rd (r_lss rfl rfl) rfl (mv1 rfl rfl ?_))))))))
  refine b_split (t := 23) rfl (fun _ => ?_) (fun _ => ?_)
  ·refine s_on rfl rfl rfl (mv1 rfl rfl (s_on rfl rfl rfl (s_rd (r_lss rfl rfl) rfl (s_rd (r_pickT rfl rfl) rfl (l_nil (n_then ?_))))))
   refine ref_cond rfl (fun hb10 => ?_) (fun hb10 => ?_)
   ·refine ref_skip (n_then (ref_seq (ref_block ?_)))
    refine ref_draw [0, 1, 2, 3, 4, 5, 6, 7, 8, 9, 10, 11, 12, 13, 14, 15, 16] rfl (by kernel_rfl) (fun hok => ?_)
    refine a_rd (i := 0) hok rfl (by kernel_rfl) rfl (r_move rfl) rfl ?_
    refine a_rd (i := 1) hok rfl (by kernel_rfl) rfl (r_faddr (fo := 2) Tryz.underlying26 rfl rfl Tryz.sizeOf24 rfl) rfl ?_
    refine a_rd (i := 2) hok rfl (by kernel_rfl) rfl (r_cload Tryz.isAgg24 rfl (j := 0) rfl rfl) rfl ?_
    refine a_rd (i := 3) hok rfl (by kernel_rfl) rfl (r_move rfl) rfl ?_
    refine pull fun t11 h_t11 => ?_
    refine a_rd (i := 4) hok rfl (by kernel_rfl) rfl (r_index h_t11 Tryz.underlying24 el_60 rfl rfl) rfl ?_
    refine a_rd (i := 5) hok rfl (by kernel_rfl) rfl (r_fea (fo := 1) (ρ := rT_Cas) (y := t11) (ρ' := (rSl rS)) (z := t11.Facts) Tryz.underlying60 rfl rfl Tryz.sizeOf22 rfl rfl rfl) rfl ?_
    refine a_rd (i := 6) hok rfl (by kernel_rfl) rfl (r_load el_22 rfl) rfl ?_
    refine a_rd (i := 7) hok rfl (by kernel_rfl) rfl (r_len Tryz.underlying22 rfl) rfl ?_
    refine a_rd (i := 8) hok rfl (by kernel_rfl) rfl (r_faddr (fo := 2) Tryz.underlying26 rfl rfl Tryz.sizeOf24 rfl) rfl ?_
    refine a_rd (i := 9) hok rfl (by kernel_rfl) rfl (r_cload Tryz.isAgg24 rfl (j := 0) rfl rfl) rfl ?_
    refine a_rd (i := 10) hok rfl (by kernel_rfl) rfl (r_move rfl) rfl ?_
    refine pull fun t12 h_t12 => ?_
    refine a_rd (i := 11) hok rfl (by kernel_rfl) rfl (r_index h_t12 Tryz.underlying24 el_60 rfl rfl) rfl ?_
    refine a_rd (i := 12) hok rfl (by kernel_rfl) rfl (r_fea (fo := 3) (ρ := rT_Cas) (y := t12) (ρ' := (rSl rS)) (z := t12.Reason) Tryz.underlying60 rfl rfl Tryz.sizeOf22 rfl rfl rfl) rfl ?_
    refine a_rd (i := 13) hok rfl (by kernel_rfl) rfl (r_load el_22 rfl) rfl ?_
    refine a_rd (i := 14) hok rfl (by kernel_rfl) rfl (r_len Tryz.underlying22 rfl) rfl ?_
    refine a_rd (i := 15) hok rfl (by kernel_rfl) rfl (r_add rfl rfl) rfl ?_
    refine a_rd (i := 16) hok rfl (by kernel_rfl) rfl (r_add rfl rfl) rfl ?_
    refine a_next hok 17 [] (by kernel_rfl) ?_ trivial
    refine a_st (i := 17) hok rfl rfl (St.ofRd (r_assign rfl)) (by intro _ h; cases h; rfl) (fun _ => ⟨trivial, ⟨trivial, ⟨trivial, ⟨trivial, ⟨trivial, ⟨trivial, ⟨trivial, ⟨trivial, ⟨trivial, ⟨trivial, ⟨trivial, ⟨trivial, ⟨trivial, ⟨trivial, ⟨trivial, ⟨trivial, ⟨trivial, trivial⟩⟩⟩⟩⟩⟩⟩⟩⟩⟩⟩⟩⟩⟩⟩⟩⟩) (fun _ => ?_)
    refine a_fin hok (by kernel_rfl) ?_
    refine n_block (n_then (ref_region (mv1 rfl rfl (s_rd (r_add rfl rfl) rfl (as1 rfl rfl (b_let (f := iv .i64) (t := 4) rfl fun i13 => l_nil ?_))))))
    exact goB () (weak [0] ⟨rfl, rfl, rfl, trivial⟩ ⟨rfl, trivial⟩)
   refine ref_exit (x_then ?_)
   exact brkB () (weak [] ⟨rfl, trivial⟩ trivial)
  refine s_off rfl rfl rfl rfl rfl (s_off rfl rfl rfl rfl rfl (s_rd (r_pickF rfl rfl) rfl (l_nil (n_then (ref_condF rfl rfl (ref_exit (x_then ?_)))))))
  exact brkB () (weak [] ⟨rfl, trivial⟩ trivial)
 refine n_then (ref_seq (ref_region (mv1 rfl rfl (s_rd (r_leq rfl rfl) rfl (as1 rfl rfl (b_let (f := bv) (t := 2) rfl fun t16 => l_nil (n_then (ref_ret ?_))))))))
 exact fin1 (.inl rfl) () [] rfl trivial rfl (rv_tmp rfl)

/-! deliberation/deliberationlaw38.sides -/
noncomputable def law38_sides_m  : Option (T_arr2_22) :=
 some (T_arr2_22.mk [(ByteArray.mk #[97]), (ByteArray.mk #[98]), (ByteArray.mk #[99])] [(ByteArray.mk #[120]), (ByteArray.mk #[121]), (ByteArray.mk #[122])])

theorem law38_sides_ok  {r : T_arr2_22} (hm : law38_sides_m  = some r) :
  FnOk prog 28 [] [] (fun (x : Unit) => [ag [slv rS r.i0, slv rS r.i1]]) (fun (x : Unit) => []) := by
 refine fn_ok (fn := Tryz.f28) (N := 4) (res := fun r x => [ag [slv rS r.i0, slv rS r.i1]]) (Ω1 := fun r x => []) Tryz.func28 rfl rfl hm rfl (fun E hM => ?_)
 unfold law38_sides_m
 refine ref_seq (ref_region (s_st (s_alloc zt_23) rfl (fun b1 => l_nil (n_then (ref_seq (ref_region (s_st (s_bslice (xs := [.const (.string (ByteArray.mk #[97])), .const (.string (ByteArray.mk #[98])), .const (.string (ByteArray.mk #[99]))]) (ds := [(ByteArray.mk #[97]), (ByteArray.mk #[98]), (ByteArray.mk #[99])]) Tryz.underlying22 el_9 rfl (Nat.le_of_ble_eq_true rfl) ⟨(part_at rfl sv_at), ⟨(part_at rfl sv_at), ⟨(part_at rfl sv_at), trivial⟩⟩⟩) rfl (fun _ => s_st (s_bslice (xs := [.const (.string (ByteArray.mk #[120])), .const (.string (ByteArray.mk #[121])), .const (.string (ByteArray.mk #[122]))]) (ds := [(ByteArray.mk #[120]), (ByteArray.mk #[121]), (ByteArray.mk #[122])]) Tryz.underlying22 el_9 rfl (Nat.le_of_ble_eq_true rfl) ⟨(part_at rfl sv_at), ⟨(part_at rfl sv_at), ⟨(part_at rfl sv_at), trivial⟩⟩⟩) rfl (fun _ => s_rd (r_buildA (ps := [(0, .tmp 1), (1, .tmp 2)]) (rs := [(0, [slv rS [(ByteArray.mk #[97]), (ByteArray.mk #[98]), (ByteArray.mk #[99])]]), (1, [slv rS [(ByteArray.mk #[120]), (ByteArray.mk #[121]), (ByteArray.mk #[122])]])]) (sz := 1) Tryz.underlying23 Tryz.sizeOf22 ⟨_, _, Tryz.type23, rfl⟩ zs_23 ⟨rfl, (part_at rfl slv_at), ⟨rfl, (part_at rfl slv_at), trivial⟩⟩ rfl rfl) rfl (s_st0 (s_cstore (out := [slv rS [(ByteArray.mk #[97]), (ByteArray.mk #[98]), (ByteArray.mk #[99])], slv rS [(ByteArray.mk #[120]), (ByteArray.mk #[121]), (ByteArray.mk #[122])]]) Tryz.sizeOf23 rfl (j := 0) rfl (part_agO (ψs := [slv rS [(ByteArray.mk #[97]), (ByteArray.mk #[98]), (ByteArray.mk #[99])], slv rS [(ByteArray.mk #[120]), (ByteArray.mk #[121]), (ByteArray.mk #[122])]]) rfl ⟨.inl slv_at, .inl slv_at, trivial⟩) rfl rfl rfl) (fun _ => l_nil (b_of (nrm [oc b1 [slv rS [(ByteArray.mk #[97]), (ByteArray.mk #[98]), (ByteArray.mk #[99])], slv rS [(ByteArray.mk #[120]), (ByteArray.mk #[121]), (ByteArray.mk #[122])]]] rfl) (n_then (ref_ret ?_))))))))))))))
 exact fin1 (.inl rfl) () [] rfl trivial rfl (rv_cell rfl (j := 0) rfl Tryz.isAgg23 Tryz.sizeOf23 rfl rfl)

/-! deliberation/precedent.Reasons$1 -/
noncomputable def pc_Reasons_1_m (c_0 : T_Cas) : Option (List ByteArray) :=
 some c_0.Reason

theorem pc_Reasons_1_ok {c_0 : T_Cas} {r : List ByteArray} (hm : pc_Reasons_1_m c_0 = some r) :
  FnOk prog 53 [ag [sv c_0.Name, slv rS c_0.Facts, iv .i64 c_0.Winner, slv rS c_0.Reason]] [] (fun (x : Unit) => [slv rS r]) (fun (x : Unit) => []) := by
 refine fn_ok (fn := Tryz.f53) (N := 5) (res := fun r x => [slv rS r]) (Ω1 := fun r x => []) Tryz.func53 rfl rfl hm rfl (fun E hM => ?_)
 unfold pc_Reasons_1_m
 refine ref_seq (ref_region (s_st (s_box (part_agO (ψs := [sv c_0.Name, slv rS c_0.Facts, iv .i64 c_0.Winner, slv rS c_0.Reason]) rfl ⟨.inl sv_at, .inl slv_at, .inl iv_at, .inl slv_at, trivial⟩)) rfl (fun b1 => as1 rfl rfl (l_nil (n_then (ref_seq (ref_region (s_rd (r_faddr (fo := 3) Tryz.underlying60 rfl rfl Tryz.sizeOf22 rfl) rfl (s_rd (r_cload Tryz.isAgg22 rfl (j := 0) rfl rfl) rfl (as1 rfl rfl (l_nil (n_then (ref_ret ?_)))))))))))))
 exact fin1 (.inl rfl) () [] rfl trivial rfl (rv_tmp rfl)

/-! deliberation/literal.ValidName -/
noncomputable def literal_ValidName_l1 (s_0 : ByteArray) (s13 : Int) : Option (Sum ((Sum (Bool) (Unit))) (Int)) :=
 bif decide (s13 < (s_0.size : Int)) then
  Option.bind (sidxM s_0 s13) fun c16 =>
  joinM (fun j18 : Bool =>
    bif j18 then
     some (Sum.inr (iadd .i64 s13 1))
    else
     bif decide (s13 > 0) then
      bif decide (c16 ≥ 48) then
       bif decide (c16 ≤ 57) then
        some (Sum.inr (iadd .i64 s13 1))
       else
        bif c16 == 95 then
         some (Sum.inr (iadd .i64 s13 1))
        else
         some (Sum.inl (Sum.inl false))
      else
       bif c16 == 95 then
        some (Sum.inr (iadd .i64 s13 1))
       else
        some (Sum.inl (Sum.inl false))
     else
      some (Sum.inl (Sum.inl false))) fun k20 =>
  bif decide (c16 ≥ 97) then
   letM (decide (c16 ≤ 122)) fun t17 =>
   k20 t17
  else
   k20 false
 else
  some (Sum.inl (Sum.inr ()))

noncomputable def literal_ValidName_m (s_0 : ByteArray) : Option (Bool) :=
 bif (s_0.size : Int) == 0 then
  some false
 else
  bif decide ((s_0.size : Int) > 12) then
   some false
  else
   Option.bind (loopC (literal_ValidName_l1 s_0) 0) (sumK (fun a : Bool => some a) fun q24 : Unit =>
    some true)

theorem literal_ValidName_ok {s_0 : ByteArray} {r : Bool} (hm : literal_ValidName_m s_0 = some r) :
  FnOk prog 35 [sv s_0] [] (fun (x : Unit) => [bv r]) (fun (x : Unit) => []) := by
 refine fn_ok (fn := Tryz.f35) (N := 44) (res := fun r x => [bv r]) (Ω1 := fun r x => []) Tryz.func35 rfl rfl hm rfl (fun E hM => ?_)
 unfold literal_ValidName_m
 refine ref_seq (ref_region (as1 rfl rfl (l_nil (n_then (ref_seq (ref_seq (ref_region (mv1 rfl rfl (s_rd (r_slen Tryz.underlying9 rfl) rfl (s_rd (r_eql rfl rfl) rfl (mv1 rfl rfl ?_)))))))))))
 refine b_split (t := 8) rfl (fun _ => ?_) (fun _ => ?_)
 ·refine s_off rfl rfl rfl rfl rfl (s_off rfl rfl rfl rfl rfl (s_off rfl rfl rfl rfl rfl (s_rd (r_pickT rfl rfl) rfl (l_nil (n_then (ref_condT rfl rfl (ref_seq (ref_region (as1 rfl rfl (l_nil (n_then (ref_ret (r_then ?_)))))))))))))
  exact fin1 (.inl rfl) () [] rfl trivial rfl (rv_tmp rfl)
 refine s_on rfl rfl rfl (mv1 rfl rfl (s_on rfl rfl rfl (s_rd (r_slen Tryz.underlying9 rfl) rfl (s_on rfl rfl rfl (s_rd (r_gtr rfl rfl) rfl (s_rd (r_pickF rfl rfl) rfl (l_nil (n_then ?_))))))))
 refine ref_cond rfl (fun hb1 => ?_) (fun hb1 => ?_)
 ·refine ref_seq (ref_region (as1 rfl rfl (l_nil (n_then (ref_ret (r_then ?_))))))
  exact fin1 (.inl rfl) () [] rfl trivial rfl (rv_tmp rfl)
 refine ref_skip (n_then (ref_seq (ref_seq (ref_region (mv1 rfl rfl (s_rd (r_slen Tryz.underlying9 rfl) rfl (mv1 rfl rfl (l_nil (n_then ?_)))))))))
 refine ref_loopX (f := (literal_ValidName_l1 s_0)) (Γl := (fun (s13 : Int) (x14 : Unit) => [(0, sv s_0), (14, iv .i64 (s_0.size : Int)), (15, iv .i64 s13)])) (Ωl := (fun (s13 : Int) (x14 : Unit) => [])) (Γb := (fun (q24 : Unit) (y25 : Unit) => [])) (Ωb := (fun (q24 : Unit) (y25 : Unit) => [])) (kr := (fun a : Bool => some a)) 0 () (weak [] ⟨rfl, rfl, rfl, trivial⟩ trivial) (fun s13 x14 => ?_) (fun q24 y25 => ?_)
 ·unfold literal_ValidName_l1
  refine ref_seq (ref_region (s_rd (r_lss rfl rfl) rfl (l_nil (n_then (ref_seq ?_)))))
  refine ref_cond rfl (fun hb15 => ?_) (fun hb15 => ?_)
  ·refine ref_skip (n_then (ref_seq (ref_block (ref_seq (ref_region (mv1 rfl rfl (as1 rfl rfl (l_nil (n_then (ref_seq (ref_region (mv1 rfl rfl (mv1 rfl rfl (pull fun c16 h_c16 => s_rd (r_sidx h_c16 Tryz.underlying9 rfl rfl) rfl (as1 rfl rfl (l_nil (n_then (ref_block (ref_seq ?_)))))))))))))))))))
   refine ref_join (fun (j18 : Bool) (x19 : Unit) => [(0, sv s_0), (3, iv .i64 s13), (4, iv .u8 c16), (14, iv .i64 (s_0.size : Int)), (15, iv .i64 s13), (21, bv j18)]) (fun (j18 : Bool) (x19 : Unit) => []) (fun k20 hk20 => ?_) (fun j18 x19 => ?_)
   ·refine ref_region (mv1 rfl rfl (s_rd (r_geq rfl rfl) rfl (mv1 rfl rfl ?_)))
    refine b_split (t := 24) rfl (fun _ => ?_) (fun _ => ?_)
    ·refine s_on rfl rfl rfl (mv1 rfl rfl (s_on rfl rfl rfl (s_rd (r_leq rfl rfl) rfl (s_rd (r_pickT rfl rfl) rfl (as1 rfl rfl (b_let (f := bv) (t := 21) rfl fun t17 => l_nil ?_))))))
     exact b_to (hk20 t17 ()) (weak [] ⟨rfl, rfl, rfl, rfl, rfl, rfl, trivial⟩ trivial)
    refine s_off rfl rfl rfl rfl rfl (s_off rfl rfl rfl rfl rfl (s_rd (r_pickF rfl rfl) rfl (as1 rfl rfl (l_nil ?_))))
    exact b_to (hk20 false ()) (weak [] ⟨rfl, rfl, rfl, rfl, rfl, rfl, trivial⟩ trivial)
   refine n_then ?_
   refine ref_cond rfl (fun hb21 => ?_) (fun hb21 => ?_)
   ·refine ref_skip (n_block (n_block (n_then (ref_region (s_rd (r_add rfl rfl) rfl (mv1 rfl rfl (l_nil ?_)))))))
    exact goX () (weak [] ⟨rfl, rfl, rfl, trivial⟩ trivial)
   refine ref_seq (ref_region (mv1 rfl rfl (s_rd (r_gtr rfl rfl) rfl (mv1 rfl rfl ?_))))
   refine b_split (t := 31) rfl (fun _ => ?_) (fun _ => ?_)
   ·refine s_on rfl rfl rfl (mv1 rfl rfl (s_on rfl rfl rfl (s_rd (r_geq rfl rfl) rfl (s_on rfl rfl rfl (mv1 rfl rfl ?_)))))
    refine b_split (t := 34) rfl (fun _ => ?_) (fun _ => ?_)
    ·refine s_on rfl rfl rfl (mv1 rfl rfl (s_on rfl rfl rfl (s_rd (r_leq rfl rfl) rfl (s_on rfl rfl rfl (s_rd (r_pickT rfl rfl) rfl (s_on rfl rfl rfl (mv1 rfl rfl ?_)))))))
     refine b_split (t := 38) rfl (fun _ => ?_) (fun _ => ?_)
     ·refine s_off rfl rfl rfl rfl rfl (s_off rfl rfl rfl rfl rfl (s_on rfl rfl rfl (s_rd (r_pickT rfl rfl) rfl (s_rd (r_pickT rfl rfl) rfl (as1 rfl rfl (l_nil (n_then (ref_condT rfl rfl (ref_skip (n_block (n_block (n_then (ref_region (s_rd (r_add rfl rfl) rfl (mv1 rfl rfl (l_nil ?_))))))))))))))))
      exact goX () (weak [] ⟨rfl, rfl, rfl, trivial⟩ trivial)
     refine s_on rfl rfl rfl (mv1 rfl rfl (s_on rfl rfl rfl (s_rd (r_eql rfl rfl) rfl (s_on rfl rfl rfl (s_rd (r_pickF rfl rfl) rfl (s_rd (r_pickT rfl rfl) rfl (as1 rfl rfl (l_nil (n_then ?_)))))))))
     refine ref_cond rfl (fun hb22 => ?_) (fun hb22 => ?_)
     ·refine ref_skip (n_block (n_block (n_then (ref_region (s_rd (r_add rfl rfl) rfl (mv1 rfl rfl (l_nil ?_)))))))
      exact goX () (weak [] ⟨rfl, rfl, rfl, trivial⟩ trivial)
     refine ref_seq (ref_region (as1 rfl rfl (l_nil (n_then (ref_ret (r_block (r_block (r_then ?_))))))))
     refine retX ?_
     refine r_block (r_then ?_)
     exact fin1 (.inl rfl) () [] rfl trivial rfl (rv_tmp rfl)
    refine s_off rfl rfl rfl rfl rfl (s_off rfl rfl rfl rfl rfl (s_on rfl rfl rfl (s_rd (r_pickF rfl rfl) rfl (s_on rfl rfl rfl (mv1 rfl rfl (s_on rfl rfl rfl (mv1 rfl rfl (s_on rfl rfl rfl (s_rd (r_eql rfl rfl) rfl (s_on rfl rfl rfl (s_rd (r_pickF rfl rfl) rfl (s_rd (r_pickT rfl rfl) rfl (as1 rfl rfl (l_nil (n_then ?_)))))))))))))))
    refine ref_cond rfl (fun hb23 => ?_) (fun hb23 => ?_)
    ·refine ref_skip (n_block (n_block (n_then (ref_region (s_rd (r_add rfl rfl) rfl (mv1 rfl rfl (l_nil ?_)))))))
     exact goX () (weak [] ⟨rfl, rfl, rfl, trivial⟩ trivial)
    refine ref_seq (ref_region (as1 rfl rfl (l_nil (n_then (ref_ret (r_block (r_block (r_then ?_))))))))
    refine retX ?_
    refine r_block (r_then ?_)
    exact fin1 (.inl rfl) () [] rfl trivial rfl (rv_tmp rfl)
   refine s_off rfl rfl rfl rfl rfl (s_off rfl rfl rfl rfl rfl (s_off rfl rfl rfl rfl rfl (s_offU rfl rfl rfl (s_offU rfl rfl rfl (s_off rfl rfl rfl rfl rfl (s_off rfl rfl rfl rfl rfl (s_offU rfl rfl rfl (s_offU rfl rfl rfl (s_off rfl rfl rfl rfl rfl (s_rd (r_pickF rfl rfl) rfl (as1 rfl rfl (l_nil (n_then (ref_condF rfl rfl (ref_seq (ref_region (as1 rfl rfl (l_nil (n_then (ref_ret (r_block (r_block (r_then ?_)))))))))))))))))))))))
   refine retX ?_
   refine r_block (r_then ?_)
   exact fin1 (.inl rfl) () [] rfl trivial rfl (rv_tmp rfl)
  refine ref_exit (x_then ?_)
  exact brkX () (weak [] trivial trivial)
 refine n_then (ref_seq (ref_region (as1 rfl rfl (l_nil (n_then (ref_ret ?_))))))
 exact fin1 (.inl rfl) () [] rfl trivial rfl (rv_tmp rfl)

/-! deliberation/precedent.named$1 -/
noncomputable def pc_named_1_m (s_0 : ByteArray) : Option (Bool) :=
 Option.bind (literal_ValidName_m s_0) fun t1 =>
 some (!t1)

theorem pc_named_1_ok {s_0 : ByteArray} {r : Bool} (hm : pc_named_1_m s_0 = some r) :
  FnOk prog 68 [sv s_0] [] (fun (x : Unit) => [bv r]) (fun (x : Unit) => []) := by
 refine fn_ok (fn := Tryz.f68) (N := 6) (res := fun r x => [bv r]) (Ω1 := fun r x => []) Tryz.func68 rfl rfl hm rfl (fun E hM => ?_)
 unfold pc_named_1_m
 refine ref_seq (ref_region (as1 rfl rfl (l_nil (n_then (ref_seq (ref_region (mv1 rfl rfl (pull fun t1 h_t1 => s_st (s_call (ψ := fun (_ : Unit) => bv t1) (args := [.tmp 3]) Tryz.call35 rfl (literal_ValidName_ok h_t1) ⟨arg rfl, trivial⟩ (fun _ _ _ _ h => h)) rfl (fun _ => s_rd (r_not rfl) rfl (as1 rfl rfl (l_nil (n_then (ref_ret ?_)))))))))))))
 exact fin1 (.inl rfl) () [] rfl trivial rfl (rv_tmp rfl)

/-! slices.IndexFunc[[]string,string] -/
noncomputable def sIF_S_l1 (s_0 : (List ByteArray)) (s7 : Int) : Option (Sum ((Sum (Int) (Unit))) (Int)) :=
 bif decide (s7 < (s_0.length : Int)) then
  Option.bind (idxM s_0 s7) fun t10 =>
  Option.bind (pc_named_1_m t10) fun t11 =>
  bif t11 then
   some (Sum.inl (Sum.inl s7))
  else
   some (Sum.inr (iadd .i64 s7 1))
 else
  some (Sum.inl (Sum.inr ()))

noncomputable def sIF_S_m (s_0 : (List ByteArray)) : Option (Int) :=
 Option.bind (loopC (sIF_S_l1 s_0) 0) (sumK (fun a : Int => some a) fun q13 : Unit =>
  some (-1))

theorem sIF_S_ok {s_0 : (List ByteArray)} {r : Int} (hm : sIF_S_m s_0 = some r) :
  FnOk prog 70 [slv rS s_0, pv (.func (.func 68) #[] #[])] [] (fun (x : Unit) => [iv .i64 r]) (fun (x : Unit) => []) := by
 refine fn_ok (fn := Tryz.f70) (N := 19) (res := fun r x => [iv .i64 r]) (Ω1 := fun r x => []) Tryz.func70 rfl rfl hm rfl (fun E hM => ?_)
 unfold sIF_S_m
 refine ref_seq (ref_region (as1 rfl rfl (l_nil (n_then (ref_seq (ref_seq (ref_region (mv1 rfl rfl (s_rd (r_len Tryz.underlying22 rfl) rfl (mv1 rfl rfl (l_nil (n_then ?_))))))))))))
 refine ref_loopX (f := (sIF_S_l1 s_0)) (Γl := (fun (s7 : Int) (x8 : Unit) => [(0, slv rS s_0), (1, pv (.func (.func 68) #[] #[])), (7, iv .i64 (s_0.length : Int)), (8, iv .i64 s7)])) (Ωl := (fun (s7 : Int) (x8 : Unit) => [])) (Γb := (fun (q13 : Unit) (y14 : Unit) => [(1, pv (.func (.func 68) #[] #[]))])) (Ωb := (fun (q13 : Unit) (y14 : Unit) => [])) (kr := (fun a : Int => some a)) 0 () (weak [] ⟨rfl, rfl, rfl, rfl, trivial⟩ trivial) (fun s7 x8 => ?_) (fun q13 y14 => ?_)
 ·unfold sIF_S_l1
  refine ref_seq (ref_region (s_rd (r_lss rfl rfl) rfl (l_nil (n_then (ref_seq ?_)))))
  refine ref_cond rfl (fun hb9 => ?_) (fun hb9 => ?_)
  ·refine ref_skip (n_then (ref_seq (ref_block (ref_seq (ref_region (mv1 rfl rfl (as1 rfl rfl (l_nil (n_then (ref_seq (ref_region (mv1 rfl rfl (mv1 rfl rfl (mv1 rfl rfl (pull fun t10 h_t10 => s_rd (r_index h_t10 Tryz.underlying22 el_9 rfl rfl) rfl (s_rd (r_load el_9 rfl) rfl (pull fun t11 h_t11 => s_st (s_call (ψ := fun (_ : Unit) => bv t11) (args := [.tmp 15]) Tryz.call68 rfl (pc_named_1_ok h_t11) ⟨arg rfl, trivial⟩ (fun _ _ _ _ h => h)) rfl (fun _ => l_nil (n_then ?_)))))))))))))))))))
   refine ref_cond rfl (fun hb12 => ?_) (fun hb12 => ?_)
   ·refine ref_seq (ref_region (mv1 rfl rfl (as1 rfl rfl (l_nil (n_then (ref_ret (r_block (r_then ?_))))))))
    refine retX ?_
    refine r_block (r_then ?_)
    exact fin1 (.inl rfl) () [] rfl trivial rfl (rv_tmp rfl)
   refine ref_skip (n_block (n_then (ref_region (s_rd (r_add rfl rfl) rfl (mv1 rfl rfl (l_nil ?_))))))
   exact goX () (weak [] ⟨rfl, rfl, rfl, rfl, trivial⟩ trivial)
  refine ref_exit (x_then ?_)
  exact brkX () (weak [] ⟨rfl, trivial⟩ trivial)
 refine n_then (ref_seq (ref_region (as1 rfl rfl (l_nil (n_then (ref_ret ?_))))))
 exact fin1 (.inl rfl) () [] rfl trivial rfl (rv_tmp rfl)

/-! slices.ContainsFunc[[]string,string] -/
noncomputable def sCF_S_m (s_0 : (List ByteArray)) : Option (Bool) :=
 Option.bind (sIF_S_m s_0) fun t1 =>
 letM (decide (t1 ≥ 0)) fun t2 =>
 some t2

theorem sCF_S_ok {s_0 : (List ByteArray)} {r : Bool} (hm : sCF_S_m s_0 = some r) :
  FnOk prog 38 [slv rS s_0, pv (.func (.func 68) #[] #[])] [] (fun (x : Unit) => [bv r]) (fun (x : Unit) => []) := by
 refine fn_ok (fn := Tryz.f38) (N := 9) (res := fun r x => [bv r]) (Ω1 := fun r x => []) Tryz.func38 rfl rfl hm rfl (fun E hM => ?_)
 unfold sCF_S_m
 refine ref_seq (ref_region (as1 rfl rfl (l_nil (n_then (ref_seq (ref_region (mv1 rfl rfl (mv1 rfl rfl (pull fun t1 h_t1 => s_st (s_call (ψ := fun (_ : Unit) => iv .i64 t1) (args := [.tmp 5, .tmp 6]) Tryz.call70 rfl (sIF_S_ok h_t1) ⟨arg rfl, arg rfl, trivial⟩ (fun _ _ _ _ h => h)) rfl (fun _ => s_rd (r_geq rfl rfl) rfl (as1 rfl rfl (b_let (f := bv) (t := 4) rfl fun t2 => l_nil (n_then (ref_ret ?_))))))))))))))
 exact fin1 (.inl rfl) () [] rfl trivial rfl (rv_tmp rfl)

/-! deliberation/precedent.named -/
noncomputable def pc_named_m (l_0 : (List ByteArray)) : Option (Bool) :=
 Option.bind (sCF_S_m l_0) fun t1 =>
 some (!t1)

theorem pc_named_ok {l_0 : (List ByteArray)} {r : Bool} (hm : pc_named_m l_0 = some r) :
  FnOk prog 32 [slv rS l_0] [] (fun (x : Unit) => [bv r]) (fun (x : Unit) => []) := by
 refine fn_ok (fn := Tryz.f32) (N := 6) (res := fun r x => [bv r]) (Ω1 := fun r x => []) Tryz.func32 rfl rfl hm rfl (fun E hM => ?_)
 unfold pc_named_m
 refine ref_seq (ref_region (as1 rfl rfl (l_nil (n_then (ref_seq (ref_region (mv1 rfl rfl (pull fun t1 h_t1 => s_st (s_call (ψ := fun (_ : Unit) => bv t1) (args := [.tmp 3, .func 68]) Tryz.call38 rfl (sCF_S_ok h_t1) ⟨arg rfl, arg rfl, trivial⟩ (fun _ _ _ _ h => h)) rfl (fun _ => s_rd (r_not rfl) rfl (as1 rfl rfl (l_nil (n_then (ref_ret ?_)))))))))))))
 exact fin1 (.inl rfl) () [] rfl trivial rfl (rv_tmp rfl)

/-! deliberation/precedent.Validate$1 -/
noncomputable def pc_Validate_1_m (c_0 : T_Cas) : Option (Bool) :=
 Option.bind (literal_ValidName_m c_0.Name) fun t2 =>
 some (!t2)

theorem pc_Validate_1_ok {c_0 : T_Cas} {r : Bool} (hm : pc_Validate_1_m c_0 = some r) :
  FnOk prog 34 [ag [sv c_0.Name, slv rS c_0.Facts, iv .i64 c_0.Winner, slv rS c_0.Reason]] [] (fun (x : Unit) => [bv r]) (fun (x : Unit) => []) := by
 refine fn_ok (fn := Tryz.f34) (N := 7) (res := fun r x => [bv r]) (Ω1 := fun r x => []) Tryz.func34 rfl rfl hm rfl (fun E hM => ?_)
 unfold pc_Validate_1_m
 refine ref_seq (ref_region (s_st (s_box (part_agO (ψs := [sv c_0.Name, slv rS c_0.Facts, iv .i64 c_0.Winner, slv rS c_0.Reason]) rfl ⟨.inl sv_at, .inl slv_at, .inl iv_at, .inl slv_at, trivial⟩)) rfl (fun b1 => as1 rfl rfl (l_nil (n_then (ref_seq (ref_region (s_rd (r_faddr (fo := 0) Tryz.underlying60 rfl rfl Tryz.sizeOf9 rfl) rfl (s_rd (r_cload Tryz.isAgg9 rfl (j := 0) rfl rfl) rfl (pull fun t2 h_t2 => s_st (s_call (ψ := fun (_ : Unit) => bv t2) (args := [.tmp 4]) Tryz.call35 rfl (literal_ValidName_ok h_t2) ⟨arg rfl, trivial⟩ (fun _ _ _ _ h => h)) rfl (fun _ => s_rd (r_not rfl) rfl (as1 rfl rfl (l_nil (n_then (ref_ret ?_)))))))))))))))
 exact fin1 (.inl rfl) () [] rfl trivial rfl (rv_tmp rfl)

/-! deliberation/precedent.rising -/
noncomputable def pc_rising_l1 (l_0 : (List ByteArray)) (s7 : Int) : Option (Sum ((Sum (Bool) (Unit))) (Int)) :=
 bif decide (s7 < (l_0.length : Int)) then
  Option.bind (idxM l_0 (isub .i64 s7 1)) fun t10 =>
  Option.bind (idxM l_0 s7) fun t11 =>
  bif !Op.bytesLess t10.toList t11.toList then
   some (Sum.inl (Sum.inl false))
  else
   some (Sum.inr (iadd .i64 s7 1))
 else
  some (Sum.inl (Sum.inr ()))

noncomputable def pc_rising_m (l_0 : (List ByteArray)) : Option (Bool) :=
 Option.bind (loopC (pc_rising_l1 l_0) 1) (sumK (fun a : Bool => some a) fun q13 : Unit =>
  some true)

theorem pc_rising_ok {l_0 : (List ByteArray)} {r : Bool} (hm : pc_rising_m l_0 = some r) :
  FnOk prog 36 [slv rS l_0] [] (fun (x : Unit) => [bv r]) (fun (x : Unit) => []) := by
 refine fn_ok (fn := Tryz.f36) (N := 20) (res := fun r x => [bv r]) (Ω1 := fun r x => []) Tryz.func36 rfl rfl hm rfl (fun E hM => ?_)
 unfold pc_rising_m
 refine ref_seq (ref_region (as1 rfl rfl (l_nil (n_then (ref_seq (ref_seq (ref_region (as1 rfl rfl (l_nil (n_then ?_))))))))))
 refine ref_loopX (f := (pc_rising_l1 l_0)) (Γl := (fun (s7 : Int) (x8 : Unit) => [(0, slv rS l_0), (3, iv .i64 s7)])) (Ωl := (fun (s7 : Int) (x8 : Unit) => [])) (Γb := (fun (q13 : Unit) (y14 : Unit) => [])) (Ωb := (fun (q13 : Unit) (y14 : Unit) => [])) (kr := (fun a : Bool => some a)) 1 () (weak [] ⟨rfl, rfl, trivial⟩ trivial) (fun s7 x8 => ?_) (fun q13 y14 => ?_)
 ·unfold pc_rising_l1
  refine ref_seq (ref_seq (ref_region (mv1 rfl rfl (mv1 rfl rfl (s_rd (r_len Tryz.underlying22 rfl) rfl (s_rd (r_lss rfl rfl) rfl (l_nil (n_then ?_))))))))
  refine ref_cond rfl (fun hb9 => ?_) (fun hb9 => ?_)
  ·refine ref_skip (n_then (ref_seq (ref_block (ref_seq ?_))))
   refine ref_draw [0, 1, 2, 3, 4, 5, 6, 7, 8, 9] rfl (by kernel_rfl) (fun hok => ?_)
   refine a_rd (i := 0) hok rfl (by kernel_rfl) rfl (r_move rfl) rfl ?_
   refine a_rd (i := 1) hok rfl (by kernel_rfl) rfl (r_move rfl) rfl ?_
   refine a_rd (i := 2) hok rfl (by kernel_rfl) rfl (r_sub rfl rfl) rfl ?_
   refine pull fun t10 h_t10 => ?_
   refine a_rd (i := 3) hok rfl (by kernel_rfl) rfl (r_index h_t10 Tryz.underlying22 el_9 rfl rfl) rfl ?_
   refine a_rd (i := 4) hok rfl (by kernel_rfl) rfl (r_load el_9 rfl) rfl ?_
   refine a_rd (i := 5) hok rfl (by kernel_rfl) rfl (r_move rfl) rfl ?_
   refine a_rd (i := 6) hok rfl (by kernel_rfl) rfl (r_move rfl) rfl ?_
   refine pull fun t11 h_t11 => ?_
   refine a_rd (i := 7) hok rfl (by kernel_rfl) rfl (r_index h_t11 Tryz.underlying22 el_9 rfl rfl) rfl ?_
   refine a_rd (i := 8) hok rfl (by kernel_rfl) rfl (r_load el_9 rfl) rfl ?_
   refine a_rd (i := 9) hok rfl (by kernel_rfl) rfl (r_sgeq rfl rfl) rfl ?_
   refine a_fin hok (by kernel_rfl) ?_
   refine n_then ?_
   refine ref_cond rfl (fun hb12 => ?_) (fun hb12 => ?_)
   ·refine ref_seq (ref_region (as1 rfl rfl (l_nil (n_then (ref_ret (r_block (r_then ?_)))))))
    refine retX ?_
    refine r_block (r_then ?_)
    exact fin1 (.inl rfl) () [] rfl trivial rfl (rv_tmp rfl)
   refine ref_skip (n_block (n_then (ref_region (mv1 rfl rfl (s_rd (r_add rfl rfl) rfl (as1 rfl rfl (l_nil ?_)))))))
   exact goX () (weak [] ⟨rfl, rfl, trivial⟩ trivial)
  refine ref_exit (x_then ?_)
  exact brkX () (weak [] trivial trivial)
 refine n_then (ref_seq (ref_region (as1 rfl rfl (l_nil (n_then (ref_ret ?_))))))
 exact fin1 (.inl rfl) () [] rfl trivial rfl (rv_tmp rfl)

/-! deliberation/precedent.Validate$2 -/
noncomputable def pc_Validate_2_m (c_0 : T_Cas) : Option (Bool) :=
 Option.bind (pc_rising_m c_0.Facts) fun t2 =>
 bif !t2 then
  some true
 else
  Option.bind (pc_rising_m c_0.Reason) fun t3 =>
  some (!t3)

theorem pc_Validate_2_ok {c_0 : T_Cas} {r : Bool} (hm : pc_Validate_2_m c_0 = some r) :
  FnOk prog 37 [ag [sv c_0.Name, slv rS c_0.Facts, iv .i64 c_0.Winner, slv rS c_0.Reason]] [] (fun (x : Unit) => [bv r]) (fun (x : Unit) => []) := by
 refine fn_ok (fn := Tryz.f37) (N := 13) (res := fun r x => [bv r]) (Ω1 := fun r x => []) Tryz.func37 rfl rfl hm rfl (fun E hM => ?_)
 unfold pc_Validate_2_m
 refine ref_seq (ref_region (s_st (s_box (part_agO (ψs := [sv c_0.Name, slv rS c_0.Facts, iv .i64 c_0.Winner, slv rS c_0.Reason]) rfl ⟨.inl sv_at, .inl slv_at, .inl iv_at, .inl slv_at, trivial⟩)) rfl (fun b1 => as1 rfl rfl (l_nil (n_then (ref_seq (ref_region (s_rd (r_faddr (fo := 1) Tryz.underlying60 rfl rfl Tryz.sizeOf22 rfl) rfl (s_rd (r_cload Tryz.isAgg22 rfl (j := 0) rfl rfl) rfl (pull fun t2 h_t2 => s_st (s_call (ψ := fun (_ : Unit) => bv t2) (args := [.tmp 4]) Tryz.call36 rfl (pc_rising_ok h_t2) ⟨arg rfl, trivial⟩ (fun _ _ _ _ h => h)) rfl (fun _ => s_rd (r_not rfl) rfl (mv1 rfl rfl ?_))))))))))))
 refine b_split (t := 7) rfl (fun _ => ?_) (fun _ => ?_)
 ·refine s_off rfl rfl rfl rfl rfl (s_off rfl rfl rfl rfl rfl (s_off rfl rfl rfl rfl rfl (s_off rfl rfl rfl rfl rfl (s_rd (r_pickT rfl rfl) rfl (as1 rfl rfl (l_nil (n_then (ref_ret ?_))))))))
  exact fin1 (.inl rfl) () [] rfl trivial rfl (rv_tmp rfl)
 refine s_on rfl rfl rfl (s_rd (r_faddr (fo := 3) Tryz.underlying60 rfl rfl Tryz.sizeOf22 rfl) rfl (s_on rfl rfl rfl (s_rd (r_cload Tryz.isAgg22 rfl (j := 0) rfl rfl) rfl (s_on rfl rfl rfl (pull fun t3 h_t3 => s_st (s_call (ψ := fun (_ : Unit) => bv t3) (args := [.tmp 9]) Tryz.call36 rfl (pc_rising_ok h_t3) ⟨arg rfl, trivial⟩ (fun _ _ _ _ h => h)) rfl (fun _ => s_on rfl rfl rfl (s_rd (r_not rfl) rfl (s_rd (r_pickF rfl rfl) rfl (as1 rfl rfl (l_nil (n_then (ref_ret ?_))))))))))))
 exact fin1 (.inl rfl) () [] rfl trivial rfl (rv_tmp rfl)

/-! slices.Index[[]string,string] -/
noncomputable def sI_S_l1 (s_0 : (List ByteArray)) (v_1 : ByteArray) (s6 : Int) : Option (Sum ((Sum (Int) (Unit))) (Int)) :=
 bif decide (s6 < (s_0.length : Int)) then
  Option.bind (idxM s_0 s6) fun t9 =>
  bif v_1.toList == t9.toList then
   some (Sum.inl (Sum.inl s6))
  else
   some (Sum.inr (iadd .i64 s6 1))
 else
  some (Sum.inl (Sum.inr ()))

noncomputable def sI_S_m (s_0 : (List ByteArray)) (v_1 : ByteArray) : Option (Int) :=
 Option.bind (loopC (sI_S_l1 s_0 v_1) 0) (sumK (fun a : Int => some a) fun q11 : Unit =>
  some (-1))

theorem sI_S_ok {s_0 : (List ByteArray)} {v_1 : ByteArray} {r : Int} (hm : sI_S_m s_0 v_1 = some r) :
  FnOk prog 71 [slv rS s_0, sv v_1] [] (fun (x : Unit) => [iv .i64 r]) (fun (x : Unit) => []) := by
 refine fn_ok (fn := Tryz.f71) (N := 19) (res := fun r x => [iv .i64 r]) (Ω1 := fun r x => []) Tryz.func71 rfl rfl hm rfl (fun E hM => ?_)
 unfold sI_S_m
 refine ref_seq (ref_region (as1 rfl rfl (l_nil (n_then (ref_seq (ref_seq (ref_region (mv1 rfl rfl (s_rd (r_len Tryz.underlying22 rfl) rfl (mv1 rfl rfl (l_nil (n_then ?_))))))))))))
 refine ref_loopX (f := (sI_S_l1 s_0 v_1)) (Γl := (fun (s6 : Int) (x7 : Unit) => [(0, slv rS s_0), (1, sv v_1), (7, iv .i64 (s_0.length : Int)), (8, iv .i64 s6)])) (Ωl := (fun (s6 : Int) (x7 : Unit) => [])) (Γb := (fun (q11 : Unit) (y12 : Unit) => [])) (Ωb := (fun (q11 : Unit) (y12 : Unit) => [])) (kr := (fun a : Int => some a)) 0 () (weak [] ⟨rfl, rfl, rfl, rfl, trivial⟩ trivial) (fun s6 x7 => ?_) (fun q11 y12 => ?_)
 ·unfold sI_S_l1
  refine ref_seq (ref_region (s_rd (r_lss rfl rfl) rfl (l_nil (n_then (ref_seq ?_)))))
  refine ref_cond rfl (fun hb8 => ?_) (fun hb8 => ?_)
  ·refine ref_skip (n_then (ref_seq (ref_block (ref_seq (ref_region (mv1 rfl rfl (as1 rfl rfl (l_nil (n_then (ref_seq (ref_region (mv1 rfl rfl (mv1 rfl rfl (mv1 rfl rfl (pull fun t9 h_t9 => s_rd (r_index h_t9 Tryz.underlying22 el_9 rfl rfl) rfl (s_rd (r_load el_9 rfl) rfl (s_rd (r_seql rfl rfl) rfl (l_nil (n_then ?_)))))))))))))))))))
   refine ref_cond rfl (fun hb10 => ?_) (fun hb10 => ?_)
   ·refine ref_seq (ref_region (mv1 rfl rfl (as1 rfl rfl (l_nil (n_then (ref_ret (r_block (r_then ?_))))))))
    refine retX ?_
    refine r_block (r_then ?_)
    exact fin1 (.inl rfl) () [] rfl trivial rfl (rv_tmp rfl)
   refine ref_skip (n_block (n_then (ref_region (s_rd (r_add rfl rfl) rfl (mv1 rfl rfl (l_nil ?_))))))
   exact goX () (weak [] ⟨rfl, rfl, rfl, rfl, trivial⟩ trivial)
  refine ref_exit (x_then ?_)
  exact brkX () (weak [] trivial trivial)
 refine n_then (ref_seq (ref_region (as1 rfl rfl (l_nil (n_then (ref_ret ?_))))))
 exact fin1 (.inl rfl) () [] rfl trivial rfl (rv_tmp rfl)

/-! slices.Contains[[]string,string] -/
noncomputable def sC_S_m (s_0 : (List ByteArray)) (v_1 : ByteArray) : Option (Bool) :=
 Option.bind (sI_S_m s_0 v_1) fun t1 =>
 letM (decide (t1 ≥ 0)) fun t2 =>
 some t2

theorem sC_S_ok {s_0 : (List ByteArray)} {v_1 : ByteArray} {r : Bool} (hm : sC_S_m s_0 v_1 = some r) :
  FnOk prog 40 [slv rS s_0, sv v_1] [] (fun (x : Unit) => [bv r]) (fun (x : Unit) => []) := by
 refine fn_ok (fn := Tryz.f40) (N := 9) (res := fun r x => [bv r]) (Ω1 := fun r x => []) Tryz.func40 rfl rfl hm rfl (fun E hM => ?_)
 unfold sC_S_m
 refine ref_seq (ref_region (as1 rfl rfl (l_nil (n_then (ref_seq (ref_region (mv1 rfl rfl (mv1 rfl rfl (pull fun t1 h_t1 => s_st (s_call (ψ := fun (_ : Unit) => iv .i64 t1) (args := [.tmp 5, .tmp 6]) Tryz.call71 rfl (sI_S_ok h_t1) ⟨arg rfl, arg rfl, trivial⟩ (fun _ _ _ _ h => h)) rfl (fun _ => s_rd (r_geq rfl rfl) rfl (as1 rfl rfl (b_let (f := bv) (t := 4) rfl fun t2 => l_nil (n_then (ref_ret ?_))))))))))))))
 exact fin1 (.inl rfl) () [] rfl trivial rfl (rv_tmp rfl)

/-! deliberation/precedent.Validate$4 -/
noncomputable def pc_Validate_4_m (c_0 : T_Cas) : Option (Bool) :=
 bif c_0.Winner != 1 then
  letM (c_0.Winner != 2) fun t2 =>
  some t2
 else
  some false

theorem pc_Validate_4_ok {c_0 : T_Cas} {r : Bool} (hm : pc_Validate_4_m c_0 = some r) :
  FnOk prog 41 [ag [sv c_0.Name, slv rS c_0.Facts, iv .i64 c_0.Winner, slv rS c_0.Reason]] [] (fun (x : Unit) => [bv r]) (fun (x : Unit) => []) := by
 refine fn_ok (fn := Tryz.f41) (N := 11) (res := fun r x => [bv r]) (Ω1 := fun r x => []) Tryz.func41 rfl rfl hm rfl (fun E hM => ?_)
 unfold pc_Validate_4_m
 refine ref_seq (ref_region (s_st (s_box (part_agO (ψs := [sv c_0.Name, slv rS c_0.Facts, iv .i64 c_0.Winner, slv rS c_0.Reason]) rfl ⟨.inl sv_at, .inl slv_at, .inl iv_at, .inl slv_at, trivial⟩)) rfl (fun b1 => as1 rfl rfl (l_nil (n_then (ref_seq (ref_region (s_rd (r_faddr (fo := 2) Tryz.underlying60 rfl rfl Tryz.sizeOf3 rfl) rfl (s_rd (r_cload Tryz.isAgg3 rfl (j := 0) rfl rfl) rfl (s_rd (r_neq rfl rfl) rfl (mv1 rfl rfl ?_)))))))))))
 refine b_split (t := 6) rfl (fun _ => ?_) (fun _ => ?_)
 ·refine s_on rfl rfl rfl (s_rd (r_faddr (fo := 2) Tryz.underlying60 rfl rfl Tryz.sizeOf3 rfl) rfl (s_on rfl rfl rfl (s_rd (r_cload Tryz.isAgg3 rfl (j := 0) rfl rfl) rfl (s_on rfl rfl rfl (s_rd (r_neq rfl rfl) rfl (s_rd (r_pickT rfl rfl) rfl (as1 rfl rfl (b_let (f := bv) (t := 2) rfl fun t2 => l_nil (n_then (ref_ret ?_))))))))))
  exact fin1 (.inl rfl) () [] rfl trivial rfl (rv_tmp rfl)
 refine s_off rfl rfl rfl rfl rfl (s_off rfl rfl rfl rfl rfl (s_off rfl rfl rfl rfl rfl (s_rd (r_pickF rfl rfl) rfl (as1 rfl rfl (l_nil (n_then (ref_ret ?_)))))))
 exact fin1 (.inl rfl) () [] rfl trivial rfl (rv_tmp rfl)

/-! slices.Grow[[]string,string] -/
noncomputable def slices_Grow_S_m (n_1 : Int) : Option (List ByteArray) :=
 bif decide (n_1 < 0) then
  none
 else
  letM (isub .i64 n_1 (isub .i64 0 0)) fun n2 =>
  bif decide (n2 > 0) then
   Option.bind (mkM 16 ByteArray.empty n2) fun t4 =>
   Option.bind (slM t4 0 0) fun s6 =>
   some s6
  else
   some []

theorem slices_Grow_S_ok {n_1 : Int} {r : List ByteArray} (hm : slices_Grow_S_m n_1 = some r) :
  FnOk prog 86 [pv (.slice none 0 0), iv .i64 n_1] [] (fun (x : (Value × List Nat)) => [pv x.1]) (fun (x : (Value × List Nat)) => [oa rS x.1 x.2 r]) := by
 refine fn_ok (X := (Value × List Nat)) (fn := Tryz.f86) (N := 27) (res := fun r x => [pv x.1]) (Ω1 := fun r x => [oa rS x.1 x.2 r]) Tryz.func86 rfl rfl hm rfl (fun E hM => ?_)
 unfold slices_Grow_S_m
 refine ref_seq (ref_region (as1 rfl rfl (l_nil (n_then (ref_seq (ref_seq (ref_region (mv1 rfl rfl (s_rd (r_lss rfl rfl) rfl (l_nil (n_then ?_)))))))))))
 refine ref_cond rfl (fun hb1 => ?_) (fun hb1 => ?_)
 ·refine ref_region ?_
  exact pnone
 refine ref_skip (n_then (ref_seq (ref_seq (ref_region (mv1 rfl rfl (mv1 rfl rfl (s_rd (r_capN Tryz.underlying22 rfl) rfl (mv1 rfl rfl (s_rd (r_lenN Tryz.underlying22 rfl) rfl (s_rd (r_sub rfl rfl) rfl (s_rd (r_sub rfl rfl) rfl (as1 rfl rfl (b_let (f := iv .i64) (t := 1) rfl fun n2 => l_nil (n_then (ref_seq (ref_region (mv1 rfl rfl (s_rd (r_gtr rfl rfl) rfl (l_nil (n_then ?_))))))))))))))))))))
 refine ref_cond rfl (fun hb3 => ?_) (fun hb3 => ?_)
 ·refine ref_region (mv1 rfl rfl (mv1 rfl rfl (s_rd (r_capN Tryz.underlying22 rfl) rfl (s_rd (r_sliceN Tryz.underlying22 el_9 rfl rfl) rfl (mv1 rfl rfl (pull fun t4 h_t4 => s_st (s_appendZ h_t4 (of_decide_eq_true hb3) Tryz.underlying22 Tryz.underlying3 el_9 ze_9 rfl rfl) rfl (fun o5 => mv1 rfl rfl (s_rd (r_lenN Tryz.underlying22 rfl) rfl (pull fun s6 h_s6 => s_st (s_oslice h_s6 Tryz.underlying22 el_9 rfl (j := 0) rfl .dft (.of rfl)) rfl (fun o7 => as1 rfl rfl (l_nil (n_then (ref_seq (ref_region (mv1 rfl rfl (as1 rfl rfl (l_nil (n_then (ref_ret ?_)))))))))))))))))))
  exact fin1 (.inl rfl) o7 [0] rfl ⟨rfl, trivial⟩ rfl (rv_tmp rfl)
 refine ref_skip (n_then (ref_seq (ref_region (mv1 rfl rfl (as1 rfl rfl (l_nil (n_then (ref_ret (b_of (own_nil rS) ?_)))))))))
 exact fin1 (.inl rfl) ((.slice none 0 0), []) [0] rfl ⟨rfl, trivial⟩ rfl (rv_tmp rfl)

/-! slices.Concat[[]string,string] -/
noncomputable def sCo_S_l1 (slices_0 : (List (List ByteArray))) (s7 : Int × Int) : Option (Sum (Int) (Int × Int)) :=
 bif decide (s7.2 < (slices_0.length : Int)) then
  Option.bind (idxM slices_0 s7.2) fun s10 =>
  letM (iadd .i64 s7.1 (s10.length : Int)) fun size11 =>
  bif decide (size11 < 0) then
   none
  else
   some (Sum.inr (size11, iadd .i64 s7.2 1))
 else
  some (Sum.inl s7.1)

noncomputable def sCo_S_l2 (slices_0 : (List (List ByteArray))) (s29 : Int × (List ByteArray)) : Option (Sum ((List ByteArray)) (Int × (List ByteArray))) :=
 bif decide (s29.1 < (slices_0.length : Int)) then
  Option.bind (idxM slices_0 s29.1) fun s32 =>
  Option.bind (appM 16 s29.2 s32) fun newslice33 =>
  some (Sum.inr (iadd .i64 s29.1 1, newslice33))
 else
  some (Sum.inl s29.2)

noncomputable def sCo_S_m (slices_0 : (List (List ByteArray))) : Option (List ByteArray) :=
 Option.bind (loopC (sCo_S_l1 slices_0) (0, 0)) fun q13 : Int =>
 Option.bind (slices_Grow_S_m q13) fun newslice15 =>
 Option.bind (loopC (sCo_S_l2 slices_0) (0, newslice15)) fun q35 : (List ByteArray) =>
 some q35

theorem sCo_S_ok {slices_0 : (List (List ByteArray))} {r : List ByteArray} (hm : sCo_S_m slices_0 = some r) :
  FnOk prog 73 [slv (rSl rS) slices_0] [] (fun (x : (Value × List Nat)) => [pv x.1]) (fun (x : (Value × List Nat)) => [oa rS x.1 x.2 r]) := by
 refine fn_ok (X := (Value × List Nat)) (fn := Tryz.f73) (N := 36) (res := fun r x => [pv x.1]) (Ω1 := fun r x => [oa rS x.1 x.2 r]) Tryz.func73 rfl rfl hm rfl (fun E hM => ?_)
 unfold sCo_S_m
 refine ref_seq (ref_region (as1 rfl rfl (l_nil (n_then (ref_seq (ref_region (as1 rfl rfl (l_nil (n_then (ref_seq (ref_seq (ref_region (mv1 rfl rfl (s_rd (r_len Tryz.underlying40 rfl) rfl (mv1 rfl rfl (l_nil (n_then ?_)))))))))))))))))
 refine ref_loopB (f := (sCo_S_l1 slices_0)) (Γl := (fun (s7 : Int × Int) (x8 : Unit) => [(0, slv (rSl rS) slices_0), (3, iv .i64 s7.1), (9, slv (rSl rS) slices_0), (10, iv .i64 (slices_0.length : Int)), (11, iv .i64 s7.2)])) (Ωl := (fun (s7 : Int × Int) (x8 : Unit) => [])) (Γb := (fun (q13 : Int) (y14 : Unit) => [(0, slv (rSl rS) slices_0), (3, iv .i64 q13)])) (Ωb := (fun (q13 : Int) (y14 : Unit) => [])) (0, 0) () (weak [] ⟨rfl, rfl, rfl, rfl, rfl, trivial⟩ trivial) (fun s7 x8 => ?_) (fun q13 y14 => ?_)
 ·unfold sCo_S_l1
  refine ref_seq (ref_region (s_rd (r_lss rfl rfl) rfl (l_nil (n_then (ref_seq ?_)))))
  refine ref_cond rfl (fun hb9 => ?_) (fun hb9 => ?_)
  ·refine ref_skip (n_then (ref_seq (ref_block (ref_seq (ref_region (pull fun s10 h_s10 => s_rd (r_index h_s10 Tryz.underlying40 el_22 rfl rfl) rfl (s_rd (r_load el_22 rfl) rfl (as1 rfl rfl (l_nil (n_then (ref_seq (ref_region (mv1 rfl rfl (mv1 rfl rfl (s_rd (r_len Tryz.underlying22 rfl) rfl (s_rd (r_add rfl rfl) rfl (as1 rfl rfl (b_let (f := iv .i64) (t := 3) rfl fun size11 => l_nil (n_then (ref_seq (ref_region (mv1 rfl rfl (s_rd (r_lss rfl rfl) rfl (l_nil (n_then ?_)))))))))))))))))))))))))
   refine ref_cond rfl (fun hb12 => ?_) (fun hb12 => ?_)
   ·refine ref_region ?_
    exact pnone
   refine ref_skip (n_block (n_then (ref_region (s_rd (r_add rfl rfl) rfl (mv1 rfl rfl (l_nil ?_))))))
   exact goB () (weak [] ⟨rfl, rfl, rfl, rfl, rfl, trivial⟩ trivial)
  refine ref_exit (x_then ?_)
  exact brkB () (weak [] ⟨rfl, rfl, trivial⟩ trivial)
 refine n_then (ref_seq (ref_region (mv1 rfl rfl (pull fun newslice15 h_newslice15 => s_st (s_call (ψ := fun (x16 : (Value × List Nat)) => pv x16.1) (args := [.const (.slice none 0 0), .tmp 23]) Tryz.call86 rfl (slices_Grow_S_ok h_newslice15) ⟨arg rfl, arg rfl, trivial⟩ (fun _ _ _ _ h => h)) rfl (fun x16 => as1 rfl rfl (l_nil (n_then (ref_seq (ref_seq (ref_region (mv1 rfl rfl (s_rd (r_len Tryz.underlying40 rfl) rfl (mv1 rfl rfl (l_nil (n_then ?_)))))))))))))))
 refine ref_loopB (f := (sCo_S_l2 slices_0)) (Γl := (fun (s29 : Int × (List ByteArray)) (x30 : (Value × List Nat)) => [(6, pv x30.1), (25, slv (rSl rS) slices_0), (26, iv .i64 (slices_0.length : Int)), (27, iv .i64 s29.1)])) (Ωl := (fun (s29 : Int × (List ByteArray)) (x30 : (Value × List Nat)) => [oa rS x30.1 x30.2 s29.2])) (Γb := (fun (q35 : (List ByteArray)) (y36 : (Value × List Nat)) => [(6, pv y36.1)])) (Ωb := (fun (q35 : (List ByteArray)) (y36 : (Value × List Nat)) => [oa rS y36.1 y36.2 q35])) (0, newslice15) x16 (weak [0] ⟨rfl, rfl, rfl, rfl, trivial⟩ ⟨rfl, trivial⟩) (fun s29 x30 => ?_) (fun q35 y36 => ?_)
 ·unfold sCo_S_l2
  refine ref_seq (ref_region (s_rd (r_lss rfl rfl) rfl (l_nil (n_then (ref_seq ?_)))))
  refine ref_cond rfl (fun hb31 => ?_) (fun hb31 => ?_)
  ·refine ref_skip (n_then (ref_seq (ref_block (ref_seq (ref_region (pull fun s32 h_s32 => s_rd (r_index h_s32 Tryz.underlying40 el_22 rfl rfl) rfl (s_rd (r_load el_22 rfl) rfl (as1 rfl rfl (l_nil (n_then (ref_region (mv1 rfl rfl (mv1 rfl rfl (pull fun newslice33 h_newslice33 => s_st (s_append h_newslice33 Tryz.underlying22 el_9 rfl (j := 0) rfl rfl) rfl (fun o34 => as1 rfl rfl (l_nil (n_block (n_then (ref_region (s_rd (r_add rfl rfl) rfl (mv1 rfl rfl (l_nil ?_))))))))))))))))))))))
   exact goB o34 (weak [0] ⟨rfl, rfl, rfl, rfl, trivial⟩ ⟨rfl, trivial⟩)
  refine ref_exit (x_then ?_)
  exact brkB x30 (weak [0] ⟨rfl, trivial⟩ ⟨rfl, trivial⟩)
 refine n_then (ref_seq (ref_region (mv1 rfl rfl (as1 rfl rfl (l_nil (n_then (ref_ret ?_)))))))
 exact fin1 (.inl rfl) y36 [0] rfl ⟨rfl, trivial⟩ rfl (rv_tmp rfl)

/-! deliberation/precedent.factors -/
noncomputable def pc_factors_m (l_0 : T_Lib) : Option (List ByteArray) :=
 Option.bind (sCo_S_m [l_0.Sides.i0, l_0.Sides.i1]) fun t2 =>
 some t2

theorem pc_factors_ok {l_0 : T_Lib} {r : List ByteArray} (hm : pc_factors_m l_0 = some r) :
  FnOk prog 44 [ag [slv rS l_0.Sides.i0, slv rS l_0.Sides.i1, slv rT_Cas l_0.Cases]] [] (fun (x : (Value × List Nat)) => [pv x.1]) (fun (x : (Value × List Nat)) => [oa rS x.1 x.2 r]) := by
 refine fn_ok (X := (Value × List Nat)) (fn := Tryz.f44) (N := 11) (res := fun r x => [pv x.1]) (Ω1 := fun r x => [oa rS x.1 x.2 r]) Tryz.func44 rfl rfl hm rfl (fun E hM => ?_)
 unfold pc_factors_m
 refine ref_seq (ref_region (s_st (s_box (part_agO (ψs := [slv rS l_0.Sides.i0, slv rS l_0.Sides.i1, slv rT_Cas l_0.Cases]) rfl ⟨.inl slv_at, .inl slv_at, .inl slv_at, trivial⟩)) rfl (fun b1 => as1 rfl rfl (l_nil (n_then (ref_seq (ref_region (s_rd (r_faddr (fo := 0) Tryz.underlying26 rfl rfl Tryz.sizeOf23 rfl) rfl (s_rd (r_aaddr (sz := 1) ⟨by decide, by decide⟩ Tryz.underlying23 Tryz.sizeOf22 rfl rfl) rfl ?_)))))))))
 refine s_rd (r_cload Tryz.isAgg22 rfl (j := 0) rfl rfl) rfl (s_rd (r_faddr (fo := 0) Tryz.underlying26 rfl rfl Tryz.sizeOf23 rfl) rfl (s_rd (r_aaddr (sz := 1) ⟨by decide, by decide⟩ Tryz.underlying23 Tryz.sizeOf22 rfl rfl) rfl ?_))
 refine s_rd (r_cload Tryz.isAgg22 rfl (j := 0) rfl rfl) rfl (s_st (s_bslice (xs := [.tmp 5, .tmp 8]) (ds := [l_0.Sides.i0, l_0.Sides.i1]) Tryz.underlying40 el_22 rfl (Nat.le_of_ble_eq_true rfl) ⟨(part_at rfl slv_at), ⟨(part_at rfl slv_at), trivial⟩⟩) rfl (fun _ => pull fun t2 h_t2 => s_st (s_call (ψ := fun (x3 : (Value × List Nat)) => pv x3.1) (args := [.tmp 9]) Tryz.call73 rfl (sCo_S_ok h_t2) ⟨arg rfl, trivial⟩ (fun _ _ _ _ h => h)) rfl (fun x3 => as1 rfl rfl (l_nil (n_then (ref_ret ?_))))))
 exact fin1 (.inl rfl) x3 [1] rfl ⟨rfl, trivial⟩ rfl (rv_tmp rfl)

/-! deliberation/precedent.within$1 -/
noncomputable def pc_within_1_m (s_0 : ByteArray) (p_1 : (List ByteArray)) : Option (Bool) :=
 Option.bind (sC_S_m p_1 s_0) fun t1 =>
 some (!t1)

theorem pc_within_1_ok {s_0 : ByteArray} {p_1 : (List ByteArray)} {b_1 : Nat} {r : Bool} (hm : pc_within_1_m s_0 p_1 = some r) :
  FnOk prog 72 [sv s_0, pv (ptr b_1 0)] [oc b_1 [slv rS p_1]] (fun (x : Unit) => [bv r]) (fun (x : Unit) => [oc b_1 [slv rS p_1]]) := by
 refine fn_ok (fn := Tryz.f72) (N := 8) (res := fun r x => [bv r]) (Ω1 := fun r x => [oc b_1 [slv rS p_1]]) Tryz.func72 rfl rfl hm rfl (fun E hM => ?_)
 unfold pc_within_1_m
 refine ref_seq (ref_region (as1 rfl rfl (l_nil (n_then (ref_seq (ref_region (s_rd (r_cload Tryz.isAgg22 rfl (j := 0) rfl rfl) rfl (mv1 rfl rfl (pull fun t1 h_t1 => s_st (s_call (ψ := fun (_ : Unit) => bv t1) (args := [.tmp 4, .tmp 5]) Tryz.call40 rfl (sC_S_ok h_t1) ⟨arg rfl, arg rfl, trivial⟩ (fun _ _ _ _ h => h)) rfl (fun _ => s_rd (r_not rfl) rfl (as1 rfl rfl (l_nil (n_then (ref_ret ?_))))))))))))))
 exact fin1 (.inl rfl) () [0] rfl ⟨rfl, trivial⟩ rfl (rv_tmp rfl)

/-! slices.IndexFunc[[]string,string] -/
noncomputable def sIF_S_1_l1 (s_0 : (List ByteArray)) (e_0 : (List ByteArray)) (s7 : Int) : Option (Sum ((Sum (Int) (Unit))) (Int)) :=
 bif decide (s7 < (s_0.length : Int)) then
  Option.bind (idxM s_0 s7) fun t10 =>
  Option.bind (pc_within_1_m t10 e_0) fun t11 =>
  bif t11 then
   some (Sum.inl (Sum.inl s7))
  else
   some (Sum.inr (iadd .i64 s7 1))
 else
  some (Sum.inl (Sum.inr ()))

noncomputable def sIF_S_1_m (s_0 : (List ByteArray)) (e_0 : (List ByteArray)) : Option (Int) :=
 Option.bind (loopC (sIF_S_1_l1 s_0 e_0) 0) (sumK (fun a : Int => some a) fun q13 : Unit =>
  some (-1))

theorem sIF_S_1_ok {s_0 : (List ByteArray)} {e_0 : (List ByteArray)} {be_0 : Nat} {r : Int} (hm : sIF_S_1_m s_0 e_0 = some r) :
  FnOk prog 70 [slv rS s_0, pv (.func (.func 72) #[] #[(ptr be_0 0)])] [oc be_0 [slv rS e_0]] (fun (x : Unit) => [iv .i64 r]) (fun (x : Unit) => [oc be_0 [slv rS e_0]]) := by
 refine fn_ok (fn := Tryz.f70) (N := 19) (res := fun r x => [iv .i64 r]) (Ω1 := fun r x => [oc be_0 [slv rS e_0]]) Tryz.func70 rfl rfl hm rfl (fun E hM => ?_)
 unfold sIF_S_1_m
 refine ref_seq (ref_region (as1 rfl rfl (l_nil (n_then (ref_seq (ref_seq (ref_region (mv1 rfl rfl (s_rd (r_len Tryz.underlying22 rfl) rfl (mv1 rfl rfl (l_nil (n_then ?_))))))))))))
 refine ref_loopX (f := (sIF_S_1_l1 s_0 e_0)) (Γl := (fun (s7 : Int) (x8 : Unit) => [(0, slv rS s_0), (1, pv (.func (.func 72) #[] #[(ptr be_0 0)])), (7, iv .i64 (s_0.length : Int)), (8, iv .i64 s7)])) (Ωl := (fun (s7 : Int) (x8 : Unit) => [oc be_0 [slv rS e_0]])) (Γb := (fun (q13 : Unit) (y14 : Unit) => [(1, pv (.func (.func 72) #[] #[(ptr be_0 0)]))])) (Ωb := (fun (q13 : Unit) (y14 : Unit) => [oc be_0 [slv rS e_0]])) (kr := (fun a : Int => some a)) 0 () (weak [0] ⟨rfl, rfl, rfl, rfl, trivial⟩ ⟨rfl, trivial⟩) (fun s7 x8 => ?_) (fun q13 y14 => ?_)
 ·unfold sIF_S_1_l1
  refine ref_seq (ref_region (s_rd (r_lss rfl rfl) rfl (l_nil (n_then (ref_seq ?_)))))
  refine ref_cond rfl (fun hb9 => ?_) (fun hb9 => ?_)
  ·refine ref_skip (n_then (ref_seq (ref_block (ref_seq (ref_region (mv1 rfl rfl (as1 rfl rfl (l_nil (n_then (ref_seq (ref_region (mv1 rfl rfl (mv1 rfl rfl (mv1 rfl rfl (pull fun t10 h_t10 => s_rd (r_index h_t10 Tryz.underlying22 el_9 rfl rfl) rfl (s_rd (r_load el_9 rfl) rfl (pull fun t11 h_t11 => s_st (s_callC [0] [true] (fun (_ : Unit) => [oc be_0 [slv rS e_0]]) (fun (_ : Unit) => []) (fun (_ : Unit) => bv t11) (args := [.tmp 15]) (caps := [(ptr be_0 0)]) Tryz.call72 rfl (pc_within_1_ok h_t11) ⟨rfl, rfl, trivial⟩ (fun _ => rfl) (fun _ => trivial) (fun _ => rfl) ⟨arg rfl, arg rfl, trivial⟩ (fun _ _ _ _ h => h)) rfl (fun _ => l_nil (n_then ?_)))))))))))))))))))
   refine ref_cond rfl (fun hb12 => ?_) (fun hb12 => ?_)
   ·refine ref_seq (ref_region (mv1 rfl rfl (as1 rfl rfl (l_nil (n_then (ref_ret (r_block (r_then ?_))))))))
    refine retX ?_
    refine r_block (r_then ?_)
    exact fin1 (.inl rfl) () [0] rfl ⟨rfl, trivial⟩ rfl (rv_tmp rfl)
   refine ref_skip (n_block (n_then (ref_region (s_rd (r_add rfl rfl) rfl (mv1 rfl rfl (l_nil ?_))))))
   exact goX () (weak [0] ⟨rfl, rfl, rfl, rfl, trivial⟩ ⟨rfl, trivial⟩)
  refine ref_exit (x_then ?_)
  exact brkX () (weak [0] ⟨rfl, trivial⟩ ⟨rfl, trivial⟩)
 refine n_then (ref_seq (ref_region (as1 rfl rfl (l_nil (n_then (ref_ret ?_))))))
 exact fin1 (.inl rfl) () [0] rfl ⟨rfl, trivial⟩ rfl (rv_tmp rfl)

/-! slices.ContainsFunc[[]string,string] -/
noncomputable def sCF_S_1_m (s_0 : (List ByteArray)) (e_0 : (List ByteArray)) : Option (Bool) :=
 Option.bind (sIF_S_1_m s_0 e_0) fun t1 =>
 letM (decide (t1 ≥ 0)) fun t2 =>
 some t2

theorem sCF_S_1_ok {s_0 : (List ByteArray)} {e_0 : (List ByteArray)} {be_0 : Nat} {r : Bool} (hm : sCF_S_1_m s_0 e_0 = some r) :
  FnOk prog 38 [slv rS s_0, pv (.func (.func 72) #[] #[(ptr be_0 0)])] [oc be_0 [slv rS e_0]] (fun (x : Unit) => [bv r]) (fun (x : Unit) => [oc be_0 [slv rS e_0]]) := by
 refine fn_ok (fn := Tryz.f38) (N := 9) (res := fun r x => [bv r]) (Ω1 := fun r x => [oc be_0 [slv rS e_0]]) Tryz.func38 rfl rfl hm rfl (fun E hM => ?_)
 unfold sCF_S_1_m
 refine ref_seq (ref_region (as1 rfl rfl (l_nil (n_then (ref_seq (ref_region (mv1 rfl rfl (mv1 rfl rfl (pull fun t1 h_t1 => s_st (s_callC [0] [true] (fun (_ : Unit) => [oc be_0 [slv rS e_0]]) (fun (_ : Unit) => []) (fun (_ : Unit) => iv .i64 t1) (args := [.tmp 5, .tmp 6]) (caps := []) Tryz.call70 rfl (sIF_S_1_ok h_t1) ⟨rfl, rfl, trivial⟩ (fun _ => rfl) (fun _ => trivial) (fun _ => rfl) ⟨arg rfl, arg rfl, trivial⟩ (fun _ _ _ _ h => h)) rfl (fun _ => s_rd (r_geq rfl rfl) rfl (as1 rfl rfl (b_let (f := bv) (t := 4) rfl fun t2 => l_nil (n_then (ref_ret ?_))))))))))))))
 exact fin1 (.inl rfl) () [0] rfl ⟨rfl, trivial⟩ rfl (rv_tmp rfl)

/-! deliberation/precedent.within -/
noncomputable def pc_within_m (a__0 : (List ByteArray)) (b_1 : (List ByteArray)) : Option (Bool) :=
 Option.bind (sCF_S_1_m a__0 b_1) fun t2 =>
 some (!t2)

theorem pc_within_ok {a__0 : (List ByteArray)} {b_1 : (List ByteArray)} {r : Bool} (hm : pc_within_m a__0 b_1 = some r) :
  FnOk prog 43 [slv rS a__0, slv rS b_1] [] (fun (x : Unit) => [bv r]) (fun (x : Unit) => []) := by
 refine fn_ok (fn := Tryz.f43) (N := 9) (res := fun r x => [bv r]) (Ω1 := fun r x => []) Tryz.func43 rfl rfl hm rfl (fun E hM => ?_)
 unfold pc_within_m
 refine ref_seq (ref_region (s_st (s_box (part_at rfl slv_at)) rfl (fun b1 => as1 rfl rfl (l_nil (n_then (ref_seq (ref_region (mv1 rfl rfl (s_rd (r_mkfn (xs := [.tmp 3]) (vs := [(ptr b1 0)]) ⟨rfl, trivial⟩) rfl (pull fun t2 h_t2 => s_st (s_callC [0] [true] (fun (_ : Unit) => [oc b1 [slv rS b_1]]) (fun (_ : Unit) => []) (fun (_ : Unit) => bv t2) (args := [.tmp 5, .tmp 6]) (caps := []) Tryz.call38 rfl (sCF_S_1_ok h_t2) ⟨rfl, rfl, trivial⟩ (fun _ => rfl) (fun _ => trivial) (fun _ => rfl) ⟨arg rfl, arg rfl, trivial⟩ (fun _ _ _ _ h => h)) rfl (fun _ => s_rd (r_not rfl) rfl (as1 rfl rfl (l_nil (n_then (ref_ret ?_)))))))))))))))
 exact fin1 (.inl rfl) () [] rfl trivial rfl (rv_tmp rfl)

/-! slices.Clone[[]string,string] -/
def slices_Clone_S_m (d_0 : List ByteArray) : Option (List ByteArray) := appM 16 [] d_0

theorem slices_Clone_S_ok {d_0 r : List ByteArray} (hm : slices_Clone_S_m d_0 = some r) : FnOk prog 74 [slv rS d_0] [] (fun (x : Value × List Nat) => [pv x.1]) (fun (x : Value × List Nat) => [oa rS x.1 x.2 r]) := by
 have hm' : appM 16 [] d_0 = some r := hm
 have hr : r = d_0 := by have := (appM_some hm').2; simpa using this
 subst hr
 refine fn_ok (X := Value × List Nat) (fn := Tryz.f74) (N := 8) (m := some ()) (r := ()) (res := fun _ x => [pv x.1]) (Ω1 := fun _ x => [oa rS x.1 x.2 r]) Tryz.func74 rfl rfl rfl rfl (fun E hM => ?_)
 refine ref_seq (ref_region (s_rd (r_assign rfl) rfl (l_nil (n_then (ref_seq (ref_seq (ref_region (s_rd (r_move rfl) rfl (s_st (s_isnil Tryz.underlying22 rfl) rfl (fun b => l_nil (n_then ?_)))))))))))
 refine ref_condE (b := b.1) rfl (fun hb => ?_) (fun hb => ?_)
 ·refine ref_seq (ref_region (s_rd (r_assign rfl) rfl (l_nil (n_then (ref_ret (r_then ?_))))))
  have hd := b.2 hb
  subst hd
  refine b_of (own_nil rS) ?_
  exact fin1 (.inl rfl) (.slice none 0 0, []) [0] rfl ⟨rfl, trivial⟩ rfl (rv_tmp rfl)
 ·refine ref_skip (n_then (ref_seq (ref_region (s_st (s_bsliceO (xs := []) (ds := []) Tryz.underlying22 el_9 rfl (Nat.le_of_ble_eq_true rfl) trivial) rfl (fun o => s_rd (r_move rfl) rfl (s_st (s_append hm' Tryz.underlying22 el_9 rfl (j := 0) rfl rfl) rfl (fun o2 => s_rd (r_assign rfl) rfl (l_nil (n_then (ref_ret ?_))))))))))
  exact fin1 (.inl rfl) o2 [0] rfl ⟨rfl, trivial⟩ rfl (rv_tmp rfl)

/-! deliberation/precedent.own$1 -/
noncomputable def pc_own_1_m (s_0 : ByteArray) (p_1 : T_Lib) (p_2 : Int) : Option (Bool) :=
 Option.bind (idxM [p_1.Sides.i0, p_1.Sides.i1] (isub .i64 p_2 1)) fun t1 =>
 Option.bind (sC_S_m t1 s_0) fun t2 =>
 some (!t2)

theorem pc_own_1_ok {s_0 : ByteArray} {p_1 : T_Lib} {p_2 : Int} {b_1 : Nat} {b_2 : Nat} {r : Bool} (hm : pc_own_1_m s_0 p_1 p_2 = some r) :
  FnOk prog 75 [sv s_0, pv (ptr b_1 0), pv (ptr b_2 0)] [oc b_1 [slv rS p_1.Sides.i0, slv rS p_1.Sides.i1, slv rT_Cas p_1.Cases], oc b_2 [iv .i64 p_2]] (fun (x : Unit) => [bv r]) (fun (x : Unit) => [oc b_1 [slv rS p_1.Sides.i0, slv rS p_1.Sides.i1, slv rT_Cas p_1.Cases], oc b_2 [iv .i64 p_2]]) := by
 refine fn_ok (fn := Tryz.f75) (N := 13) (res := fun r x => [bv r]) (Ω1 := fun r x => [oc b_1 [slv rS p_1.Sides.i0, slv rS p_1.Sides.i1, slv rT_Cas p_1.Cases], oc b_2 [iv .i64 p_2]]) Tryz.func75 rfl rfl hm rfl (fun E hM => ?_)
 unfold pc_own_1_m
 refine ref_seq (ref_region (as1 rfl rfl (l_nil (n_then (ref_seq (ref_region (s_rd (r_cload Tryz.isAgg3 rfl (j := 1) rfl rfl) rfl (s_rd (r_sub rfl rfl) rfl (s_rd (r_faddr (fo := 0) Tryz.underlying26 rfl rfl Tryz.sizeOf23 rfl) rfl (pull fun t1 h_t1 => s_rd (r_aaddrV h_t1 rfl Tryz.underlying23 Tryz.sizeOf22 rfl rfl) rfl (s_rd (r_acload (ρ := (rSl rS)) (off := 0) h_t1 Tryz.isAgg22 rfl (j := 0) rfl rfl rfl rfl) rfl (mv1 rfl rfl (pull fun t2 h_t2 => s_st (s_call (ψ := fun (_ : Unit) => bv t2) (args := [.tmp 9, .tmp 10]) Tryz.call40 rfl (sC_S_ok h_t2) ⟨arg rfl, arg rfl, trivial⟩ (fun _ _ _ _ h => h)) rfl (fun _ => s_rd (r_not rfl) rfl (as1 rfl rfl (l_nil (n_then (ref_ret ?_))))))))))))))))))
 exact fin1 (.inl rfl) () [0, 1] rfl ⟨rfl, rfl, trivial⟩ rfl (rv_tmp rfl)

/-! slices.IndexFunc[[]string,string] -/
noncomputable def sIF_S_2_l1 (s_0 : (List ByteArray)) (e_1 : T_Lib) (e_2 : Int) (s7 : Int) : Option (Sum ((Sum (Int) (Unit))) (Int)) :=
 bif decide (s7 < (s_0.length : Int)) then
  Option.bind (idxM s_0 s7) fun t10 =>
  Option.bind (pc_own_1_m t10 e_1 e_2) fun t11 =>
  bif t11 then
   some (Sum.inl (Sum.inl s7))
  else
   some (Sum.inr (iadd .i64 s7 1))
 else
  some (Sum.inl (Sum.inr ()))

noncomputable def sIF_S_2_m (s_0 : (List ByteArray)) (e_1 : T_Lib) (e_2 : Int) : Option (Int) :=
 Option.bind (loopC (sIF_S_2_l1 s_0 e_1 e_2) 0) (sumK (fun a : Int => some a) fun q13 : Unit =>
  some (-1))

theorem sIF_S_2_ok {s_0 : (List ByteArray)} {e_1 : T_Lib} {e_2 : Int} {h_0 : Value × List Nat} {be_1 : Nat} {be_2 : Nat} {r : Int} (hm : sIF_S_2_m s_0 e_1 e_2 = some r) :
  FnOk prog 70 [pv h_0.1, pv (.func (.func 75) #[] #[(ptr be_1 0), (ptr be_2 0)])] [oa rS h_0.1 h_0.2 s_0, oc be_1 [slv rS e_1.Sides.i0, slv rS e_1.Sides.i1, slv rT_Cas e_1.Cases], oc be_2 [iv .i64 e_2]] (fun (x : Unit) => [iv .i64 r]) (fun (x : Unit) => [oa rS h_0.1 h_0.2 s_0, oc be_1 [slv rS e_1.Sides.i0, slv rS e_1.Sides.i1, slv rT_Cas e_1.Cases], oc be_2 [iv .i64 e_2]]) := by
 refine fn_ok (fn := Tryz.f70) (N := 19) (res := fun r x => [iv .i64 r]) (Ω1 := fun r x => [oa rS h_0.1 h_0.2 s_0, oc be_1 [slv rS e_1.Sides.i0, slv rS e_1.Sides.i1, slv rT_Cas e_1.Cases], oc be_2 [iv .i64 e_2]]) Tryz.func70 rfl rfl hm rfl (fun E hM => ?_)
 unfold sIF_S_2_m
 refine ref_seq (ref_region (as1 rfl rfl (l_nil (n_then (ref_seq (ref_seq (ref_region (mv1 rfl rfl (s_rd (r_olen Tryz.underlying22 rfl (j := 0) rfl) rfl (mv1 rfl rfl (l_nil (n_then ?_))))))))))))
 refine ref_loopX (f := (sIF_S_2_l1 s_0 e_1 e_2)) (Γl := (fun (s7 : Int) (x8 : Unit) => [(0, pv h_0.1), (1, pv (.func (.func 75) #[] #[(ptr be_1 0), (ptr be_2 0)])), (7, iv .i64 (s_0.length : Int)), (8, iv .i64 s7)])) (Ωl := (fun (s7 : Int) (x8 : Unit) => [oa rS h_0.1 h_0.2 s_0, oc be_1 [slv rS e_1.Sides.i0, slv rS e_1.Sides.i1, slv rT_Cas e_1.Cases], oc be_2 [iv .i64 e_2]])) (Γb := (fun (q13 : Unit) (y14 : Unit) => [(0, pv h_0.1), (1, pv (.func (.func 75) #[] #[(ptr be_1 0), (ptr be_2 0)]))])) (Ωb := (fun (q13 : Unit) (y14 : Unit) => [oa rS h_0.1 h_0.2 s_0, oc be_1 [slv rS e_1.Sides.i0, slv rS e_1.Sides.i1, slv rT_Cas e_1.Cases], oc be_2 [iv .i64 e_2]])) (kr := (fun a : Int => some a)) 0 () (weak [0, 1, 2] ⟨rfl, rfl, rfl, rfl, trivial⟩ ⟨rfl, rfl, rfl, trivial⟩) (fun s7 x8 => ?_) (fun q13 y14 => ?_)
 ·unfold sIF_S_2_l1
  refine ref_seq (ref_region (s_rd (r_lss rfl rfl) rfl (l_nil (n_then (ref_seq ?_)))))
  refine ref_cond rfl (fun hb9 => ?_) (fun hb9 => ?_)
  ·refine ref_skip (n_then (ref_seq (ref_block (ref_seq (ref_region (mv1 rfl rfl (as1 rfl rfl (l_nil (n_then (ref_seq (ref_region (mv1 rfl rfl (mv1 rfl rfl (mv1 rfl rfl (pull fun t10 h_t10 => s_rd (r_oindex h_t10 Tryz.underlying22 el_9 rfl (j := 0) rfl rfl) rfl (s_rd (r_oload h_t10 el_9 rfl (j := 0) rfl) rfl (pull fun t11 h_t11 => s_st (s_callC [1, 2] [true, true] (fun (_ : Unit) => [oc be_1 [slv rS e_1.Sides.i0, slv rS e_1.Sides.i1, slv rT_Cas e_1.Cases], oc be_2 [iv .i64 e_2]]) (fun (_ : Unit) => []) (fun (_ : Unit) => bv t11) (args := [.tmp 15]) (caps := [(ptr be_1 0), (ptr be_2 0)]) Tryz.call75 rfl (pc_own_1_ok h_t11) ⟨rfl, rfl, ⟨rfl, rfl, trivial⟩⟩ (fun _ => rfl) (fun _ => trivial) (fun _ => rfl) ⟨arg rfl, arg rfl, arg rfl, trivial⟩ (fun _ _ _ _ h => h)) rfl (fun _ => l_nil (n_then ?_)))))))))))))))))))
   refine ref_cond rfl (fun hb12 => ?_) (fun hb12 => ?_)
   ·refine ref_seq (ref_region (mv1 rfl rfl (as1 rfl rfl (l_nil (n_then (ref_ret (r_block (r_then ?_))))))))
    refine retX ?_
    refine r_block (r_then ?_)
    exact fin1 (.inl rfl) () [0, 1, 2] rfl ⟨rfl, rfl, rfl, trivial⟩ rfl (rv_tmp rfl)
   refine ref_skip (n_block (n_then (ref_region (s_rd (r_add rfl rfl) rfl (mv1 rfl rfl (l_nil ?_))))))
   exact goX () (weak [0, 1, 2] ⟨rfl, rfl, rfl, rfl, trivial⟩ ⟨rfl, rfl, rfl, trivial⟩)
  refine ref_exit (x_then ?_)
  exact brkX () (weak [0, 1, 2] ⟨rfl, rfl, trivial⟩ ⟨rfl, rfl, rfl, trivial⟩)
 refine n_then (ref_seq (ref_region (as1 rfl rfl (l_nil (n_then (ref_ret ?_))))))
 exact fin1 (.inl rfl) () [0, 1, 2] rfl ⟨rfl, rfl, rfl, trivial⟩ rfl (rv_tmp rfl)

/-! slices.DeleteFunc[[]string,string] -/
noncomputable def sDF_S_l1 (e_1 : T_Lib) (e_2 : Int) (s22 : Int × Int × (List ByteArray)) : Option (Sum ((List ByteArray) × Int) (Int × Int × (List ByteArray))) :=
 bif decide (s22.2.1 < (s22.2.2.length : Int)) then
  Option.bind (idxM s22.2.2 s22.2.1) fun v25 =>
  Option.bind (pc_own_1_m v25 e_1 e_2) fun t26 =>
  bif !t26 then
   Option.bind (idxM s22.2.2 s22.1) fun t28 =>
   letM (iadd .i64 s22.1 1) fun i29 =>
   letM (iadd .i64 s22.2.1 1) fun j30 =>
   some (Sum.inr (i29, j30, s22.2.2.set (Int.toNat s22.1) v25))
  else
   letM (iadd .i64 s22.2.1 1) fun j31 =>
   some (Sum.inr (s22.1, j31, s22.2.2))
 else
  some (Sum.inl (s22.2.2, s22.1))

noncomputable def sDF_S_m (s_0 : (List ByteArray)) (e_1 : T_Lib) (e_2 : Int) : Option (List ByteArray) :=
 Option.bind (sIF_S_2_m s_0 e_1 e_2) fun i1 =>
 bif i1 == (-1) then
  some s_0
 else
  Option.bind (loopC (sDF_S_l1 e_1 e_2) (i1, iadd .i64 i1 1, s_0)) fun q32 : (List ByteArray) × Int =>
  Option.bind (slM q32.1 q32.2 (q32.1.length : Int)) fun t34 =>
  Option.bind (slM (q32.1.take (Int.toNat q32.2) ++ List.replicate (Int.toNat (q32.1.length : Int) - Int.toNat q32.2) ByteArray.empty ++ q32.1.drop (Int.toNat (q32.1.length : Int))) 0 q32.2) fun t35 =>
  some t35

theorem sDF_S_ok {s_0 : (List ByteArray)} {e_1 : T_Lib} {e_2 : Int} {h_0 : Value × List Nat} {be_1 : Nat} {be_2 : Nat} {r : List ByteArray} (hm : sDF_S_m s_0 e_1 e_2 = some r) :
  FnOk prog 57 [pv h_0.1, pv (.func (.func 75) #[] #[(ptr be_1 0), (ptr be_2 0)])] [oa rS h_0.1 h_0.2 s_0, oc be_1 [slv rS e_1.Sides.i0, slv rS e_1.Sides.i1, slv rT_Cas e_1.Cases], oc be_2 [iv .i64 e_2]] (fun (x : (Value × List Nat)) => [pv x.1]) (fun (x : (Value × List Nat)) => [oc be_1 [slv rS e_1.Sides.i0, slv rS e_1.Sides.i1, slv rT_Cas e_1.Cases], oc be_2 [iv .i64 e_2], oa rS x.1 x.2 r]) := by
 refine fn_ok (X := (Value × List Nat)) (fn := Tryz.f57) (N := 42) (res := fun r x => [pv x.1]) (Ω1 := fun r x => [oc be_1 [slv rS e_1.Sides.i0, slv rS e_1.Sides.i1, slv rT_Cas e_1.Cases], oc be_2 [iv .i64 e_2], oa rS x.1 x.2 r]) Tryz.func57 rfl rfl hm rfl (fun E hM => ?_)
 unfold sDF_S_m
 refine ref_seq (ref_region (as1 rfl rfl (l_nil (n_then (ref_seq (ref_region (mv1 rfl rfl (mv1 rfl rfl (pull fun i1 h_i1 => s_st (s_callC [0, 1, 2] [true, true, true] (fun (_ : Unit) => [oa rS h_0.1 h_0.2 s_0, oc be_1 [slv rS e_1.Sides.i0, slv rS e_1.Sides.i1, slv rT_Cas e_1.Cases], oc be_2 [iv .i64 e_2]]) (fun (_ : Unit) => []) (fun (_ : Unit) => iv .i64 i1) (args := [.tmp 8, .tmp 9]) (caps := []) Tryz.call70 rfl (sIF_S_2_ok h_i1) ⟨rfl, rfl, ⟨rfl, rfl, ⟨rfl, rfl, trivial⟩⟩⟩ (fun _ => rfl) (fun _ => trivial) (fun _ => rfl) ⟨arg rfl, arg rfl, trivial⟩ (fun _ _ _ _ h => h)) rfl (fun _ => as1 rfl rfl (l_nil (b_of (nrm [oa rS h_0.1 h_0.2 s_0, oc be_1 [slv rS e_1.Sides.i0, slv rS e_1.Sides.i1, slv rT_Cas e_1.Cases], oc be_2 [iv .i64 e_2]] rfl) (n_then (ref_seq (ref_seq (ref_region (mv1 rfl rfl (s_rd (r_eql rfl rfl) rfl (l_nil (n_then ?_))))))))))))))))))))
 refine ref_cond rfl (fun hb2 => ?_) (fun hb2 => ?_)
 ·refine ref_seq (ref_region (mv1 rfl rfl (as1 rfl rfl (l_nil (n_then (ref_ret (r_then ?_)))))))
  exact fin1 (.inl rfl) h_0 [1, 2, 0] rfl ⟨rfl, rfl, rfl, trivial⟩ rfl (rv_tmp rfl)
 refine ref_skip (n_then (ref_seq (ref_seq (ref_region (mv1 rfl rfl (s_rd (r_add rfl rfl) rfl (as1 rfl rfl (l_nil (n_then ?_)))))))))
 refine ref_loopB (f := (sDF_S_l1 e_1 e_2)) (Γl := (fun (s22 : Int × Int × (List ByteArray)) (x23 : Unit) => [(0, pv h_0.1), (1, pv (.func (.func 75) #[] #[(ptr be_1 0), (ptr be_2 0)])), (5, iv .i64 s22.1), (6, iv .i64 s22.2.1)])) (Ωl := (fun (s22 : Int × Int × (List ByteArray)) (x23 : Unit) => [oa rS h_0.1 h_0.2 s22.2.2, oc be_1 [slv rS e_1.Sides.i0, slv rS e_1.Sides.i1, slv rT_Cas e_1.Cases], oc be_2 [iv .i64 e_2]])) (Γb := (fun (q32 : (List ByteArray) × Int) (y33 : Unit) => [(0, pv h_0.1), (1, pv (.func (.func 75) #[] #[(ptr be_1 0), (ptr be_2 0)])), (5, iv .i64 q32.2)])) (Ωb := (fun (q32 : (List ByteArray) × Int) (y33 : Unit) => [oa rS h_0.1 h_0.2 q32.1, oc be_1 [slv rS e_1.Sides.i0, slv rS e_1.Sides.i1, slv rT_Cas e_1.Cases], oc be_2 [iv .i64 e_2]])) (i1, iadd .i64 i1 1, s_0) () (weak [0, 1, 2] ⟨rfl, rfl, rfl, rfl, trivial⟩ ⟨rfl, rfl, rfl, trivial⟩) (fun s22 x23 => ?_) (fun q32 y33 => ?_)
 ·unfold sDF_S_l1
  refine ref_seq (ref_seq (ref_region (mv1 rfl rfl (mv1 rfl rfl (s_rd (r_olen Tryz.underlying22 rfl (j := 0) rfl) rfl (s_rd (r_lss rfl rfl) rfl (l_nil (n_then ?_))))))))
  refine ref_cond rfl (fun hb24 => ?_) (fun hb24 => ?_)
  ·refine ref_skip (n_then (ref_seq (ref_block (ref_seq (ref_region (mv1 rfl rfl (mv1 rfl rfl (pull fun v25 h_v25 => s_rd (r_oindex h_v25 Tryz.underlying22 el_9 rfl (j := 0) rfl rfl) rfl (s_rd (r_oload h_v25 el_9 rfl (j := 0) rfl) rfl (as1 rfl rfl (l_nil (n_then (ref_seq (ref_region (mv1 rfl rfl (mv1 rfl rfl (pull fun t26 h_t26 => s_st (s_callC [1, 2] [true, true] (fun (_ : Unit) => [oc be_1 [slv rS e_1.Sides.i0, slv rS e_1.Sides.i1, slv rT_Cas e_1.Cases], oc be_2 [iv .i64 e_2]]) (fun (_ : Unit) => []) (fun (_ : Unit) => bv t26) (args := [.tmp 27]) (caps := [(ptr be_1 0), (ptr be_2 0)]) Tryz.call75 rfl (pc_own_1_ok h_t26) ⟨rfl, rfl, ⟨rfl, rfl, trivial⟩⟩ (fun _ => rfl) (fun _ => trivial) (fun _ => rfl) ⟨arg rfl, arg rfl, arg rfl, trivial⟩ (fun _ _ _ _ h => h)) rfl (fun _ => s_rd (r_not rfl) rfl (l_nil (n_then ?_))))))))))))))))))))
   refine ref_cond rfl (fun hb27 => ?_) (fun hb27 => ?_)
   ·refine ref_seq (ref_region (mv1 rfl rfl (mv1 rfl rfl (mv1 rfl rfl (pull fun t28 h_t28 => s_rd (r_oindex h_t28 Tryz.underlying22 el_9 rfl (j := 0) rfl rfl) rfl (s_st0 (s_ostore (u := v25) h_t28 el_9 rfl (j := 0) rfl (part_at rfl sv_at)) (fun _ => l_nil (n_then (ref_region (mv1 rfl rfl (s_rd (r_add rfl rfl) rfl (as1 rfl rfl (b_let (f := iv .i64) (t := 5) rfl fun i29 => l_nil (n_block (n_then (ref_region (mv1 rfl rfl (s_rd (r_add rfl rfl) rfl (as1 rfl rfl (b_let (f := iv .i64) (t := 6) rfl fun j30 => l_nil ?_))))))))))))))))))))
    exact goB () (weak [0, 1, 2] ⟨rfl, rfl, rfl, rfl, trivial⟩ ⟨rfl, rfl, rfl, trivial⟩)
   refine ref_skip (n_block (n_then (ref_region (mv1 rfl rfl (s_rd (r_add rfl rfl) rfl (as1 rfl rfl (b_let (f := iv .i64) (t := 6) rfl fun j31 => l_nil ?_)))))))
   exact goB () (weak [0, 1, 2] ⟨rfl, rfl, rfl, rfl, trivial⟩ ⟨rfl, rfl, rfl, trivial⟩)
  refine ref_exit (x_then ?_)
  exact brkB () (weak [0, 1, 2] ⟨rfl, rfl, rfl, trivial⟩ ⟨rfl, rfl, rfl, trivial⟩)
 refine n_then (ref_seq (ref_region (mv1 rfl rfl (mv1 rfl rfl (pull fun t34 h_t34 => s_rd (r_osub h_t34 Tryz.underlying22 el_9 rfl (j := 0) rfl (.of rfl) .dft) rfl (s_st0 (s_clear h_t34 Tryz.underlying22 el_9 ze_9 rfl (j := 0) rfl) (fun _ => l_nil (n_then (ref_seq (ref_region (mv1 rfl rfl (mv1 rfl rfl (pull fun t35 h_t35 => s_st (s_oslice h_t35 Tryz.underlying22 el_9 rfl (j := 0) rfl .dft (.of rfl)) rfl (fun o36 => as1 rfl rfl (l_nil (n_then (ref_ret ?_)))))))))))))))))
 exact fin1 (.inl rfl) o36 [1, 2, 0] rfl ⟨rfl, rfl, rfl, trivial⟩ rfl (rv_tmp rfl)

/-! deliberation/precedent.own -/
noncomputable def pc_own_m (l_0 : T_Lib) (facts_1 : (List ByteArray)) (side_2 : Int) : Option (List ByteArray) :=
 Option.bind (slices_Clone_S_m facts_1) fun t3 =>
 Option.bind (sDF_S_m t3 l_0 side_2) fun t5 =>
 some t5

theorem pc_own_ok {l_0 : T_Lib} {facts_1 : (List ByteArray)} {side_2 : Int} {r : List ByteArray} (hm : pc_own_m l_0 facts_1 side_2 = some r) :
  FnOk prog 45 [ag [slv rS l_0.Sides.i0, slv rS l_0.Sides.i1, slv rT_Cas l_0.Cases], slv rS facts_1, iv .i64 side_2] [] (fun (x : (Value × List Nat)) => [pv x.1]) (fun (x : (Value × List Nat)) => [oa rS x.1 x.2 r]) := by
 refine fn_ok (X := (Value × List Nat)) (fn := Tryz.f45) (N := 11) (res := fun r x => [pv x.1]) (Ω1 := fun r x => [oa rS x.1 x.2 r]) Tryz.func45 rfl rfl hm rfl (fun E hM => ?_)
 unfold pc_own_m
 refine ref_seq (ref_region (s_st (s_box (part_agO (ψs := [slv rS l_0.Sides.i0, slv rS l_0.Sides.i1, slv rT_Cas l_0.Cases]) rfl ⟨.inl slv_at, .inl slv_at, .inl slv_at, trivial⟩)) rfl (fun b1 => s_st (s_box (part_at rfl iv_at)) rfl (fun b2 => as1 rfl rfl (l_nil (n_then (ref_seq (ref_region (mv1 rfl rfl (pull fun t3 h_t3 => s_st (s_call (ψ := fun (x4 : (Value × List Nat)) => pv x4.1) (args := [.tmp 7]) Tryz.call74 rfl (slices_Clone_S_ok h_t3) ⟨arg rfl, trivial⟩ (fun _ _ _ _ h => h)) rfl (fun x4 => s_rd (r_mkfn (xs := [.tmp 3, .tmp 5]) (vs := [(ptr b1 0), (ptr b2 0)]) ⟨rfl, rfl, trivial⟩) rfl (pull fun t5 h_t5 => s_st (s_callC [2, 0, 1] [false, true, true] (fun (x6 : (Value × List Nat)) => [dead, oc b1 [slv rS l_0.Sides.i0, slv rS l_0.Sides.i1, slv rT_Cas l_0.Cases], oc b2 [iv .i64 side_2]]) (fun (x6 : (Value × List Nat)) => [oa rS x6.1 x6.2 t5]) (fun (x6 : (Value × List Nat)) => pv x6.1) (args := [.tmp 8, .tmp 9]) (caps := []) Tryz.call57 rfl (sDF_S_ok h_t5) ⟨rfl, rfl, ⟨rfl, rfl, ⟨rfl, rfl, trivial⟩⟩⟩ (fun _ => rfl) (fun _ => ⟨rfl, trivial⟩) (fun _ => rfl) ⟨arg rfl, arg rfl, trivial⟩ (fun _ _ _ _ h => h)) rfl (fun x6 => as1 rfl rfl (l_nil (b_of (nrm [oc b1 [slv rS l_0.Sides.i0, slv rS l_0.Sides.i1, slv rT_Cas l_0.Cases], oc b2 [iv .i64 side_2], dead, oa rS x6.1 x6.2 t5] rfl) (n_then (ref_ret ?_)))))))))))))))))
 exact fin1 (.inl rfl) x6 [3] rfl ⟨rfl, trivial⟩ rfl (rv_tmp rfl)

/-! slices.IndexFunc[[]deliberation/api.Case,deliberation/api.Case] -/
noncomputable def sIF_C_l1 (s_0 : (List T_Cas)) (s7 : Int) : Option (Sum ((Sum (Int) (Unit))) (Int)) :=
 bif decide (s7 < (s_0.length : Int)) then
  Option.bind (idxM s_0 s7) fun t10 =>
  Option.bind (pc_Validate_1_m t10) fun t11 =>
  bif t11 then
   some (Sum.inl (Sum.inl s7))
  else
   some (Sum.inr (iadd .i64 s7 1))
 else
  some (Sum.inl (Sum.inr ()))

noncomputable def sIF_C_m (s_0 : (List T_Cas)) : Option (Int) :=
 Option.bind (loopC (sIF_C_l1 s_0) 0) (sumK (fun a : Int => some a) fun q13 : Unit =>
  some (-1))

theorem sIF_C_ok {s_0 : (List T_Cas)} {r : Int} (hm : sIF_C_m s_0 = some r) :
  FnOk prog 85 [slv rT_Cas s_0, pv (.func (.func 34) #[] #[])] [] (fun (x : Unit) => [iv .i64 r]) (fun (x : Unit) => []) := by
 refine fn_ok (fn := Tryz.f85) (N := 19) (res := fun r x => [iv .i64 r]) (Ω1 := fun r x => []) Tryz.func85 rfl rfl hm rfl (fun E hM => ?_)
 unfold sIF_C_m
 refine ref_seq (ref_region (as1 rfl rfl (l_nil (n_then (ref_seq (ref_seq (ref_region (mv1 rfl rfl (s_rd (r_len Tryz.underlying24 rfl) rfl (mv1 rfl rfl (l_nil (n_then ?_))))))))))))
 refine ref_loopX (f := (sIF_C_l1 s_0)) (Γl := (fun (s7 : Int) (x8 : Unit) => [(0, slv rT_Cas s_0), (1, pv (.func (.func 34) #[] #[])), (7, iv .i64 (s_0.length : Int)), (8, iv .i64 s7)])) (Ωl := (fun (s7 : Int) (x8 : Unit) => [])) (Γb := (fun (q13 : Unit) (y14 : Unit) => [(1, pv (.func (.func 34) #[] #[]))])) (Ωb := (fun (q13 : Unit) (y14 : Unit) => [])) (kr := (fun a : Int => some a)) 0 () (weak [] ⟨rfl, rfl, rfl, rfl, trivial⟩ trivial) (fun s7 x8 => ?_) (fun q13 y14 => ?_)
 ·unfold sIF_C_l1
  refine ref_seq (ref_region (s_rd (r_lss rfl rfl) rfl (l_nil (n_then (ref_seq ?_)))))
  refine ref_cond rfl (fun hb9 => ?_) (fun hb9 => ?_)
  ·refine ref_skip (n_then (ref_seq (ref_block (ref_seq (ref_region (mv1 rfl rfl (as1 rfl rfl (l_nil (n_then (ref_seq (ref_region (mv1 rfl rfl (mv1 rfl rfl (mv1 rfl rfl (pull fun t10 h_t10 => s_rd (r_index h_t10 Tryz.underlying24 el_60 rfl rfl) rfl (s_rd (r_load el_60 rfl) rfl (pull fun t11 h_t11 => s_st (s_call (ψ := fun (_ : Unit) => bv t11) (args := [.tmp 15]) Tryz.call34 rfl (pc_Validate_1_ok h_t11) ⟨arg rfl, trivial⟩ (fun _ _ _ _ h => h)) rfl (fun _ => l_nil (n_then ?_)))))))))))))))))))
   refine ref_cond rfl (fun hb12 => ?_) (fun hb12 => ?_)
   ·refine ref_seq (ref_region (mv1 rfl rfl (as1 rfl rfl (l_nil (n_then (ref_ret (r_block (r_then ?_))))))))
    refine retX ?_
    refine r_block (r_then ?_)
    exact fin1 (.inl rfl) () [] rfl trivial rfl (rv_tmp rfl)
   refine ref_skip (n_block (n_then (ref_region (s_rd (r_add rfl rfl) rfl (mv1 rfl rfl (l_nil ?_))))))
   exact goX () (weak [] ⟨rfl, rfl, rfl, rfl, trivial⟩ trivial)
  refine ref_exit (x_then ?_)
  exact brkX () (weak [] ⟨rfl, trivial⟩ trivial)
 refine n_then (ref_seq (ref_region (as1 rfl rfl (l_nil (n_then (ref_ret ?_))))))
 exact fin1 (.inl rfl) () [] rfl trivial rfl (rv_tmp rfl)

/-! slices.ContainsFunc[[]deliberation/api.Case,deliberation/api.Case] -/
noncomputable def sCF_C_m (s_0 : (List T_Cas)) : Option (Bool) :=
 Option.bind (sIF_C_m s_0) fun t1 =>
 letM (decide (t1 ≥ 0)) fun t2 =>
 some t2

theorem sCF_C_ok {s_0 : (List T_Cas)} {r : Bool} (hm : sCF_C_m s_0 = some r) :
  FnOk prog 69 [slv rT_Cas s_0, pv (.func (.func 34) #[] #[])] [] (fun (x : Unit) => [bv r]) (fun (x : Unit) => []) := by
 refine fn_ok (fn := Tryz.f69) (N := 9) (res := fun r x => [bv r]) (Ω1 := fun r x => []) Tryz.func69 rfl rfl hm rfl (fun E hM => ?_)
 unfold sCF_C_m
 refine ref_seq (ref_region (as1 rfl rfl (l_nil (n_then (ref_seq (ref_region (mv1 rfl rfl (mv1 rfl rfl (pull fun t1 h_t1 => s_st (s_call (ψ := fun (_ : Unit) => iv .i64 t1) (args := [.tmp 5, .tmp 6]) Tryz.call85 rfl (sIF_C_ok h_t1) ⟨arg rfl, arg rfl, trivial⟩ (fun _ _ _ _ h => h)) rfl (fun _ => s_rd (r_geq rfl rfl) rfl (as1 rfl rfl (b_let (f := bv) (t := 4) rfl fun t2 => l_nil (n_then (ref_ret ?_))))))))))))))
 exact fin1 (.inl rfl) () [] rfl trivial rfl (rv_tmp rfl)

/-! deliberation/precedent.some -/
noncomputable def pc_some_m (l_0 : T_Lib) : Option (Bool) :=
 Option.bind (sCF_C_m l_0.Cases) fun t2 =>
 some t2

theorem pc_some_ok {l_0 : T_Lib} {r : Bool} (hm : pc_some_m l_0 = some r) :
  FnOk prog 33 [ag [slv rS l_0.Sides.i0, slv rS l_0.Sides.i1, slv rT_Cas l_0.Cases], pv (.func (.func 34) #[] #[])] [] (fun (x : Unit) => [bv r]) (fun (x : Unit) => []) := by
 refine fn_ok (fn := Tryz.f33) (N := 9) (res := fun r x => [bv r]) (Ω1 := fun r x => []) Tryz.func33 rfl rfl hm rfl (fun E hM => ?_)
 unfold pc_some_m
 refine ref_seq (ref_region (s_st (s_box (part_agO (ψs := [slv rS l_0.Sides.i0, slv rS l_0.Sides.i1, slv rT_Cas l_0.Cases]) rfl ⟨.inl slv_at, .inl slv_at, .inl slv_at, trivial⟩)) rfl (fun b1 => as1 rfl rfl (l_nil (n_then (ref_seq (ref_region (s_rd (r_faddr (fo := 2) Tryz.underlying26 rfl rfl Tryz.sizeOf24 rfl) rfl (s_rd (r_cload Tryz.isAgg24 rfl (j := 0) rfl rfl) rfl (mv1 rfl rfl (pull fun t2 h_t2 => s_st (s_call (ψ := fun (_ : Unit) => bv t2) (args := [.tmp 6, .tmp 7]) Tryz.call69 rfl (sCF_C_ok h_t2) ⟨arg rfl, arg rfl, trivial⟩ (fun _ _ _ _ h => h)) rfl (fun _ => as1 rfl rfl (l_nil (n_then (ref_ret ?_)))))))))))))))
 exact fin1 (.inl rfl) () [] rfl trivial rfl (rv_tmp rfl)

/-! slices.IndexFunc[[]deliberation/api.Case,deliberation/api.Case] -/
noncomputable def sIF_C_1_l1 (s_0 : (List T_Cas)) (s7 : Int) : Option (Sum ((Sum (Int) (Unit))) (Int)) :=
 bif decide (s7 < (s_0.length : Int)) then
  Option.bind (idxM s_0 s7) fun t10 =>
  Option.bind (pc_Validate_2_m t10) fun t11 =>
  bif t11 then
   some (Sum.inl (Sum.inl s7))
  else
   some (Sum.inr (iadd .i64 s7 1))
 else
  some (Sum.inl (Sum.inr ()))

noncomputable def sIF_C_1_m (s_0 : (List T_Cas)) : Option (Int) :=
 Option.bind (loopC (sIF_C_1_l1 s_0) 0) (sumK (fun a : Int => some a) fun q13 : Unit =>
  some (-1))

theorem sIF_C_1_ok {s_0 : (List T_Cas)} {r : Int} (hm : sIF_C_1_m s_0 = some r) :
  FnOk prog 85 [slv rT_Cas s_0, pv (.func (.func 37) #[] #[])] [] (fun (x : Unit) => [iv .i64 r]) (fun (x : Unit) => []) := by
 refine fn_ok (fn := Tryz.f85) (N := 19) (res := fun r x => [iv .i64 r]) (Ω1 := fun r x => []) Tryz.func85 rfl rfl hm rfl (fun E hM => ?_)
 unfold sIF_C_1_m
 refine ref_seq (ref_region (as1 rfl rfl (l_nil (n_then (ref_seq (ref_seq (ref_region (mv1 rfl rfl (s_rd (r_len Tryz.underlying24 rfl) rfl (mv1 rfl rfl (l_nil (n_then ?_))))))))))))
 refine ref_loopX (f := (sIF_C_1_l1 s_0)) (Γl := (fun (s7 : Int) (x8 : Unit) => [(0, slv rT_Cas s_0), (1, pv (.func (.func 37) #[] #[])), (7, iv .i64 (s_0.length : Int)), (8, iv .i64 s7)])) (Ωl := (fun (s7 : Int) (x8 : Unit) => [])) (Γb := (fun (q13 : Unit) (y14 : Unit) => [(1, pv (.func (.func 37) #[] #[]))])) (Ωb := (fun (q13 : Unit) (y14 : Unit) => [])) (kr := (fun a : Int => some a)) 0 () (weak [] ⟨rfl, rfl, rfl, rfl, trivial⟩ trivial) (fun s7 x8 => ?_) (fun q13 y14 => ?_)
 ·unfold sIF_C_1_l1
  refine ref_seq (ref_region (s_rd (r_lss rfl rfl) rfl (l_nil (n_then (ref_seq ?_)))))
  refine ref_cond rfl (fun hb9 => ?_) (fun hb9 => ?_)
  ·refine ref_skip (n_then (ref_seq (ref_block (ref_seq (ref_region (mv1 rfl rfl (as1 rfl rfl (l_nil (n_then (ref_seq (ref_region (mv1 rfl rfl (mv1 rfl rfl (mv1 rfl rfl (pull fun t10 h_t10 => s_rd (r_index h_t10 Tryz.underlying24 el_60 rfl rfl) rfl (s_rd (r_load el_60 rfl) rfl (pull fun t11 h_t11 => s_st (s_call (ψ := fun (_ : Unit) => bv t11) (args := [.tmp 15]) Tryz.call37 rfl (pc_Validate_2_ok h_t11) ⟨arg rfl, trivial⟩ (fun _ _ _ _ h => h)) rfl (fun _ => l_nil (n_then ?_)))))))))))))))))))
   refine ref_cond rfl (fun hb12 => ?_) (fun hb12 => ?_)
   ·refine ref_seq (ref_region (mv1 rfl rfl (as1 rfl rfl (l_nil (n_then (ref_ret (r_block (r_then ?_))))))))
    refine retX ?_
    refine r_block (r_then ?_)
    exact fin1 (.inl rfl) () [] rfl trivial rfl (rv_tmp rfl)
   refine ref_skip (n_block (n_then (ref_region (s_rd (r_add rfl rfl) rfl (mv1 rfl rfl (l_nil ?_))))))
   exact goX () (weak [] ⟨rfl, rfl, rfl, rfl, trivial⟩ trivial)
  refine ref_exit (x_then ?_)
  exact brkX () (weak [] ⟨rfl, trivial⟩ trivial)
 refine n_then (ref_seq (ref_region (as1 rfl rfl (l_nil (n_then (ref_ret ?_))))))
 exact fin1 (.inl rfl) () [] rfl trivial rfl (rv_tmp rfl)

/-! slices.ContainsFunc[[]deliberation/api.Case,deliberation/api.Case] -/
noncomputable def sCF_C_1_m (s_0 : (List T_Cas)) : Option (Bool) :=
 Option.bind (sIF_C_1_m s_0) fun t1 =>
 letM (decide (t1 ≥ 0)) fun t2 =>
 some t2

theorem sCF_C_1_ok {s_0 : (List T_Cas)} {r : Bool} (hm : sCF_C_1_m s_0 = some r) :
  FnOk prog 69 [slv rT_Cas s_0, pv (.func (.func 37) #[] #[])] [] (fun (x : Unit) => [bv r]) (fun (x : Unit) => []) := by
 refine fn_ok (fn := Tryz.f69) (N := 9) (res := fun r x => [bv r]) (Ω1 := fun r x => []) Tryz.func69 rfl rfl hm rfl (fun E hM => ?_)
 unfold sCF_C_1_m
 refine ref_seq (ref_region (as1 rfl rfl (l_nil (n_then (ref_seq (ref_region (mv1 rfl rfl (mv1 rfl rfl (pull fun t1 h_t1 => s_st (s_call (ψ := fun (_ : Unit) => iv .i64 t1) (args := [.tmp 5, .tmp 6]) Tryz.call85 rfl (sIF_C_1_ok h_t1) ⟨arg rfl, arg rfl, trivial⟩ (fun _ _ _ _ h => h)) rfl (fun _ => s_rd (r_geq rfl rfl) rfl (as1 rfl rfl (b_let (f := bv) (t := 4) rfl fun t2 => l_nil (n_then (ref_ret ?_))))))))))))))
 exact fin1 (.inl rfl) () [] rfl trivial rfl (rv_tmp rfl)

/-! deliberation/precedent.some -/
noncomputable def pc_some_1_m (l_0 : T_Lib) : Option (Bool) :=
 Option.bind (sCF_C_1_m l_0.Cases) fun t2 =>
 some t2

theorem pc_some_1_ok {l_0 : T_Lib} {r : Bool} (hm : pc_some_1_m l_0 = some r) :
  FnOk prog 33 [ag [slv rS l_0.Sides.i0, slv rS l_0.Sides.i1, slv rT_Cas l_0.Cases], pv (.func (.func 37) #[] #[])] [] (fun (x : Unit) => [bv r]) (fun (x : Unit) => []) := by
 refine fn_ok (fn := Tryz.f33) (N := 9) (res := fun r x => [bv r]) (Ω1 := fun r x => []) Tryz.func33 rfl rfl hm rfl (fun E hM => ?_)
 unfold pc_some_1_m
 refine ref_seq (ref_region (s_st (s_box (part_agO (ψs := [slv rS l_0.Sides.i0, slv rS l_0.Sides.i1, slv rT_Cas l_0.Cases]) rfl ⟨.inl slv_at, .inl slv_at, .inl slv_at, trivial⟩)) rfl (fun b1 => as1 rfl rfl (l_nil (n_then (ref_seq (ref_region (s_rd (r_faddr (fo := 2) Tryz.underlying26 rfl rfl Tryz.sizeOf24 rfl) rfl (s_rd (r_cload Tryz.isAgg24 rfl (j := 0) rfl rfl) rfl (mv1 rfl rfl (pull fun t2 h_t2 => s_st (s_call (ψ := fun (_ : Unit) => bv t2) (args := [.tmp 6, .tmp 7]) Tryz.call69 rfl (sCF_C_1_ok h_t2) ⟨arg rfl, arg rfl, trivial⟩ (fun _ _ _ _ h => h)) rfl (fun _ => as1 rfl rfl (l_nil (n_then (ref_ret ?_)))))))))))))))
 exact fin1 (.inl rfl) () [] rfl trivial rfl (rv_tmp rfl)

/-! deliberation/precedent.Validate$3 -/
noncomputable def pc_Validate_3_m (s_0 : ByteArray) (p_1 : (List ByteArray)) : Option (Bool) :=
 Option.bind (sC_S_m p_1 s_0) fun t1 =>
 some t1

theorem pc_Validate_3_ok {s_0 : ByteArray} {p_1 : (List ByteArray)} {b_1 : Nat} {r : Bool} (hm : pc_Validate_3_m s_0 p_1 = some r) :
  FnOk prog 39 [sv s_0, pv (ptr b_1 0)] [oc b_1 [slv rS p_1]] (fun (x : Unit) => [bv r]) (fun (x : Unit) => [oc b_1 [slv rS p_1]]) := by
 refine fn_ok (fn := Tryz.f39) (N := 7) (res := fun r x => [bv r]) (Ω1 := fun r x => [oc b_1 [slv rS p_1]]) Tryz.func39 rfl rfl hm rfl (fun E hM => ?_)
 unfold pc_Validate_3_m
 refine ref_seq (ref_region (as1 rfl rfl (l_nil (n_then (ref_seq (ref_region (s_rd (r_cload Tryz.isAgg22 rfl (j := 0) rfl rfl) rfl (mv1 rfl rfl (pull fun t1 h_t1 => s_st (s_call (ψ := fun (_ : Unit) => bv t1) (args := [.tmp 4, .tmp 5]) Tryz.call40 rfl (sC_S_ok h_t1) ⟨arg rfl, arg rfl, trivial⟩ (fun _ _ _ _ h => h)) rfl (fun _ => as1 rfl rfl (l_nil (n_then (ref_ret ?_)))))))))))))
 exact fin1 (.inl rfl) () [0] rfl ⟨rfl, trivial⟩ rfl (rv_tmp rfl)

/-! slices.IndexFunc[[]string,string] -/
noncomputable def sIF_S_3_l1 (s_0 : (List ByteArray)) (e_0 : (List ByteArray)) (s7 : Int) : Option (Sum ((Sum (Int) (Unit))) (Int)) :=
 bif decide (s7 < (s_0.length : Int)) then
  Option.bind (idxM s_0 s7) fun t10 =>
  Option.bind (pc_Validate_3_m t10 e_0) fun t11 =>
  bif t11 then
   some (Sum.inl (Sum.inl s7))
  else
   some (Sum.inr (iadd .i64 s7 1))
 else
  some (Sum.inl (Sum.inr ()))

noncomputable def sIF_S_3_m (s_0 : (List ByteArray)) (e_0 : (List ByteArray)) : Option (Int) :=
 Option.bind (loopC (sIF_S_3_l1 s_0 e_0) 0) (sumK (fun a : Int => some a) fun q13 : Unit =>
  some (-1))

theorem sIF_S_3_ok {s_0 : (List ByteArray)} {e_0 : (List ByteArray)} {be_0 : Nat} {r : Int} (hm : sIF_S_3_m s_0 e_0 = some r) :
  FnOk prog 70 [slv rS s_0, pv (.func (.func 39) #[] #[(ptr be_0 0)])] [oc be_0 [slv rS e_0]] (fun (x : Unit) => [iv .i64 r]) (fun (x : Unit) => [oc be_0 [slv rS e_0]]) := by
 refine fn_ok (fn := Tryz.f70) (N := 19) (res := fun r x => [iv .i64 r]) (Ω1 := fun r x => [oc be_0 [slv rS e_0]]) Tryz.func70 rfl rfl hm rfl (fun E hM => ?_)
 unfold sIF_S_3_m
 refine ref_seq (ref_region (as1 rfl rfl (l_nil (n_then (ref_seq (ref_seq (ref_region (mv1 rfl rfl (s_rd (r_len Tryz.underlying22 rfl) rfl (mv1 rfl rfl (l_nil (n_then ?_))))))))))))
 refine ref_loopX (f := (sIF_S_3_l1 s_0 e_0)) (Γl := (fun (s7 : Int) (x8 : Unit) => [(0, slv rS s_0), (1, pv (.func (.func 39) #[] #[(ptr be_0 0)])), (7, iv .i64 (s_0.length : Int)), (8, iv .i64 s7)])) (Ωl := (fun (s7 : Int) (x8 : Unit) => [oc be_0 [slv rS e_0]])) (Γb := (fun (q13 : Unit) (y14 : Unit) => [(1, pv (.func (.func 39) #[] #[(ptr be_0 0)]))])) (Ωb := (fun (q13 : Unit) (y14 : Unit) => [oc be_0 [slv rS e_0]])) (kr := (fun a : Int => some a)) 0 () (weak [0] ⟨rfl, rfl, rfl, rfl, trivial⟩ ⟨rfl, trivial⟩) (fun s7 x8 => ?_) (fun q13 y14 => ?_)
 ·unfold sIF_S_3_l1
  refine ref_seq (ref_region (s_rd (r_lss rfl rfl) rfl (l_nil (n_then (ref_seq ?_)))))
  refine ref_cond rfl (fun hb9 => ?_) (fun hb9 => ?_)
  ·refine ref_skip (n_then (ref_seq (ref_block (ref_seq (ref_region (mv1 rfl rfl (as1 rfl rfl (l_nil (n_then (ref_seq (ref_region (mv1 rfl rfl (mv1 rfl rfl (mv1 rfl rfl (pull fun t10 h_t10 => s_rd (r_index h_t10 Tryz.underlying22 el_9 rfl rfl) rfl (s_rd (r_load el_9 rfl) rfl (pull fun t11 h_t11 => s_st (s_callC [0] [true] (fun (_ : Unit) => [oc be_0 [slv rS e_0]]) (fun (_ : Unit) => []) (fun (_ : Unit) => bv t11) (args := [.tmp 15]) (caps := [(ptr be_0 0)]) Tryz.call39 rfl (pc_Validate_3_ok h_t11) ⟨rfl, rfl, trivial⟩ (fun _ => rfl) (fun _ => trivial) (fun _ => rfl) ⟨arg rfl, arg rfl, trivial⟩ (fun _ _ _ _ h => h)) rfl (fun _ => l_nil (n_then ?_)))))))))))))))))))
   refine ref_cond rfl (fun hb12 => ?_) (fun hb12 => ?_)
   ·refine ref_seq (ref_region (mv1 rfl rfl (as1 rfl rfl (l_nil (n_then (ref_ret (r_block (r_then ?_))))))))
    refine retX ?_
    refine r_block (r_then ?_)
    exact fin1 (.inl rfl) () [0] rfl ⟨rfl, trivial⟩ rfl (rv_tmp rfl)
   refine ref_skip (n_block (n_then (ref_region (s_rd (r_add rfl rfl) rfl (mv1 rfl rfl (l_nil ?_))))))
   exact goX () (weak [0] ⟨rfl, rfl, rfl, rfl, trivial⟩ ⟨rfl, trivial⟩)
  refine ref_exit (x_then ?_)
  exact brkX () (weak [0] ⟨rfl, trivial⟩ ⟨rfl, trivial⟩)
 refine n_then (ref_seq (ref_region (as1 rfl rfl (l_nil (n_then (ref_ret ?_))))))
 exact fin1 (.inl rfl) () [0] rfl ⟨rfl, trivial⟩ rfl (rv_tmp rfl)

/-! slices.ContainsFunc[[]string,string] -/
noncomputable def sCF_S_2_m (s_0 : (List ByteArray)) (e_0 : (List ByteArray)) : Option (Bool) :=
 Option.bind (sIF_S_3_m s_0 e_0) fun t1 =>
 letM (decide (t1 ≥ 0)) fun t2 =>
 some t2

theorem sCF_S_2_ok {s_0 : (List ByteArray)} {e_0 : (List ByteArray)} {be_0 : Nat} {r : Bool} (hm : sCF_S_2_m s_0 e_0 = some r) :
  FnOk prog 38 [slv rS s_0, pv (.func (.func 39) #[] #[(ptr be_0 0)])] [oc be_0 [slv rS e_0]] (fun (x : Unit) => [bv r]) (fun (x : Unit) => [oc be_0 [slv rS e_0]]) := by
 refine fn_ok (fn := Tryz.f38) (N := 9) (res := fun r x => [bv r]) (Ω1 := fun r x => [oc be_0 [slv rS e_0]]) Tryz.func38 rfl rfl hm rfl (fun E hM => ?_)
 unfold sCF_S_2_m
 refine ref_seq (ref_region (as1 rfl rfl (l_nil (n_then (ref_seq (ref_region (mv1 rfl rfl (mv1 rfl rfl (pull fun t1 h_t1 => s_st (s_callC [0] [true] (fun (_ : Unit) => [oc be_0 [slv rS e_0]]) (fun (_ : Unit) => []) (fun (_ : Unit) => iv .i64 t1) (args := [.tmp 5, .tmp 6]) (caps := []) Tryz.call70 rfl (sIF_S_3_ok h_t1) ⟨rfl, rfl, trivial⟩ (fun _ => rfl) (fun _ => trivial) (fun _ => rfl) ⟨arg rfl, arg rfl, trivial⟩ (fun _ _ _ _ h => h)) rfl (fun _ => s_rd (r_geq rfl rfl) rfl (as1 rfl rfl (b_let (f := bv) (t := 4) rfl fun t2 => l_nil (n_then (ref_ret ?_))))))))))))))
 exact fin1 (.inl rfl) () [0] rfl ⟨rfl, trivial⟩ rfl (rv_tmp rfl)

/-! slices.IndexFunc[[]deliberation/api.Case,deliberation/api.Case] -/
noncomputable def sIF_C_2_l1 (s_0 : (List T_Cas)) (s7 : Int) : Option (Sum ((Sum (Int) (Unit))) (Int)) :=
 bif decide (s7 < (s_0.length : Int)) then
  Option.bind (idxM s_0 s7) fun t10 =>
  Option.bind (pc_Validate_4_m t10) fun t11 =>
  bif t11 then
   some (Sum.inl (Sum.inl s7))
  else
   some (Sum.inr (iadd .i64 s7 1))
 else
  some (Sum.inl (Sum.inr ()))

noncomputable def sIF_C_2_m (s_0 : (List T_Cas)) : Option (Int) :=
 Option.bind (loopC (sIF_C_2_l1 s_0) 0) (sumK (fun a : Int => some a) fun q13 : Unit =>
  some (-1))

theorem sIF_C_2_ok {s_0 : (List T_Cas)} {r : Int} (hm : sIF_C_2_m s_0 = some r) :
  FnOk prog 85 [slv rT_Cas s_0, pv (.func (.func 41) #[] #[])] [] (fun (x : Unit) => [iv .i64 r]) (fun (x : Unit) => []) := by
 refine fn_ok (fn := Tryz.f85) (N := 19) (res := fun r x => [iv .i64 r]) (Ω1 := fun r x => []) Tryz.func85 rfl rfl hm rfl (fun E hM => ?_)
 unfold sIF_C_2_m
 refine ref_seq (ref_region (as1 rfl rfl (l_nil (n_then (ref_seq (ref_seq (ref_region (mv1 rfl rfl (s_rd (r_len Tryz.underlying24 rfl) rfl (mv1 rfl rfl (l_nil (n_then ?_))))))))))))
 refine ref_loopX (f := (sIF_C_2_l1 s_0)) (Γl := (fun (s7 : Int) (x8 : Unit) => [(0, slv rT_Cas s_0), (1, pv (.func (.func 41) #[] #[])), (7, iv .i64 (s_0.length : Int)), (8, iv .i64 s7)])) (Ωl := (fun (s7 : Int) (x8 : Unit) => [])) (Γb := (fun (q13 : Unit) (y14 : Unit) => [(1, pv (.func (.func 41) #[] #[]))])) (Ωb := (fun (q13 : Unit) (y14 : Unit) => [])) (kr := (fun a : Int => some a)) 0 () (weak [] ⟨rfl, rfl, rfl, rfl, trivial⟩ trivial) (fun s7 x8 => ?_) (fun q13 y14 => ?_)
 ·unfold sIF_C_2_l1
  refine ref_seq (ref_region (s_rd (r_lss rfl rfl) rfl (l_nil (n_then (ref_seq ?_)))))
  refine ref_cond rfl (fun hb9 => ?_) (fun hb9 => ?_)
  ·refine ref_skip (n_then (ref_seq (ref_block (ref_seq (ref_region (mv1 rfl rfl (as1 rfl rfl (l_nil (n_then (ref_seq (ref_region (mv1 rfl rfl (mv1 rfl rfl (mv1 rfl rfl (pull fun t10 h_t10 => s_rd (r_index h_t10 Tryz.underlying24 el_60 rfl rfl) rfl (s_rd (r_load el_60 rfl) rfl (pull fun t11 h_t11 => s_st (s_call (ψ := fun (_ : Unit) => bv t11) (args := [.tmp 15]) Tryz.call41 rfl (pc_Validate_4_ok h_t11) ⟨arg rfl, trivial⟩ (fun _ _ _ _ h => h)) rfl (fun _ => l_nil (n_then ?_)))))))))))))))))))
   refine ref_cond rfl (fun hb12 => ?_) (fun hb12 => ?_)
   ·refine ref_seq (ref_region (mv1 rfl rfl (as1 rfl rfl (l_nil (n_then (ref_ret (r_block (r_then ?_))))))))
    refine retX ?_
    refine r_block (r_then ?_)
    exact fin1 (.inl rfl) () [] rfl trivial rfl (rv_tmp rfl)
   refine ref_skip (n_block (n_then (ref_region (s_rd (r_add rfl rfl) rfl (mv1 rfl rfl (l_nil ?_))))))
   exact goX () (weak [] ⟨rfl, rfl, rfl, rfl, trivial⟩ trivial)
  refine ref_exit (x_then ?_)
  exact brkX () (weak [] ⟨rfl, trivial⟩ trivial)
 refine n_then (ref_seq (ref_region (as1 rfl rfl (l_nil (n_then (ref_ret ?_))))))
 exact fin1 (.inl rfl) () [] rfl trivial rfl (rv_tmp rfl)

/-! slices.ContainsFunc[[]deliberation/api.Case,deliberation/api.Case] -/
noncomputable def sCF_C_2_m (s_0 : (List T_Cas)) : Option (Bool) :=
 Option.bind (sIF_C_2_m s_0) fun t1 =>
 letM (decide (t1 ≥ 0)) fun t2 =>
 some t2

theorem sCF_C_2_ok {s_0 : (List T_Cas)} {r : Bool} (hm : sCF_C_2_m s_0 = some r) :
  FnOk prog 69 [slv rT_Cas s_0, pv (.func (.func 41) #[] #[])] [] (fun (x : Unit) => [bv r]) (fun (x : Unit) => []) := by
 refine fn_ok (fn := Tryz.f69) (N := 9) (res := fun r x => [bv r]) (Ω1 := fun r x => []) Tryz.func69 rfl rfl hm rfl (fun E hM => ?_)
 unfold sCF_C_2_m
 refine ref_seq (ref_region (as1 rfl rfl (l_nil (n_then (ref_seq (ref_region (mv1 rfl rfl (mv1 rfl rfl (pull fun t1 h_t1 => s_st (s_call (ψ := fun (_ : Unit) => iv .i64 t1) (args := [.tmp 5, .tmp 6]) Tryz.call85 rfl (sIF_C_2_ok h_t1) ⟨arg rfl, arg rfl, trivial⟩ (fun _ _ _ _ h => h)) rfl (fun _ => s_rd (r_geq rfl rfl) rfl (as1 rfl rfl (b_let (f := bv) (t := 4) rfl fun t2 => l_nil (n_then (ref_ret ?_))))))))))))))
 exact fin1 (.inl rfl) () [] rfl trivial rfl (rv_tmp rfl)

/-! deliberation/precedent.some -/
noncomputable def pc_some_2_m (l_0 : T_Lib) : Option (Bool) :=
 Option.bind (sCF_C_2_m l_0.Cases) fun t2 =>
 some t2

theorem pc_some_2_ok {l_0 : T_Lib} {r : Bool} (hm : pc_some_2_m l_0 = some r) :
  FnOk prog 33 [ag [slv rS l_0.Sides.i0, slv rS l_0.Sides.i1, slv rT_Cas l_0.Cases], pv (.func (.func 41) #[] #[])] [] (fun (x : Unit) => [bv r]) (fun (x : Unit) => []) := by
 refine fn_ok (fn := Tryz.f33) (N := 9) (res := fun r x => [bv r]) (Ω1 := fun r x => []) Tryz.func33 rfl rfl hm rfl (fun E hM => ?_)
 unfold pc_some_2_m
 refine ref_seq (ref_region (s_st (s_box (part_agO (ψs := [slv rS l_0.Sides.i0, slv rS l_0.Sides.i1, slv rT_Cas l_0.Cases]) rfl ⟨.inl slv_at, .inl slv_at, .inl slv_at, trivial⟩)) rfl (fun b1 => as1 rfl rfl (l_nil (n_then (ref_seq (ref_region (s_rd (r_faddr (fo := 2) Tryz.underlying26 rfl rfl Tryz.sizeOf24 rfl) rfl (s_rd (r_cload Tryz.isAgg24 rfl (j := 0) rfl rfl) rfl (mv1 rfl rfl (pull fun t2 h_t2 => s_st (s_call (ψ := fun (_ : Unit) => bv t2) (args := [.tmp 6, .tmp 7]) Tryz.call69 rfl (sCF_C_2_ok h_t2) ⟨arg rfl, arg rfl, trivial⟩ (fun _ _ _ _ h => h)) rfl (fun _ => as1 rfl rfl (l_nil (n_then (ref_ret ?_)))))))))))))))
 exact fin1 (.inl rfl) () [] rfl trivial rfl (rv_tmp rfl)

/-! deliberation/precedent.Validate$5 -/
noncomputable def pc_Validate_5_m (c_0 : T_Cas) (p_1 : T_Lib) : Option (Bool) :=
 Option.bind (pc_factors_m p_1) fun t2 =>
 Option.bind (pc_within_m c_0.Facts t2) fun t4 =>
 bif !t4 then
  some true
 else
  bif (c_0.Reason.length : Int) == 0 then
   some true
  else
   Option.bind (pc_own_m p_1 c_0.Facts c_0.Winner) fun t5 =>
   Option.bind (pc_within_m c_0.Reason t5) fun t7 =>
   some (!t7)

theorem pc_Validate_5_ok {c_0 : T_Cas} {p_1 : T_Lib} {b_1 : Nat} {r : Bool} (hm : pc_Validate_5_m c_0 p_1 = some r) :
  FnOk prog 42 [ag [sv c_0.Name, slv rS c_0.Facts, iv .i64 c_0.Winner, slv rS c_0.Reason], pv (ptr b_1 0)] [oc b_1 [slv rS p_1.Sides.i0, slv rS p_1.Sides.i1, slv rT_Cas p_1.Cases]] (fun (x : Unit) => [bv r]) (fun (x : Unit) => [oc b_1 [slv rS p_1.Sides.i0, slv rS p_1.Sides.i1, slv rT_Cas p_1.Cases]]) := by
 refine fn_ok (fn := Tryz.f42) (N := 28) (res := fun r x => [bv r]) (Ω1 := fun r x => [oc b_1 [slv rS p_1.Sides.i0, slv rS p_1.Sides.i1, slv rT_Cas p_1.Cases]]) Tryz.func42 rfl rfl hm rfl (fun E hM => ?_)
 unfold pc_Validate_5_m
 refine ref_seq (ref_region (s_st (s_box (part_agO (ψs := [sv c_0.Name, slv rS c_0.Facts, iv .i64 c_0.Winner, slv rS c_0.Reason]) rfl ⟨.inl sv_at, .inl slv_at, .inl iv_at, .inl slv_at, trivial⟩)) rfl (fun b1 => as1 rfl rfl (l_nil (n_then (ref_seq ?_))))))
 refine ref_draw [0, 1, 2, 5, 6, 7, 8, 9, 10, 11, 12, 13, 14, 15, 16, 17, 18, 19, 22, 23] rfl (by kernel_rfl) (fun hok => ?_)
 refine a_rd (i := 0) hok rfl (by kernel_rfl) rfl (r_faddr (fo := 1) Tryz.underlying60 rfl rfl Tryz.sizeOf22 rfl) rfl ?_
 refine a_rd (i := 1) hok rfl (by kernel_rfl) rfl (r_cload Tryz.isAgg22 rfl (j := 1) rfl rfl) rfl ?_
 refine a_rd (i := 2) hok rfl (by kernel_rfl) rfl (r_cloadS Tryz.isAgg26 Tryz.sizeOf26 rfl (j := 0) rfl rfl rfl) rfl ?_
 refine pull fun t2 h_t2 => ?_
 refine a_next hok 3 [] (by kernel_rfl) ?_ trivial
 refine a_st (i := 3) hok rfl rfl (s_call (ψ := fun (x3 : (Value × List Nat)) => pv x3.1) (args := [.tmp 6]) Tryz.call44 rfl (pc_factors_ok h_t2) ⟨arg rfl, trivial⟩ (fun _ _ _ _ h => h)) (by intro _ h; cases h; rfl) (fun _ => ⟨trivial, ⟨⟨⟨rfl, rfl⟩, trivial⟩, ⟨trivial, trivial⟩⟩⟩) (fun x3 => ?_)
 refine pull fun t4 h_t4 => ?_
 refine a_next hok 4 [] (by kernel_rfl) ?_ trivial
 refine a_st (i := 4) hok rfl rfl (s_callB (ψ := fun (_ : Unit) => bv t4) (args := [.tmp 5, .tmp 7]) Tryz.call43 rfl (pc_within_ok h_t4) ⟨argB rfl, argO rfl (j := 2) rfl, trivial⟩ (fun _ _ _ _ _ h => h)) (by intro _ h; cases h; rfl) (fun _ => ⟨⟨⟨rfl, rfl⟩, trivial⟩, ⟨trivial, ⟨trivial, trivial⟩⟩⟩) (fun _ => ?_)
 refine a_rd (i := 5) hok rfl (by kernel_rfl) rfl (r_not rfl) rfl ?_
 refine a_rd (i := 6) hok rfl (by kernel_rfl) rfl (r_move rfl) rfl ?_
 refine b_split (t := 10) rfl (fun _ => ?_) (fun _ => ?_)
 ·refine a_off (i := 7) hok rfl rfl rfl rfl rfl (by kernel_rfl) rfl rfl ?_
  refine a_off (i := 8) hok rfl rfl rfl rfl rfl (by kernel_rfl) rfl rfl ?_
  refine a_off (i := 9) hok rfl rfl rfl rfl rfl (by kernel_rfl) rfl rfl ?_
  refine a_off (i := 10) hok rfl rfl rfl rfl rfl (by kernel_rfl) rfl rfl ?_
  refine a_rd (i := 11) hok rfl (by kernel_rfl) rfl (r_pickT rfl rfl) rfl ?_
  refine a_rd (i := 12) hok rfl (by kernel_rfl) rfl (r_move rfl) rfl ?_
  refine a_off (i := 13) hok rfl rfl rfl rfl rfl (by kernel_rfl) rfl rfl ?_
  refine a_off (i := 14) hok rfl rfl rfl rfl rfl (by kernel_rfl) rfl rfl ?_
  refine a_off (i := 15) hok rfl rfl rfl rfl rfl (by kernel_rfl) rfl rfl ?_
  refine a_off (i := 16) hok rfl rfl rfl rfl rfl (by kernel_rfl) rfl rfl ?_
  refine a_off (i := 17) hok rfl rfl rfl rfl rfl (by kernel_rfl) rfl rfl ?_
  refine a_off (i := 18) hok rfl rfl rfl rfl rfl (by kernel_rfl) rfl rfl ?_
  refine a_off (i := 19) hok rfl rfl rfl rfl rfl (by kernel_rfl) rfl rfl ?_
  refine a_next hok 20 [] (by kernel_rfl) ?_ trivial
  refine a_stOff (i := 20) hok rfl rfl rfl rfl rfl rfl (by intro _ h; cases h; rfl) ⟨trivial, ⟨trivial, ⟨trivial, ⟨trivial, ⟨trivial, ⟨trivial, ⟨trivial, ⟨trivial, ⟨trivial, ⟨trivial, ⟨trivial, ⟨trivial, ⟨trivial, ⟨trivial, ⟨trivial, ⟨⟨⟨rfl, rfl⟩, trivial⟩, ⟨⟨⟨rfl, rfl⟩, trivial⟩, ⟨trivial, trivial⟩⟩⟩⟩⟩⟩⟩⟩⟩⟩⟩⟩⟩⟩⟩⟩⟩⟩ ?_
  refine a_next hok 21 [] (by kernel_rfl) ?_ trivial
  refine a_stOff (i := 21) hok rfl rfl rfl rfl rfl rfl (by intro _ h; cases h; rfl) ⟨trivial, ⟨trivial, ⟨trivial, ⟨trivial, ⟨trivial, ⟨trivial, ⟨trivial, ⟨trivial, ⟨trivial, ⟨trivial, ⟨trivial, ⟨trivial, ⟨trivial, ⟨trivial, ⟨trivial, ⟨⟨⟨rfl, rfl⟩, trivial⟩, ⟨⟨⟨rfl, rfl⟩, trivial⟩, ⟨trivial, trivial⟩⟩⟩⟩⟩⟩⟩⟩⟩⟩⟩⟩⟩⟩⟩⟩⟩⟩ ?_
  refine a_off (i := 22) hok rfl rfl rfl rfl rfl (by kernel_rfl) rfl rfl ?_
  refine a_rd (i := 23) hok rfl (by kernel_rfl) rfl (r_pickT rfl rfl) rfl ?_
  refine a_next hok 24 [] (by kernel_rfl) ?_ trivial
  refine a_st (i := 24) hok rfl rfl (St.ofRd (r_assign rfl)) (by intro _ h; cases h; rfl) (fun _ => ⟨trivial, ⟨trivial, ⟨trivial, ⟨trivial, ⟨trivial, ⟨trivial, ⟨trivial, ⟨trivial, ⟨trivial, ⟨trivial, ⟨trivial, ⟨trivial, ⟨trivial, ⟨trivial, ⟨trivial, ⟨trivial, ⟨trivial, ⟨trivial, ⟨trivial, ⟨trivial, trivial⟩⟩⟩⟩⟩⟩⟩⟩⟩⟩⟩⟩⟩⟩⟩⟩⟩⟩⟩⟩) (fun _ => ?_)
  refine a_fin hok (by kernel_rfl) ?_
  refine b_of (nrm [oc b_1 [slv rS p_1.Sides.i0, slv rS p_1.Sides.i1, slv rT_Cas p_1.Cases], oc b1 [sv c_0.Name, slv rS c_0.Facts, iv .i64 c_0.Winner, slv rS c_0.Reason], oa rS x3.1 x3.2 t2] rfl) (n_then (ref_ret ?_))
  exact fin1 (.inl rfl) () [0] rfl ⟨rfl, trivial⟩ rfl (rv_tmp rfl)
 refine a_rdOn (i := 7) hok rfl rfl rfl rfl (by kernel_rfl) rfl (r_faddr (fo := 3) Tryz.underlying60 rfl rfl Tryz.sizeOf22 rfl) rfl ?_
 refine a_rdOn (i := 8) hok rfl rfl rfl rfl (by kernel_rfl) rfl (r_cload Tryz.isAgg22 rfl (j := 1) rfl rfl) rfl ?_
 refine a_rdOn (i := 9) hok rfl rfl rfl rfl (by kernel_rfl) rfl (r_len Tryz.underlying22 rfl) rfl ?_
 refine a_rdOn (i := 10) hok rfl rfl rfl rfl (by kernel_rfl) rfl (r_eql rfl rfl) rfl ?_
 refine a_rd (i := 11) hok rfl (by kernel_rfl) rfl (r_pickF rfl rfl) rfl ?_
 refine a_rd (i := 12) hok rfl (by kernel_rfl) rfl (r_move rfl) rfl ?_
 refine b_split (t := 16) rfl (fun _ => ?_) (fun _ => ?_)
 ·refine a_off (i := 13) hok rfl rfl rfl rfl rfl (by kernel_rfl) rfl rfl ?_
  refine a_off (i := 14) hok rfl rfl rfl rfl rfl (by kernel_rfl) rfl rfl ?_
  refine a_off (i := 15) hok rfl rfl rfl rfl rfl (by kernel_rfl) rfl rfl ?_
  refine a_off (i := 16) hok rfl rfl rfl rfl rfl (by kernel_rfl) rfl rfl ?_
  refine a_off (i := 17) hok rfl rfl rfl rfl rfl (by kernel_rfl) rfl rfl ?_
  refine a_off (i := 18) hok rfl rfl rfl rfl rfl (by kernel_rfl) rfl rfl ?_
  refine a_off (i := 19) hok rfl rfl rfl rfl rfl (by kernel_rfl) rfl rfl ?_
  refine a_next hok 20 [] (by kernel_rfl) ?_ trivial
  refine a_stOff (i := 20) hok rfl rfl rfl rfl rfl rfl (by intro _ h; cases h; rfl) ⟨trivial, ⟨trivial, ⟨trivial, ⟨trivial, ⟨trivial, ⟨trivial, ⟨trivial, ⟨trivial, ⟨trivial, ⟨trivial, ⟨trivial, ⟨⟨⟨rfl, rfl⟩, trivial⟩, ⟨trivial, ⟨trivial, ⟨trivial, ⟨⟨⟨rfl, rfl⟩, trivial⟩, ⟨⟨⟨rfl, rfl⟩, trivial⟩, ⟨trivial, trivial⟩⟩⟩⟩⟩⟩⟩⟩⟩⟩⟩⟩⟩⟩⟩⟩⟩⟩ ?_
  refine a_next hok 21 [] (by kernel_rfl) ?_ trivial
  refine a_stOff (i := 21) hok rfl rfl rfl rfl rfl rfl (by intro _ h; cases h; rfl) ⟨trivial, ⟨trivial, ⟨trivial, ⟨trivial, ⟨trivial, ⟨trivial, ⟨trivial, ⟨trivial, ⟨trivial, ⟨trivial, ⟨trivial, ⟨⟨⟨rfl, rfl⟩, trivial⟩, ⟨trivial, ⟨trivial, ⟨trivial, ⟨⟨⟨rfl, rfl⟩, trivial⟩, ⟨⟨⟨rfl, rfl⟩, trivial⟩, ⟨trivial, trivial⟩⟩⟩⟩⟩⟩⟩⟩⟩⟩⟩⟩⟩⟩⟩⟩⟩⟩ ?_
  refine a_off (i := 22) hok rfl rfl rfl rfl rfl (by kernel_rfl) rfl rfl ?_
  refine a_rd (i := 23) hok rfl (by kernel_rfl) rfl (r_pickT rfl rfl) rfl ?_
  refine a_next hok 24 [] (by kernel_rfl) ?_ trivial
  refine a_st (i := 24) hok rfl rfl (St.ofRd (r_assign rfl)) (by intro _ h; cases h; rfl) (fun _ => ⟨trivial, ⟨trivial, ⟨trivial, ⟨trivial, ⟨trivial, ⟨trivial, ⟨trivial, ⟨trivial, ⟨trivial, ⟨trivial, ⟨trivial, ⟨trivial, ⟨trivial, ⟨trivial, ⟨trivial, ⟨trivial, ⟨trivial, ⟨trivial, ⟨trivial, ⟨trivial, trivial⟩⟩⟩⟩⟩⟩⟩⟩⟩⟩⟩⟩⟩⟩⟩⟩⟩⟩⟩⟩) (fun _ => ?_)
  refine a_fin hok (by kernel_rfl) ?_
  refine b_of (nrm [oc b_1 [slv rS p_1.Sides.i0, slv rS p_1.Sides.i1, slv rT_Cas p_1.Cases], oc b1 [sv c_0.Name, slv rS c_0.Facts, iv .i64 c_0.Winner, slv rS c_0.Reason], oa rS x3.1 x3.2 t2] rfl) (n_then (ref_ret ?_))
  exact fin1 (.inl rfl) () [0] rfl ⟨rfl, trivial⟩ rfl (rv_tmp rfl)
 refine a_rdOn (i := 13) hok rfl rfl rfl rfl (by kernel_rfl) rfl (r_faddr (fo := 3) Tryz.underlying60 rfl rfl Tryz.sizeOf22 rfl) rfl ?_
 refine a_rdOn (i := 14) hok rfl rfl rfl rfl (by kernel_rfl) rfl (r_cload Tryz.isAgg22 rfl (j := 1) rfl rfl) rfl ?_
 refine a_rdOn (i := 15) hok rfl rfl rfl rfl (by kernel_rfl) rfl (r_cloadS Tryz.isAgg26 Tryz.sizeOf26 rfl (j := 0) rfl rfl rfl) rfl ?_
 refine a_rdOn (i := 16) hok rfl rfl rfl rfl (by kernel_rfl) rfl (r_faddr (fo := 1) Tryz.underlying60 rfl rfl Tryz.sizeOf22 rfl) rfl ?_
 refine a_rdOn (i := 17) hok rfl rfl rfl rfl (by kernel_rfl) rfl (r_cload Tryz.isAgg22 rfl (j := 1) rfl rfl) rfl ?_
 refine a_rdOn (i := 18) hok rfl rfl rfl rfl (by kernel_rfl) rfl (r_faddr (fo := 2) Tryz.underlying60 rfl rfl Tryz.sizeOf3 rfl) rfl ?_
 refine a_rdOn (i := 19) hok rfl rfl rfl rfl (by kernel_rfl) rfl (r_cload Tryz.isAgg3 rfl (j := 1) rfl rfl) rfl ?_
 refine pull fun t5 h_t5 => ?_
 refine a_next hok 20 [] (by kernel_rfl) ?_ trivial
 refine a_stOn (i := 20) hok rfl rfl rfl rfl rfl (s_call (ψ := fun (x6 : (Value × List Nat)) => pv x6.1) (args := [.tmp 19, .tmp 21, .tmp 23]) Tryz.call45 rfl (pc_own_ok h_t5) ⟨arg rfl, arg rfl, arg rfl, trivial⟩ (fun _ _ _ _ h => h)) (by intro _ h; cases h; rfl) (fun _ => ⟨trivial, ⟨trivial, ⟨trivial, ⟨trivial, ⟨trivial, ⟨⟨⟨rfl, rfl⟩, trivial⟩, ⟨trivial, ⟨trivial, ⟨trivial, ⟨trivial, ⟨trivial, ⟨⟨⟨rfl, rfl⟩, trivial⟩, ⟨trivial, ⟨trivial, ⟨trivial, ⟨⟨⟨rfl, rfl⟩, trivial⟩, ⟨⟨⟨rfl, rfl⟩, trivial⟩, ⟨trivial, trivial⟩⟩⟩⟩⟩⟩⟩⟩⟩⟩⟩⟩⟩⟩⟩⟩⟩⟩) (fun x6 => ?_)
 refine pull fun t7 h_t7 => ?_
 refine a_next hok 21 [] (by kernel_rfl) ?_ trivial
 refine a_stOn (i := 21) hok rfl rfl rfl rfl rfl (s_callB (ψ := fun (_ : Unit) => bv t7) (args := [.tmp 18, .tmp 24]) Tryz.call43 rfl (pc_within_ok h_t7) ⟨argB rfl, argO rfl (j := 3) rfl, trivial⟩ (fun _ _ _ _ _ h => h)) (by intro _ h; cases h; rfl) (fun _ => ⟨⟨⟨rfl, rfl⟩, trivial⟩, ⟨trivial, ⟨⟨⟨rfl, rfl⟩, trivial⟩, ⟨trivial, ⟨⟨⟨rfl, rfl⟩, trivial⟩, ⟨trivial, ⟨trivial, ⟨trivial, ⟨trivial, ⟨trivial, ⟨trivial, ⟨⟨⟨rfl, rfl⟩, trivial⟩, ⟨trivial, ⟨trivial, ⟨trivial, ⟨⟨⟨rfl, rfl⟩, trivial⟩, ⟨⟨⟨rfl, rfl⟩, trivial⟩, ⟨trivial, trivial⟩⟩⟩⟩⟩⟩⟩⟩⟩⟩⟩⟩⟩⟩⟩⟩⟩⟩) (fun _ => ?_)
 refine a_rdOn (i := 22) hok rfl rfl rfl rfl (by kernel_rfl) rfl (r_not rfl) rfl ?_
 refine a_rd (i := 23) hok rfl (by kernel_rfl) rfl (r_pickF rfl rfl) rfl ?_
 refine a_next hok 24 [] (by kernel_rfl) ?_ trivial
 refine a_st (i := 24) hok rfl rfl (St.ofRd (r_assign rfl)) (by intro _ h; cases h; rfl) (fun _ => ⟨trivial, ⟨trivial, ⟨trivial, ⟨trivial, ⟨trivial, ⟨trivial, ⟨trivial, ⟨trivial, ⟨trivial, ⟨trivial, ⟨trivial, ⟨trivial, ⟨trivial, ⟨trivial, ⟨trivial, ⟨trivial, ⟨trivial, ⟨trivial, ⟨trivial, ⟨trivial, trivial⟩⟩⟩⟩⟩⟩⟩⟩⟩⟩⟩⟩⟩⟩⟩⟩⟩⟩⟩⟩) (fun _ => ?_)
 refine a_fin hok (by kernel_rfl) ?_
 refine b_of (nrm [oc b_1 [slv rS p_1.Sides.i0, slv rS p_1.Sides.i1, slv rT_Cas p_1.Cases], oc b1 [sv c_0.Name, slv rS c_0.Facts, iv .i64 c_0.Winner, slv rS c_0.Reason], oa rS x3.1 x3.2 t2, oa rS x6.1 x6.2 t5] rfl) (n_then (ref_ret ?_))
 exact fin1 (.inl rfl) () [0] rfl ⟨rfl, trivial⟩ rfl (rv_tmp rfl)

/-! slices.IndexFunc[[]deliberation/api.Case,deliberation/api.Case] -/
noncomputable def sIF_C_3_l1 (s_0 : (List T_Cas)) (e_0 : T_Lib) (s7 : Int) : Option (Sum ((Sum (Int) (Unit))) (Int)) :=
 bif decide (s7 < (s_0.length : Int)) then
  Option.bind (idxM s_0 s7) fun t10 =>
  Option.bind (pc_Validate_5_m t10 e_0) fun t11 =>
  bif t11 then
   some (Sum.inl (Sum.inl s7))
  else
   some (Sum.inr (iadd .i64 s7 1))
 else
  some (Sum.inl (Sum.inr ()))

noncomputable def sIF_C_3_m (s_0 : (List T_Cas)) (e_0 : T_Lib) : Option (Int) :=
 Option.bind (loopC (sIF_C_3_l1 s_0 e_0) 0) (sumK (fun a : Int => some a) fun q13 : Unit =>
  some (-1))

theorem sIF_C_3_ok {s_0 : (List T_Cas)} {e_0 : T_Lib} {be_0 : Nat} {r : Int} (hm : sIF_C_3_m s_0 e_0 = some r) :
  FnOk prog 85 [slv rT_Cas s_0, pv (.func (.func 42) #[] #[(ptr be_0 0)])] [oc be_0 [slv rS e_0.Sides.i0, slv rS e_0.Sides.i1, slv rT_Cas e_0.Cases]] (fun (x : Unit) => [iv .i64 r]) (fun (x : Unit) => [oc be_0 [slv rS e_0.Sides.i0, slv rS e_0.Sides.i1, slv rT_Cas e_0.Cases]]) := by
 refine fn_ok (fn := Tryz.f85) (N := 19) (res := fun r x => [iv .i64 r]) (Ω1 := fun r x => [oc be_0 [slv rS e_0.Sides.i0, slv rS e_0.Sides.i1, slv rT_Cas e_0.Cases]]) Tryz.func85 rfl rfl hm rfl (fun E hM => ?_)
 unfold sIF_C_3_m
 refine ref_seq (ref_region (as1 rfl rfl (l_nil (n_then (ref_seq (ref_seq (ref_region (mv1 rfl rfl (s_rd (r_len Tryz.underlying24 rfl) rfl (mv1 rfl rfl (l_nil (n_then ?_))))))))))))
 refine ref_loopX (f := (sIF_C_3_l1 s_0 e_0)) (Γl := (fun (s7 : Int) (x8 : Unit) => [(0, slv rT_Cas s_0), (1, pv (.func (.func 42) #[] #[(ptr be_0 0)])), (7, iv .i64 (s_0.length : Int)), (8, iv .i64 s7)])) (Ωl := (fun (s7 : Int) (x8 : Unit) => [oc be_0 [slv rS e_0.Sides.i0, slv rS e_0.Sides.i1, slv rT_Cas e_0.Cases]])) (Γb := (fun (q13 : Unit) (y14 : Unit) => [(1, pv (.func (.func 42) #[] #[(ptr be_0 0)]))])) (Ωb := (fun (q13 : Unit) (y14 : Unit) => [oc be_0 [slv rS e_0.Sides.i0, slv rS e_0.Sides.i1, slv rT_Cas e_0.Cases]])) (kr := (fun a : Int => some a)) 0 () (weak [0] ⟨rfl, rfl, rfl, rfl, trivial⟩ ⟨rfl, trivial⟩) (fun s7 x8 => ?_) (fun q13 y14 => ?_)
 ·unfold sIF_C_3_l1
  refine ref_seq (ref_region (s_rd (r_lss rfl rfl) rfl (l_nil (n_then (ref_seq ?_)))))
  refine ref_cond rfl (fun hb9 => ?_) (fun hb9 => ?_)
  ·refine ref_skip (n_then (ref_seq (ref_block (ref_seq (ref_region (mv1 rfl rfl (as1 rfl rfl (l_nil (n_then (ref_seq (ref_region (mv1 rfl rfl (mv1 rfl rfl (mv1 rfl rfl (pull fun t10 h_t10 => s_rd (r_index h_t10 Tryz.underlying24 el_60 rfl rfl) rfl (s_rd (r_load el_60 rfl) rfl (pull fun t11 h_t11 => s_st (s_callC [0] [true] (fun (_ : Unit) => [oc be_0 [slv rS e_0.Sides.i0, slv rS e_0.Sides.i1, slv rT_Cas e_0.Cases]]) (fun (_ : Unit) => []) (fun (_ : Unit) => bv t11) (args := [.tmp 15]) (caps := [(ptr be_0 0)]) Tryz.call42 rfl (pc_Validate_5_ok h_t11) ⟨rfl, rfl, trivial⟩ (fun _ => rfl) (fun _ => trivial) (fun _ => rfl) ⟨arg rfl, arg rfl, trivial⟩ (fun _ _ _ _ h => h)) rfl (fun _ => l_nil (n_then ?_)))))))))))))))))))
   refine ref_cond rfl (fun hb12 => ?_) (fun hb12 => ?_)
   ·refine ref_seq (ref_region (mv1 rfl rfl (as1 rfl rfl (l_nil (n_then (ref_ret (r_block (r_then ?_))))))))
    refine retX ?_
    refine r_block (r_then ?_)
    exact fin1 (.inl rfl) () [0] rfl ⟨rfl, trivial⟩ rfl (rv_tmp rfl)
   refine ref_skip (n_block (n_then (ref_region (s_rd (r_add rfl rfl) rfl (mv1 rfl rfl (l_nil ?_))))))
   exact goX () (weak [0] ⟨rfl, rfl, rfl, rfl, trivial⟩ ⟨rfl, trivial⟩)
  refine ref_exit (x_then ?_)
  exact brkX () (weak [0] ⟨rfl, trivial⟩ ⟨rfl, trivial⟩)
 refine n_then (ref_seq (ref_region (as1 rfl rfl (l_nil (n_then (ref_ret ?_))))))
 exact fin1 (.inl rfl) () [0] rfl ⟨rfl, trivial⟩ rfl (rv_tmp rfl)

/-! slices.ContainsFunc[[]deliberation/api.Case,deliberation/api.Case] -/
noncomputable def sCF_C_3_m (s_0 : (List T_Cas)) (e_0 : T_Lib) : Option (Bool) :=
 Option.bind (sIF_C_3_m s_0 e_0) fun t1 =>
 letM (decide (t1 ≥ 0)) fun t2 =>
 some t2

theorem sCF_C_3_ok {s_0 : (List T_Cas)} {e_0 : T_Lib} {be_0 : Nat} {r : Bool} (hm : sCF_C_3_m s_0 e_0 = some r) :
  FnOk prog 69 [slv rT_Cas s_0, pv (.func (.func 42) #[] #[(ptr be_0 0)])] [oc be_0 [slv rS e_0.Sides.i0, slv rS e_0.Sides.i1, slv rT_Cas e_0.Cases]] (fun (x : Unit) => [bv r]) (fun (x : Unit) => [oc be_0 [slv rS e_0.Sides.i0, slv rS e_0.Sides.i1, slv rT_Cas e_0.Cases]]) := by
 refine fn_ok (fn := Tryz.f69) (N := 9) (res := fun r x => [bv r]) (Ω1 := fun r x => [oc be_0 [slv rS e_0.Sides.i0, slv rS e_0.Sides.i1, slv rT_Cas e_0.Cases]]) Tryz.func69 rfl rfl hm rfl (fun E hM => ?_)
 unfold sCF_C_3_m
 refine ref_seq (ref_region (as1 rfl rfl (l_nil (n_then (ref_seq (ref_region (mv1 rfl rfl (mv1 rfl rfl (pull fun t1 h_t1 => s_st (s_callC [0] [true] (fun (_ : Unit) => [oc be_0 [slv rS e_0.Sides.i0, slv rS e_0.Sides.i1, slv rT_Cas e_0.Cases]]) (fun (_ : Unit) => []) (fun (_ : Unit) => iv .i64 t1) (args := [.tmp 5, .tmp 6]) (caps := []) Tryz.call85 rfl (sIF_C_3_ok h_t1) ⟨rfl, rfl, trivial⟩ (fun _ => rfl) (fun _ => trivial) (fun _ => rfl) ⟨arg rfl, arg rfl, trivial⟩ (fun _ _ _ _ h => h)) rfl (fun _ => s_rd (r_geq rfl rfl) rfl (as1 rfl rfl (b_let (f := bv) (t := 4) rfl fun t2 => l_nil (n_then (ref_ret ?_))))))))))))))
 exact fin1 (.inl rfl) () [0] rfl ⟨rfl, trivial⟩ rfl (rv_tmp rfl)

/-! deliberation/precedent.some -/
noncomputable def pc_some_3_m (l_0 : T_Lib) (e_0 : T_Lib) : Option (Bool) :=
 Option.bind (sCF_C_3_m l_0.Cases e_0) fun t2 =>
 some t2

theorem pc_some_3_ok {l_0 : T_Lib} {e_0 : T_Lib} {be_0 : Nat} {r : Bool} (hm : pc_some_3_m l_0 e_0 = some r) :
  FnOk prog 33 [ag [slv rS l_0.Sides.i0, slv rS l_0.Sides.i1, slv rT_Cas l_0.Cases], pv (.func (.func 42) #[] #[(ptr be_0 0)])] [oc be_0 [slv rS e_0.Sides.i0, slv rS e_0.Sides.i1, slv rT_Cas e_0.Cases]] (fun (x : Unit) => [bv r]) (fun (x : Unit) => [oc be_0 [slv rS e_0.Sides.i0, slv rS e_0.Sides.i1, slv rT_Cas e_0.Cases]]) := by
 refine fn_ok (fn := Tryz.f33) (N := 9) (res := fun r x => [bv r]) (Ω1 := fun r x => [oc be_0 [slv rS e_0.Sides.i0, slv rS e_0.Sides.i1, slv rT_Cas e_0.Cases]]) Tryz.func33 rfl rfl hm rfl (fun E hM => ?_)
 unfold pc_some_3_m
 refine ref_seq (ref_region (s_st (s_box (part_agO (ψs := [slv rS l_0.Sides.i0, slv rS l_0.Sides.i1, slv rT_Cas l_0.Cases]) rfl ⟨.inl slv_at, .inl slv_at, .inl slv_at, trivial⟩)) rfl (fun b1 => as1 rfl rfl (l_nil (n_then (ref_seq (ref_region (s_rd (r_faddr (fo := 2) Tryz.underlying26 rfl rfl Tryz.sizeOf24 rfl) rfl (s_rd (r_cload Tryz.isAgg24 rfl (j := 1) rfl rfl) rfl (mv1 rfl rfl (pull fun t2 h_t2 => s_st (s_callC [0] [true] (fun (_ : Unit) => [oc be_0 [slv rS e_0.Sides.i0, slv rS e_0.Sides.i1, slv rT_Cas e_0.Cases]]) (fun (_ : Unit) => []) (fun (_ : Unit) => bv t2) (args := [.tmp 6, .tmp 7]) (caps := []) Tryz.call69 rfl (sCF_C_3_ok h_t2) ⟨rfl, rfl, trivial⟩ (fun _ => rfl) (fun _ => trivial) (fun _ => rfl) ⟨arg rfl, arg rfl, trivial⟩ (fun _ _ _ _ h => h)) rfl (fun _ => as1 rfl rfl (l_nil (n_then (ref_ret ?_)))))))))))))))
 exact fin1 (.inl rfl) () [0] rfl ⟨rfl, trivial⟩ rfl (rv_tmp rfl)

/-! deliberation/precedent.Validate -/
noncomputable def pc_Validate_l1 (l_0 : T_Lib) (s14 : Int × (List (ByteArray × Bool))) : Option (Sum ((List (ByteArray × Bool))) (Int × (List (ByteArray × Bool)))) :=
 bif decide (s14.1 < (l_0.Cases.length : Int)) then
  Option.bind (idxM l_0.Cases s14.1) fun t17 =>
  some (Sum.inr (iadd .i64 s14.1 1, mapPut s14.2 t17.Name true))
 else
  some (Sum.inl s14.2)

noncomputable def pc_Validate_m (l_0 : T_Lib) : Option (Int) :=
 Option.bind (loopC (pc_Validate_l1 l_0) (0, [])) fun q19 : (List (ByteArray × Bool)) =>
 joinM (fun j22 : Bool =>
   bif j22 then
    some 2
   else
    joinM (fun j29 : Bool =>
      bif j29 then
       some 3
      else
       joinM (fun j36 : Bool =>
         bif j36 then
          some 8
         else
          Option.bind (sCF_S_2_m l_0.Sides.i0 l_0.Sides.i1) fun t40 =>
          bif t40 then
           some 10
          else
           letM (decide ((q19.length : Int) < (l_0.Cases.length : Int))) fun t42 =>
           bif t42 then
            some 5
           else
            Option.bind (pc_some_2_m l_0) fun t44 =>
            bif t44 then
             some 1
            else
             Option.bind (pc_some_3_m l_0 l_0) fun t46 =>
             bif t46 then
              some 6
             else
              some 0) fun k38 =>
       Option.bind (pc_rising_m l_0.Sides.i0) fun t33 =>
       bif !t33 then
        k38 true
       else
        Option.bind (pc_rising_m l_0.Sides.i1) fun t34 =>
        bif !t34 then
         k38 true
        else
         Option.bind (pc_some_1_m l_0) fun t35 =>
         k38 t35) fun k31 =>
    Option.bind (pc_named_m l_0.Sides.i0) fun t26 =>
    bif !t26 then
     k31 true
    else
     Option.bind (pc_named_m l_0.Sides.i1) fun t27 =>
     bif !t27 then
      k31 true
     else
      Option.bind (pc_some_m l_0) fun t28 =>
      k31 t28) fun k24 =>
 bif decide ((l_0.Sides.i0.length : Int) > 12) then
  k24 true
 else
  bif decide ((l_0.Sides.i1.length : Int) > 12) then
   k24 true
  else
   letM (decide ((l_0.Cases.length : Int) > 16)) fun t21 =>
   k24 t21

theorem pc_Validate_ok {l_0 : T_Lib} {r : Int} (hm : pc_Validate_m l_0 = some r) :
  FnOk prog 9 [ag [slv rS l_0.Sides.i0, slv rS l_0.Sides.i1, slv rT_Cas l_0.Cases]] [] (fun (x : Unit) => [iv .i64 r]) (fun (x : Unit) => []) := by
 refine fn_ok (fn := Tryz.f9) (N := 85) (res := fun r x => [iv .i64 r]) (Ω1 := fun r x => []) Tryz.func9 rfl rfl hm rfl (fun E hM => ?_)
 unfold pc_Validate_m
 refine ref_seq (ref_region (s_st (s_box (part_agO (ψs := [slv rS l_0.Sides.i0, slv rS l_0.Sides.i1, slv rT_Cas l_0.Cases]) rfl ⟨.inl slv_at, .inl slv_at, .inl slv_at, trivial⟩)) rfl (fun b1 => as1 rfl rfl (l_nil (n_then (ref_seq ?_))))))
 refine ref_draw [0, 1, 2, 3, 4, 5] rfl (by kernel_rfl) (fun hok => ?_)
 refine a_rd (i := 0) hok rfl (by kernel_rfl) rfl (r_faddr (fo := 0) Tryz.underlying26 rfl rfl Tryz.sizeOf23 rfl) rfl ?_
 refine a_rd (i := 1) hok rfl (by kernel_rfl) rfl (r_aaddr (sz := 1) ⟨by decide, by decide⟩ Tryz.underlying23 Tryz.sizeOf22 rfl rfl) rfl ?_
 refine a_rd (i := 2) hok rfl (by kernel_rfl) rfl (r_cload Tryz.isAgg22 rfl (j := 0) rfl rfl) rfl ?_
 refine a_rd (i := 3) hok rfl (by kernel_rfl) rfl (r_faddr (fo := 0) Tryz.underlying26 rfl rfl Tryz.sizeOf23 rfl) rfl ?_
 refine a_rd (i := 4) hok rfl (by kernel_rfl) rfl (r_aaddr (sz := 1) ⟨by decide, by decide⟩ Tryz.underlying23 Tryz.sizeOf22 rfl rfl) rfl ?_
 refine a_rd (i := 5) hok rfl (by kernel_rfl) rfl (r_cload Tryz.isAgg22 rfl (j := 0) rfl rfl) rfl ?_
 refine a_next hok 6 [] (by kernel_rfl) ?_ trivial
 refine a_st (i := 6) hok rfl rfl (s_alloc zt_22) (by intro _ h; cases h; rfl) (fun _ => ⟨⟨⟨rfl, rfl⟩, trivial⟩, ⟨trivial, ⟨trivial, ⟨⟨⟨rfl, rfl⟩, trivial⟩, ⟨trivial, ⟨trivial, trivial⟩⟩⟩⟩⟩⟩) (fun b2 => ?_)
 refine a_next hok 7 [] (by kernel_rfl) ?_ trivial
 refine a_st (i := 7) hok rfl rfl (St.ofRd (r_assign rfl)) (by intro _ h; cases h; rfl) (fun _ => ⟨⟨⟨rfl, rfl⟩, trivial⟩, ⟨trivial, ⟨trivial, ⟨trivial, ⟨trivial, ⟨trivial, trivial⟩⟩⟩⟩⟩⟩) (fun _ => ?_)
 refine a_next hok 8 [] (by kernel_rfl) ?_ trivial
 refine a_st (i := 8) hok rfl rfl (s_cstore (out := [slv rS l_0.Sides.i1]) Tryz.sizeOf22 rfl (j := 1) rfl (part_at rfl slv_at) rfl rfl rfl) (by intro _ h; cases h) (fun _ => ⟨trivial, ⟨trivial, ⟨trivial, ⟨trivial, ⟨trivial, ⟨trivial, trivial⟩⟩⟩⟩⟩⟩) (fun _ => ?_)
 refine a_fin hok (by kernel_rfl) ?_
 refine b_of (nrm [oc b1 [slv rS l_0.Sides.i0, slv rS l_0.Sides.i1, slv rT_Cas l_0.Cases], oc b2 [slv rS l_0.Sides.i1]] rfl) (n_then (ref_seq (ref_region (s_st (s_mkmap rS rB) rfl (fun b3 => as1 rfl rfl (l_nil (n_then (ref_seq (ref_seq (ref_region (s_rd (r_faddr (fo := 2) Tryz.underlying26 rfl rfl Tryz.sizeOf24 rfl) rfl (s_rd (r_cload Tryz.isAgg24 rfl (j := 0) rfl rfl) rfl (s_rd (r_len Tryz.underlying24 rfl) rfl (mv1 rfl rfl (l_nil (n_then ?_))))))))))))))))
 refine ref_loopB (f := (pc_Validate_l1 l_0)) (Γl := (fun (s14 : Int × (List (ByteArray × Bool))) (x15 : Unit) => [(1, pv (ptr b1 0)), (3, slv rS l_0.Sides.i0), (4, pv (ptr b2 0)), (5, pv (.map (some b3))), (16, slv rT_Cas l_0.Cases), (17, iv .i64 (l_0.Cases.length : Int)), (18, iv .i64 s14.1)])) (Ωl := (fun (s14 : Int × (List (ByteArray × Bool))) (x15 : Unit) => [oc b1 [slv rS l_0.Sides.i0, slv rS l_0.Sides.i1, slv rT_Cas l_0.Cases], oc b2 [slv rS l_0.Sides.i1], om rS rB b3 s14.2])) (Γb := (fun (q19 : (List (ByteArray × Bool))) (y20 : Unit) => [(1, pv (ptr b1 0)), (3, slv rS l_0.Sides.i0), (4, pv (ptr b2 0)), (5, pv (.map (some b3)))])) (Ωb := (fun (q19 : (List (ByteArray × Bool))) (y20 : Unit) => [oc b1 [slv rS l_0.Sides.i0, slv rS l_0.Sides.i1, slv rT_Cas l_0.Cases], oc b2 [slv rS l_0.Sides.i1], om rS rB b3 q19])) (0, []) () (weak [0, 1, 2] ⟨rfl, rfl, rfl, rfl, rfl, rfl, rfl, trivial⟩ ⟨rfl, rfl, rfl, trivial⟩) (fun s14 x15 => ?_) (fun q19 y20 => ?_)
 ·unfold pc_Validate_l1
  refine ref_seq (ref_region (s_rd (r_lss rfl rfl) rfl (l_nil (n_then (ref_seq ?_)))))
  refine ref_cond rfl (fun hb16 => ?_) (fun hb16 => ?_)
  ·refine ref_skip (n_then (ref_seq (ref_block (ref_seq (ref_region (pull fun t17 h_t17 => s_rd (r_index h_t17 Tryz.underlying24 el_60 rfl rfl) rfl (s_rd (r_load el_60 rfl) rfl (s_st (s_alloc zt_60) rfl (fun b18 => s_st0 (s_cstore (out := [sv t17.Name, slv rS t17.Facts, iv .i64 t17.Winner, slv rS t17.Reason]) Tryz.sizeOf60 rfl (j := 3) rfl (part_agO (ψs := [sv t17.Name, slv rS t17.Facts, iv .i64 t17.Winner, slv rS t17.Reason]) rfl ⟨.inl sv_at, .inl slv_at, .inl iv_at, .inl slv_at, trivial⟩) rfl rfl rfl) (fun _ => l_nil (n_then (ref_region (mv1 rfl rfl (s_rd (r_faddr (fo := 0) Tryz.underlying60 rfl rfl Tryz.sizeOf9 rfl) rfl (s_rd (r_cload Tryz.isAgg9 rfl (j := 3) rfl rfl) rfl (s_st0 (s_mput (x := t17.Name) (y := true) Tryz.underlying69 (keyT_str Tryz.underlying9) rfl (j := 2) rfl rfl rfl) (fun _ => l_nil (b_of (nrm [oc b1 [slv rS l_0.Sides.i0, slv rS l_0.Sides.i1, slv rT_Cas l_0.Cases], oc b2 [slv rS l_0.Sides.i1], om rS rB b3 (mapPut s14.2 t17.Name true), oc b18 [sv t17.Name, slv rS t17.Facts, iv .i64 t17.Winner, slv rS t17.Reason]] rfl) (n_block (n_then (ref_region (s_rd (r_add rfl rfl) rfl (mv1 rfl rfl (l_nil ?_))))))))))))))))))))))))
   exact goB () (weak [0, 1, 2] ⟨rfl, rfl, rfl, rfl, rfl, rfl, rfl, trivial⟩ ⟨rfl, rfl, rfl, trivial⟩)
  refine ref_exit (x_then ?_)
  exact brkB () (weak [0, 1, 2] ⟨rfl, rfl, rfl, rfl, trivial⟩ ⟨rfl, rfl, rfl, trivial⟩)
 refine n_then (ref_seq (ref_block (ref_seq ?_)))
 refine ref_join (fun (j22 : Bool) (x23 : Unit) => [(1, pv (ptr b1 0)), (3, slv rS l_0.Sides.i0), (4, pv (ptr b2 0)), (5, pv (.map (some b3))), (26, bv j22)]) (fun (j22 : Bool) (x23 : Unit) => [oc b1 [slv rS l_0.Sides.i0, slv rS l_0.Sides.i1, slv rT_Cas l_0.Cases], oc b2 [slv rS l_0.Sides.i1], om rS rB b3 q19]) (fun k24 hk24 => ?_) (fun j22 x23 => ?_)
 ·refine ref_region (mv1 rfl rfl (s_rd (r_len Tryz.underlying22 rfl) rfl (s_rd (r_gtr rfl rfl) rfl (mv1 rfl rfl ?_))))
  refine b_split (t := 30) rfl (fun _ => ?_) (fun _ => ?_)
  ·refine s_off rfl rfl rfl rfl rfl (s_off rfl rfl rfl rfl rfl (s_off rfl rfl rfl rfl rfl (s_rd (r_pickT rfl rfl) rfl (mv1 rfl rfl (s_off rfl rfl rfl rfl rfl (s_off rfl rfl rfl rfl rfl (s_off rfl rfl rfl rfl rfl (s_off rfl rfl rfl rfl rfl (s_rd (r_pickT rfl rfl) rfl (as1 rfl rfl (l_nil ?_)))))))))))
   exact b_to (hk24 true ()) (weak [0, 1, 2] ⟨rfl, rfl, rfl, rfl, rfl, trivial⟩ ⟨rfl, rfl, rfl, trivial⟩)
  refine s_on rfl rfl rfl (s_rd (r_cload Tryz.isAgg22 rfl (j := 1) rfl rfl) rfl (s_on rfl rfl rfl (s_rd (r_len Tryz.underlying22 rfl) rfl (s_on rfl rfl rfl (s_rd (r_gtr rfl rfl) rfl (s_rd (r_pickF rfl rfl) rfl (mv1 rfl rfl ?_)))))))
  refine b_split (t := 35) rfl (fun _ => ?_) (fun _ => ?_)
  ·refine s_off rfl rfl rfl rfl rfl (s_off rfl rfl rfl rfl rfl (s_off rfl rfl rfl rfl rfl (s_off rfl rfl rfl rfl rfl (s_rd (r_pickT rfl rfl) rfl (as1 rfl rfl (l_nil ?_))))))
   exact b_to (hk24 true ()) (weak [0, 1, 2] ⟨rfl, rfl, rfl, rfl, rfl, trivial⟩ ⟨rfl, rfl, rfl, trivial⟩)
  refine s_on rfl rfl rfl (s_rd (r_faddr (fo := 2) Tryz.underlying26 rfl rfl Tryz.sizeOf24 rfl) rfl (s_on rfl rfl rfl (s_rd (r_cload Tryz.isAgg24 rfl (j := 0) rfl rfl) rfl (s_on rfl rfl rfl (s_rd (r_len Tryz.underlying24 rfl) rfl (s_on rfl rfl rfl (s_rd (r_gtr rfl rfl) rfl (s_rd (r_pickF rfl rfl) rfl (as1 rfl rfl (b_let (f := bv) (t := 26) rfl fun t21 => l_nil ?_))))))))))
  exact b_to (hk24 t21 ()) (weak [0, 1, 2] ⟨rfl, rfl, rfl, rfl, rfl, trivial⟩ ⟨rfl, rfl, rfl, trivial⟩)
 refine n_then ?_
 refine ref_cond rfl (fun hb25 => ?_) (fun hb25 => ?_)
 ·refine ref_seq (ref_region (as1 rfl rfl (l_nil (n_then (ref_ret (r_block (r_then ?_)))))))
  exact fin1 (.inl rfl) () [] rfl trivial rfl (rv_tmp rfl)
 refine ref_seq ?_
 refine ref_join (fun (j29 : Bool) (x30 : Unit) => [(1, pv (ptr b1 0)), (3, slv rS l_0.Sides.i0), (4, pv (ptr b2 0)), (5, pv (.map (some b3))), (41, bv j29)]) (fun (j29 : Bool) (x30 : Unit) => [oc b1 [slv rS l_0.Sides.i0, slv rS l_0.Sides.i1, slv rT_Cas l_0.Cases], oc b2 [slv rS l_0.Sides.i1], om rS rB b3 q19]) (fun k31 hk31 => ?_) (fun j29 x30 => ?_)
 ·refine ref_region (mv1 rfl rfl (pull fun t26 h_t26 => s_st (s_call (ψ := fun (_ : Unit) => bv t26) (args := [.tmp 42]) Tryz.call32 rfl (pc_named_ok h_t26) ⟨arg rfl, trivial⟩ (fun _ _ _ _ h => h)) rfl (fun _ => s_rd (r_not rfl) rfl (mv1 rfl rfl ?_))))
  refine b_split (t := 45) rfl (fun _ => ?_) (fun _ => ?_)
  ·refine s_off rfl rfl rfl rfl rfl (s_off rfl rfl rfl rfl rfl (s_off rfl rfl rfl rfl rfl (s_rd (r_pickT rfl rfl) rfl (mv1 rfl rfl (s_off rfl rfl rfl rfl rfl (s_off rfl rfl rfl rfl rfl (s_rd (r_pickT rfl rfl) rfl (as1 rfl rfl (l_nil ?_)))))))))
   exact b_to (hk31 true ()) (weak [0, 1, 2] ⟨rfl, rfl, rfl, rfl, rfl, trivial⟩ ⟨rfl, rfl, rfl, trivial⟩)
  refine s_on rfl rfl rfl (s_rd (r_cload Tryz.isAgg22 rfl (j := 1) rfl rfl) rfl (s_on rfl rfl rfl (pull fun t27 h_t27 => s_st (s_call (ψ := fun (_ : Unit) => bv t27) (args := [.tmp 46]) Tryz.call32 rfl (pc_named_ok h_t27) ⟨arg rfl, trivial⟩ (fun _ _ _ _ h => h)) rfl (fun _ => s_on rfl rfl rfl (s_rd (r_not rfl) rfl (s_rd (r_pickF rfl rfl) rfl (mv1 rfl rfl ?_)))))))
  refine b_split (t := 50) rfl (fun _ => ?_) (fun _ => ?_)
  ·refine s_off rfl rfl rfl rfl rfl (s_off rfl rfl rfl rfl rfl (s_rd (r_pickT rfl rfl) rfl (as1 rfl rfl (l_nil ?_))))
   exact b_to (hk31 true ()) (weak [0, 1, 2] ⟨rfl, rfl, rfl, rfl, rfl, trivial⟩ ⟨rfl, rfl, rfl, trivial⟩)
  refine s_on rfl rfl rfl (s_rd (r_cloadS Tryz.isAgg26 Tryz.sizeOf26 rfl (j := 0) rfl rfl rfl) rfl (s_on rfl rfl rfl (pull fun t28 h_t28 => s_st (s_call (ψ := fun (_ : Unit) => bv t28) (args := [.tmp 51, .func 34]) Tryz.call33 rfl (pc_some_ok h_t28) ⟨arg rfl, arg rfl, trivial⟩ (fun _ _ _ _ h => h)) rfl (fun _ => s_rd (r_pickF rfl rfl) rfl (as1 rfl rfl (l_nil ?_))))))
  exact b_to (hk31 t28 ()) (weak [0, 1, 2] ⟨rfl, rfl, rfl, rfl, rfl, trivial⟩ ⟨rfl, rfl, rfl, trivial⟩)
 refine n_then ?_
 refine ref_cond rfl (fun hb32 => ?_) (fun hb32 => ?_)
 ·refine ref_seq (ref_region (as1 rfl rfl (l_nil (n_then (ref_ret (r_block (r_then ?_)))))))
  exact fin1 (.inl rfl) () [] rfl trivial rfl (rv_tmp rfl)
 refine ref_seq ?_
 refine ref_join (fun (j36 : Bool) (x37 : Unit) => [(1, pv (ptr b1 0)), (3, slv rS l_0.Sides.i0), (4, pv (ptr b2 0)), (5, pv (.map (some b3))), (54, bv j36)]) (fun (j36 : Bool) (x37 : Unit) => [oc b1 [slv rS l_0.Sides.i0, slv rS l_0.Sides.i1, slv rT_Cas l_0.Cases], oc b2 [slv rS l_0.Sides.i1], om rS rB b3 q19]) (fun k38 hk38 => ?_) (fun j36 x37 => ?_)
 ·refine ref_region (mv1 rfl rfl (pull fun t33 h_t33 => s_st (s_call (ψ := fun (_ : Unit) => bv t33) (args := [.tmp 55]) Tryz.call36 rfl (pc_rising_ok h_t33) ⟨arg rfl, trivial⟩ (fun _ _ _ _ h => h)) rfl (fun _ => s_rd (r_not rfl) rfl (mv1 rfl rfl ?_))))
  refine b_split (t := 58) rfl (fun _ => ?_) (fun _ => ?_)
  ·refine s_off rfl rfl rfl rfl rfl (s_off rfl rfl rfl rfl rfl (s_off rfl rfl rfl rfl rfl (s_rd (r_pickT rfl rfl) rfl (mv1 rfl rfl (s_off rfl rfl rfl rfl rfl (s_off rfl rfl rfl rfl rfl (s_rd (r_pickT rfl rfl) rfl (as1 rfl rfl (l_nil ?_)))))))))
   exact b_to (hk38 true ()) (weak [0, 1, 2] ⟨rfl, rfl, rfl, rfl, rfl, trivial⟩ ⟨rfl, rfl, rfl, trivial⟩)
  refine s_on rfl rfl rfl (s_rd (r_cload Tryz.isAgg22 rfl (j := 1) rfl rfl) rfl (s_on rfl rfl rfl (pull fun t34 h_t34 => s_st (s_call (ψ := fun (_ : Unit) => bv t34) (args := [.tmp 59]) Tryz.call36 rfl (pc_rising_ok h_t34) ⟨arg rfl, trivial⟩ (fun _ _ _ _ h => h)) rfl (fun _ => s_on rfl rfl rfl (s_rd (r_not rfl) rfl (s_rd (r_pickF rfl rfl) rfl (mv1 rfl rfl ?_)))))))
  refine b_split (t := 63) rfl (fun _ => ?_) (fun _ => ?_)
  ·refine s_off rfl rfl rfl rfl rfl (s_off rfl rfl rfl rfl rfl (s_rd (r_pickT rfl rfl) rfl (as1 rfl rfl (l_nil ?_))))
   exact b_to (hk38 true ()) (weak [0, 1, 2] ⟨rfl, rfl, rfl, rfl, rfl, trivial⟩ ⟨rfl, rfl, rfl, trivial⟩)
  refine s_on rfl rfl rfl (s_rd (r_cloadS Tryz.isAgg26 Tryz.sizeOf26 rfl (j := 0) rfl rfl rfl) rfl (s_on rfl rfl rfl (pull fun t35 h_t35 => s_st (s_call (ψ := fun (_ : Unit) => bv t35) (args := [.tmp 64, .func 37]) Tryz.call33 rfl (pc_some_1_ok h_t35) ⟨arg rfl, arg rfl, trivial⟩ (fun _ _ _ _ h => h)) rfl (fun _ => s_rd (r_pickF rfl rfl) rfl (as1 rfl rfl (l_nil ?_))))))
  exact b_to (hk38 t35 ()) (weak [0, 1, 2] ⟨rfl, rfl, rfl, rfl, rfl, trivial⟩ ⟨rfl, rfl, rfl, trivial⟩)
 refine n_then ?_
 refine ref_cond rfl (fun hb39 => ?_) (fun hb39 => ?_)
 ·refine ref_seq (ref_region (as1 rfl rfl (l_nil (n_then (ref_ret (r_block (r_then ?_)))))))
  exact fin1 (.inl rfl) () [] rfl trivial rfl (rv_tmp rfl)
 refine ref_seq (ref_region (mv1 rfl rfl (s_rd (r_mkfn (xs := [.tmp 4]) (vs := [(ptr b2 0)]) ⟨rfl, trivial⟩) rfl (pull fun t40 h_t40 => s_st (s_callC [1] [true] (fun (_ : Unit) => [oc b2 [slv rS l_0.Sides.i1]]) (fun (_ : Unit) => []) (fun (_ : Unit) => bv t40) (args := [.tmp 68, .tmp 69]) (caps := []) Tryz.call38 rfl (sCF_S_2_ok h_t40) ⟨rfl, rfl, trivial⟩ (fun _ => rfl) (fun _ => trivial) (fun _ => rfl) ⟨arg rfl, arg rfl, trivial⟩ (fun _ _ _ _ h => h)) rfl (fun _ => as1 rfl rfl (l_nil (n_then ?_)))))))
 refine ref_cond rfl (fun hb41 => ?_) (fun hb41 => ?_)
 ·refine ref_seq (ref_region (as1 rfl rfl (l_nil (n_then (ref_ret (r_block (r_then ?_)))))))
  exact fin1 (.inl rfl) () [] rfl trivial rfl (rv_tmp rfl)
 refine ref_seq (ref_region (mv1 rfl rfl (s_rd (r_mlen (κ := rS) (ν := rB) Tryz.underlying69 rfl (j := 2) rfl) rfl (s_rd (r_faddr (fo := 2) Tryz.underlying26 rfl rfl Tryz.sizeOf24 rfl) rfl (s_rd (r_cload Tryz.isAgg24 rfl (j := 0) rfl rfl) rfl (s_rd (r_len Tryz.underlying24 rfl) rfl (s_rd (r_lss rfl rfl) rfl (as1 rfl rfl (b_let (f := bv) (t := 71) rfl fun t42 => l_nil (n_then ?_))))))))))
 refine ref_cond rfl (fun hb43 => ?_) (fun hb43 => ?_)
 ·refine ref_seq (ref_region (as1 rfl rfl (l_nil (n_then (ref_ret (r_block (r_then ?_)))))))
  exact fin1 (.inl rfl) () [] rfl trivial rfl (rv_tmp rfl)
 refine ref_seq (ref_region (s_rd (r_cloadS Tryz.isAgg26 Tryz.sizeOf26 rfl (j := 0) rfl rfl rfl) rfl (pull fun t44 h_t44 => s_st (s_call (ψ := fun (_ : Unit) => bv t44) (args := [.tmp 79, .func 41]) Tryz.call33 rfl (pc_some_2_ok h_t44) ⟨arg rfl, arg rfl, trivial⟩ (fun _ _ _ _ h => h)) rfl (fun _ => as1 rfl rfl (l_nil (n_then ?_))))))
 refine ref_cond rfl (fun hb45 => ?_) (fun hb45 => ?_)
 ·refine ref_seq (ref_region (as1 rfl rfl (l_nil (n_then (ref_ret (r_block (r_then ?_)))))))
  exact fin1 (.inl rfl) () [] rfl trivial rfl (rv_tmp rfl)
 refine ref_seq (ref_region (s_rd (r_cloadS Tryz.isAgg26 Tryz.sizeOf26 rfl (j := 0) rfl rfl rfl) rfl (s_rd (r_mkfn (xs := [.tmp 1]) (vs := [(ptr b1 0)]) ⟨rfl, trivial⟩) rfl (pull fun t46 h_t46 => s_st (s_callC [0] [true] (fun (_ : Unit) => [oc b1 [slv rS l_0.Sides.i0, slv rS l_0.Sides.i1, slv rT_Cas l_0.Cases]]) (fun (_ : Unit) => []) (fun (_ : Unit) => bv t46) (args := [.tmp 82, .tmp 83]) (caps := []) Tryz.call33 rfl (pc_some_3_ok h_t46) ⟨rfl, rfl, trivial⟩ (fun _ => rfl) (fun _ => trivial) (fun _ => rfl) ⟨arg rfl, arg rfl, trivial⟩ (fun _ _ _ _ h => h)) rfl (fun _ => as1 rfl rfl (l_nil (n_then ?_)))))))
 refine ref_cond rfl (fun hb47 => ?_) (fun hb47 => ?_)
 ·refine ref_seq (ref_region (as1 rfl rfl (l_nil (n_then (ref_ret (r_block (r_then ?_)))))))
  exact fin1 (.inl rfl) () [] rfl trivial rfl (rv_tmp rfl)
 refine ref_skip (n_block (n_then (ref_seq (ref_region (as1 rfl rfl (l_nil (n_then (ref_ret ?_))))))))
 exact fin1 (.inl rfl) () [] rfl trivial rfl (rv_tmp rfl)

/-! deliberation/precedent.known -/
noncomputable def pc_known_m (l_0 : T_Lib) (facts_1 : (List ByteArray)) : Option (Int) :=
 Option.bind (pc_rising_m facts_1) fun t2 =>
 bif !t2 then
  some 8
 else
  Option.bind (pc_factors_m l_0) fun t4 =>
  Option.bind (pc_within_m facts_1 t4) fun t6 =>
  bif !t6 then
   some 6
  else
   some 0

theorem pc_known_ok {l_0 : T_Lib} {facts_1 : (List ByteArray)} {r : Int} (hm : pc_known_m l_0 facts_1 = some r) :
  FnOk prog 56 [ag [slv rS l_0.Sides.i0, slv rS l_0.Sides.i1, slv rT_Cas l_0.Cases], slv rS facts_1] [] (fun (x : Unit) => [iv .i64 r]) (fun (x : Unit) => []) := by
 refine fn_ok (fn := Tryz.f56) (N := 15) (res := fun r x => [iv .i64 r]) (Ω1 := fun r x => []) Tryz.func56 rfl rfl hm rfl (fun E hM => ?_)
 unfold pc_known_m
 refine ref_seq (ref_region (s_st (s_box (part_agO (ψs := [slv rS l_0.Sides.i0, slv rS l_0.Sides.i1, slv rT_Cas l_0.Cases]) rfl ⟨.inl slv_at, .inl slv_at, .inl slv_at, trivial⟩)) rfl (fun b1 => as1 rfl rfl (l_nil (n_then (ref_seq (ref_block (ref_seq (ref_region (mv1 rfl rfl (pull fun t2 h_t2 => s_st (s_call (ψ := fun (_ : Unit) => bv t2) (args := [.tmp 6]) Tryz.call36 rfl (pc_rising_ok h_t2) ⟨arg rfl, trivial⟩ (fun _ _ _ _ h => h)) rfl (fun _ => s_rd (r_not rfl) rfl (as1 rfl rfl (l_nil (n_then ?_)))))))))))))))
 refine ref_cond rfl (fun hb3 => ?_) (fun hb3 => ?_)
 ·refine ref_seq (ref_region (as1 rfl rfl (l_nil (n_then (ref_ret (r_block (r_then ?_)))))))
  exact fin1 (.inl rfl) () [] rfl trivial rfl (rv_tmp rfl)
 refine ref_seq (ref_region (mv1 rfl rfl (s_rd (r_cloadS Tryz.isAgg26 Tryz.sizeOf26 rfl (j := 0) rfl rfl rfl) rfl (pull fun t4 h_t4 => s_st (s_call (ψ := fun (x5 : (Value × List Nat)) => pv x5.1) (args := [.tmp 11]) Tryz.call44 rfl (pc_factors_ok h_t4) ⟨arg rfl, trivial⟩ (fun _ _ _ _ h => h)) rfl (fun x5 => pull fun t6 h_t6 => s_st (s_callB (ψ := fun (_ : Unit) => bv t6) (args := [.tmp 10, .tmp 12]) Tryz.call43 rfl (pc_within_ok h_t6) ⟨argB rfl, argO rfl (j := 1) rfl, trivial⟩ (fun _ _ _ _ _ h => h)) rfl (fun _ => s_rd (r_not rfl) rfl (as1 rfl rfl (l_nil (b_of (nrm [oc b1 [slv rS l_0.Sides.i0, slv rS l_0.Sides.i1, slv rT_Cas l_0.Cases], oa rS x5.1 x5.2 t4] rfl) (n_then ?_))))))))))
 refine ref_cond rfl (fun hb7 => ?_) (fun hb7 => ?_)
 ·refine ref_seq (ref_region (as1 rfl rfl (l_nil (n_then (ref_ret (r_block (r_then ?_)))))))
  exact fin1 (.inl rfl) () [] rfl trivial rfl (rv_tmp rfl)
 refine ref_skip (n_block (n_then (ref_seq (ref_region (as1 rfl rfl (l_nil (n_then (ref_ret ?_))))))))
 exact fin1 (.inl rfl) () [] rfl trivial rfl (rv_tmp rfl)

/-! deliberation/precedent.situation -/
noncomputable def pc_situation_m (l_0 : T_Lib) (facts_1 : (List ByteArray)) : Option (Int) :=
 Option.bind (pc_Validate_m l_0) fun e2 =>
 bif e2 != 0 then
  some e2
 else
  Option.bind (pc_known_m l_0 facts_1) fun t4 =>
  some t4

theorem pc_situation_ok {l_0 : T_Lib} {facts_1 : (List ByteArray)} {r : Int} (hm : pc_situation_m l_0 facts_1 = some r) :
  FnOk prog 62 [ag [slv rS l_0.Sides.i0, slv rS l_0.Sides.i1, slv rT_Cas l_0.Cases], slv rS facts_1] [] (fun (x : Unit) => [iv .i64 r]) (fun (x : Unit) => []) := by
 refine fn_ok (fn := Tryz.f62) (N := 14) (res := fun r x => [iv .i64 r]) (Ω1 := fun r x => []) Tryz.func62 rfl rfl hm rfl (fun E hM => ?_)
 unfold pc_situation_m
 refine ref_seq (ref_region (s_st (s_box (part_agO (ψs := [slv rS l_0.Sides.i0, slv rS l_0.Sides.i1, slv rT_Cas l_0.Cases]) rfl ⟨.inl slv_at, .inl slv_at, .inl slv_at, trivial⟩)) rfl (fun b1 => as1 rfl rfl (l_nil (n_then (ref_seq (ref_seq (ref_region (s_rd (r_cloadS Tryz.isAgg26 Tryz.sizeOf26 rfl (j := 0) rfl rfl rfl) rfl (pull fun e2 h_e2 => s_st (s_call (ψ := fun (_ : Unit) => iv .i64 e2) (args := [.tmp 6]) Tryz.call9 rfl (pc_Validate_ok h_e2) ⟨arg rfl, trivial⟩ (fun _ _ _ _ h => h)) rfl (fun _ => as1 rfl rfl (l_nil (n_then (ref_seq (ref_region (mv1 rfl rfl (s_rd (r_neq rfl rfl) rfl (l_nil (n_then ?_)))))))))))))))))))
 refine ref_cond rfl (fun hb3 => ?_) (fun hb3 => ?_)
 ·refine ref_seq (ref_region (mv1 rfl rfl (as1 rfl rfl (l_nil (n_then (ref_ret (r_then ?_)))))))
  exact fin1 (.inl rfl) () [] rfl trivial rfl (rv_tmp rfl)
 refine ref_skip (n_then (ref_seq (ref_region (s_rd (r_cloadS Tryz.isAgg26 Tryz.sizeOf26 rfl (j := 0) rfl rfl rfl) rfl (mv1 rfl rfl (pull fun t4 h_t4 => s_st (s_call (ψ := fun (_ : Unit) => iv .i64 t4) (args := [.tmp 11, .tmp 12]) Tryz.call56 rfl (pc_known_ok h_t4) ⟨arg rfl, arg rfl, trivial⟩ (fun _ _ _ _ h => h)) rfl (fun _ => as1 rfl rfl (l_nil (n_then (ref_ret ?_))))))))))
 exact fin1 (.inl rfl) () [] rfl trivial rfl (rv_tmp rfl)

/-! deliberation/precedent.counter -/
noncomputable def pc_counter_m (l_0 : T_Lib) (facts_1 : (List ByteArray)) (side_2 : Int) : Option (List ByteArray) :=
 Option.bind (pc_own_m l_0 facts_1 (isub .i64 3 side_2)) fun t2 =>
 some t2

theorem pc_counter_ok {l_0 : T_Lib} {facts_1 : (List ByteArray)} {side_2 : Int} {r : List ByteArray} (hm : pc_counter_m l_0 facts_1 side_2 = some r) :
  FnOk prog 59 [ag [slv rS l_0.Sides.i0, slv rS l_0.Sides.i1, slv rT_Cas l_0.Cases], slv rS facts_1, iv .i64 side_2] [] (fun (x : (Value × List Nat)) => [pv x.1]) (fun (x : (Value × List Nat)) => [oa rS x.1 x.2 r]) := by
 refine fn_ok (X := (Value × List Nat)) (fn := Tryz.f59) (N := 12) (res := fun r x => [pv x.1]) (Ω1 := fun r x => [oa rS x.1 x.2 r]) Tryz.func59 rfl rfl hm rfl (fun E hM => ?_)
 unfold pc_counter_m
 refine ref_seq (ref_region (s_st (s_box (part_agO (ψs := [slv rS l_0.Sides.i0, slv rS l_0.Sides.i1, slv rT_Cas l_0.Cases]) rfl ⟨.inl slv_at, .inl slv_at, .inl slv_at, trivial⟩)) rfl (fun b1 => as1 rfl rfl (l_nil (n_then (ref_seq (ref_region (s_rd (r_cloadS Tryz.isAgg26 Tryz.sizeOf26 rfl (j := 0) rfl rfl rfl) rfl (mv1 rfl rfl (mv1 rfl rfl (s_rd (r_sub rfl rfl) rfl (pull fun t2 h_t2 => s_st (s_call (ψ := fun (x3 : (Value × List Nat)) => pv x3.1) (args := [.tmp 7, .tmp 8, .tmp 10]) Tryz.call45 rfl (pc_own_ok h_t2) ⟨arg rfl, arg rfl, arg rfl, trivial⟩ (fun _ _ _ _ h => h)) rfl (fun x3 => as1 rfl rfl (l_nil (n_then (ref_ret ?_))))))))))))))))
 exact fin1 (.inl rfl) x3 [1] rfl ⟨rfl, trivial⟩ rfl (rv_tmp rfl)

/-! deliberation/precedent.forced -/
noncomputable def pc_forced_l1 (l_0 : T_Lib) (facts_1 : (List ByteArray)) (s38 : Int × (List Int) × (List Int)) : Option (Sum ((List Int) × (List Int)) (Int × (List Int) × (List Int))) :=
 bif decide (s38.1 < (l_0.Cases.length : Int)) then
  Option.bind (idxM l_0.Cases s38.1) fun t41 =>
  Option.bind (pc_Reasons_1_m t41) fun t43 =>
  Option.bind (pc_within_m t43 facts_1) fun t44 =>
  bif !t44 then
   some (Sum.inr (iadd .i64 s38.1 1, s38.2.1, s38.2.2))
  else
   Option.bind (pc_counter_m l_0 facts_1 t41.Winner) fun t45 =>
   Option.bind (pc_within_m t45 t41.Facts) fun t47 =>
   bif !t47 then
    some (Sum.inr (iadd .i64 s38.1 1, s38.2.1, s38.2.2))
   else
    bif t41.Winner == 1 then
     Option.bind (appM 8 s38.2.1 [s38.1]) fun t50 =>
     some (Sum.inr (iadd .i64 s38.1 1, t50, s38.2.2))
    else
     Option.bind (appM 8 s38.2.2 [s38.1]) fun t52 =>
     some (Sum.inr (iadd .i64 s38.1 1, s38.2.1, t52))
 else
  some (Sum.inl (s38.2.1, s38.2.2))

noncomputable def pc_forced_m (l_0 : T_Lib) (facts_1 : (List ByteArray)) : Option (T_For × Int) :=
 Option.bind (pc_situation_m l_0 facts_1) fun e3 =>
 bif e3 != 0 then
  some ((T_For.mk [] []), e3)
 else
  Option.bind (loopC (pc_forced_l1 l_0 facts_1) (0, [], [])) fun q54 : (List Int) × (List Int) =>
  some ((T_For.mk q54.1 q54.2), 0)

theorem pc_forced_ok {l_0 : T_Lib} {facts_1 : (List ByteArray)} {r : T_For × Int} (hm : pc_forced_m l_0 facts_1 = some r) :
  FnOk prog 50 [ag [slv rS l_0.Sides.i0, slv rS l_0.Sides.i1, slv rT_Cas l_0.Cases], slv rS facts_1, pv (.func (.func 53) #[] #[])] [] (fun (x : Unit) => [ag [slv (rI .i64) r.1.For, slv (rI .i64) r.1.Against], iv .i64 r.2]) (fun (x : Unit) => []) := by
 refine fn_ok (fn := Tryz.f50) (N := 61) (res := fun r x => [ag [slv (rI .i64) r.1.For, slv (rI .i64) r.1.Against], iv .i64 r.2]) (Ω1 := fun r x => []) Tryz.func50 rfl rfl hm rfl (fun E hM => ?_)
 unfold pc_forced_m
 refine ref_seq (ref_region (s_st (s_box (part_agO (ψs := [slv rS l_0.Sides.i0, slv rS l_0.Sides.i1, slv rT_Cas l_0.Cases]) rfl ⟨.inl slv_at, .inl slv_at, .inl slv_at, trivial⟩)) rfl (fun b1 => s_st (s_alloc zt_42) rfl (fun b2 => as1 rfl rfl (l_nil (n_then (ref_seq (ref_seq (ref_region (s_rd (r_cloadS Tryz.isAgg26 Tryz.sizeOf26 rfl (j := 0) rfl rfl rfl) rfl (mv1 rfl rfl (pull fun e3 h_e3 => s_st (s_call (ψ := fun (_ : Unit) => iv .i64 e3) (args := [.tmp 12, .tmp 13]) Tryz.call62 rfl (pc_situation_ok h_e3) ⟨arg rfl, arg rfl, trivial⟩ (fun _ _ _ _ h => h)) rfl (fun _ => as1 rfl rfl (l_nil (n_then (ref_seq (ref_region (mv1 rfl rfl (s_rd (r_neq rfl rfl) rfl (l_nil (n_then ?_)))))))))))))))))))))
 refine ref_cond rfl (fun hb4 => ?_) (fun hb4 => ?_)
 ·refine ref_seq (ref_region (s_rd (r_build (ps := []) (rs := []) st_42 zs_42 trivial rfl rfl) rfl (mv1 rfl rfl (s_st0 (s_cstore (out := [pv (.slice none 0 0), pv (.slice none 0 0)]) Tryz.sizeOf42 rfl (j := 1) rfl (part_agO (ψs := [pv (.slice none 0 0), pv (.slice none 0 0)]) rfl ⟨.inl (pv_at rfl), .inl (pv_at rfl), trivial⟩) rfl rfl rfl) (fun _ => as1 rfl rfl (l_nil (b_of (nrm [oc b1 [slv rS l_0.Sides.i0, slv rS l_0.Sides.i1, slv rT_Cas l_0.Cases], oc b2 [pv (.slice none 0 0), pv (.slice none 0 0)]] rfl) (n_then (ref_ret (r_then (b_of (ocW 1 [slv (rI .i64) [], slv (rI .i64) []] rfl ⟨nil_sl, nil_sl, trivial⟩) ?_)))))))))))
  exact fin2 (.inl rfl) () [] rfl trivial rfl (rv_cell rfl (j := 1) rfl Tryz.isAgg42 Tryz.sizeOf42 rfl rfl) (rv_tmp rfl)
 refine ref_skip (n_then (ref_seq (ref_region (s_st (s_alloc zt_42) rfl (fun b5 => l_nil (b_of (nrm [oc b1 [slv rS l_0.Sides.i0, slv rS l_0.Sides.i1, slv rT_Cas l_0.Cases], oc b2 [pv (.slice none 0 0), pv (.slice none 0 0)], oc b5 [pv (.slice none 0 0), pv (.slice none 0 0)]] rfl) (n_then (ref_seq (ref_seq (ref_region (s_rd (r_faddr (fo := 2) Tryz.underlying26 rfl rfl Tryz.sizeOf24 rfl) rfl (s_rd (r_cload Tryz.isAgg24 rfl (j := 0) rfl rfl) rfl (s_rd (r_len Tryz.underlying24 rfl) rfl (mv1 rfl rfl (l_nil (n_then (b_of (own_nil (rI .i64)) (b_of (own_nil (rI .i64)) ?_))))))))))))))))))
 refine ref_loopB (f := (pc_forced_l1 l_0 facts_1)) (Γl := (fun (s38 : Int × (List Int) × (List Int)) (x39 : (Value × List Nat) × (Value × List Nat)) => [(1, slv rS facts_1), (2, pv (.func (.func 53) #[] #[])), (3, pv (ptr b1 0)), (6, pv (ptr b2 0)), (9, pv (ptr b5 0)), (20, slv rT_Cas l_0.Cases), (21, iv .i64 (l_0.Cases.length : Int)), (22, iv .i64 s38.1)])) (Ωl := (fun (s38 : Int × (List Int) × (List Int)) (x39 : (Value × List Nat) × (Value × List Nat)) => [oc b1 [slv rS l_0.Sides.i0, slv rS l_0.Sides.i1, slv rT_Cas l_0.Cases], oc b2 [pv (.slice none 0 0), pv (.slice none 0 0)], oc b5 [pv x39.1.1, pv x39.2.1], oa (rI .i64) x39.1.1 x39.1.2 s38.2.1, oa (rI .i64) x39.2.1 x39.2.2 s38.2.2])) (Γb := (fun (q54 : (List Int) × (List Int)) (y55 : (Value × List Nat) × (Value × List Nat)) => [(2, pv (.func (.func 53) #[] #[])), (6, pv (ptr b2 0)), (9, pv (ptr b5 0))])) (Ωb := (fun (q54 : (List Int) × (List Int)) (y55 : (Value × List Nat) × (Value × List Nat)) => [oc b2 [pv (.slice none 0 0), pv (.slice none 0 0)], oc b5 [pv y55.1.1, pv y55.2.1], oa (rI .i64) y55.1.1 y55.1.2 q54.1, oa (rI .i64) y55.2.1 y55.2.2 q54.2])) (0, [], []) (((.slice none 0 0), []), ((.slice none 0 0), [])) (weak [0, 1, 2, 3, 4] ⟨rfl, rfl, rfl, rfl, rfl, rfl, rfl, rfl, trivial⟩ ⟨rfl, rfl, rfl, rfl, rfl, trivial⟩) (fun s38 x39 => ?_) (fun q54 y55 => ?_)
 ·unfold pc_forced_l1
  refine ref_seq (ref_region (s_rd (r_lss rfl rfl) rfl (l_nil (n_then (ref_seq ?_)))))
  refine ref_cond rfl (fun hb40 => ?_) (fun hb40 => ?_)
  ·refine ref_skip (n_then (ref_seq (ref_block (ref_seq (ref_region (mv1 rfl rfl (pull fun t41 h_t41 => s_rd (r_index h_t41 Tryz.underlying24 el_60 rfl rfl) rfl (s_rd (r_load el_60 rfl) rfl (s_st (s_alloc zt_60) rfl (fun b42 => as1 rfl rfl (s_st0 (s_cstore (out := [sv t41.Name, slv rS t41.Facts, iv .i64 t41.Winner, slv rS t41.Reason]) Tryz.sizeOf60 rfl (j := 5) rfl (part_agO (ψs := [sv t41.Name, slv rS t41.Facts, iv .i64 t41.Winner, slv rS t41.Reason]) rfl ⟨.inl sv_at, .inl slv_at, .inl iv_at, .inl slv_at, trivial⟩) rfl rfl rfl) (fun _ => l_nil (n_then (ref_seq (ref_seq ?_)))))))))))))))
   refine ref_draw [0, 1, 3, 5, 6, 7, 8, 9, 10, 12, 13, 15, 16] rfl (by kernel_rfl) (fun hok => ?_)
   refine a_rd (i := 0) hok rfl (by kernel_rfl) rfl (r_move rfl) rfl ?_
   refine a_rd (i := 1) hok rfl (by kernel_rfl) rfl (r_cloadS Tryz.isAgg60 Tryz.sizeOf60 rfl (j := 5) rfl rfl rfl) rfl ?_
   refine a_rd (i := 3) hok rfl (by kernel_rfl) rfl (r_move rfl) rfl ?_
   refine pull fun t43 h_t43 => ?_
   refine a_next hok 2 [] (by kernel_rfl) ?_ trivial
   refine a_st (i := 2) hok rfl rfl (s_call (ψ := fun (_ : Unit) => slv rS t43) (args := [.tmp 28]) Tryz.call53 rfl (pc_Reasons_1_ok h_t43) ⟨arg rfl, trivial⟩ (fun _ _ _ _ h => h)) (by intro _ h; cases h; rfl) (fun _ => ⟨trivial, ⟨trivial, ⟨trivial, trivial⟩⟩⟩) (fun _ => ?_)
   refine pull fun t44 h_t44 => ?_
   refine a_next hok 4 [] (by kernel_rfl) ?_ trivial
   refine a_st (i := 4) hok rfl rfl (s_call (ψ := fun (_ : Unit) => bv t44) (args := [.tmp 29, .tmp 30]) Tryz.call43 rfl (pc_within_ok h_t44) ⟨arg rfl, arg rfl, trivial⟩ (fun _ _ _ _ h => h)) (by intro _ h; cases h; rfl) (fun _ => ⟨trivial, ⟨⟨⟨rfl, rfl⟩, trivial⟩, ⟨trivial, trivial⟩⟩⟩) (fun _ => ?_)
   refine a_rd (i := 5) hok rfl (by kernel_rfl) rfl (r_not rfl) rfl ?_
   refine a_rd (i := 6) hok rfl (by kernel_rfl) rfl (r_move rfl) rfl ?_
   refine b_split (t := 33) rfl (fun _ => ?_) (fun _ => ?_)
   ·refine a_off (i := 7) hok rfl rfl rfl rfl rfl (by kernel_rfl) rfl rfl ?_
    refine a_off (i := 8) hok rfl rfl rfl rfl rfl (by kernel_rfl) rfl rfl ?_
    refine a_off (i := 9) hok rfl rfl rfl rfl rfl (by kernel_rfl) rfl rfl ?_
    refine a_off (i := 10) hok rfl rfl rfl rfl rfl (by kernel_rfl) rfl rfl ?_
    refine a_off (i := 12) hok rfl rfl rfl rfl rfl (by kernel_rfl) rfl rfl ?_
    refine a_off (i := 13) hok rfl rfl rfl rfl rfl (by kernel_rfl) rfl rfl ?_
    refine a_next hok 11 [] (by kernel_rfl) ?_ trivial
    refine a_stOff (i := 11) hok rfl rfl rfl rfl rfl rfl (by intro _ h; cases h; rfl) ⟨trivial, ⟨trivial, ⟨trivial, ⟨trivial, ⟨trivial, ⟨trivial, ⟨trivial, ⟨trivial, ⟨trivial, ⟨⟨⟨rfl, rfl⟩, trivial⟩, ⟨trivial, trivial⟩⟩⟩⟩⟩⟩⟩⟩⟩⟩⟩ ?_
    refine a_next hok 14 [] (by kernel_rfl) ?_ trivial
    refine a_stOff (i := 14) hok rfl rfl rfl rfl rfl rfl (by intro _ h; cases h; rfl) ⟨trivial, ⟨trivial, ⟨trivial, ⟨trivial, ⟨trivial, ⟨trivial, ⟨trivial, ⟨trivial, ⟨trivial, ⟨⟨⟨rfl, rfl⟩, trivial⟩, ⟨trivial, trivial⟩⟩⟩⟩⟩⟩⟩⟩⟩⟩⟩ ?_
    refine a_off (i := 15) hok rfl rfl rfl rfl rfl (by kernel_rfl) rfl rfl ?_
    refine a_rd (i := 16) hok rfl (by kernel_rfl) rfl (r_pickT rfl rfl) rfl ?_
    refine a_fin hok (by kernel_rfl) ?_
    refine b_of (nrm [oc b1 [slv rS l_0.Sides.i0, slv rS l_0.Sides.i1, slv rT_Cas l_0.Cases], oc b2 [pv (.slice none 0 0), pv (.slice none 0 0)], oc b5 [pv x39.1.1, pv x39.2.1], oa (rI .i64) x39.1.1 x39.1.2 s38.2.1, oa (rI .i64) x39.2.1 x39.2.2 s38.2.2, oc b42 [sv t41.Name, slv rS t41.Facts, iv .i64 t41.Winner, slv rS t41.Reason]] rfl) (n_then (ref_condT rfl rfl (ref_exit (x_then (x_eq (n_then (ref_region (s_rd (r_add rfl rfl) rfl (mv1 rfl rfl (l_nil ?_))))))))))
    exact goB (x39.1, x39.2) (weak [0, 1, 2, 3, 4] ⟨rfl, rfl, rfl, rfl, rfl, rfl, rfl, rfl, trivial⟩ ⟨rfl, rfl, rfl, rfl, rfl, trivial⟩)
   refine a_rdOn (i := 7) hok rfl rfl rfl rfl (by kernel_rfl) rfl (r_cloadS Tryz.isAgg26 Tryz.sizeOf26 rfl (j := 0) rfl rfl rfl) rfl ?_
   refine a_rdOn (i := 8) hok rfl rfl rfl rfl (by kernel_rfl) rfl (r_move rfl) rfl ?_
   refine a_rdOn (i := 9) hok rfl rfl rfl rfl (by kernel_rfl) rfl (r_faddr (fo := 2) Tryz.underlying60 rfl rfl Tryz.sizeOf3 rfl) rfl ?_
   refine a_rdOn (i := 10) hok rfl rfl rfl rfl (by kernel_rfl) rfl (r_cload Tryz.isAgg3 rfl (j := 5) rfl rfl) rfl ?_
   refine a_rdOn (i := 12) hok rfl rfl rfl rfl (by kernel_rfl) rfl (r_faddr (fo := 1) Tryz.underlying60 rfl rfl Tryz.sizeOf22 rfl) rfl ?_
   refine a_rdOn (i := 13) hok rfl rfl rfl rfl (by kernel_rfl) rfl (r_cload Tryz.isAgg22 rfl (j := 5) rfl rfl) rfl ?_
   refine pull fun t45 h_t45 => ?_
   refine a_next hok 11 [] (by kernel_rfl) ?_ trivial
   refine a_stOn (i := 11) hok rfl rfl rfl rfl rfl (s_call (ψ := fun (x46 : (Value × List Nat)) => pv x46.1) (args := [.tmp 34, .tmp 35, .tmp 37]) Tryz.call59 rfl (pc_counter_ok h_t45) ⟨arg rfl, arg rfl, arg rfl, trivial⟩ (fun _ _ _ _ h => h)) (by intro _ h; cases h; rfl) (fun _ => ⟨⟨⟨rfl, rfl⟩, trivial⟩, ⟨trivial, ⟨trivial, ⟨trivial, ⟨trivial, ⟨trivial, ⟨trivial, ⟨trivial, ⟨trivial, ⟨⟨⟨rfl, rfl⟩, trivial⟩, ⟨trivial, trivial⟩⟩⟩⟩⟩⟩⟩⟩⟩⟩⟩) (fun x46 => ?_)
   refine pull fun t47 h_t47 => ?_
   refine a_next hok 14 [] (by kernel_rfl) ?_ trivial
   refine a_stOn (i := 14) hok rfl rfl rfl rfl rfl (s_callB (ψ := fun (_ : Unit) => bv t47) (args := [.tmp 38, .tmp 40]) Tryz.call43 rfl (pc_within_ok h_t47) ⟨argO rfl (j := 6) rfl, argB rfl, trivial⟩ (fun _ _ _ _ _ h => h)) (by intro _ h; cases h; rfl) (fun _ => ⟨trivial, ⟨trivial, ⟨⟨⟨rfl, rfl⟩, trivial⟩, ⟨trivial, ⟨trivial, ⟨⟨⟨rfl, rfl⟩, trivial⟩, ⟨trivial, ⟨trivial, ⟨trivial, ⟨⟨⟨rfl, rfl⟩, trivial⟩, ⟨trivial, trivial⟩⟩⟩⟩⟩⟩⟩⟩⟩⟩⟩) (fun _ => ?_)
   refine a_rdOn (i := 15) hok rfl rfl rfl rfl (by kernel_rfl) rfl (r_not rfl) rfl ?_
   refine a_rd (i := 16) hok rfl (by kernel_rfl) rfl (r_pickF rfl rfl) rfl ?_
   refine a_fin hok (by kernel_rfl) ?_
   refine b_of (nrm [oc b1 [slv rS l_0.Sides.i0, slv rS l_0.Sides.i1, slv rT_Cas l_0.Cases], oc b2 [pv (.slice none 0 0), pv (.slice none 0 0)], oc b5 [pv x39.1.1, pv x39.2.1], oa (rI .i64) x39.1.1 x39.1.2 s38.2.1, oa (rI .i64) x39.2.1 x39.2.2 s38.2.2, oc b42 [sv t41.Name, slv rS t41.Facts, iv .i64 t41.Winner, slv rS t41.Reason], oa rS x46.1 x46.2 t45] rfl) (n_then ?_)
   refine ref_cond rfl (fun hb48 => ?_) (fun hb48 => ?_)
   ·refine ref_exit (x_then (x_eq (n_then (ref_region (s_rd (r_add rfl rfl) rfl (mv1 rfl rfl (l_nil ?_)))))))
    exact goB (x39.1, x39.2) (weak [0, 1, 2, 3, 4] ⟨rfl, rfl, rfl, rfl, rfl, rfl, rfl, rfl, trivial⟩ ⟨rfl, rfl, rfl, rfl, rfl, trivial⟩)
   refine ref_skip (n_then (ref_seq (ref_region (s_rd (r_faddr (fo := 2) Tryz.underlying60 rfl rfl Tryz.sizeOf3 rfl) rfl (s_rd (r_cload Tryz.isAgg3 rfl (j := 5) rfl rfl) rfl (s_rd (r_eql rfl rfl) rfl (l_nil (n_then ?_))))))))
   refine ref_cond rfl (fun hb49 => ?_) (fun hb49 => ?_)
   ·refine ref_region (s_rd (r_faddr (fo := 0) Tryz.underlying42 rfl rfl Tryz.sizeOf27 rfl) rfl (s_rd (r_cload Tryz.isAgg27 rfl (j := 2) rfl rfl) rfl (mv1 rfl rfl (s_st (s_bslice (xs := [.tmp 49]) (ds := [s38.1]) Tryz.underlying27 el_3 rfl (Nat.le_of_ble_eq_true rfl) ⟨(part_at rfl iv_at), trivial⟩) rfl (fun _ => pull fun t50 h_t50 => s_st (s_append h_t50 Tryz.underlying27 el_3 rfl (j := 3) rfl rfl) rfl (fun o51 => s_rd (r_faddr (fo := 0) Tryz.underlying42 rfl rfl Tryz.sizeOf27 rfl) rfl (s_st0 (s_cstore (out := [pv o51.1, pv x39.2.1]) Tryz.sizeOf27 rfl (j := 2) rfl (part_own rfl (j := 3) rfl) rfl rfl rfl) (fun _ => l_nil (n_block (n_then (ref_region (s_rd (r_add rfl rfl) rfl (mv1 rfl rfl (l_nil ?_))))))))))))))
    exact goB (o51, x39.2) (weak [0, 1, 2, 3, 4] ⟨rfl, rfl, rfl, rfl, rfl, rfl, rfl, rfl, trivial⟩ ⟨rfl, rfl, rfl, rfl, rfl, trivial⟩)
   refine ref_region (s_rd (r_faddr (fo := 1) Tryz.underlying42 rfl rfl Tryz.sizeOf27 rfl) rfl (s_rd (r_cload Tryz.isAgg27 rfl (j := 2) rfl rfl) rfl (mv1 rfl rfl (s_st (s_bslice (xs := [.tmp 55]) (ds := [s38.1]) Tryz.underlying27 el_3 rfl (Nat.le_of_ble_eq_true rfl) ⟨(part_at rfl iv_at), trivial⟩) rfl (fun _ => pull fun t52 h_t52 => s_st (s_append h_t52 Tryz.underlying27 el_3 rfl (j := 4) rfl rfl) rfl (fun o53 => s_rd (r_faddr (fo := 1) Tryz.underlying42 rfl rfl Tryz.sizeOf27 rfl) rfl (s_st0 (s_cstore (out := [pv x39.1.1, pv o53.1]) Tryz.sizeOf27 rfl (j := 2) rfl (part_own rfl (j := 4) rfl) rfl rfl rfl) (fun _ => l_nil (n_block (n_then (ref_region (s_rd (r_add rfl rfl) rfl (mv1 rfl rfl (l_nil ?_))))))))))))))
   exact goB (x39.1, o53) (weak [0, 1, 2, 3, 4] ⟨rfl, rfl, rfl, rfl, rfl, rfl, rfl, rfl, trivial⟩ ⟨rfl, rfl, rfl, rfl, rfl, trivial⟩)
  refine ref_exit (x_then ?_)
  exact brkB (x39.1, x39.2) (weak [1, 2, 3, 4] ⟨rfl, rfl, rfl, trivial⟩ ⟨rfl, rfl, rfl, rfl, trivial⟩)
 refine n_then (ref_seq (ref_region (s_rd (r_cloadS Tryz.isAgg42 Tryz.sizeOf42 rfl (j := 1) rfl rfl rfl) rfl (s_st0 (s_cstore (out := [pv y55.1.1, pv y55.2.1]) Tryz.sizeOf42 rfl (j := 0) rfl (part_agO (ψs := [pv y55.1.1, pv y55.2.1]) rfl ⟨.inr ⟨_, _, _, _, _, 2, rfl, rfl⟩, .inr ⟨_, _, _, _, _, 3, rfl, rfl⟩, trivial⟩) rfl rfl rfl) (fun _ => as1 rfl rfl (l_nil (n_then (ref_ret (b_of (frzGL [(60, ag [slv (rI .i64) q54.1, pv y55.2.1])] [(0, b2, [slv (rI .i64) q54.1, pv y55.2.1]), (1, b5, [slv (rI .i64) q54.1, pv y55.2.1])] (j := 2) rfl ⟨⟨_, rfl, .inr ⟨_, _, rfl, rfl, ⟨.inr ⟨rfl, rfl⟩, .inl rfl, trivial⟩⟩⟩, trivial⟩ ⟨⟨_, rfl, ⟨.inr ⟨rfl, rfl⟩, .inl rfl, trivial⟩⟩, ⟨_, rfl, ⟨.inr ⟨rfl, rfl⟩, .inl rfl, trivial⟩⟩, trivial⟩) (b_of (nrm [oc b2 [slv (rI .i64) q54.1, pv y55.2.1], oc b5 [slv (rI .i64) q54.1, pv y55.2.1], dead, oa (rI .i64) y55.2.1 y55.2.2 q54.2] rfl) (b_of (frzGL [(60, ag [slv (rI .i64) q54.1, slv (rI .i64) q54.2])] [(0, b2, [slv (rI .i64) q54.1, slv (rI .i64) q54.2]), (1, b5, [slv (rI .i64) q54.1, slv (rI .i64) q54.2])] (j := 3) rfl ⟨⟨_, rfl, .inr ⟨_, _, rfl, rfl, ⟨.inl rfl, .inr ⟨rfl, rfl⟩, trivial⟩⟩⟩, trivial⟩ ⟨⟨_, rfl, ⟨.inl rfl, .inr ⟨rfl, rfl⟩, trivial⟩⟩, ⟨_, rfl, ⟨.inl rfl, .inr ⟨rfl, rfl⟩, trivial⟩⟩, trivial⟩) (b_of (nrm [oc b2 [slv (rI .i64) q54.1, slv (rI .i64) q54.2], oc b5 [slv (rI .i64) q54.1, slv (rI .i64) q54.2], dead, dead] rfl) ?_))))))))))))
 exact fin2 (.inl rfl) () [] rfl trivial rfl (rv_cell rfl (j := 0) rfl Tryz.isAgg42 Tryz.sizeOf42 rfl rfl) (rv_tmp rfl)

/-! deliberation/precedent.Reasons -/
noncomputable def pc_Reasons_m (l_0 : T_Lib) (facts_1 : (List ByteArray)) : Option (T_For × Int) :=
 Option.bind (pc_forced_m l_0 facts_1) fun t3 =>
 some (t3.1, t3.2)

theorem pc_Reasons_ok {l_0 : T_Lib} {facts_1 : (List ByteArray)} {r : T_For × Int} (hm : pc_Reasons_m l_0 facts_1 = some r) :
  FnOk prog 17 [ag [slv rS l_0.Sides.i0, slv rS l_0.Sides.i1, slv rT_Cas l_0.Cases], slv rS facts_1] [] (fun (x : Unit) => [ag [slv (rI .i64) r.1.For, slv (rI .i64) r.1.Against], iv .i64 r.2]) (fun (x : Unit) => []) := by
 refine fn_ok (fn := Tryz.f17) (N := 11) (res := fun r x => [ag [slv (rI .i64) r.1.For, slv (rI .i64) r.1.Against], iv .i64 r.2]) (Ω1 := fun r x => []) Tryz.func17 rfl rfl hm rfl (fun E hM => ?_)
 unfold pc_Reasons_m
 refine ref_seq (ref_region (s_st (s_box (part_agO (ψs := [slv rS l_0.Sides.i0, slv rS l_0.Sides.i1, slv rT_Cas l_0.Cases]) rfl ⟨.inl slv_at, .inl slv_at, .inl slv_at, trivial⟩)) rfl (fun b1 => s_st (s_alloc zt_42) rfl (fun b2 => as1 rfl rfl (l_nil (n_then (ref_seq (ref_region (s_rd (r_cloadS Tryz.isAgg26 Tryz.sizeOf26 rfl (j := 0) rfl rfl rfl) rfl (mv1 rfl rfl (pull fun t3 h_t3 => s_st (s_call (ψ := fun (_ : Unit) => tup [ag [slv (rI .i64) t3.1.For, slv (rI .i64) t3.1.Against], iv .i64 t3.2]) (args := [.tmp 6, .tmp 7, .func 53]) Tryz.call50 rfl (pc_forced_ok h_t3) ⟨arg rfl, arg rfl, arg rfl, trivial⟩ (fun _ _ _ _ h => h)) rfl (fun _ => s_rd (r_extract rfl rfl) rfl (s_rd (r_extract rfl rfl) rfl (s_st0 (s_cstore (out := [slv (rI .i64) t3.1.For, slv (rI .i64) t3.1.Against]) Tryz.sizeOf42 rfl (j := 1) rfl (part_agO (ψs := [slv (rI .i64) t3.1.For, slv (rI .i64) t3.1.Against]) rfl ⟨.inl slv_at, .inl slv_at, trivial⟩) rfl rfl rfl) (fun _ => as1 rfl rfl (l_nil (b_of (nrm [oc b1 [slv rS l_0.Sides.i0, slv rS l_0.Sides.i1, slv rT_Cas l_0.Cases], oc b2 [slv (rI .i64) t3.1.For, slv (rI .i64) t3.1.Against]] rfl) (n_then (ref_ret ?_)))))))))))))))))))
 exact fin2 (.inl rfl) () [] rfl trivial rfl (rv_cell rfl (j := 1) rfl Tryz.isAgg42 Tryz.sizeOf42 rfl rfl) (rv_tmp rfl)

/-! deliberation/precedent.Strong$1 -/
noncomputable def pc_Strong_1_m (c_0 : T_Cas) (p_1 : T_Lib) : Option (List ByteArray) :=
 Option.bind (pc_own_m p_1 c_0.Facts c_0.Winner) fun t2 =>
 some t2

theorem pc_Strong_1_ok {c_0 : T_Cas} {p_1 : T_Lib} {b_1 : Nat} {r : List ByteArray} (hm : pc_Strong_1_m c_0 p_1 = some r) :
  FnOk prog 51 [ag [sv c_0.Name, slv rS c_0.Facts, iv .i64 c_0.Winner, slv rS c_0.Reason], pv (ptr b_1 0)] [oc b_1 [slv rS p_1.Sides.i0, slv rS p_1.Sides.i1, slv rT_Cas p_1.Cases]] (fun (x : (Value × List Nat)) => [pv x.1]) (fun (x : (Value × List Nat)) => [oc b_1 [slv rS p_1.Sides.i0, slv rS p_1.Sides.i1, slv rT_Cas p_1.Cases], oa rS x.1 x.2 r]) := by
 refine fn_ok (X := (Value × List Nat)) (fn := Tryz.f51) (N := 10) (res := fun r x => [pv x.1]) (Ω1 := fun r x => [oc b_1 [slv rS p_1.Sides.i0, slv rS p_1.Sides.i1, slv rT_Cas p_1.Cases], oa rS x.1 x.2 r]) Tryz.func51 rfl rfl hm rfl (fun E hM => ?_)
 unfold pc_Strong_1_m
 refine ref_seq (ref_region (s_st (s_box (part_agO (ψs := [sv c_0.Name, slv rS c_0.Facts, iv .i64 c_0.Winner, slv rS c_0.Reason]) rfl ⟨.inl sv_at, .inl slv_at, .inl iv_at, .inl slv_at, trivial⟩)) rfl (fun b1 => as1 rfl rfl (l_nil (n_then (ref_seq (ref_region (s_rd (r_cloadS Tryz.isAgg26 Tryz.sizeOf26 rfl (j := 0) rfl rfl rfl) rfl (s_rd (r_faddr (fo := 1) Tryz.underlying60 rfl rfl Tryz.sizeOf22 rfl) rfl (s_rd (r_cload Tryz.isAgg22 rfl (j := 1) rfl rfl) rfl (s_rd (r_faddr (fo := 2) Tryz.underlying60 rfl rfl Tryz.sizeOf3 rfl) rfl (s_rd (r_cload Tryz.isAgg3 rfl (j := 1) rfl rfl) rfl (pull fun t2 h_t2 => s_st (s_call (ψ := fun (x3 : (Value × List Nat)) => pv x3.1) (args := [.tmp 4, .tmp 6, .tmp 8]) Tryz.call45 rfl (pc_own_ok h_t2) ⟨arg rfl, arg rfl, arg rfl, trivial⟩ (fun _ _ _ _ h => h)) rfl (fun x3 => as1 rfl rfl (l_nil (n_then (ref_ret ?_)))))))))))))))))
 exact fin1 (.inl rfl) x3 [0, 2] rfl ⟨rfl, rfl, trivial⟩ rfl (rv_tmp rfl)

/-! deliberation/precedent.forced -/
noncomputable def pc_forced_1_l1 (l_0 : T_Lib) (facts_1 : (List ByteArray)) (e_0 : T_Lib) (s40 : Int × (List Int) × (List Int)) : Option (Sum ((List Int) × (List Int)) (Int × (List Int) × (List Int))) :=
 bif decide (s40.1 < (l_0.Cases.length : Int)) then
  Option.bind (idxM l_0.Cases s40.1) fun t43 =>
  Option.bind (pc_Strong_1_m t43 e_0) fun t45 =>
  Option.bind (pc_within_m t45 facts_1) fun t47 =>
  bif !t47 then
   some (Sum.inr (iadd .i64 s40.1 1, s40.2.1, s40.2.2))
  else
   Option.bind (pc_counter_m l_0 facts_1 t43.Winner) fun t48 =>
   Option.bind (pc_within_m t48 t43.Facts) fun t50 =>
   bif !t50 then
    some (Sum.inr (iadd .i64 s40.1 1, s40.2.1, s40.2.2))
   else
    bif t43.Winner == 1 then
     Option.bind (appM 8 s40.2.1 [s40.1]) fun t53 =>
     some (Sum.inr (iadd .i64 s40.1 1, t53, s40.2.2))
    else
     Option.bind (appM 8 s40.2.2 [s40.1]) fun t55 =>
     some (Sum.inr (iadd .i64 s40.1 1, s40.2.1, t55))
 else
  some (Sum.inl (s40.2.1, s40.2.2))

noncomputable def pc_forced_1_m (l_0 : T_Lib) (facts_1 : (List ByteArray)) (e_0 : T_Lib) : Option (T_For × Int) :=
 Option.bind (pc_situation_m l_0 facts_1) fun e3 =>
 bif e3 != 0 then
  some ((T_For.mk [] []), e3)
 else
  Option.bind (loopC (pc_forced_1_l1 l_0 facts_1 e_0) (0, [], [])) fun q57 : (List Int) × (List Int) =>
  some ((T_For.mk q57.1 q57.2), 0)

theorem pc_forced_1_ok {l_0 : T_Lib} {facts_1 : (List ByteArray)} {e_0 : T_Lib} {be_0 : Nat} {r : T_For × Int} (hm : pc_forced_1_m l_0 facts_1 e_0 = some r) :
  FnOk prog 50 [ag [slv rS l_0.Sides.i0, slv rS l_0.Sides.i1, slv rT_Cas l_0.Cases], slv rS facts_1, pv (.func (.func 51) #[] #[(ptr be_0 0)])] [oc be_0 [slv rS e_0.Sides.i0, slv rS e_0.Sides.i1, slv rT_Cas e_0.Cases]] (fun (x : Unit) => [ag [slv (rI .i64) r.1.For, slv (rI .i64) r.1.Against], iv .i64 r.2]) (fun (x : Unit) => [oc be_0 [slv rS e_0.Sides.i0, slv rS e_0.Sides.i1, slv rT_Cas e_0.Cases]]) := by
 refine fn_ok (fn := Tryz.f50) (N := 61) (res := fun r x => [ag [slv (rI .i64) r.1.For, slv (rI .i64) r.1.Against], iv .i64 r.2]) (Ω1 := fun r x => [oc be_0 [slv rS e_0.Sides.i0, slv rS e_0.Sides.i1, slv rT_Cas e_0.Cases]]) Tryz.func50 rfl rfl hm rfl (fun E hM => ?_)
 unfold pc_forced_1_m
 refine ref_seq (ref_region (s_st (s_box (part_agO (ψs := [slv rS l_0.Sides.i0, slv rS l_0.Sides.i1, slv rT_Cas l_0.Cases]) rfl ⟨.inl slv_at, .inl slv_at, .inl slv_at, trivial⟩)) rfl (fun b1 => s_st (s_alloc zt_42) rfl (fun b2 => as1 rfl rfl (l_nil (n_then (ref_seq (ref_seq (ref_region (s_rd (r_cloadS Tryz.isAgg26 Tryz.sizeOf26 rfl (j := 1) rfl rfl rfl) rfl (mv1 rfl rfl (pull fun e3 h_e3 => s_st (s_call (ψ := fun (_ : Unit) => iv .i64 e3) (args := [.tmp 12, .tmp 13]) Tryz.call62 rfl (pc_situation_ok h_e3) ⟨arg rfl, arg rfl, trivial⟩ (fun _ _ _ _ h => h)) rfl (fun _ => as1 rfl rfl (l_nil (n_then (ref_seq (ref_region (mv1 rfl rfl (s_rd (r_neq rfl rfl) rfl (l_nil (n_then ?_)))))))))))))))))))))
 refine ref_cond rfl (fun hb4 => ?_) (fun hb4 => ?_)
 ·refine ref_seq (ref_region (s_rd (r_build (ps := []) (rs := []) st_42 zs_42 trivial rfl rfl) rfl (mv1 rfl rfl (s_st0 (s_cstore (out := [pv (.slice none 0 0), pv (.slice none 0 0)]) Tryz.sizeOf42 rfl (j := 2) rfl (part_agO (ψs := [pv (.slice none 0 0), pv (.slice none 0 0)]) rfl ⟨.inl (pv_at rfl), .inl (pv_at rfl), trivial⟩) rfl rfl rfl) (fun _ => as1 rfl rfl (l_nil (b_of (nrm [oc be_0 [slv rS e_0.Sides.i0, slv rS e_0.Sides.i1, slv rT_Cas e_0.Cases], oc b1 [slv rS l_0.Sides.i0, slv rS l_0.Sides.i1, slv rT_Cas l_0.Cases], oc b2 [pv (.slice none 0 0), pv (.slice none 0 0)]] rfl) (n_then (ref_ret (r_then (b_of (ocW 2 [slv (rI .i64) [], slv (rI .i64) []] rfl ⟨nil_sl, nil_sl, trivial⟩) ?_)))))))))))
  exact fin2 (.inl rfl) () [0] rfl ⟨rfl, trivial⟩ rfl (rv_cell rfl (j := 2) rfl Tryz.isAgg42 Tryz.sizeOf42 rfl rfl) (rv_tmp rfl)
 refine ref_skip (n_then (ref_seq (ref_region (s_st (s_alloc zt_42) rfl (fun b5 => l_nil (b_of (nrm [oc be_0 [slv rS e_0.Sides.i0, slv rS e_0.Sides.i1, slv rT_Cas e_0.Cases], oc b1 [slv rS l_0.Sides.i0, slv rS l_0.Sides.i1, slv rT_Cas l_0.Cases], oc b2 [pv (.slice none 0 0), pv (.slice none 0 0)], oc b5 [pv (.slice none 0 0), pv (.slice none 0 0)]] rfl) (n_then (ref_seq (ref_seq (ref_region (s_rd (r_faddr (fo := 2) Tryz.underlying26 rfl rfl Tryz.sizeOf24 rfl) rfl (s_rd (r_cload Tryz.isAgg24 rfl (j := 1) rfl rfl) rfl (s_rd (r_len Tryz.underlying24 rfl) rfl (mv1 rfl rfl (l_nil (n_then (b_of (own_nil (rI .i64)) (b_of (own_nil (rI .i64)) ?_))))))))))))))))))
 refine ref_loopB (f := (pc_forced_1_l1 l_0 facts_1 e_0)) (Γl := (fun (s40 : Int × (List Int) × (List Int)) (x41 : (Value × List Nat) × (Value × List Nat)) => [(1, slv rS facts_1), (2, pv (.func (.func 51) #[] #[(ptr be_0 0)])), (3, pv (ptr b1 0)), (6, pv (ptr b2 0)), (9, pv (ptr b5 0)), (20, slv rT_Cas l_0.Cases), (21, iv .i64 (l_0.Cases.length : Int)), (22, iv .i64 s40.1)])) (Ωl := (fun (s40 : Int × (List Int) × (List Int)) (x41 : (Value × List Nat) × (Value × List Nat)) => [oc be_0 [slv rS e_0.Sides.i0, slv rS e_0.Sides.i1, slv rT_Cas e_0.Cases], oc b1 [slv rS l_0.Sides.i0, slv rS l_0.Sides.i1, slv rT_Cas l_0.Cases], oc b2 [pv (.slice none 0 0), pv (.slice none 0 0)], oc b5 [pv x41.1.1, pv x41.2.1], oa (rI .i64) x41.1.1 x41.1.2 s40.2.1, oa (rI .i64) x41.2.1 x41.2.2 s40.2.2])) (Γb := (fun (q57 : (List Int) × (List Int)) (y58 : (Value × List Nat) × (Value × List Nat)) => [(2, pv (.func (.func 51) #[] #[(ptr be_0 0)])), (6, pv (ptr b2 0)), (9, pv (ptr b5 0))])) (Ωb := (fun (q57 : (List Int) × (List Int)) (y58 : (Value × List Nat) × (Value × List Nat)) => [oc be_0 [slv rS e_0.Sides.i0, slv rS e_0.Sides.i1, slv rT_Cas e_0.Cases], oc b2 [pv (.slice none 0 0), pv (.slice none 0 0)], oc b5 [pv y58.1.1, pv y58.2.1], oa (rI .i64) y58.1.1 y58.1.2 q57.1, oa (rI .i64) y58.2.1 y58.2.2 q57.2])) (0, [], []) (((.slice none 0 0), []), ((.slice none 0 0), [])) (weak [0, 1, 2, 3, 4, 5] ⟨rfl, rfl, rfl, rfl, rfl, rfl, rfl, rfl, trivial⟩ ⟨rfl, rfl, rfl, rfl, rfl, rfl, trivial⟩) (fun s40 x41 => ?_) (fun q57 y58 => ?_)
 ·unfold pc_forced_1_l1
  refine ref_seq (ref_region (s_rd (r_lss rfl rfl) rfl (l_nil (n_then (ref_seq ?_)))))
  refine ref_cond rfl (fun hb42 => ?_) (fun hb42 => ?_)
  ·refine ref_skip (n_then (ref_seq (ref_block (ref_seq (ref_region (mv1 rfl rfl (pull fun t43 h_t43 => s_rd (r_index h_t43 Tryz.underlying24 el_60 rfl rfl) rfl (s_rd (r_load el_60 rfl) rfl (s_st (s_alloc zt_60) rfl (fun b44 => as1 rfl rfl (s_st0 (s_cstore (out := [sv t43.Name, slv rS t43.Facts, iv .i64 t43.Winner, slv rS t43.Reason]) Tryz.sizeOf60 rfl (j := 6) rfl (part_agO (ψs := [sv t43.Name, slv rS t43.Facts, iv .i64 t43.Winner, slv rS t43.Reason]) rfl ⟨.inl sv_at, .inl slv_at, .inl iv_at, .inl slv_at, trivial⟩) rfl rfl rfl) (fun _ => l_nil (n_then (ref_seq (ref_seq ?_)))))))))))))))
   refine ref_draw [0, 1, 3, 5, 6, 7, 8, 9, 10, 12, 13, 15, 16] rfl (by kernel_rfl) (fun hok => ?_)
   refine a_rd (i := 0) hok rfl (by kernel_rfl) rfl (r_move rfl) rfl ?_
   refine a_rd (i := 1) hok rfl (by kernel_rfl) rfl (r_cloadS Tryz.isAgg60 Tryz.sizeOf60 rfl (j := 6) rfl rfl rfl) rfl ?_
   refine a_rd (i := 3) hok rfl (by kernel_rfl) rfl (r_move rfl) rfl ?_
   refine pull fun t45 h_t45 => ?_
   refine a_next hok 2 [] (by kernel_rfl) ?_ trivial
   refine a_st (i := 2) hok rfl rfl (s_callC [0] [true] (fun (x46 : (Value × List Nat)) => [oc be_0 [slv rS e_0.Sides.i0, slv rS e_0.Sides.i1, slv rT_Cas e_0.Cases]]) (fun (x46 : (Value × List Nat)) => [oa rS x46.1 x46.2 t45]) (fun (x46 : (Value × List Nat)) => pv x46.1) (args := [.tmp 28]) (caps := [(ptr be_0 0)]) Tryz.call51 rfl (pc_Strong_1_ok h_t45) ⟨rfl, rfl, trivial⟩ (fun _ => rfl) (fun _ => trivial) (fun _ => rfl) ⟨arg rfl, arg rfl, trivial⟩ (fun _ _ _ _ h => h)) (by intro _ h; cases h; rfl) (fun _ => ⟨trivial, ⟨trivial, ⟨trivial, trivial⟩⟩⟩) (fun x46 => ?_)
   refine pull fun t47 h_t47 => ?_
   refine a_next hok 4 [] (by kernel_rfl) ?_ trivial
   refine a_st (i := 4) hok rfl rfl (s_callB (ψ := fun (_ : Unit) => bv t47) (args := [.tmp 29, .tmp 30]) Tryz.call43 rfl (pc_within_ok h_t47) ⟨argO rfl (j := 7) rfl, argB rfl, trivial⟩ (fun _ _ _ _ _ h => h)) (by intro _ h; cases h; rfl) (fun _ => ⟨trivial, ⟨⟨⟨rfl, rfl⟩, trivial⟩, ⟨trivial, trivial⟩⟩⟩) (fun _ => ?_)
   refine a_rd (i := 5) hok rfl (by kernel_rfl) rfl (r_not rfl) rfl ?_
   refine a_rd (i := 6) hok rfl (by kernel_rfl) rfl (r_move rfl) rfl ?_
   refine b_split (t := 33) rfl (fun _ => ?_) (fun _ => ?_)
   ·refine a_off (i := 7) hok rfl rfl rfl rfl rfl (by kernel_rfl) rfl rfl ?_
    refine a_off (i := 8) hok rfl rfl rfl rfl rfl (by kernel_rfl) rfl rfl ?_
    refine a_off (i := 9) hok rfl rfl rfl rfl rfl (by kernel_rfl) rfl rfl ?_
    refine a_off (i := 10) hok rfl rfl rfl rfl rfl (by kernel_rfl) rfl rfl ?_
    refine a_off (i := 12) hok rfl rfl rfl rfl rfl (by kernel_rfl) rfl rfl ?_
    refine a_off (i := 13) hok rfl rfl rfl rfl rfl (by kernel_rfl) rfl rfl ?_
    refine a_next hok 11 [] (by kernel_rfl) ?_ trivial
    refine a_stOff (i := 11) hok rfl rfl rfl rfl rfl rfl (by intro _ h; cases h; rfl) ⟨trivial, ⟨trivial, ⟨trivial, ⟨trivial, ⟨trivial, ⟨trivial, ⟨trivial, ⟨trivial, ⟨trivial, ⟨⟨⟨rfl, rfl⟩, trivial⟩, ⟨trivial, trivial⟩⟩⟩⟩⟩⟩⟩⟩⟩⟩⟩ ?_
    refine a_next hok 14 [] (by kernel_rfl) ?_ trivial
    refine a_stOff (i := 14) hok rfl rfl rfl rfl rfl rfl (by intro _ h; cases h; rfl) ⟨trivial, ⟨trivial, ⟨trivial, ⟨trivial, ⟨trivial, ⟨trivial, ⟨trivial, ⟨trivial, ⟨trivial, ⟨⟨⟨rfl, rfl⟩, trivial⟩, ⟨trivial, trivial⟩⟩⟩⟩⟩⟩⟩⟩⟩⟩⟩ ?_
    refine a_off (i := 15) hok rfl rfl rfl rfl rfl (by kernel_rfl) rfl rfl ?_
    refine a_rd (i := 16) hok rfl (by kernel_rfl) rfl (r_pickT rfl rfl) rfl ?_
    refine a_fin hok (by kernel_rfl) ?_
    refine b_of (nrm [oc be_0 [slv rS e_0.Sides.i0, slv rS e_0.Sides.i1, slv rT_Cas e_0.Cases], oc b1 [slv rS l_0.Sides.i0, slv rS l_0.Sides.i1, slv rT_Cas l_0.Cases], oc b2 [pv (.slice none 0 0), pv (.slice none 0 0)], oc b5 [pv x41.1.1, pv x41.2.1], oa (rI .i64) x41.1.1 x41.1.2 s40.2.1, oa (rI .i64) x41.2.1 x41.2.2 s40.2.2, oc b44 [sv t43.Name, slv rS t43.Facts, iv .i64 t43.Winner, slv rS t43.Reason], oa rS x46.1 x46.2 t45] rfl) (n_then (ref_condT rfl rfl (ref_exit (x_then (x_eq (n_then (ref_region (s_rd (r_add rfl rfl) rfl (mv1 rfl rfl (l_nil ?_))))))))))
    exact goB (x41.1, x41.2) (weak [0, 1, 2, 3, 4, 5] ⟨rfl, rfl, rfl, rfl, rfl, rfl, rfl, rfl, trivial⟩ ⟨rfl, rfl, rfl, rfl, rfl, rfl, trivial⟩)
   refine a_rdOn (i := 7) hok rfl rfl rfl rfl (by kernel_rfl) rfl (r_cloadS Tryz.isAgg26 Tryz.sizeOf26 rfl (j := 1) rfl rfl rfl) rfl ?_
   refine a_rdOn (i := 8) hok rfl rfl rfl rfl (by kernel_rfl) rfl (r_move rfl) rfl ?_
   refine a_rdOn (i := 9) hok rfl rfl rfl rfl (by kernel_rfl) rfl (r_faddr (fo := 2) Tryz.underlying60 rfl rfl Tryz.sizeOf3 rfl) rfl ?_
   refine a_rdOn (i := 10) hok rfl rfl rfl rfl (by kernel_rfl) rfl (r_cload Tryz.isAgg3 rfl (j := 6) rfl rfl) rfl ?_
   refine a_rdOn (i := 12) hok rfl rfl rfl rfl (by kernel_rfl) rfl (r_faddr (fo := 1) Tryz.underlying60 rfl rfl Tryz.sizeOf22 rfl) rfl ?_
   refine a_rdOn (i := 13) hok rfl rfl rfl rfl (by kernel_rfl) rfl (r_cload Tryz.isAgg22 rfl (j := 6) rfl rfl) rfl ?_
   refine pull fun t48 h_t48 => ?_
   refine a_next hok 11 [] (by kernel_rfl) ?_ trivial
   refine a_stOn (i := 11) hok rfl rfl rfl rfl rfl (s_call (ψ := fun (x49 : (Value × List Nat)) => pv x49.1) (args := [.tmp 34, .tmp 35, .tmp 37]) Tryz.call59 rfl (pc_counter_ok h_t48) ⟨arg rfl, arg rfl, arg rfl, trivial⟩ (fun _ _ _ _ h => h)) (by intro _ h; cases h; rfl) (fun _ => ⟨⟨⟨rfl, rfl⟩, trivial⟩, ⟨trivial, ⟨trivial, ⟨trivial, ⟨trivial, ⟨trivial, ⟨trivial, ⟨trivial, ⟨trivial, ⟨⟨⟨rfl, rfl⟩, trivial⟩, ⟨trivial, trivial⟩⟩⟩⟩⟩⟩⟩⟩⟩⟩⟩) (fun x49 => ?_)
   refine pull fun t50 h_t50 => ?_
   refine a_next hok 14 [] (by kernel_rfl) ?_ trivial
   refine a_stOn (i := 14) hok rfl rfl rfl rfl rfl (s_callB (ψ := fun (_ : Unit) => bv t50) (args := [.tmp 38, .tmp 40]) Tryz.call43 rfl (pc_within_ok h_t50) ⟨argO rfl (j := 8) rfl, argB rfl, trivial⟩ (fun _ _ _ _ _ h => h)) (by intro _ h; cases h; rfl) (fun _ => ⟨trivial, ⟨trivial, ⟨⟨⟨rfl, rfl⟩, trivial⟩, ⟨trivial, ⟨trivial, ⟨⟨⟨rfl, rfl⟩, trivial⟩, ⟨trivial, ⟨trivial, ⟨trivial, ⟨⟨⟨rfl, rfl⟩, trivial⟩, ⟨trivial, trivial⟩⟩⟩⟩⟩⟩⟩⟩⟩⟩⟩) (fun _ => ?_)
   refine a_rdOn (i := 15) hok rfl rfl rfl rfl (by kernel_rfl) rfl (r_not rfl) rfl ?_
   refine a_rd (i := 16) hok rfl (by kernel_rfl) rfl (r_pickF rfl rfl) rfl ?_
   refine a_fin hok (by kernel_rfl) ?_
   refine b_of (nrm [oc be_0 [slv rS e_0.Sides.i0, slv rS e_0.Sides.i1, slv rT_Cas e_0.Cases], oc b1 [slv rS l_0.Sides.i0, slv rS l_0.Sides.i1, slv rT_Cas l_0.Cases], oc b2 [pv (.slice none 0 0), pv (.slice none 0 0)], oc b5 [pv x41.1.1, pv x41.2.1], oa (rI .i64) x41.1.1 x41.1.2 s40.2.1, oa (rI .i64) x41.2.1 x41.2.2 s40.2.2, oc b44 [sv t43.Name, slv rS t43.Facts, iv .i64 t43.Winner, slv rS t43.Reason], oa rS x46.1 x46.2 t45, oa rS x49.1 x49.2 t48] rfl) (n_then ?_)
   refine ref_cond rfl (fun hb51 => ?_) (fun hb51 => ?_)
   ·refine ref_exit (x_then (x_eq (n_then (ref_region (s_rd (r_add rfl rfl) rfl (mv1 rfl rfl (l_nil ?_)))))))
    exact goB (x41.1, x41.2) (weak [0, 1, 2, 3, 4, 5] ⟨rfl, rfl, rfl, rfl, rfl, rfl, rfl, rfl, trivial⟩ ⟨rfl, rfl, rfl, rfl, rfl, rfl, trivial⟩)
   refine ref_skip (n_then (ref_seq (ref_region (s_rd (r_faddr (fo := 2) Tryz.underlying60 rfl rfl Tryz.sizeOf3 rfl) rfl (s_rd (r_cload Tryz.isAgg3 rfl (j := 6) rfl rfl) rfl (s_rd (r_eql rfl rfl) rfl (l_nil (n_then ?_))))))))
   refine ref_cond rfl (fun hb52 => ?_) (fun hb52 => ?_)
   ·refine ref_region (s_rd (r_faddr (fo := 0) Tryz.underlying42 rfl rfl Tryz.sizeOf27 rfl) rfl (s_rd (r_cload Tryz.isAgg27 rfl (j := 3) rfl rfl) rfl (mv1 rfl rfl (s_st (s_bslice (xs := [.tmp 49]) (ds := [s40.1]) Tryz.underlying27 el_3 rfl (Nat.le_of_ble_eq_true rfl) ⟨(part_at rfl iv_at), trivial⟩) rfl (fun _ => pull fun t53 h_t53 => s_st (s_append h_t53 Tryz.underlying27 el_3 rfl (j := 4) rfl rfl) rfl (fun o54 => s_rd (r_faddr (fo := 0) Tryz.underlying42 rfl rfl Tryz.sizeOf27 rfl) rfl (s_st0 (s_cstore (out := [pv o54.1, pv x41.2.1]) Tryz.sizeOf27 rfl (j := 3) rfl (part_own rfl (j := 4) rfl) rfl rfl rfl) (fun _ => l_nil (n_block (n_then (ref_region (s_rd (r_add rfl rfl) rfl (mv1 rfl rfl (l_nil ?_))))))))))))))
    exact goB (o54, x41.2) (weak [0, 1, 2, 3, 4, 5] ⟨rfl, rfl, rfl, rfl, rfl, rfl, rfl, rfl, trivial⟩ ⟨rfl, rfl, rfl, rfl, rfl, rfl, trivial⟩)
   refine ref_region (s_rd (r_faddr (fo := 1) Tryz.underlying42 rfl rfl Tryz.sizeOf27 rfl) rfl (s_rd (r_cload Tryz.isAgg27 rfl (j := 3) rfl rfl) rfl (mv1 rfl rfl (s_st (s_bslice (xs := [.tmp 55]) (ds := [s40.1]) Tryz.underlying27 el_3 rfl (Nat.le_of_ble_eq_true rfl) ⟨(part_at rfl iv_at), trivial⟩) rfl (fun _ => pull fun t55 h_t55 => s_st (s_append h_t55 Tryz.underlying27 el_3 rfl (j := 5) rfl rfl) rfl (fun o56 => s_rd (r_faddr (fo := 1) Tryz.underlying42 rfl rfl Tryz.sizeOf27 rfl) rfl (s_st0 (s_cstore (out := [pv x41.1.1, pv o56.1]) Tryz.sizeOf27 rfl (j := 3) rfl (part_own rfl (j := 5) rfl) rfl rfl rfl) (fun _ => l_nil (n_block (n_then (ref_region (s_rd (r_add rfl rfl) rfl (mv1 rfl rfl (l_nil ?_))))))))))))))
   exact goB (x41.1, o56) (weak [0, 1, 2, 3, 4, 5] ⟨rfl, rfl, rfl, rfl, rfl, rfl, rfl, rfl, trivial⟩ ⟨rfl, rfl, rfl, rfl, rfl, rfl, trivial⟩)
  refine ref_exit (x_then ?_)
  exact brkB (x41.1, x41.2) (weak [0, 2, 3, 4, 5] ⟨rfl, rfl, rfl, trivial⟩ ⟨rfl, rfl, rfl, rfl, rfl, trivial⟩)
 refine n_then (ref_seq (ref_region (s_rd (r_cloadS Tryz.isAgg42 Tryz.sizeOf42 rfl (j := 2) rfl rfl rfl) rfl (s_st0 (s_cstore (out := [pv y58.1.1, pv y58.2.1]) Tryz.sizeOf42 rfl (j := 1) rfl (part_agO (ψs := [pv y58.1.1, pv y58.2.1]) rfl ⟨.inr ⟨_, _, _, _, _, 3, rfl, rfl⟩, .inr ⟨_, _, _, _, _, 4, rfl, rfl⟩, trivial⟩) rfl rfl rfl) (fun _ => as1 rfl rfl (l_nil (n_then (ref_ret (b_of (frzGL [(60, ag [slv (rI .i64) q57.1, pv y58.2.1])] [(1, b2, [slv (rI .i64) q57.1, pv y58.2.1]), (2, b5, [slv (rI .i64) q57.1, pv y58.2.1])] (j := 3) rfl ⟨⟨_, rfl, .inr ⟨_, _, rfl, rfl, ⟨.inr ⟨rfl, rfl⟩, .inl rfl, trivial⟩⟩⟩, trivial⟩ ⟨⟨_, rfl, ⟨.inr ⟨rfl, rfl⟩, .inl rfl, trivial⟩⟩, ⟨_, rfl, ⟨.inr ⟨rfl, rfl⟩, .inl rfl, trivial⟩⟩, trivial⟩) (b_of (nrm [oc be_0 [slv rS e_0.Sides.i0, slv rS e_0.Sides.i1, slv rT_Cas e_0.Cases], oc b2 [slv (rI .i64) q57.1, pv y58.2.1], oc b5 [slv (rI .i64) q57.1, pv y58.2.1], dead, oa (rI .i64) y58.2.1 y58.2.2 q57.2] rfl) (b_of (frzGL [(60, ag [slv (rI .i64) q57.1, slv (rI .i64) q57.2])] [(1, b2, [slv (rI .i64) q57.1, slv (rI .i64) q57.2]), (2, b5, [slv (rI .i64) q57.1, slv (rI .i64) q57.2])] (j := 4) rfl ⟨⟨_, rfl, .inr ⟨_, _, rfl, rfl, ⟨.inl rfl, .inr ⟨rfl, rfl⟩, trivial⟩⟩⟩, trivial⟩ ⟨⟨_, rfl, ⟨.inl rfl, .inr ⟨rfl, rfl⟩, trivial⟩⟩, ⟨_, rfl, ⟨.inl rfl, .inr ⟨rfl, rfl⟩, trivial⟩⟩, trivial⟩) (b_of (nrm [oc be_0 [slv rS e_0.Sides.i0, slv rS e_0.Sides.i1, slv rT_Cas e_0.Cases], oc b2 [slv (rI .i64) q57.1, slv (rI .i64) q57.2], oc b5 [slv (rI .i64) q57.1, slv (rI .i64) q57.2], dead, dead] rfl) ?_))))))))))))
 exact fin2 (.inl rfl) () [0] rfl ⟨rfl, trivial⟩ rfl (rv_cell rfl (j := 1) rfl Tryz.isAgg42 Tryz.sizeOf42 rfl rfl) (rv_tmp rfl)

/-! deliberation/precedent.Strong -/
noncomputable def pc_Strong_m (l_0 : T_Lib) (facts_1 : (List ByteArray)) : Option (T_For × Int) :=
 Option.bind (pc_forced_1_m l_0 facts_1 l_0) fun t3 =>
 some (t3.1, t3.2)

theorem pc_Strong_ok {l_0 : T_Lib} {facts_1 : (List ByteArray)} {r : T_For × Int} (hm : pc_Strong_m l_0 facts_1 = some r) :
  FnOk prog 14 [ag [slv rS l_0.Sides.i0, slv rS l_0.Sides.i1, slv rT_Cas l_0.Cases], slv rS facts_1] [] (fun (x : Unit) => [ag [slv (rI .i64) r.1.For, slv (rI .i64) r.1.Against], iv .i64 r.2]) (fun (x : Unit) => []) := by
 refine fn_ok (fn := Tryz.f14) (N := 12) (res := fun r x => [ag [slv (rI .i64) r.1.For, slv (rI .i64) r.1.Against], iv .i64 r.2]) (Ω1 := fun r x => []) Tryz.func14 rfl rfl hm rfl (fun E hM => ?_)
 unfold pc_Strong_m
 refine ref_seq (ref_region (s_st (s_box (part_agO (ψs := [slv rS l_0.Sides.i0, slv rS l_0.Sides.i1, slv rT_Cas l_0.Cases]) rfl ⟨.inl slv_at, .inl slv_at, .inl slv_at, trivial⟩)) rfl (fun b1 => s_st (s_alloc zt_42) rfl (fun b2 => as1 rfl rfl (l_nil (n_then (ref_seq (ref_region (s_rd (r_cloadS Tryz.isAgg26 Tryz.sizeOf26 rfl (j := 0) rfl rfl rfl) rfl (mv1 rfl rfl (s_rd (r_mkfn (xs := [.tmp 2]) (vs := [(ptr b1 0)]) ⟨rfl, trivial⟩) rfl (pull fun t3 h_t3 => s_st (s_callC [0] [true] (fun (_ : Unit) => [oc b1 [slv rS l_0.Sides.i0, slv rS l_0.Sides.i1, slv rT_Cas l_0.Cases]]) (fun (_ : Unit) => []) (fun (_ : Unit) => tup [ag [slv (rI .i64) t3.1.For, slv (rI .i64) t3.1.Against], iv .i64 t3.2]) (args := [.tmp 6, .tmp 7, .tmp 8]) (caps := []) Tryz.call50 rfl (pc_forced_1_ok h_t3) ⟨rfl, rfl, trivial⟩ (fun _ => rfl) (fun _ => trivial) (fun _ => rfl) ⟨arg rfl, arg rfl, arg rfl, trivial⟩ (fun _ _ _ _ h => h)) rfl (fun _ => s_rd (r_extract rfl rfl) rfl (s_rd (r_extract rfl rfl) rfl (s_st0 (s_cstore (out := [slv (rI .i64) t3.1.For, slv (rI .i64) t3.1.Against]) Tryz.sizeOf42 rfl (j := 1) rfl (part_agO (ψs := [slv (rI .i64) t3.1.For, slv (rI .i64) t3.1.Against]) rfl ⟨.inl slv_at, .inl slv_at, trivial⟩) rfl rfl rfl) (fun _ => as1 rfl rfl (l_nil (b_of (nrm [oc b1 [slv rS l_0.Sides.i0, slv rS l_0.Sides.i1, slv rT_Cas l_0.Cases], oc b2 [slv (rI .i64) t3.1.For, slv (rI .i64) t3.1.Against]] rfl) (n_then (ref_ret ?_))))))))))))))))))))
 exact fin2 (.inl rfl) () [] rfl trivial rfl (rv_cell rfl (j := 1) rfl Tryz.isAgg42 Tryz.sizeOf42 rfl rfl) (rv_tmp rfl)

/-! deliberation/precedent.Distinguish$1 -/
noncomputable def pc_Distinguish_1_m (s_0 : ByteArray) (p_1 : (List ByteArray)) : Option (Bool) :=
 Option.bind (sC_S_m p_1 s_0) fun t1 =>
 some t1

theorem pc_Distinguish_1_ok {s_0 : ByteArray} {p_1 : (List ByteArray)} {b_1 : Nat} {r : Bool} (hm : pc_Distinguish_1_m s_0 p_1 = some r) :
  FnOk prog 58 [sv s_0, pv (ptr b_1 0)] [oc b_1 [slv rS p_1]] (fun (x : Unit) => [bv r]) (fun (x : Unit) => [oc b_1 [slv rS p_1]]) := by
 refine fn_ok (fn := Tryz.f58) (N := 7) (res := fun r x => [bv r]) (Ω1 := fun r x => [oc b_1 [slv rS p_1]]) Tryz.func58 rfl rfl hm rfl (fun E hM => ?_)
 unfold pc_Distinguish_1_m
 refine ref_seq (ref_region (as1 rfl rfl (l_nil (n_then (ref_seq (ref_region (s_rd (r_cload Tryz.isAgg22 rfl (j := 0) rfl rfl) rfl (mv1 rfl rfl (pull fun t1 h_t1 => s_st (s_call (ψ := fun (_ : Unit) => bv t1) (args := [.tmp 4, .tmp 5]) Tryz.call40 rfl (sC_S_ok h_t1) ⟨arg rfl, arg rfl, trivial⟩ (fun _ _ _ _ h => h)) rfl (fun _ => as1 rfl rfl (l_nil (n_then (ref_ret ?_)))))))))))))
 exact fin1 (.inl rfl) () [0] rfl ⟨rfl, trivial⟩ rfl (rv_tmp rfl)

/-! slices.IndexFunc[[]string,string] -/
noncomputable def sIF_S_4_l1 (s_0 : (List ByteArray)) (e_1 : (List ByteArray)) (s7 : Int) : Option (Sum ((Sum (Int) (Unit))) (Int)) :=
 bif decide (s7 < (s_0.length : Int)) then
  Option.bind (idxM s_0 s7) fun t10 =>
  Option.bind (pc_Distinguish_1_m t10 e_1) fun t11 =>
  bif t11 then
   some (Sum.inl (Sum.inl s7))
  else
   some (Sum.inr (iadd .i64 s7 1))
 else
  some (Sum.inl (Sum.inr ()))

noncomputable def sIF_S_4_m (s_0 : (List ByteArray)) (e_1 : (List ByteArray)) : Option (Int) :=
 Option.bind (loopC (sIF_S_4_l1 s_0 e_1) 0) (sumK (fun a : Int => some a) fun q13 : Unit =>
  some (-1))

theorem sIF_S_4_ok {s_0 : (List ByteArray)} {e_1 : (List ByteArray)} {h_0 : Value × List Nat} {be_1 : Nat} {r : Int} (hm : sIF_S_4_m s_0 e_1 = some r) :
  FnOk prog 70 [pv h_0.1, pv (.func (.func 58) #[] #[(ptr be_1 0)])] [oa rS h_0.1 h_0.2 s_0, oc be_1 [slv rS e_1]] (fun (x : Unit) => [iv .i64 r]) (fun (x : Unit) => [oa rS h_0.1 h_0.2 s_0, oc be_1 [slv rS e_1]]) := by
 refine fn_ok (fn := Tryz.f70) (N := 19) (res := fun r x => [iv .i64 r]) (Ω1 := fun r x => [oa rS h_0.1 h_0.2 s_0, oc be_1 [slv rS e_1]]) Tryz.func70 rfl rfl hm rfl (fun E hM => ?_)
 unfold sIF_S_4_m
 refine ref_seq (ref_region (as1 rfl rfl (l_nil (n_then (ref_seq (ref_seq (ref_region (mv1 rfl rfl (s_rd (r_olen Tryz.underlying22 rfl (j := 0) rfl) rfl (mv1 rfl rfl (l_nil (n_then ?_))))))))))))
 refine ref_loopX (f := (sIF_S_4_l1 s_0 e_1)) (Γl := (fun (s7 : Int) (x8 : Unit) => [(0, pv h_0.1), (1, pv (.func (.func 58) #[] #[(ptr be_1 0)])), (7, iv .i64 (s_0.length : Int)), (8, iv .i64 s7)])) (Ωl := (fun (s7 : Int) (x8 : Unit) => [oa rS h_0.1 h_0.2 s_0, oc be_1 [slv rS e_1]])) (Γb := (fun (q13 : Unit) (y14 : Unit) => [(0, pv h_0.1), (1, pv (.func (.func 58) #[] #[(ptr be_1 0)]))])) (Ωb := (fun (q13 : Unit) (y14 : Unit) => [oa rS h_0.1 h_0.2 s_0, oc be_1 [slv rS e_1]])) (kr := (fun a : Int => some a)) 0 () (weak [0, 1] ⟨rfl, rfl, rfl, rfl, trivial⟩ ⟨rfl, rfl, trivial⟩) (fun s7 x8 => ?_) (fun q13 y14 => ?_)
 ·unfold sIF_S_4_l1
  refine ref_seq (ref_region (s_rd (r_lss rfl rfl) rfl (l_nil (n_then (ref_seq ?_)))))
  refine ref_cond rfl (fun hb9 => ?_) (fun hb9 => ?_)
  ·refine ref_skip (n_then (ref_seq (ref_block (ref_seq (ref_region (mv1 rfl rfl (as1 rfl rfl (l_nil (n_then (ref_seq (ref_region (mv1 rfl rfl (mv1 rfl rfl (mv1 rfl rfl (pull fun t10 h_t10 => s_rd (r_oindex h_t10 Tryz.underlying22 el_9 rfl (j := 0) rfl rfl) rfl (s_rd (r_oload h_t10 el_9 rfl (j := 0) rfl) rfl (pull fun t11 h_t11 => s_st (s_callC [1] [true] (fun (_ : Unit) => [oc be_1 [slv rS e_1]]) (fun (_ : Unit) => []) (fun (_ : Unit) => bv t11) (args := [.tmp 15]) (caps := [(ptr be_1 0)]) Tryz.call58 rfl (pc_Distinguish_1_ok h_t11) ⟨rfl, rfl, trivial⟩ (fun _ => rfl) (fun _ => trivial) (fun _ => rfl) ⟨arg rfl, arg rfl, trivial⟩ (fun _ _ _ _ h => h)) rfl (fun _ => l_nil (n_then ?_)))))))))))))))))))
   refine ref_cond rfl (fun hb12 => ?_) (fun hb12 => ?_)
   ·refine ref_seq (ref_region (mv1 rfl rfl (as1 rfl rfl (l_nil (n_then (ref_ret (r_block (r_then ?_))))))))
    refine retX ?_
    refine r_block (r_then ?_)
    exact fin1 (.inl rfl) () [0, 1] rfl ⟨rfl, rfl, trivial⟩ rfl (rv_tmp rfl)
   refine ref_skip (n_block (n_then (ref_region (s_rd (r_add rfl rfl) rfl (mv1 rfl rfl (l_nil ?_))))))
   exact goX () (weak [0, 1] ⟨rfl, rfl, rfl, rfl, trivial⟩ ⟨rfl, rfl, trivial⟩)
  refine ref_exit (x_then ?_)
  exact brkX () (weak [0, 1] ⟨rfl, rfl, trivial⟩ ⟨rfl, rfl, trivial⟩)
 refine n_then (ref_seq (ref_region (as1 rfl rfl (l_nil (n_then (ref_ret ?_))))))
 exact fin1 (.inl rfl) () [0, 1] rfl ⟨rfl, rfl, trivial⟩ rfl (rv_tmp rfl)

/-! slices.DeleteFunc[[]string,string] -/
noncomputable def sDF_S_1_l1 (e_1 : (List ByteArray)) (s22 : Int × Int × (List ByteArray)) : Option (Sum ((List ByteArray) × Int) (Int × Int × (List ByteArray))) :=
 bif decide (s22.2.1 < (s22.2.2.length : Int)) then
  Option.bind (idxM s22.2.2 s22.2.1) fun v25 =>
  Option.bind (pc_Distinguish_1_m v25 e_1) fun t26 =>
  bif !t26 then
   Option.bind (idxM s22.2.2 s22.1) fun t28 =>
   letM (iadd .i64 s22.1 1) fun i29 =>
   letM (iadd .i64 s22.2.1 1) fun j30 =>
   some (Sum.inr (i29, j30, s22.2.2.set (Int.toNat s22.1) v25))
  else
   letM (iadd .i64 s22.2.1 1) fun j31 =>
   some (Sum.inr (s22.1, j31, s22.2.2))
 else
  some (Sum.inl (s22.2.2, s22.1))

noncomputable def sDF_S_1_m (s_0 : (List ByteArray)) (e_1 : (List ByteArray)) : Option (List ByteArray) :=
 Option.bind (sIF_S_4_m s_0 e_1) fun i1 =>
 bif i1 == (-1) then
  some s_0
 else
  Option.bind (loopC (sDF_S_1_l1 e_1) (i1, iadd .i64 i1 1, s_0)) fun q32 : (List ByteArray) × Int =>
  Option.bind (slM q32.1 q32.2 (q32.1.length : Int)) fun t34 =>
  Option.bind (slM (q32.1.take (Int.toNat q32.2) ++ List.replicate (Int.toNat (q32.1.length : Int) - Int.toNat q32.2) ByteArray.empty ++ q32.1.drop (Int.toNat (q32.1.length : Int))) 0 q32.2) fun t35 =>
  some t35

theorem sDF_S_1_ok {s_0 : (List ByteArray)} {e_1 : (List ByteArray)} {h_0 : Value × List Nat} {be_1 : Nat} {r : List ByteArray} (hm : sDF_S_1_m s_0 e_1 = some r) :
  FnOk prog 57 [pv h_0.1, pv (.func (.func 58) #[] #[(ptr be_1 0)])] [oa rS h_0.1 h_0.2 s_0, oc be_1 [slv rS e_1]] (fun (x : (Value × List Nat)) => [pv x.1]) (fun (x : (Value × List Nat)) => [oc be_1 [slv rS e_1], oa rS x.1 x.2 r]) := by
 refine fn_ok (X := (Value × List Nat)) (fn := Tryz.f57) (N := 42) (res := fun r x => [pv x.1]) (Ω1 := fun r x => [oc be_1 [slv rS e_1], oa rS x.1 x.2 r]) Tryz.func57 rfl rfl hm rfl (fun E hM => ?_)
 unfold sDF_S_1_m
 refine ref_seq (ref_region (as1 rfl rfl (l_nil (n_then (ref_seq (ref_region (mv1 rfl rfl (mv1 rfl rfl (pull fun i1 h_i1 => s_st (s_callC [0, 1] [true, true] (fun (_ : Unit) => [oa rS h_0.1 h_0.2 s_0, oc be_1 [slv rS e_1]]) (fun (_ : Unit) => []) (fun (_ : Unit) => iv .i64 i1) (args := [.tmp 8, .tmp 9]) (caps := []) Tryz.call70 rfl (sIF_S_4_ok h_i1) ⟨rfl, rfl, ⟨rfl, rfl, trivial⟩⟩ (fun _ => rfl) (fun _ => trivial) (fun _ => rfl) ⟨arg rfl, arg rfl, trivial⟩ (fun _ _ _ _ h => h)) rfl (fun _ => as1 rfl rfl (l_nil (n_then (ref_seq (ref_seq (ref_region (mv1 rfl rfl (s_rd (r_eql rfl rfl) rfl (l_nil (n_then ?_)))))))))))))))))))
 refine ref_cond rfl (fun hb2 => ?_) (fun hb2 => ?_)
 ·refine ref_seq (ref_region (mv1 rfl rfl (as1 rfl rfl (l_nil (n_then (ref_ret (r_then ?_)))))))
  exact fin1 (.inl rfl) h_0 [1, 0] rfl ⟨rfl, rfl, trivial⟩ rfl (rv_tmp rfl)
 refine ref_skip (n_then (ref_seq (ref_seq (ref_region (mv1 rfl rfl (s_rd (r_add rfl rfl) rfl (as1 rfl rfl (l_nil (n_then ?_)))))))))
 refine ref_loopB (f := (sDF_S_1_l1 e_1)) (Γl := (fun (s22 : Int × Int × (List ByteArray)) (x23 : Unit) => [(0, pv h_0.1), (1, pv (.func (.func 58) #[] #[(ptr be_1 0)])), (5, iv .i64 s22.1), (6, iv .i64 s22.2.1)])) (Ωl := (fun (s22 : Int × Int × (List ByteArray)) (x23 : Unit) => [oa rS h_0.1 h_0.2 s22.2.2, oc be_1 [slv rS e_1]])) (Γb := (fun (q32 : (List ByteArray) × Int) (y33 : Unit) => [(0, pv h_0.1), (1, pv (.func (.func 58) #[] #[(ptr be_1 0)])), (5, iv .i64 q32.2)])) (Ωb := (fun (q32 : (List ByteArray) × Int) (y33 : Unit) => [oa rS h_0.1 h_0.2 q32.1, oc be_1 [slv rS e_1]])) (i1, iadd .i64 i1 1, s_0) () (weak [0, 1] ⟨rfl, rfl, rfl, rfl, trivial⟩ ⟨rfl, rfl, trivial⟩) (fun s22 x23 => ?_) (fun q32 y33 => ?_)
 ·unfold sDF_S_1_l1
  refine ref_seq (ref_seq (ref_region (mv1 rfl rfl (mv1 rfl rfl (s_rd (r_olen Tryz.underlying22 rfl (j := 0) rfl) rfl (s_rd (r_lss rfl rfl) rfl (l_nil (n_then ?_))))))))
  refine ref_cond rfl (fun hb24 => ?_) (fun hb24 => ?_)
  ·refine ref_skip (n_then (ref_seq (ref_block (ref_seq (ref_region (mv1 rfl rfl (mv1 rfl rfl (pull fun v25 h_v25 => s_rd (r_oindex h_v25 Tryz.underlying22 el_9 rfl (j := 0) rfl rfl) rfl (s_rd (r_oload h_v25 el_9 rfl (j := 0) rfl) rfl (as1 rfl rfl (l_nil (n_then (ref_seq (ref_region (mv1 rfl rfl (mv1 rfl rfl (pull fun t26 h_t26 => s_st (s_callC [1] [true] (fun (_ : Unit) => [oc be_1 [slv rS e_1]]) (fun (_ : Unit) => []) (fun (_ : Unit) => bv t26) (args := [.tmp 27]) (caps := [(ptr be_1 0)]) Tryz.call58 rfl (pc_Distinguish_1_ok h_t26) ⟨rfl, rfl, trivial⟩ (fun _ => rfl) (fun _ => trivial) (fun _ => rfl) ⟨arg rfl, arg rfl, trivial⟩ (fun _ _ _ _ h => h)) rfl (fun _ => s_rd (r_not rfl) rfl (l_nil (n_then ?_))))))))))))))))))))
   refine ref_cond rfl (fun hb27 => ?_) (fun hb27 => ?_)
   ·refine ref_seq (ref_region (mv1 rfl rfl (mv1 rfl rfl (mv1 rfl rfl (pull fun t28 h_t28 => s_rd (r_oindex h_t28 Tryz.underlying22 el_9 rfl (j := 0) rfl rfl) rfl (s_st0 (s_ostore (u := v25) h_t28 el_9 rfl (j := 0) rfl (part_at rfl sv_at)) (fun _ => l_nil (n_then (ref_region (mv1 rfl rfl (s_rd (r_add rfl rfl) rfl (as1 rfl rfl (b_let (f := iv .i64) (t := 5) rfl fun i29 => l_nil (n_block (n_then (ref_region (mv1 rfl rfl (s_rd (r_add rfl rfl) rfl (as1 rfl rfl (b_let (f := iv .i64) (t := 6) rfl fun j30 => l_nil ?_))))))))))))))))))))
    exact goB () (weak [0, 1] ⟨rfl, rfl, rfl, rfl, trivial⟩ ⟨rfl, rfl, trivial⟩)
   refine ref_skip (n_block (n_then (ref_region (mv1 rfl rfl (s_rd (r_add rfl rfl) rfl (as1 rfl rfl (b_let (f := iv .i64) (t := 6) rfl fun j31 => l_nil ?_)))))))
   exact goB () (weak [0, 1] ⟨rfl, rfl, rfl, rfl, trivial⟩ ⟨rfl, rfl, trivial⟩)
  refine ref_exit (x_then ?_)
  exact brkB () (weak [0, 1] ⟨rfl, rfl, rfl, trivial⟩ ⟨rfl, rfl, trivial⟩)
 refine n_then (ref_seq (ref_region (mv1 rfl rfl (mv1 rfl rfl (pull fun t34 h_t34 => s_rd (r_osub h_t34 Tryz.underlying22 el_9 rfl (j := 0) rfl (.of rfl) .dft) rfl (s_st0 (s_clear h_t34 Tryz.underlying22 el_9 ze_9 rfl (j := 0) rfl) (fun _ => l_nil (n_then (ref_seq (ref_region (mv1 rfl rfl (mv1 rfl rfl (pull fun t35 h_t35 => s_st (s_oslice h_t35 Tryz.underlying22 el_9 rfl (j := 0) rfl .dft (.of rfl)) rfl (fun o36 => as1 rfl rfl (l_nil (n_then (ref_ret ?_)))))))))))))))))
 exact fin1 (.inl rfl) o36 [1, 0] rfl ⟨rfl, rfl, trivial⟩ rfl (rv_tmp rfl)

/-! deliberation/precedent.Distinguish -/
noncomputable def pc_Distinguish_l1 (t8 : T_Cas) (t14 : List ByteArray) (s32 : Int × (List ByteArray)) : Option (Sum ((List ByteArray)) (Int × (List ByteArray))) :=
 bif decide (s32.1 < (t14.length : Int)) then
  Option.bind (idxM t14 s32.1) fun s35 =>
  Option.bind (sC_S_m t8.Facts s35) fun t36 =>
  bif !t36 then
   Option.bind (appM 16 s32.2 [s35]) fun out38 =>
   some (Sum.inr (iadd .i64 s32.1 1, out38))
  else
   some (Sum.inr (iadd .i64 s32.1 1, s32.2))
 else
  some (Sum.inl s32.2)

noncomputable def pc_Distinguish_m (l_0 : T_Lib) (index_1 : Int) (facts_2 : (List ByteArray)) : Option (List ByteArray × Int) :=
 Option.bind (pc_Validate_m l_0) fun e3 =>
 bif e3 != 0 then
  some ([], e3)
 else
  bif decide (index_1 < 0) then
   some ([], 1)
  else
   bif decide (index_1 ≥ (l_0.Cases.length : Int)) then
    some ([], 1)
   else
    Option.bind (pc_known_m l_0 facts_2) fun e6 =>
    bif e6 != 0 then
     some ([], e6)
    else
     Option.bind (idxM l_0.Cases index_1) fun t8 =>
     Option.bind (pc_own_m l_0 t8.Facts t8.Winner) fun t10 =>
     Option.bind (sDF_S_1_m t10 facts_2) fun out12 =>
     Option.bind (pc_counter_m l_0 facts_2 t8.Winner) fun t14 =>
     Option.bind (loopC (pc_Distinguish_l1 t8 t14) (0, out12)) fun q40 : (List ByteArray) =>
     Option.bind (sortedSM q40) fun t42 =>
     some (t42, 0)

theorem pc_Distinguish_ok {l_0 : T_Lib} {index_1 : Int} {facts_2 : (List ByteArray)} {r : List ByteArray × Int} (hm : pc_Distinguish_m l_0 index_1 facts_2 = some r) :
  FnOk prog 20 [ag [slv rS l_0.Sides.i0, slv rS l_0.Sides.i1, slv rT_Cas l_0.Cases], iv .i64 index_1, slv rS facts_2] [] (fun (x : (Value × List Nat)) => [pv x.1, iv .i64 r.2]) (fun (x : (Value × List Nat)) => [oa rS x.1 x.2 r.1]) := by
 refine fn_ok (X := (Value × List Nat)) (fn := Tryz.f20) (N := 70) (res := fun r x => [pv x.1, iv .i64 r.2]) (Ω1 := fun r x => [oa rS x.1 x.2 r.1]) Tryz.func20 rfl rfl hm rfl (fun E hM => ?_)
 unfold pc_Distinguish_m
 refine ref_seq (ref_region (s_st (s_box (part_agO (ψs := [slv rS l_0.Sides.i0, slv rS l_0.Sides.i1, slv rT_Cas l_0.Cases]) rfl ⟨.inl slv_at, .inl slv_at, .inl slv_at, trivial⟩)) rfl (fun b1 => s_st (s_box (part_at rfl slv_at)) rfl (fun b2 => as1 rfl rfl (as1 rfl rfl (l_nil (n_then (ref_seq (ref_seq (ref_region (s_rd (r_cloadS Tryz.isAgg26 Tryz.sizeOf26 rfl (j := 0) rfl rfl rfl) rfl (pull fun e3 h_e3 => s_st (s_call (ψ := fun (_ : Unit) => iv .i64 e3) (args := [.tmp 14]) Tryz.call9 rfl (pc_Validate_ok h_e3) ⟨arg rfl, trivial⟩ (fun _ _ _ _ h => h)) rfl (fun _ => as1 rfl rfl (l_nil (n_then (ref_seq (ref_region (mv1 rfl rfl (s_rd (r_neq rfl rfl) rfl (l_nil (n_then ?_)))))))))))))))))))))
 refine ref_cond rfl (fun hb4 => ?_) (fun hb4 => ?_)
 ·refine ref_seq (ref_region (mv1 rfl rfl (as1 rfl rfl (as1 rfl rfl (l_nil (n_then (ref_ret (r_then (b_of (own_nil rS) ?_)))))))))
  exact fin2 (.inl rfl) ((.slice none 0 0), []) [2] rfl ⟨rfl, trivial⟩ rfl (rv_tmp rfl) (rv_tmp rfl)
 refine ref_skip (n_then (ref_seq (ref_seq (ref_region (mv1 rfl rfl (s_rd (r_lss rfl rfl) rfl (mv1 rfl rfl ?_)))))))
 refine b_split (t := 21) rfl (fun _ => ?_) (fun _ => ?_)
 ·refine s_off rfl rfl rfl rfl rfl (s_off rfl rfl rfl rfl rfl (s_off rfl rfl rfl rfl rfl (s_off rfl rfl rfl rfl rfl (s_off rfl rfl rfl rfl rfl (s_rd (r_pickT rfl rfl) rfl (l_nil (n_then (ref_condT rfl rfl (ref_seq (ref_region (as1 rfl rfl (as1 rfl rfl (l_nil (n_then (ref_ret (r_then (b_of (own_nil rS) ?_)))))))))))))))))
  exact fin2 (.inl rfl) ((.slice none 0 0), []) [2] rfl ⟨rfl, trivial⟩ rfl (rv_tmp rfl) (rv_tmp rfl)
 refine s_on rfl rfl rfl (mv1 rfl rfl (s_on rfl rfl rfl (s_rd (r_faddr (fo := 2) Tryz.underlying26 rfl rfl Tryz.sizeOf24 rfl) rfl (s_on rfl rfl rfl (s_rd (r_cload Tryz.isAgg24 rfl (j := 0) rfl rfl) rfl (s_on rfl rfl rfl (s_rd (r_len Tryz.underlying24 rfl) rfl (s_on rfl rfl rfl (s_rd (r_geq rfl rfl) rfl (s_rd (r_pickF rfl rfl) rfl (l_nil (n_then ?_))))))))))))
 refine ref_cond rfl (fun hb5 => ?_) (fun hb5 => ?_)
 ·refine ref_seq (ref_region (as1 rfl rfl (as1 rfl rfl (l_nil (n_then (ref_ret (r_then (b_of (own_nil rS) ?_))))))))
  exact fin2 (.inl rfl) ((.slice none 0 0), []) [2] rfl ⟨rfl, trivial⟩ rfl (rv_tmp rfl) (rv_tmp rfl)
 refine ref_skip (n_then (ref_seq (ref_seq (ref_region (s_rd (r_cloadS Tryz.isAgg26 Tryz.sizeOf26 rfl (j := 0) rfl rfl rfl) rfl (s_rd (r_cload Tryz.isAgg22 rfl (j := 1) rfl rfl) rfl (pull fun e6 h_e6 => s_st (s_call (ψ := fun (_ : Unit) => iv .i64 e6) (args := [.tmp 28, .tmp 29]) Tryz.call56 rfl (pc_known_ok h_e6) ⟨arg rfl, arg rfl, trivial⟩ (fun _ _ _ _ h => h)) rfl (fun _ => as1 rfl rfl (l_nil (b_of (nrm [oc b1 [slv rS l_0.Sides.i0, slv rS l_0.Sides.i1, slv rT_Cas l_0.Cases], oc b2 [slv rS facts_2]] rfl) (n_then (ref_seq (ref_region (mv1 rfl rfl (s_rd (r_neq rfl rfl) rfl (l_nil (n_then ?_)))))))))))))))))
 refine ref_cond rfl (fun hb7 => ?_) (fun hb7 => ?_)
 ·refine ref_seq (ref_region (mv1 rfl rfl (as1 rfl rfl (as1 rfl rfl (l_nil (n_then (ref_ret (r_then (b_of (own_nil rS) ?_)))))))))
  exact fin2 (.inl rfl) ((.slice none 0 0), []) [2] rfl ⟨rfl, trivial⟩ rfl (rv_tmp rfl) (rv_tmp rfl)
 refine ref_skip (n_then (ref_seq (ref_region (s_rd (r_faddr (fo := 2) Tryz.underlying26 rfl rfl Tryz.sizeOf24 rfl) rfl (s_rd (r_cload Tryz.isAgg24 rfl (j := 0) rfl rfl) rfl (mv1 rfl rfl (pull fun t8 h_t8 => s_rd (r_index h_t8 Tryz.underlying24 el_60 rfl rfl) rfl (s_rd (r_load el_60 rfl) rfl (s_st (s_alloc zt_60) rfl (fun b9 => s_st0 (s_cstore (out := [sv t8.Name, slv rS t8.Facts, iv .i64 t8.Winner, slv rS t8.Reason]) Tryz.sizeOf60 rfl (j := 2) rfl (part_agO (ψs := [sv t8.Name, slv rS t8.Facts, iv .i64 t8.Winner, slv rS t8.Reason]) rfl ⟨.inl sv_at, .inl slv_at, .inl iv_at, .inl slv_at, trivial⟩) rfl rfl rfl) (fun _ => l_nil (n_then (ref_seq (ref_region (s_rd (r_cloadS Tryz.isAgg26 Tryz.sizeOf26 rfl (j := 0) rfl rfl rfl) rfl (s_rd (r_faddr (fo := 1) Tryz.underlying60 rfl rfl Tryz.sizeOf22 rfl) rfl (s_rd (r_cload Tryz.isAgg22 rfl (j := 2) rfl rfl) rfl (s_rd (r_faddr (fo := 2) Tryz.underlying60 rfl rfl Tryz.sizeOf3 rfl) rfl (s_rd (r_cload Tryz.isAgg3 rfl (j := 2) rfl rfl) rfl (pull fun t10 h_t10 => s_st (s_call (ψ := fun (x11 : (Value × List Nat)) => pv x11.1) (args := [.tmp 39, .tmp 41, .tmp 43]) Tryz.call45 rfl (pc_own_ok h_t10) ⟨arg rfl, arg rfl, arg rfl, trivial⟩ (fun _ _ _ _ h => h)) rfl (fun x11 => s_rd (r_mkfn (xs := [.tmp 5]) (vs := [(ptr b2 0)]) ⟨rfl, trivial⟩) rfl (pull fun out12 h_out12 => s_st (s_callC [3, 1] [false, true] (fun (x13 : (Value × List Nat)) => [dead, oc b2 [slv rS facts_2]]) (fun (x13 : (Value × List Nat)) => [oa rS x13.1 x13.2 out12]) (fun (x13 : (Value × List Nat)) => pv x13.1) (args := [.tmp 44, .tmp 45]) (caps := []) Tryz.call57 rfl (sDF_S_1_ok h_out12) ⟨rfl, rfl, ⟨rfl, rfl, trivial⟩⟩ (fun _ => rfl) (fun _ => ⟨rfl, trivial⟩) (fun _ => rfl) ⟨arg rfl, arg rfl, trivial⟩ (fun _ _ _ _ h => h)) rfl (fun x13 => as1 rfl rfl (l_nil (b_of (nrm [oc b1 [slv rS l_0.Sides.i0, slv rS l_0.Sides.i1, slv rT_Cas l_0.Cases], oc b2 [slv rS facts_2], oc b9 [sv t8.Name, slv rS t8.Facts, iv .i64 t8.Winner, slv rS t8.Reason], dead, oa rS x13.1 x13.2 out12] rfl) (n_then (ref_seq (ref_seq (ref_region (s_rd (r_cloadS Tryz.isAgg26 Tryz.sizeOf26 rfl (j := 0) rfl rfl rfl) rfl (s_rd (r_cload Tryz.isAgg22 rfl (j := 1) rfl rfl) rfl (s_rd (r_faddr (fo := 2) Tryz.underlying60 rfl rfl Tryz.sizeOf3 rfl) rfl (s_rd (r_cload Tryz.isAgg3 rfl (j := 2) rfl rfl) rfl (pull fun t14 h_t14 => s_st (s_call (ψ := fun (x15 : (Value × List Nat)) => pv x15.1) (args := [.tmp 47, .tmp 48, .tmp 50]) Tryz.call59 rfl (pc_counter_ok h_t14) ⟨arg rfl, arg rfl, arg rfl, trivial⟩ (fun _ _ _ _ h => h)) rfl (fun x15 => s_rd (r_olen Tryz.underlying22 rfl (j := 5) rfl) rfl ?_)))))))))))))))))))))))))))))))))))
 refine mv1 rfl rfl (l_nil (n_then ?_))
 refine ref_loopB (f := (pc_Distinguish_l1 t8 t14)) (Γl := (fun (s32 : Int × (List ByteArray)) (x33 : (Value × List Nat)) => [(10, pv (ptr b9 0)), (11, pv x33.1), (51, pv x15.1), (52, iv .i64 (t14.length : Int)), (53, iv .i64 s32.1)])) (Ωl := (fun (s32 : Int × (List ByteArray)) (x33 : (Value × List Nat)) => [oc b9 [sv t8.Name, slv rS t8.Facts, iv .i64 t8.Winner, slv rS t8.Reason], oa rS x33.1 x33.2 s32.2, oa rS x15.1 x15.2 t14])) (Γb := (fun (q40 : (List ByteArray)) (y41 : (Value × List Nat)) => [(11, pv y41.1)])) (Ωb := (fun (q40 : (List ByteArray)) (y41 : (Value × List Nat)) => [oa rS y41.1 y41.2 q40])) (0, out12) x13 (weak [2, 4, 5] ⟨rfl, rfl, rfl, rfl, rfl, trivial⟩ ⟨rfl, rfl, rfl, trivial⟩) (fun s32 x33 => ?_) (fun q40 y41 => ?_)
 ·unfold pc_Distinguish_l1
  refine ref_seq (ref_region (s_rd (r_lss rfl rfl) rfl (l_nil (n_then (ref_seq ?_)))))
  refine ref_cond rfl (fun hb34 => ?_) (fun hb34 => ?_)
  ·refine ref_skip (n_then (ref_seq (ref_block (ref_seq (ref_region (pull fun s35 h_s35 => s_rd (r_oindex h_s35 Tryz.underlying22 el_9 rfl (j := 2) rfl rfl) rfl (s_rd (r_oload h_s35 el_9 rfl (j := 2) rfl) rfl (as1 rfl rfl (l_nil (n_then (ref_seq (ref_region (s_rd (r_faddr (fo := 1) Tryz.underlying60 rfl rfl Tryz.sizeOf22 rfl) rfl (s_rd (r_cload Tryz.isAgg22 rfl (j := 0) rfl rfl) rfl (mv1 rfl rfl (pull fun t36 h_t36 => s_st (s_call (ψ := fun (_ : Unit) => bv t36) (args := [.tmp 58, .tmp 59]) Tryz.call40 rfl (sC_S_ok h_t36) ⟨arg rfl, arg rfl, trivial⟩ (fun _ _ _ _ h => h)) rfl (fun _ => s_rd (r_not rfl) rfl (l_nil (n_then ?_)))))))))))))))))))
   refine ref_cond rfl (fun hb37 => ?_) (fun hb37 => ?_)
   ·refine ref_region (mv1 rfl rfl (mv1 rfl rfl (s_st (s_bslice (xs := [.tmp 63]) (ds := [s35]) Tryz.underlying22 el_9 rfl (Nat.le_of_ble_eq_true rfl) ⟨(part_at rfl sv_at), trivial⟩) rfl (fun _ => pull fun out38 h_out38 => s_st (s_append h_out38 Tryz.underlying22 el_9 rfl (j := 1) rfl rfl) rfl (fun o39 => as1 rfl rfl (l_nil (b_of (nrm [oc b9 [sv t8.Name, slv rS t8.Facts, iv .i64 t8.Winner, slv rS t8.Reason], oa rS o39.1 o39.2 out38, oa rS x15.1 x15.2 t14] rfl) (n_block (n_then (ref_region (s_rd (r_add rfl rfl) rfl (mv1 rfl rfl (l_nil ?_)))))))))))))
    exact goB o39 (weak [0, 1, 2] ⟨rfl, rfl, rfl, rfl, rfl, trivial⟩ ⟨rfl, rfl, rfl, trivial⟩)
   refine ref_skip (n_block (n_then (ref_region (s_rd (r_add rfl rfl) rfl (mv1 rfl rfl (l_nil ?_))))))
   exact goB x33 (weak [0, 1, 2] ⟨rfl, rfl, rfl, rfl, rfl, trivial⟩ ⟨rfl, rfl, rfl, trivial⟩)
  refine ref_exit (x_then ?_)
  exact brkB x33 (weak [1] ⟨rfl, trivial⟩ ⟨rfl, trivial⟩)
 refine n_then (ref_seq (ref_region (mv1 rfl rfl (pull fun t42 h_t42 => s_st (s_callC [0] [true] (fun (_ : Unit) => [oa rS y41.1 y41.2 t42]) (fun (_ : Unit) => []) (fun (_ : Unit) => tup []) (args := [.tmp 67]) (caps := []) Tryz.call60 rfl (slices_SortS_ok h_t42) ⟨rfl, rfl, trivial⟩ (fun _ => rfl) (fun _ => trivial) (fun _ => rfl) ⟨arg rfl, trivial⟩ (fun _ _ _ _ h => h)) rfl (fun _ => l_nil (n_then (ref_seq (ref_region (mv1 rfl rfl (as1 rfl rfl (as1 rfl rfl (l_nil (n_then (ref_ret ?_))))))))))))))
 exact fin2 (.inl rfl) y41 [0] rfl ⟨rfl, trivial⟩ rfl (rv_tmp rfl) (rv_tmp rfl)

/-! deliberation/precedent.shared$1 -/
noncomputable def pc_shared_1_m (s_0 : ByteArray) (p_1 : (List ByteArray)) : Option (Bool) :=
 Option.bind (sC_S_m p_1 s_0) fun t1 =>
 some (!t1)

theorem pc_shared_1_ok {s_0 : ByteArray} {p_1 : (List ByteArray)} {b_1 : Nat} {r : Bool} (hm : pc_shared_1_m s_0 p_1 = some r) :
  FnOk prog 81 [sv s_0, pv (ptr b_1 0)] [oc b_1 [slv rS p_1]] (fun (x : Unit) => [bv r]) (fun (x : Unit) => [oc b_1 [slv rS p_1]]) := by
 refine fn_ok (fn := Tryz.f81) (N := 8) (res := fun r x => [bv r]) (Ω1 := fun r x => [oc b_1 [slv rS p_1]]) Tryz.func81 rfl rfl hm rfl (fun E hM => ?_)
 unfold pc_shared_1_m
 refine ref_seq (ref_region (as1 rfl rfl (l_nil (n_then (ref_seq (ref_region (s_rd (r_cload Tryz.isAgg22 rfl (j := 0) rfl rfl) rfl (mv1 rfl rfl (pull fun t1 h_t1 => s_st (s_call (ψ := fun (_ : Unit) => bv t1) (args := [.tmp 4, .tmp 5]) Tryz.call40 rfl (sC_S_ok h_t1) ⟨arg rfl, arg rfl, trivial⟩ (fun _ _ _ _ h => h)) rfl (fun _ => s_rd (r_not rfl) rfl (as1 rfl rfl (l_nil (n_then (ref_ret ?_))))))))))))))
 exact fin1 (.inl rfl) () [0] rfl ⟨rfl, trivial⟩ rfl (rv_tmp rfl)

end Go.Dc
