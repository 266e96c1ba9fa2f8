/- Part LAW38Z.A3 of a proof: lemmas. -/
import Derived.Test.YtcpkdjlfgfikcaaGreatDoorLAW38ZA2
import Derived.Test.YtcpkdjlfgfikcaaGreatDoorProg
set_option linter.unusedVariables false
set_option maxRecDepth 100000
set_option maxHeartbeats 4000000
namespace Go.Dc
open Go.Proofs
open Go.Proofs.Tryz (prog)

/-! deliberation/deliberationref38.Distinguish -/
noncomputable def ref38_Distinguish_l1 (facts_2 : (List ByteArray)) (t7 : T_Cas) (own9 : List ByteArray) (counter11 : List ByteArray) (s65 : Int × Int × (List ByteArray)) : Option (Sum ((List ByteArray)) (Int × Int × (List ByteArray))) :=
 joinM (fun j68 : Unit =>
   joinM (fun j73 : Bool =>
     bif j73 then
      Option.bind (idxM own9 s65.1) fun t77 =>
      Option.bind (ref38_In_m facts_2 t77) fun t78 =>
      bif !t78 then
       Option.bind (idxM own9 s65.1) fun t80 =>
       Option.bind (appM 16 s65.2.2 [t80]) fun out81 =>
       letM (iadd .i64 s65.1 1) fun i83 =>
       some (Sum.inr (i83, s65.2.1, out81))
      else
       letM (iadd .i64 s65.1 1) fun i84 =>
       some (Sum.inr (i84, s65.2.1, s65.2.2))
     else
      Option.bind (idxM counter11 s65.2.1) fun t85 =>
      Option.bind (ref38_In_m t7.Facts t85) fun t86 =>
      bif !t86 then
       Option.bind (idxM counter11 s65.2.1) fun t88 =>
       Option.bind (appM 16 s65.2.2 [t88]) fun out89 =>
       letM (iadd .i64 s65.2.1 1) fun k91 =>
       some (Sum.inr (s65.1, k91, out89))
      else
       letM (iadd .i64 s65.2.1 1) fun k92 =>
       some (Sum.inr (s65.1, k92, s65.2.2))) fun k75 =>
   bif s65.2.1 == (counter11.length : Int) then
    k75 true
   else
    bif decide (s65.1 < (own9.length : Int)) then
     Option.bind (idxM own9 s65.1) fun t71 =>
     Option.bind (idxM counter11 s65.2.1) fun t72 =>
     k75 (Op.bytesLess t71.toList t72.toList)
    else
     k75 false) fun k70 =>
 bif decide (s65.1 < (own9.length : Int)) then
  k70 ()
 else
  bif decide (s65.2.1 < (counter11.length : Int)) then
   k70 ()
  else
   some (Sum.inl s65.2.2)

noncomputable def ref38_Distinguish_m (l_0 : T_Lib) (index_1 : Int) (facts_2 : (List ByteArray)) : Option (List ByteArray × Int) :=
 Option.bind (ref38_Validate_m l_0) fun e2 =>
 bif e2 != 0 then
  some ([], e2)
 else
  bif decide (index_1 < 0) then
   some ([], 1)
  else
   bif decide (index_1 ≥ (l_0.Cases.length : Int)) then
    some ([], 1)
   else
    Option.bind (ref38_situation_m l_0 facts_2) fun e5 =>
    bif e5 != 0 then
     some ([], e5)
    else
     Option.bind (idxM l_0.Cases index_1) fun t7 =>
     Option.bind (ref38_Own_m l_0 t7.Facts t7.Winner) fun own9 =>
     Option.bind (ref38_Own_m l_0 facts_2 (isub .i64 3 t7.Winner)) fun counter11 =>
     Option.bind (loopC (ref38_Distinguish_l1 facts_2 t7 own9 counter11) (0, 0, [])) fun q93 : (List ByteArray) =>
     some (q93, 0)

theorem ref38_Distinguish_ok {l_0 : T_Lib} {index_1 : Int} {facts_2 : (List ByteArray)} {r : List ByteArray × Int} (hm : ref38_Distinguish_m l_0 index_1 facts_2 = some r) :
  FnOk prog 21 [ag [slv rS l_0.Sides.i0, slv rS l_0.Sides.i1, slv rT_Cas l_0.Cases], iv .i64 index_1, slv rS facts_2] [] (fun (x : (Value × List Nat)) => [pv x.1, iv .i64 r.2]) (fun (x : (Value × List Nat)) => [oa rS x.1 x.2 r.1]) := by
 refine fn_ok (X := (Value × List Nat)) (fn := Tryz.f21) (N := 118) (res := fun r x => [pv x.1, iv .i64 r.2]) (Ω1 := fun r x => [oa rS x.1 x.2 r.1]) Tryz.func21 rfl rfl hm rfl (fun E hM => ?_)
 unfold ref38_Distinguish_m
 refine ref_seq (ref_region (s_st (s_box (part_agO (ψs := [slv rS l_0.Sides.i0, slv rS l_0.Sides.i1, slv rT_Cas l_0.Cases]) rfl ⟨.inl slv_at, .inl slv_at, .inl slv_at, trivial⟩)) rfl (fun b1 => as1 rfl rfl (as1 rfl rfl (l_nil (n_then (ref_seq (ref_seq (ref_region (s_rd (r_cloadS Tryz.isAgg26 Tryz.sizeOf26 rfl (j := 0) rfl rfl rfl) rfl (pull fun e2 h_e2 => s_st (s_call (ψ := fun (_ : Unit) => iv .i64 e2) (args := [.tmp 16]) Tryz.call10 rfl (ref38_Validate_ok h_e2) ⟨arg rfl, trivial⟩ (fun _ _ _ _ h => h)) rfl (fun _ => as1 rfl rfl (l_nil (n_then (ref_seq (ref_region (mv1 rfl rfl (s_rd (r_neq rfl rfl) rfl (l_nil (n_then ?_))))))))))))))))))))
 refine ref_cond rfl (fun hb3 => ?_) (fun hb3 => ?_)
 ·refine ref_seq (ref_region (mv1 rfl rfl (as1 rfl rfl (as1 rfl rfl (l_nil (n_then (ref_ret (r_then (b_of (own_nil rS) ?_)))))))))
  exact fin2 (.inl rfl) ((.slice none 0 0), []) [1] rfl ⟨rfl, trivial⟩ rfl (rv_tmp rfl) (rv_tmp rfl)
 refine ref_skip (n_then (ref_seq (ref_seq (ref_region (mv1 rfl rfl (s_rd (r_lss rfl rfl) rfl (mv1 rfl rfl ?_)))))))
 refine b_split (t := 23) rfl (fun _ => ?_) (fun _ => ?_)
 ·refine s_off rfl rfl rfl rfl rfl (s_off rfl rfl rfl rfl rfl (s_off rfl rfl rfl rfl rfl (s_off rfl rfl rfl rfl rfl (s_off rfl rfl rfl rfl rfl (s_rd (r_pickT rfl rfl) rfl (l_nil (n_then (ref_condT rfl rfl (ref_seq (ref_region (as1 rfl rfl (as1 rfl rfl (l_nil (n_then (ref_ret (r_then (b_of (own_nil rS) ?_)))))))))))))))))
  exact fin2 (.inl rfl) ((.slice none 0 0), []) [1] rfl ⟨rfl, trivial⟩ rfl (rv_tmp rfl) (rv_tmp rfl)
 refine s_on rfl rfl rfl (mv1 rfl rfl (s_on rfl rfl rfl (s_rd (r_faddr (fo := 2) Tryz.underlying26 rfl rfl Tryz.sizeOf24 rfl) rfl (s_on rfl rfl rfl (s_rd (r_cload Tryz.isAgg24 rfl (j := 0) rfl rfl) rfl (s_on rfl rfl rfl (s_rd (r_len Tryz.underlying24 rfl) rfl (s_on rfl rfl rfl (s_rd (r_geq rfl rfl) rfl (s_rd (r_pickF rfl rfl) rfl (l_nil (n_then ?_))))))))))))
 refine ref_cond rfl (fun hb4 => ?_) (fun hb4 => ?_)
 ·refine ref_seq (ref_region (as1 rfl rfl (as1 rfl rfl (l_nil (n_then (ref_ret (r_then (b_of (own_nil rS) ?_))))))))
  exact fin2 (.inl rfl) ((.slice none 0 0), []) [1] rfl ⟨rfl, trivial⟩ rfl (rv_tmp rfl) (rv_tmp rfl)
 refine ref_skip (n_then (ref_seq (ref_seq (ref_region (s_rd (r_cloadS Tryz.isAgg26 Tryz.sizeOf26 rfl (j := 0) rfl rfl rfl) rfl (mv1 rfl rfl (pull fun e5 h_e5 => s_st (s_call (ψ := fun (_ : Unit) => iv .i64 e5) (args := [.tmp 30, .tmp 31]) Tryz.call61 rfl (ref38_situation_ok h_e5) ⟨arg rfl, arg rfl, trivial⟩ (fun _ _ _ _ h => h)) rfl (fun _ => as1 rfl rfl (l_nil (n_then (ref_seq (ref_region (mv1 rfl rfl (s_rd (r_neq rfl rfl) rfl (l_nil (n_then ?_))))))))))))))))
 refine ref_cond rfl (fun hb6 => ?_) (fun hb6 => ?_)
 ·refine ref_seq (ref_region (mv1 rfl rfl (as1 rfl rfl (as1 rfl rfl (l_nil (n_then (ref_ret (r_then (b_of (own_nil rS) ?_)))))))))
  exact fin2 (.inl rfl) ((.slice none 0 0), []) [1] rfl ⟨rfl, trivial⟩ rfl (rv_tmp rfl) (rv_tmp rfl)
 refine ref_skip (n_then (ref_seq (ref_region (s_rd (r_faddr (fo := 2) Tryz.underlying26 rfl rfl Tryz.sizeOf24 rfl) rfl (s_rd (r_cload Tryz.isAgg24 rfl (j := 0) rfl rfl) rfl (mv1 rfl rfl (pull fun t7 h_t7 => s_rd (r_index h_t7 Tryz.underlying24 el_60 rfl rfl) rfl (s_rd (r_load el_60 rfl) rfl (s_st (s_alloc zt_60) rfl (fun b8 => s_st0 (s_cstore (out := [sv t7.Name, slv rS t7.Facts, iv .i64 t7.Winner, slv rS t7.Reason]) Tryz.sizeOf60 rfl (j := 1) rfl (part_agO (ψs := [sv t7.Name, slv rS t7.Facts, iv .i64 t7.Winner, slv rS t7.Reason]) rfl ⟨.inl sv_at, .inl slv_at, .inl iv_at, .inl slv_at, trivial⟩) rfl rfl rfl) (fun _ => l_nil (b_of (nrm [oc b1 [slv rS l_0.Sides.i0, slv rS l_0.Sides.i1, slv rT_Cas l_0.Cases], oc b8 [sv t7.Name, slv rS t7.Facts, iv .i64 t7.Winner, slv rS t7.Reason]] rfl) (n_then (ref_seq (ref_region (as1 rfl rfl (l_nil (n_then (ref_seq ?_)))))))))))))))))))
 refine ref_draw [0, 1, 2, 3, 4, 6, 7, 8, 9, 10] rfl (by kernel_rfl) (fun hok => ?_)
 refine a_rd (i := 0) hok rfl (by kernel_rfl) rfl (r_cloadS Tryz.isAgg26 Tryz.sizeOf26 rfl (j := 0) rfl rfl rfl) rfl ?_
 refine a_rd (i := 1) hok rfl (by kernel_rfl) rfl (r_faddr (fo := 1) Tryz.underlying60 rfl rfl Tryz.sizeOf22 rfl) rfl ?_
 refine a_rd (i := 2) hok rfl (by kernel_rfl) rfl (r_cload Tryz.isAgg22 rfl (j := 1) rfl rfl) rfl ?_
 refine a_rd (i := 3) hok rfl (by kernel_rfl) rfl (r_faddr (fo := 2) Tryz.underlying60 rfl rfl Tryz.sizeOf3 rfl) rfl ?_
 refine a_rd (i := 4) hok rfl (by kernel_rfl) rfl (r_cload Tryz.isAgg3 rfl (j := 1) rfl rfl) rfl ?_
 refine a_rd (i := 6) hok rfl (by kernel_rfl) rfl (r_cloadS Tryz.isAgg26 Tryz.sizeOf26 rfl (j := 0) rfl rfl rfl) rfl ?_
 refine a_rd (i := 7) hok rfl (by kernel_rfl) rfl (r_move rfl) rfl ?_
 refine a_rd (i := 8) hok rfl (by kernel_rfl) rfl (r_faddr (fo := 2) Tryz.underlying60 rfl rfl Tryz.sizeOf3 rfl) rfl ?_
 refine a_rd (i := 9) hok rfl (by kernel_rfl) rfl (r_cload Tryz.isAgg3 rfl (j := 1) rfl rfl) rfl ?_
 refine a_rd (i := 10) hok rfl (by kernel_rfl) rfl (r_sub rfl rfl) rfl ?_
 refine pull fun own9 h_own9 => ?_
 refine a_next hok 5 [] (by kernel_rfl) ?_ trivial
 refine a_st (i := 5) hok rfl rfl (s_call (ψ := fun (x10 : (Value × List Nat)) => pv x10.1) (args := [.tmp 41, .tmp 43, .tmp 45]) Tryz.call30 rfl (ref38_Own_ok h_own9) ⟨arg rfl, arg rfl, arg rfl, trivial⟩ (fun _ _ _ _ h => h)) (by intro _ h; cases h; rfl) (fun _ => ⟨trivial, ⟨⟨⟨rfl, rfl⟩, trivial⟩, ⟨trivial, ⟨trivial, ⟨⟨⟨rfl, rfl⟩, trivial⟩, ⟨trivial, ⟨trivial, ⟨trivial, ⟨trivial, ⟨trivial, trivial⟩⟩⟩⟩⟩⟩⟩⟩⟩⟩) (fun x10 => ?_)
 refine pull fun counter11 h_counter11 => ?_
 refine a_next hok 11 [] (by kernel_rfl) ?_ trivial
 refine a_st (i := 11) hok rfl rfl (s_call (ψ := fun (x12 : (Value × List Nat)) => pv x12.1) (args := [.tmp 47, .tmp 48, .tmp 51]) Tryz.call30 rfl (ref38_Own_ok h_counter11) ⟨arg rfl, arg rfl, arg rfl, trivial⟩ (fun _ _ _ _ h => h)) (by intro _ h; cases h; rfl) (fun _ => ⟨trivial, ⟨⟨⟨rfl, rfl⟩, trivial⟩, ⟨trivial, ⟨trivial, ⟨trivial, ⟨⟨⟨rfl, rfl⟩, trivial⟩, ⟨trivial, ⟨⟨⟨rfl, rfl⟩, trivial⟩, ⟨trivial, ⟨⟨⟨rfl, rfl⟩, trivial⟩, trivial⟩⟩⟩⟩⟩⟩⟩⟩⟩⟩) (fun x12 => ?_)
 refine a_next hok 12 [] (by kernel_rfl) ?_ trivial
 refine a_st (i := 12) hok rfl rfl (St.ofRd (r_assign rfl)) (by intro _ h; cases h; rfl) (fun _ => ⟨trivial, ⟨⟨⟨rfl, rfl⟩, trivial⟩, ⟨trivial, ⟨trivial, ⟨⟨⟨rfl, rfl⟩, trivial⟩, ⟨trivial, ⟨trivial, ⟨trivial, ⟨trivial, ⟨trivial, trivial⟩⟩⟩⟩⟩⟩⟩⟩⟩⟩) (fun _ => ?_)
 refine a_next hok 13 [] (by kernel_rfl) ?_ trivial
 refine a_st (i := 13) hok rfl rfl (St.ofRd (r_assign rfl)) (by intro _ h; cases h; rfl) (fun _ => ⟨trivial, ⟨trivial, ⟨trivial, ⟨trivial, ⟨trivial, ⟨trivial, ⟨trivial, ⟨trivial, ⟨trivial, ⟨trivial, trivial⟩⟩⟩⟩⟩⟩⟩⟩⟩⟩) (fun _ => ?_)
 refine a_fin hok (by kernel_rfl) ?_
 refine b_of (nrm [oc b1 [slv rS l_0.Sides.i0, slv rS l_0.Sides.i1, slv rT_Cas l_0.Cases], oc b8 [sv t7.Name, slv rS t7.Facts, iv .i64 t7.Winner, slv rS t7.Reason], oa rS x10.1 x10.2 own9, oa rS x12.1 x12.2 counter11] rfl) (n_then (ref_seq (ref_seq (ref_region (as1 rfl rfl (as1 rfl rfl (l_nil (n_then (b_of (own_nil rS) ?_)))))))))
 refine ref_loopB (f := (ref38_Distinguish_l1 facts_2 t7 own9 counter11)) (Γl := (fun (s65 : Int × Int × (List ByteArray)) (x66 : (Value × List Nat)) => [(2, slv rS facts_2), (10, pv (ptr b8 0)), (11, pv x66.1), (12, pv x10.1), (13, pv x12.1), (14, iv .i64 s65.1), (15, iv .i64 s65.2.1)])) (Ωl := (fun (s65 : Int × Int × (List ByteArray)) (x66 : (Value × List Nat)) => [oc b8 [sv t7.Name, slv rS t7.Facts, iv .i64 t7.Winner, slv rS t7.Reason], oa rS x66.1 x66.2 s65.2.2, oa rS x10.1 x10.2 own9, oa rS x12.1 x12.2 counter11])) (Γb := (fun (q93 : (List ByteArray)) (y94 : (Value × List Nat)) => [(11, pv y94.1)])) (Ωb := (fun (q93 : (List ByteArray)) (y94 : (Value × List Nat)) => [oa rS y94.1 y94.2 q93])) (0, 0, []) ((.slice none 0 0), []) (weak [1, 4, 2, 3] ⟨rfl, rfl, rfl, rfl, rfl, rfl, rfl, trivial⟩ ⟨rfl, rfl, rfl, rfl, trivial⟩) (fun s65 x66 => ?_) (fun q93 y94 => ?_)
 ·unfold ref38_Distinguish_l1
  refine ref_seq ?_
  refine ref_join (fun (j68 : Unit) (x69 : Unit) => [(2, slv rS facts_2), (10, pv (ptr b8 0)), (11, pv x66.1), (12, pv x10.1), (13, pv x12.1), (14, iv .i64 s65.1), (15, iv .i64 s65.2.1)]) (fun (j68 : Unit) (x69 : Unit) => [oc b8 [sv t7.Name, slv rS t7.Facts, iv .i64 t7.Winner, slv rS t7.Reason], oa rS x66.1 x66.2 s65.2.2, oa rS x10.1 x10.2 own9, oa rS x12.1 x12.2 counter11]) (fun k70 hk70 => ?_) (fun j68 x69 => ?_)
  ·refine ref_seq (ref_region (mv1 rfl rfl (mv1 rfl rfl (s_rd (r_olen Tryz.underlying22 rfl (j := 2) rfl) rfl (s_rd (r_lss rfl rfl) rfl (mv1 rfl rfl ?_))))))
   refine b_split (t := 57) rfl (fun _ => ?_) (fun _ => ?_)
   ·refine s_off rfl rfl rfl rfl rfl (s_off rfl rfl rfl rfl rfl (s_off rfl rfl rfl rfl rfl (s_off rfl rfl rfl rfl rfl (s_rd (r_pickT rfl rfl) rfl (l_nil (n_then (ref_condT rfl rfl (ref_skip ?_))))))))
    exact b_to (hk70 () ()) (weak [0, 1, 2, 3] ⟨rfl, rfl, rfl, rfl, rfl, rfl, rfl, trivial⟩ ⟨rfl, rfl, rfl, rfl, trivial⟩)
   refine s_on rfl rfl rfl (mv1 rfl rfl (s_on rfl rfl rfl (mv1 rfl rfl (s_on rfl rfl rfl (s_rd (r_olen Tryz.underlying22 rfl (j := 3) rfl) rfl (s_on rfl rfl rfl (s_rd (r_lss rfl rfl) rfl (s_rd (r_pickF rfl rfl) rfl (l_nil (n_then ?_))))))))))
   refine ref_cond rfl (fun hb67 => ?_) (fun hb67 => ?_)
   ·refine ref_skip ?_
    exact b_to (hk70 () ()) (weak [0, 1, 2, 3] ⟨rfl, rfl, rfl, rfl, rfl, rfl, rfl, trivial⟩ ⟨rfl, rfl, rfl, rfl, trivial⟩)
   refine ref_exit (x_then ?_)
   exact brkB x66 (weak [1] ⟨rfl, trivial⟩ ⟨rfl, trivial⟩)
  refine n_then (ref_block (ref_seq (ref_seq ?_)))
  refine ref_join (fun (j73 : Bool) (x74 : Unit) => [(2, slv rS facts_2), (10, pv (ptr b8 0)), (11, pv x66.1), (12, pv x10.1), (13, pv x12.1), (14, iv .i64 s65.1), (15, iv .i64 s65.2.1), (83, bv j73)]) (fun (j73 : Bool) (x74 : Unit) => [oc b8 [sv t7.Name, slv rS t7.Facts, iv .i64 t7.Winner, slv rS t7.Reason], oa rS x66.1 x66.2 s65.2.2, oa rS x10.1 x10.2 own9, oa rS x12.1 x12.2 counter11]) (fun k75 hk75 => ?_) (fun j73 x74 => ?_)
  ·refine ref_draw [0, 1, 2, 3, 4, 5, 6, 7, 8, 9, 10, 11, 12, 13, 14, 15, 16, 17, 18, 19, 20] rfl (by kernel_rfl) (fun hok => ?_)
   refine a_rd (i := 0) hok rfl (by kernel_rfl) rfl (r_move rfl) rfl ?_
   refine a_rd (i := 1) hok rfl (by kernel_rfl) rfl (r_move rfl) rfl ?_
   refine a_rd (i := 2) hok rfl (by kernel_rfl) rfl (r_olen Tryz.underlying22 rfl (j := 3) rfl) rfl ?_
   refine a_rd (i := 3) hok rfl (by kernel_rfl) rfl (r_eql rfl rfl) rfl ?_
   refine a_rd (i := 4) hok rfl (by kernel_rfl) rfl (r_move rfl) rfl ?_
   refine b_split (t := 67) rfl (fun _ => ?_) (fun _ => ?_)
   ·refine a_off (i := 5) hok rfl rfl rfl rfl rfl (by kernel_rfl) rfl rfl ?_
    refine a_off (i := 6) hok rfl rfl rfl rfl rfl (by kernel_rfl) rfl rfl ?_
    refine a_off (i := 7) hok rfl rfl rfl rfl rfl (by kernel_rfl) rfl rfl ?_
    refine a_off (i := 8) hok rfl rfl rfl rfl rfl (by kernel_rfl) rfl rfl ?_
    refine a_off (i := 9) hok rfl rfl rfl rfl rfl (by kernel_rfl) rfl rfl ?_
    refine a_offU (i := 10) hok rfl rfl rfl (by kernel_rfl) rfl rfl ?_
    refine a_offU (i := 11) hok rfl rfl rfl (by kernel_rfl) rfl rfl ?_
    refine a_offU (i := 12) hok rfl rfl rfl (by kernel_rfl) rfl rfl ?_
    refine a_offU (i := 13) hok rfl rfl rfl (by kernel_rfl) rfl rfl ?_
    refine a_offU (i := 14) hok rfl rfl rfl (by kernel_rfl) rfl rfl ?_
    refine a_offU (i := 15) hok rfl rfl rfl (by kernel_rfl) rfl rfl ?_
    refine a_offU (i := 16) hok rfl rfl rfl (by kernel_rfl) rfl rfl ?_
    refine a_offU (i := 17) hok rfl rfl rfl (by kernel_rfl) rfl rfl ?_
    refine a_offU (i := 18) hok rfl rfl rfl (by kernel_rfl) rfl rfl ?_
    refine a_off (i := 19) hok rfl rfl rfl rfl rfl (by kernel_rfl) rfl rfl ?_
    refine a_rd (i := 20) hok rfl (by kernel_rfl) rfl (r_pickT rfl rfl) rfl ?_
    refine a_fin hok (by kernel_rfl) ?_
    exact b_to (hk75 true ()) (weak [0, 1, 2, 3] ⟨rfl, rfl, rfl, rfl, rfl, rfl, rfl, rfl, trivial⟩ ⟨rfl, rfl, rfl, rfl, trivial⟩)
   refine a_rdOn (i := 5) hok rfl rfl rfl rfl (by kernel_rfl) rfl (r_move rfl) rfl ?_
   refine a_rdOn (i := 6) hok rfl rfl rfl rfl (by kernel_rfl) rfl (r_move rfl) rfl ?_
   refine a_rdOn (i := 7) hok rfl rfl rfl rfl (by kernel_rfl) rfl (r_olen Tryz.underlying22 rfl (j := 2) rfl) rfl ?_
   refine a_rdOn (i := 8) hok rfl rfl rfl rfl (by kernel_rfl) rfl (r_lss rfl rfl) rfl ?_
   refine a_rdOn (i := 9) hok rfl rfl rfl rfl (by kernel_rfl) rfl (r_move rfl) rfl ?_
   refine b_split (t := 72) rfl (fun _ => ?_) (fun _ => ?_)
   ·refine a_rdOn (i := 10) hok rfl rfl rfl rfl (by kernel_rfl) rfl (r_move rfl) rfl ?_
    refine a_rdOn (i := 11) hok rfl rfl rfl rfl (by kernel_rfl) rfl (r_move rfl) rfl ?_
    refine pull fun t71 h_t71 => ?_
    refine a_rdOn (i := 12) hok rfl rfl rfl rfl (by kernel_rfl) rfl (r_oindex h_t71 Tryz.underlying22 el_9 rfl (j := 2) rfl rfl) rfl ?_
    refine a_rdOn (i := 13) hok rfl rfl rfl rfl (by kernel_rfl) rfl (r_oload h_t71 el_9 rfl (j := 2) rfl) rfl ?_
    refine a_rdOn (i := 14) hok rfl rfl rfl rfl (by kernel_rfl) rfl (r_move rfl) rfl ?_
    refine a_rdOn (i := 15) hok rfl rfl rfl rfl (by kernel_rfl) rfl (r_move rfl) rfl ?_
    refine pull fun t72 h_t72 => ?_
    refine a_rdOn (i := 16) hok rfl rfl rfl rfl (by kernel_rfl) rfl (r_oindex h_t72 Tryz.underlying22 el_9 rfl (j := 3) rfl rfl) rfl ?_
    refine a_rdOn (i := 17) hok rfl rfl rfl rfl (by kernel_rfl) rfl (r_oload h_t72 el_9 rfl (j := 3) rfl) rfl ?_
    refine a_rdOn (i := 18) hok rfl rfl rfl rfl (by kernel_rfl) rfl (r_slss rfl rfl) rfl ?_
    refine a_rdOn (i := 19) hok rfl rfl rfl rfl (by kernel_rfl) rfl (r_pickT rfl rfl) rfl ?_
    refine a_rd (i := 20) hok rfl (by kernel_rfl) rfl (r_pickF rfl rfl) rfl ?_
    refine a_fin hok (by kernel_rfl) ?_
    exact b_to (hk75 (Op.bytesLess t71.toList t72.toList) ()) (weak [0, 1, 2, 3] ⟨rfl, rfl, rfl, rfl, rfl, rfl, rfl, rfl, trivial⟩ ⟨rfl, rfl, rfl, rfl, trivial⟩)
   refine a_off (i := 10) hok rfl rfl rfl rfl rfl (by kernel_rfl) rfl rfl ?_
   refine a_off (i := 11) hok rfl rfl rfl rfl rfl (by kernel_rfl) rfl rfl ?_
   refine a_off (i := 12) hok rfl rfl rfl rfl rfl (by kernel_rfl) rfl rfl ?_
   refine a_off (i := 13) hok rfl rfl rfl rfl rfl (by kernel_rfl) rfl rfl ?_
   refine a_off (i := 14) hok rfl rfl rfl rfl rfl (by kernel_rfl) rfl rfl ?_
   refine a_off (i := 15) hok rfl rfl rfl rfl rfl (by kernel_rfl) rfl rfl ?_
   refine a_off (i := 16) hok rfl rfl rfl rfl rfl (by kernel_rfl) rfl rfl ?_
   refine a_off (i := 17) hok rfl rfl rfl rfl rfl (by kernel_rfl) rfl rfl ?_
   refine a_off (i := 18) hok rfl rfl rfl rfl rfl (by kernel_rfl) rfl rfl ?_
   refine a_rdOn (i := 19) hok rfl rfl rfl rfl (by kernel_rfl) rfl (r_pickF rfl rfl) rfl ?_
   refine a_rd (i := 20) hok rfl (by kernel_rfl) rfl (r_pickF rfl rfl) rfl ?_
   refine a_fin hok (by kernel_rfl) ?_
   exact b_to (hk75 false ()) (weak [0, 1, 2, 3] ⟨rfl, rfl, rfl, rfl, rfl, rfl, rfl, rfl, trivial⟩ ⟨rfl, rfl, rfl, rfl, trivial⟩)
  refine n_then ?_
  refine ref_cond rfl (fun hb76 => ?_) (fun hb76 => ?_)
  ·refine ref_seq (ref_seq (ref_region (mv1 rfl rfl (mv1 rfl rfl (mv1 rfl rfl (pull fun t77 h_t77 => s_rd (r_oindex h_t77 Tryz.underlying22 el_9 rfl (j := 2) rfl rfl) rfl (s_rd (r_oload h_t77 el_9 rfl (j := 2) rfl) rfl (pull fun t78 h_t78 => s_st (s_call (ψ := fun (_ : Unit) => bv t78) (args := [.tmp 84, .tmp 88]) Tryz.call47 rfl (ref38_In_ok h_t78) ⟨arg rfl, arg rfl, trivial⟩ (fun _ _ _ _ h => h)) rfl (fun _ => s_rd (r_not rfl) rfl (l_nil (n_then ?_)))))))))))
   refine ref_cond rfl (fun hb79 => ?_) (fun hb79 => ?_)
   ·refine ref_region (mv1 rfl rfl (mv1 rfl rfl (mv1 rfl rfl (pull fun t80 h_t80 => s_rd (r_oindex h_t80 Tryz.underlying22 el_9 rfl (j := 2) rfl rfl) rfl (s_rd (r_oload h_t80 el_9 rfl (j := 2) rfl) rfl (s_st (s_bslice (xs := [.tmp 95]) (ds := [t80]) Tryz.underlying22 el_9 rfl (Nat.le_of_ble_eq_true rfl) ⟨(part_at rfl sv_at), trivial⟩) rfl (fun _ => pull fun out81 h_out81 => s_st (s_append h_out81 Tryz.underlying22 el_9 rfl (j := 1) rfl rfl) rfl (fun o82 => as1 rfl rfl (l_nil (n_then (ref_seq (ref_region (mv1 rfl rfl (s_rd (r_add rfl rfl) rfl (as1 rfl rfl (b_let (f := iv .i64) (t := 14) rfl fun i83 => l_nil (n_then (ref_exit (x_then (x_eq ?_))))))))))))))))))))
    exact goB o82 (weak [0, 1, 2, 3] ⟨rfl, rfl, rfl, rfl, rfl, rfl, rfl, trivial⟩ ⟨rfl, rfl, rfl, rfl, trivial⟩)
   refine ref_skip (n_then (ref_seq (ref_region (mv1 rfl rfl (s_rd (r_add rfl rfl) rfl (as1 rfl rfl (b_let (f := iv .i64) (t := 14) rfl fun i84 => l_nil (n_then (ref_exit (x_then (x_eq ?_)))))))))))
   exact goB x66 (weak [0, 1, 2, 3] ⟨rfl, rfl, rfl, rfl, rfl, rfl, rfl, trivial⟩ ⟨rfl, rfl, rfl, rfl, trivial⟩)
  refine ref_skip (n_then (ref_seq (ref_seq ?_)))
  refine ref_draw [0, 1, 2, 3, 4, 5, 7] rfl (by kernel_rfl) (fun hok => ?_)
  refine a_rd (i := 0) hok rfl (by kernel_rfl) rfl (r_faddr (fo := 1) Tryz.underlying60 rfl rfl Tryz.sizeOf22 rfl) rfl ?_
  refine a_rd (i := 1) hok rfl (by kernel_rfl) rfl (r_cload Tryz.isAgg22 rfl (j := 0) rfl rfl) rfl ?_
  refine a_rd (i := 2) hok rfl (by kernel_rfl) rfl (r_move rfl) rfl ?_
  refine a_rd (i := 3) hok rfl (by kernel_rfl) rfl (r_move rfl) rfl ?_
  refine pull fun t85 h_t85 => ?_
  refine a_rd (i := 4) hok rfl (by kernel_rfl) rfl (r_oindex h_t85 Tryz.underlying22 el_9 rfl (j := 3) rfl rfl) rfl ?_
  refine a_rd (i := 5) hok rfl (by kernel_rfl) rfl (r_oload h_t85 el_9 rfl (j := 3) rfl) rfl ?_
  refine pull fun t86 h_t86 => ?_
  refine a_next hok 6 [] (by kernel_rfl) ?_ trivial
  refine a_st (i := 6) hok rfl rfl (s_call (ψ := fun (_ : Unit) => bv t86) (args := [.tmp 101, .tmp 105]) Tryz.call47 rfl (ref38_In_ok h_t86) ⟨arg rfl, arg rfl, trivial⟩ (fun _ _ _ _ h => h)) (by intro _ h; cases h; rfl) (fun _ => ⟨trivial, ⟨trivial, ⟨trivial, ⟨trivial, ⟨trivial, ⟨trivial, trivial⟩⟩⟩⟩⟩⟩) (fun _ => ?_)
  refine a_rd (i := 7) hok rfl (by kernel_rfl) rfl (r_not rfl) rfl ?_
  refine a_fin hok (by kernel_rfl) ?_
  refine n_then ?_
  refine ref_cond rfl (fun hb87 => ?_) (fun hb87 => ?_)
  ·refine ref_region (mv1 rfl rfl (mv1 rfl rfl (mv1 rfl rfl (pull fun t88 h_t88 => s_rd (r_oindex h_t88 Tryz.underlying22 el_9 rfl (j := 3) rfl rfl) rfl (s_rd (r_oload h_t88 el_9 rfl (j := 3) rfl) rfl (s_st (s_bslice (xs := [.tmp 112]) (ds := [t88]) Tryz.underlying22 el_9 rfl (Nat.le_of_ble_eq_true rfl) ⟨(part_at rfl sv_at), trivial⟩) rfl (fun _ => pull fun out89 h_out89 => s_st (s_append h_out89 Tryz.underlying22 el_9 rfl (j := 1) rfl rfl) rfl (fun o90 => as1 rfl rfl (l_nil (n_then (ref_region (mv1 rfl rfl (s_rd (r_add rfl rfl) rfl (as1 rfl rfl (b_let (f := iv .i64) (t := 15) rfl fun k91 => l_nil (n_block ?_))))))))))))))))
   exact goB o90 (weak [0, 1, 2, 3] ⟨rfl, rfl, rfl, rfl, rfl, rfl, rfl, trivial⟩ ⟨rfl, rfl, rfl, rfl, trivial⟩)
  refine ref_skip (n_then (ref_region (mv1 rfl rfl (s_rd (r_add rfl rfl) rfl (as1 rfl rfl (b_let (f := iv .i64) (t := 15) rfl fun k92 => l_nil (n_block ?_)))))))
  exact goB x66 (weak [0, 1, 2, 3] ⟨rfl, rfl, rfl, rfl, rfl, rfl, rfl, trivial⟩ ⟨rfl, rfl, rfl, rfl, trivial⟩)
 refine n_then (ref_seq (ref_region (mv1 rfl rfl (as1 rfl rfl (as1 rfl rfl (l_nil (n_then (ref_ret ?_))))))))
 exact fin2 (.inl rfl) y94 [0] rfl ⟨rfl, trivial⟩ rfl (rv_tmp rfl) (rv_tmp rfl)

/-! deliberation/deliberationref38.shared -/
noncomputable def ref38_shared_l1 (c_0 : T_Cas) (facts_1 : (List ByteArray)) (s22 : Int × (List ByteArray)) : Option (Sum ((List ByteArray)) (Int × (List ByteArray))) :=
 bif decide (s22.1 < (c_0.Facts.length : Int)) then
  Option.bind (idxM c_0.Facts s22.1) fun t25 =>
  Option.bind (ref38_In_m facts_1 t25) fun t26 =>
  bif t26 then
   Option.bind (idxM c_0.Facts s22.1) fun t28 =>
   Option.bind (appM 16 s22.2 [t28]) fun out29 =>
   letM (iadd .i64 s22.1 1) fun i31 =>
   some (Sum.inr (i31, out29))
  else
   letM (iadd .i64 s22.1 1) fun i32x =>
   some (Sum.inr (i32x, s22.2))
 else
  some (Sum.inl s22.2)

noncomputable def ref38_shared_m (c_0 : T_Cas) (facts_1 : (List ByteArray)) : Option (List ByteArray) :=
 Option.bind (loopC (ref38_shared_l1 c_0 facts_1) (0, [])) fun q33 : (List ByteArray) =>
 some q33

theorem ref38_shared_ok {c_0 : T_Cas} {facts_1 : (List ByteArray)} {r : List ByteArray} (hm : ref38_shared_m c_0 facts_1 = some r) :
  FnOk prog 64 [ag [sv c_0.Name, slv rS c_0.Facts, iv .i64 c_0.Winner, slv rS c_0.Reason], slv rS facts_1] [] (fun (x : (Value × List Nat)) => [pv x.1]) (fun (x : (Value × List Nat)) => [oa rS x.1 x.2 r]) := by
 refine fn_ok (X := (Value × List Nat)) (fn := Tryz.f64) (N := 30) (res := fun r x => [pv x.1]) (Ω1 := fun r x => [oa rS x.1 x.2 r]) Tryz.func64 rfl rfl hm rfl (fun E hM => ?_)
 unfold ref38_shared_m
 refine ref_seq (ref_region (s_st (s_box (part_agO (ψs := [sv c_0.Name, slv rS c_0.Facts, iv .i64 c_0.Winner, slv rS c_0.Reason]) rfl ⟨.inl sv_at, .inl slv_at, .inl iv_at, .inl slv_at, trivial⟩)) rfl (fun b1 => as1 rfl rfl (l_nil (n_then (ref_seq (ref_region (as1 rfl rfl (l_nil (n_then (ref_seq (ref_seq (ref_region (as1 rfl rfl (l_nil (n_then (b_of (own_nil rS) ?_)))))))))))))))))
 refine ref_loopB (f := (ref38_shared_l1 c_0 facts_1)) (Γl := (fun (s22 : Int × (List ByteArray)) (x23 : (Value × List Nat)) => [(1, slv rS facts_1), (2, pv (ptr b1 0)), (5, pv x23.1), (6, iv .i64 s22.1)])) (Ωl := (fun (s22 : Int × (List ByteArray)) (x23 : (Value × List Nat)) => [oc b1 [sv c_0.Name, slv rS c_0.Facts, iv .i64 c_0.Winner, slv rS c_0.Reason], oa rS x23.1 x23.2 s22.2])) (Γb := (fun (q33 : (List ByteArray)) (y34 : (Value × List Nat)) => [(5, pv y34.1)])) (Ωb := (fun (q33 : (List ByteArray)) (y34 : (Value × List Nat)) => [oa rS y34.1 y34.2 q33])) (0, []) ((.slice none 0 0), []) (weak [0, 1] ⟨rfl, rfl, rfl, rfl, trivial⟩ ⟨rfl, rfl, trivial⟩) (fun s22 x23 => ?_) (fun q33 y34 => ?_)
 ·unfold ref38_shared_l1
  refine ref_seq (ref_seq (ref_region (mv1 rfl rfl (s_rd (r_faddr (fo := 1) Tryz.underlying60 rfl rfl Tryz.sizeOf22 rfl) rfl (s_rd (r_cload Tryz.isAgg22 rfl (j := 0) rfl rfl) rfl (s_rd (r_len Tryz.underlying22 rfl) rfl (s_rd (r_lss rfl rfl) rfl (l_nil (n_then ?_)))))))))
  refine ref_cond rfl (fun hb24 => ?_) (fun hb24 => ?_)
  ·refine ref_skip (n_then (ref_seq (ref_block (ref_seq (ref_region (mv1 rfl rfl (s_rd (r_faddr (fo := 1) Tryz.underlying60 rfl rfl Tryz.sizeOf22 rfl) rfl (s_rd (r_cload Tryz.isAgg22 rfl (j := 0) rfl rfl) rfl (mv1 rfl rfl (pull fun t25 h_t25 => s_rd (r_index h_t25 Tryz.underlying22 el_9 rfl rfl) rfl (s_rd (r_load el_9 rfl) rfl (pull fun t26 h_t26 => s_st (s_call (ψ := fun (_ : Unit) => bv t26) (args := [.tmp 14, .tmp 19]) Tryz.call47 rfl (ref38_In_ok h_t26) ⟨arg rfl, arg rfl, trivial⟩ (fun _ _ _ _ h => h)) rfl (fun _ => l_nil (n_then ?_))))))))))))))
   refine ref_cond rfl (fun hb27 => ?_) (fun hb27 => ?_)
   ·refine ref_region (mv1 rfl rfl (s_rd (r_faddr (fo := 1) Tryz.underlying60 rfl rfl Tryz.sizeOf22 rfl) rfl (s_rd (r_cload Tryz.isAgg22 rfl (j := 0) rfl rfl) rfl (mv1 rfl rfl (pull fun t28 h_t28 => s_rd (r_index h_t28 Tryz.underlying22 el_9 rfl rfl) rfl (s_rd (r_load el_9 rfl) rfl (s_st (s_bslice (xs := [.tmp 26]) (ds := [t28]) Tryz.underlying22 el_9 rfl (Nat.le_of_ble_eq_true rfl) ⟨(part_at rfl sv_at), trivial⟩) rfl (fun _ => pull fun out29 h_out29 => s_st (s_append h_out29 Tryz.underlying22 el_9 rfl (j := 1) rfl rfl) rfl (fun o30 => as1 rfl rfl (l_nil (b_of (nrm [oc b1 [sv c_0.Name, slv rS c_0.Facts, iv .i64 c_0.Winner, slv rS c_0.Reason], oa rS o30.1 o30.2 out29] rfl) (n_block (n_then (ref_region (mv1 rfl rfl (s_rd (r_add rfl rfl) rfl (as1 rfl rfl (b_let (f := iv .i64) (t := 6) rfl fun i31 => l_nil ?_))))))))))))))))))
    exact goB o30 (weak [0, 1] ⟨rfl, rfl, rfl, rfl, trivial⟩ ⟨rfl, rfl, trivial⟩)
   refine ref_skip (n_block (n_then (ref_region (mv1 rfl rfl (s_rd (r_add rfl rfl) rfl (as1 rfl rfl (b_let (f := iv .i64) (t := 6) rfl fun i32x => l_nil ?_)))))))
   exact goB x23 (weak [0, 1] ⟨rfl, rfl, rfl, rfl, trivial⟩ ⟨rfl, rfl, trivial⟩)
  refine ref_exit (x_then ?_)
  exact brkB x23 (weak [1] ⟨rfl, trivial⟩ ⟨rfl, trivial⟩)
 refine n_then (ref_seq (ref_region (mv1 rfl rfl (as1 rfl rfl (l_nil (n_then (ref_ret ?_)))))))
 exact fin1 (.inl rfl) y34 [0] rfl ⟨rfl, trivial⟩ rfl (rv_tmp rfl)

/-! deliberation/deliberationref38.Citable -/
noncomputable def ref38_Citable_l1 (l_0 : T_Lib) (facts_1 : (List ByteArray)) (s31 : Int × (List Int)) : Option (Sum ((List Int)) (Int × (List Int))) :=
 bif decide (s31.1 < (l_0.Cases.length : Int)) then
  Option.bind (idxM l_0.Cases s31.1) fun t34 =>
  Option.bind (idxM l_0.Cases s31.1) fun t35 =>
  Option.bind (ref38_shared_m t34 facts_1) fun t36 =>
  Option.bind (ref38_Own_m l_0 t36 t35.Winner) fun t38 =>
  bif decide ((t38.length : Int) > 0) then
   Option.bind (appM 8 s31.2 [s31.1]) fun out41 =>
   letM (iadd .i64 s31.1 1) fun i43 =>
   some (Sum.inr (i43, out41))
  else
   letM (iadd .i64 s31.1 1) fun i44 =>
   some (Sum.inr (i44, s31.2))
 else
  some (Sum.inl s31.2)

noncomputable def ref38_Citable_l3 (l_0 : T_Lib) (facts_1 : (List ByteArray)) (q45 : (List Int)) (s312 : Int × (List T_Pai)) (s359 : Int × (List T_Pai)) : Option (Sum ((List T_Pai)) (Int × (List T_Pai))) :=
 bif decide (s359.1 < (q45.length : Int)) then
  Option.bind (idxM q45 s312.1) fun t363 =>
  Option.bind (idxM l_0.Cases t363) fun t364 =>
  Option.bind (idxM q45 s359.1) fun t365 =>
  Option.bind (idxM l_0.Cases t365) fun t366 =>
  Option.bind (ref38_shared_m t364 facts_1) fun x369 =>
  Option.bind (ref38_shared_m t366 facts_1) fun y371 =>
  joinM (fun j374 : Bool =>
    bif j374 then
     Option.bind (appM 16 s359.2 [(T_Pai.mk s312.1 s359.1)]) fun t378 =>
     letM (iadd .i64 s359.1 1) fun b380 =>
     some (Sum.inr (b380, t378))
    else
     letM (iadd .i64 s359.1 1) fun b381 =>
     some (Sum.inr (b381, s359.2))) fun k376 =>
  bif t364.Winner != t366.Winner then
   Option.bind (ref38_Inside_m x369 y371) fun t373 =>
   bif t373 then
    k376 (!(decide ((x369.length : Int) < (y371.length : Int))))
   else
    k376 (!false)
  else
   k376 false
 else
  some (Sum.inl s359.2)

noncomputable def ref38_Citable_l2 (l_0 : T_Lib) (facts_1 : (List ByteArray)) (q45 : (List Int)) (s312 : Int × (List T_Pai)) : Option (Sum ((List T_Pai)) (Int × (List T_Pai))) :=
 bif decide (s312.1 < (q45.length : Int)) then
  Option.bind (loopC (ref38_Citable_l3 l_0 facts_1 q45 s312) (0, s312.2)) fun q382 : (List T_Pai) =>
  letM (iadd .i64 s312.1 1) fun a_384 =>
  some (Sum.inr (a_384, q382))
 else
  some (Sum.inl s312.2)

noncomputable def ref38_Citable_m (l_0 : T_Lib) (facts_1 : (List ByteArray)) : Option (List Int × T_Gra × Int) :=
 Option.bind (ref38_situation_m l_0 facts_1) fun e3 =>
 bif e3 != 0 then
  some ([], (T_Gra.mk 0 []), e3)
 else
  Option.bind (loopC (ref38_Citable_l1 l_0 facts_1) (0, [])) fun q45 : (List Int) =>
  Option.bind (loopC (ref38_Citable_l2 l_0 facts_1 q45) (0, [])) fun q385 : (List T_Pai) =>
  some (q45, (T_Gra.mk (q45.length : Int) q385), 0)

theorem ref38_Citable_ok {l_0 : T_Lib} {facts_1 : (List ByteArray)} {r : List Int × T_Gra × Int} (hm : ref38_Citable_m l_0 facts_1 = some r) :
  FnOk prog 24 [ag [slv rS l_0.Sides.i0, slv rS l_0.Sides.i1, slv rT_Cas l_0.Cases], slv rS facts_1] [] (fun (x : (Value × List Nat)) => [pv x.1, ag [iv .i64 r.2.1.N, slv rT_Pai r.2.1.L], iv .i64 r.2.2]) (fun (x : (Value × List Nat)) => [oa (rI .i64) x.1 x.2 r.1]) := by
 refine fn_ok (X := (Value × List Nat)) (fn := Tryz.f24) (N := 117) (res := fun r x => [pv x.1, ag [iv .i64 r.2.1.N, slv rT_Pai r.2.1.L], iv .i64 r.2.2]) (Ω1 := fun r x => [oa (rI .i64) x.1 x.2 r.1]) Tryz.func24 rfl rfl hm rfl (fun E hM => ?_)
 unfold ref38_Citable_m
 refine ref_seq (ref_region (s_st (s_box (part_agO (ψs := [slv rS l_0.Sides.i0, slv rS l_0.Sides.i1, slv rT_Cas l_0.Cases]) rfl ⟨.inl slv_at, .inl slv_at, .inl slv_at, trivial⟩)) rfl (fun b1 => as1 rfl rfl (s_st (s_alloc zt_52) rfl (fun b2 => as1 rfl rfl (l_nil (n_then (ref_seq (ref_seq (ref_region (s_rd (r_cloadS Tryz.isAgg26 Tryz.sizeOf26 rfl (j := 0) rfl rfl rfl) rfl (mv1 rfl rfl (pull fun e3 h_e3 => s_st (s_call (ψ := fun (_ : Unit) => iv .i64 e3) (args := [.tmp 17, .tmp 18]) Tryz.call61 rfl (ref38_situation_ok h_e3) ⟨arg rfl, arg rfl, trivial⟩ (fun _ _ _ _ h => h)) rfl (fun _ => as1 rfl rfl (l_nil (n_then (ref_seq (ref_region (mv1 rfl rfl (s_rd (r_neq rfl rfl) rfl (l_nil (n_then ?_))))))))))))))))))))))
 refine ref_cond rfl (fun hb4 => ?_) (fun hb4 => ?_)
 ·refine ref_seq (ref_region (s_rd (r_build (ps := []) (rs := []) st_52 zs_52 trivial rfl rfl) rfl (mv1 rfl rfl (as1 rfl rfl (s_st0 (s_cstore (out := [iv .i64 0, pv (.slice none 0 0)]) Tryz.sizeOf52 rfl (j := 1) rfl (part_agO (ψs := [iv .i64 0, pv (.slice none 0 0)]) rfl ⟨.inl iv_at, .inl (pv_at rfl), trivial⟩) rfl rfl rfl) (fun _ => as1 rfl rfl (l_nil (b_of (nrm [oc b1 [slv rS l_0.Sides.i0, slv rS l_0.Sides.i1, slv rT_Cas l_0.Cases], oc b2 [iv .i64 0, pv (.slice none 0 0)]] rfl) (n_then (ref_ret (r_then (b_of (own_nil (rI .i64)) (b_of (ocW 1 [iv .i64 0, slv rT_Pai []] rfl ⟨imp_rfl, nil_sl, trivial⟩) ?_)))))))))))))
  exact fin3 (.inl rfl) ((.slice none 0 0), []) [2] rfl ⟨rfl, trivial⟩ rfl (rv_tmp rfl) (rv_cell rfl (j := 1) rfl Tryz.isAgg52 Tryz.sizeOf52 rfl rfl) (rv_tmp rfl)
 refine ref_skip (n_then (ref_seq (ref_region (as1 rfl rfl (l_nil (n_then (ref_seq (ref_seq (ref_region (as1 rfl rfl (l_nil (n_then (b_of (own_nil (rI .i64)) ?_)))))))))))))
 refine ref_loopB (f := (ref38_Citable_l1 l_0 facts_1)) (Γl := (fun (s31 : Int × (List Int)) (x32 : (Value × List Nat)) => [(1, slv rS facts_1), (2, pv (ptr b1 0)), (5, pv (ptr b2 0)), (8, pv x32.1), (9, iv .i64 s31.1)])) (Ωl := (fun (s31 : Int × (List Int)) (x32 : (Value × List Nat)) => [oc b1 [slv rS l_0.Sides.i0, slv rS l_0.Sides.i1, slv rT_Cas l_0.Cases], oc b2 [iv .i64 0, pv (.slice none 0 0)], oa (rI .i64) x32.1 x32.2 s31.2])) (Γb := (fun (q45 : (List Int)) (y46 : (Value × List Nat)) => [(1, slv rS facts_1), (2, pv (ptr b1 0)), (5, pv (ptr b2 0)), (8, pv y46.1)])) (Ωb := (fun (q45 : (List Int)) (y46 : (Value × List Nat)) => [oc b1 [slv rS l_0.Sides.i0, slv rS l_0.Sides.i1, slv rT_Cas l_0.Cases], oc b2 [iv .i64 0, pv (.slice none 0 0)], oa (rI .i64) y46.1 y46.2 q45])) (0, []) ((.slice none 0 0), []) (weak [0, 1, 2] ⟨rfl, rfl, rfl, rfl, rfl, trivial⟩ ⟨rfl, rfl, rfl, trivial⟩) (fun s31 x32 => ?_) (fun q45 y46 => ?_)
 ·unfold ref38_Citable_l1
  refine ref_seq (ref_seq (ref_region (mv1 rfl rfl (s_rd (r_faddr (fo := 2) Tryz.underlying26 rfl rfl Tryz.sizeOf24 rfl) rfl (s_rd (r_cload Tryz.isAgg24 rfl (j := 0) rfl rfl) rfl (s_rd (r_len Tryz.underlying24 rfl) rfl (s_rd (r_lss rfl rfl) rfl (l_nil (n_then ?_)))))))))
  refine ref_cond rfl (fun hb33 => ?_) (fun hb33 => ?_)
  ·refine ref_skip (n_then (ref_seq (ref_block (ref_seq ?_))))
   refine ref_draw [0, 1, 2, 3, 4, 5, 6, 8, 9, 10, 11, 12, 13, 15, 16] rfl (by kernel_rfl) (fun hok => ?_)
   refine a_rd (i := 0) hok rfl (by kernel_rfl) rfl (r_cloadS Tryz.isAgg26 Tryz.sizeOf26 rfl (j := 0) rfl rfl rfl) rfl ?_
   refine a_rd (i := 1) hok rfl (by kernel_rfl) rfl (r_faddr (fo := 2) Tryz.underlying26 rfl rfl Tryz.sizeOf24 rfl) rfl ?_
   refine a_rd (i := 2) hok rfl (by kernel_rfl) rfl (r_cload Tryz.isAgg24 rfl (j := 0) rfl rfl) rfl ?_
   refine a_rd (i := 3) hok rfl (by kernel_rfl) rfl (r_move rfl) rfl ?_
   refine pull fun t34 h_t34 => ?_
   refine a_rd (i := 4) hok rfl (by kernel_rfl) rfl (r_index h_t34 Tryz.underlying24 el_60 rfl rfl) rfl ?_
   refine a_rd (i := 5) hok rfl (by kernel_rfl) rfl (r_load el_60 rfl) rfl ?_
   refine a_rd (i := 6) hok rfl (by kernel_rfl) rfl (r_move rfl) rfl ?_
   refine a_rd (i := 8) hok rfl (by kernel_rfl) rfl (r_faddr (fo := 2) Tryz.underlying26 rfl rfl Tryz.sizeOf24 rfl) rfl ?_
   refine a_rd (i := 9) hok rfl (by kernel_rfl) rfl (r_cload Tryz.isAgg24 rfl (j := 0) rfl rfl) rfl ?_
   refine a_rd (i := 10) hok rfl (by kernel_rfl) rfl (r_move rfl) rfl ?_
   refine pull fun t35 h_t35 => ?_
   refine a_rd (i := 11) hok rfl (by kernel_rfl) rfl (r_index h_t35 Tryz.underlying24 el_60 rfl rfl) rfl ?_
   refine a_rd (i := 12) hok rfl (by kernel_rfl) rfl (r_fea (fo := 2) (ρ := rT_Cas) (y := t35) (ρ' := (rI .i64)) (z := t35.Winner) Tryz.underlying60 rfl rfl Tryz.sizeOf3 rfl rfl rfl) rfl ?_
   refine a_rd (i := 13) hok rfl (by kernel_rfl) rfl (r_load el_3 rfl) rfl ?_
   refine pull fun t36 h_t36 => ?_
   refine a_next hok 7 [] (by kernel_rfl) ?_ trivial
   refine a_st (i := 7) hok rfl rfl (s_call (ψ := fun (x37 : (Value × List Nat)) => pv x37.1) (args := [.tmp 36, .tmp 37]) Tryz.call64 rfl (ref38_shared_ok h_t36) ⟨arg rfl, arg rfl, trivial⟩ (fun _ _ _ _ h => h)) (by intro _ h; cases h; rfl) (fun _ => ⟨trivial, ⟨trivial, ⟨trivial, ⟨trivial, ⟨⟨⟨rfl, rfl⟩, trivial⟩, ⟨trivial, ⟨trivial, ⟨trivial, ⟨trivial, ⟨trivial, ⟨⟨⟨rfl, rfl⟩, trivial⟩, ⟨trivial, ⟨⟨⟨rfl, rfl⟩, trivial⟩, trivial⟩⟩⟩⟩⟩⟩⟩⟩⟩⟩⟩⟩⟩) (fun x37 => ?_)
   refine pull fun t38 h_t38 => ?_
   refine a_next hok 14 [] (by kernel_rfl) ?_ trivial
   refine a_st (i := 14) hok rfl rfl (s_callBO (ψ := fun (x39 : (Value × List Nat)) => pv x39.1) (args := [.tmp 31, .tmp 38, .tmp 44]) Tryz.call30 rfl (ref38_Own_ok h_t38) (fun _ => ⟨oa_free free_S, trivial⟩) ⟨argB rfl, argO rfl (j := 3) rfl, argB rfl, trivial⟩ (fun _ _ _ _ _ h => h)) (by intro _ h; cases h; rfl) (fun _ => ⟨trivial, ⟨trivial, ⟨trivial, ⟨trivial, ⟨⟨⟨rfl, rfl⟩, trivial⟩, ⟨trivial, ⟨trivial, ⟨trivial, ⟨trivial, ⟨trivial, ⟨⟨⟨rfl, rfl⟩, trivial⟩, ⟨trivial, ⟨trivial, trivial⟩⟩⟩⟩⟩⟩⟩⟩⟩⟩⟩⟩⟩) (fun x39 => ?_)
   refine a_rd (i := 15) hok rfl (by kernel_rfl) rfl (r_olen Tryz.underlying22 rfl (j := 4) rfl) rfl ?_
   refine a_rd (i := 16) hok rfl (by kernel_rfl) rfl (r_gtr rfl rfl) rfl ?_
   refine a_fin hok (by kernel_rfl) ?_
   refine b_of (nrm [oc b1 [slv rS l_0.Sides.i0, slv rS l_0.Sides.i1, slv rT_Cas l_0.Cases], oc b2 [iv .i64 0, pv (.slice none 0 0)], oa (rI .i64) x32.1 x32.2 s31.2, oa rS x37.1 x37.2 t36, oa rS x39.1 x39.2 t38] rfl) (n_then ?_)
   refine ref_cond rfl (fun hb40 => ?_) (fun hb40 => ?_)
   ·refine ref_region (mv1 rfl rfl (mv1 rfl rfl (s_st (s_bslice (xs := [.tmp 49]) (ds := [s31.1]) Tryz.underlying27 el_3 rfl (Nat.le_of_ble_eq_true rfl) ⟨(part_at rfl iv_at), trivial⟩) rfl (fun _ => pull fun out41 h_out41 => s_st (s_append h_out41 Tryz.underlying27 el_3 rfl (j := 2) rfl rfl) rfl (fun o42 => as1 rfl rfl (l_nil (n_block (n_then (ref_region (mv1 rfl rfl (s_rd (r_add rfl rfl) rfl (as1 rfl rfl (b_let (f := iv .i64) (t := 9) rfl fun i43 => l_nil ?_)))))))))))))
    exact goB o42 (weak [0, 1, 2] ⟨rfl, rfl, rfl, rfl, rfl, trivial⟩ ⟨rfl, rfl, rfl, trivial⟩)
   refine ref_skip (n_block (n_then (ref_region (mv1 rfl rfl (s_rd (r_add rfl rfl) rfl (as1 rfl rfl (b_let (f := iv .i64) (t := 9) rfl fun i44 => l_nil ?_)))))))
   exact goB x32 (weak [0, 1, 2] ⟨rfl, rfl, rfl, rfl, rfl, trivial⟩ ⟨rfl, rfl, rfl, trivial⟩)
  refine ref_exit (x_then ?_)
  exact brkB x32 (weak [0, 1, 2] ⟨rfl, rfl, rfl, rfl, trivial⟩ ⟨rfl, rfl, rfl, trivial⟩)
 refine n_then (ref_seq (ref_region (mv1 rfl rfl (s_rd (r_olen Tryz.underlying27 rfl (j := 2) rfl) rfl (s_rd (r_build (ps := [(0, .tmp 53)]) (rs := [(0, [iv .i64 (q45.length : Int)])]) st_52 zs_52 ⟨rfl, (part_at rfl iv_at), trivial⟩ rfl rfl) rfl (s_st (s_alloc zt_52) rfl (fun b47 => s_st0 (s_cstore (out := [iv .i64 (q45.length : Int), pv (.slice none 0 0)]) Tryz.sizeOf52 rfl (j := 3) rfl (part_agO (ψs := [iv .i64 (q45.length : Int), pv (.slice none 0 0)]) rfl ⟨.inl iv_at, .inl (pv_at rfl), trivial⟩) rfl rfl rfl) (fun _ => l_nil (n_then (ref_seq (ref_seq (ref_region (as1 rfl rfl (l_nil (n_then (b_of (own_nil rT_Pai) ?_))))))))))))))))
 refine ref_loopB (f := (ref38_Citable_l2 l_0 facts_1 q45)) (Γl := (fun (s312 : Int × (List T_Pai)) (x313 : (Value × List Nat)) => [(1, slv rS facts_1), (2, pv (ptr b1 0)), (5, pv (ptr b2 0)), (8, pv y46.1), (10, pv (ptr b47 0)), (11, iv .i64 s312.1)])) (Ωl := (fun (s312 : Int × (List T_Pai)) (x313 : (Value × List Nat)) => [oc b1 [slv rS l_0.Sides.i0, slv rS l_0.Sides.i1, slv rT_Cas l_0.Cases], oc b2 [iv .i64 0, pv (.slice none 0 0)], oa (rI .i64) y46.1 y46.2 q45, oc b47 [iv .i64 (q45.length : Int), pv x313.1], oa rT_Pai x313.1 x313.2 s312.2])) (Γb := (fun (q385 : (List T_Pai)) (y386 : (Value × List Nat)) => [(5, pv (ptr b2 0)), (8, pv y46.1), (10, pv (ptr b47 0))])) (Ωb := (fun (q385 : (List T_Pai)) (y386 : (Value × List Nat)) => [oc b2 [iv .i64 0, pv (.slice none 0 0)], oa (rI .i64) y46.1 y46.2 q45, oc b47 [iv .i64 (q45.length : Int), pv y386.1], oa rT_Pai y386.1 y386.2 q385])) (0, []) ((.slice none 0 0), []) (weak [0, 1, 2, 3, 4] ⟨rfl, rfl, rfl, rfl, rfl, rfl, trivial⟩ ⟨rfl, rfl, rfl, rfl, rfl, trivial⟩) (fun s312 x313 => ?_) (fun q385 y386 => ?_)
 ·unfold ref38_Citable_l2
  refine ref_seq (ref_seq (ref_region (mv1 rfl rfl (mv1 rfl rfl (s_rd (r_olen Tryz.underlying27 rfl (j := 2) rfl) rfl (s_rd (r_lss rfl rfl) rfl (l_nil (n_then ?_))))))))
  refine ref_cond rfl (fun hb314 => ?_) (fun hb314 => ?_)
  ·refine ref_skip (n_then (ref_seq (ref_block (ref_seq (ref_region (as1 rfl rfl (l_nil (n_then ?_))))))))
   refine ref_loopB (f := (ref38_Citable_l3 l_0 facts_1 q45 s312)) (Γl := (fun (s359 : Int × (List T_Pai)) (x360 : (Value × List Nat)) => [(1, slv rS facts_1), (2, pv (ptr b1 0)), (5, pv (ptr b2 0)), (8, pv y46.1), (10, pv (ptr b47 0)), (11, iv .i64 s312.1), (12, iv .i64 s359.1)])) (Ωl := (fun (s359 : Int × (List T_Pai)) (x360 : (Value × List Nat)) => [oc b1 [slv rS l_0.Sides.i0, slv rS l_0.Sides.i1, slv rT_Cas l_0.Cases], oc b2 [iv .i64 0, pv (.slice none 0 0)], oa (rI .i64) y46.1 y46.2 q45, oc b47 [iv .i64 (q45.length : Int), pv x360.1], oa rT_Pai x360.1 x360.2 s359.2])) (Γb := (fun (q382 : (List T_Pai)) (y383 : (Value × List Nat)) => [(1, slv rS facts_1), (2, pv (ptr b1 0)), (5, pv (ptr b2 0)), (8, pv y46.1), (10, pv (ptr b47 0)), (11, iv .i64 s312.1)])) (Ωb := (fun (q382 : (List T_Pai)) (y383 : (Value × List Nat)) => [oc b1 [slv rS l_0.Sides.i0, slv rS l_0.Sides.i1, slv rT_Cas l_0.Cases], oc b2 [iv .i64 0, pv (.slice none 0 0)], oa (rI .i64) y46.1 y46.2 q45, oc b47 [iv .i64 (q45.length : Int), pv y383.1], oa rT_Pai y383.1 y383.2 q382])) (0, s312.2) x313 (weak [0, 1, 2, 3, 4] ⟨rfl, rfl, rfl, rfl, rfl, rfl, rfl, trivial⟩ ⟨rfl, rfl, rfl, rfl, rfl, trivial⟩) (fun s359 x360 => ?_) (fun q382 y383 => ?_)
   ·unfold ref38_Citable_l3
    refine ref_seq (ref_seq (ref_region (mv1 rfl rfl (mv1 rfl rfl (s_rd (r_olen Tryz.underlying27 rfl (j := 2) rfl) rfl (s_rd (r_lss rfl rfl) rfl (l_nil (n_then ?_))))))))
    refine ref_cond rfl (fun hb361 => ?_) (fun hb361 => ?_)
    ·refine ref_skip (n_then (ref_seq (ref_block (ref_seq (pull fun t363 h_t363 => pull fun t364 h_t364 => pull fun t365 h_t365 => pull fun t366 h_t366 => ?_)))))
     refine ref_drawI 2 [⟨[], [], [], [], [], fun us u => pv (ptr b1 2), fun us u => []⟩, ⟨[0], [], [], [0], [], fun us u => slv rT_Cas l_0.Cases, fun us u => []⟩, ⟨[], [], [], [], [], fun us u => pv y46.1, fun us u => []⟩, ⟨[], [], [], [], [], fun us u => iv .i64 s312.1, fun us u => []⟩, ⟨[2, 3], [], [], [2], [], fun us u => pv (elA y46.1 ((rI .i64)).size s312.1), fun us u => []⟩, ⟨[2, 3, 4], [], [], [2], [], fun us u => iv .i64 t363, fun us u => []⟩, ⟨[0, 1, 2, 3, 4, 5], [], [], [], [], fun us u => ea rT_Cas t364, fun us u => []⟩, ⟨[0, 1, 2, 3, 4, 5, 6], [], [], [], [], fun us u => ag [sv t364.Name, slv rS t364.Facts, iv .i64 t364.Winner, slv rS t364.Reason], fun us u => []⟩, ⟨[], [], [], [], [], fun us u => pv (ptr b1 2), fun us u => []⟩, ⟨[8], [], [], [0], [], fun us u => slv rT_Cas l_0.Cases, fun us u => []⟩, ⟨[], [], [], [], [], fun us u => pv y46.1, fun us u => []⟩, ⟨[], [], [], [], [], fun us u => iv .i64 s359.1, fun us u => []⟩, ⟨[10, 11], [], [], [2], [], fun us u => pv (elA y46.1 ((rI .i64)).size s359.1), fun us u => []⟩, ⟨[10, 11, 12], [], [], [2], [], fun us u => iv .i64 t365, fun us u => []⟩, ⟨[8, 9, 10, 11, 12, 13], [], [], [], [], fun us u => ea rT_Cas t366, fun us u => []⟩, ⟨[8, 9, 10, 11, 12, 13, 14], [], [], [], [], fun us u => ag [sv t366.Name, slv rS t366.Facts, iv .i64 t366.Winner, slv rS t366.Reason], fun us u => []⟩, ⟨[], [], [5], [5], [], fun us u => pv (ptr u.Nn 0), fun us u => [oc u.Nn [sv ByteArray.empty, pv (.slice none 0 0), iv .i64 0, pv (.slice none 0 0)]]⟩, ⟨[], [], [6], [6], [], fun us u => pv (ptr u.Nn 0), fun us u => [oc u.Nn [sv ByteArray.empty, pv (.slice none 0 0), iv .i64 0, pv (.slice none 0 0)]]⟩, ⟨[0, 1, 2, 3, 4, 5, 6, 7, 16, 17], [16], [5], [5], [5], fun us u => pv undef, fun us u => [oc (us.getD 0 .none).Nn [sv t364.Name, slv rS t364.Facts, iv .i64 t364.Winner, slv rS t364.Reason]]⟩, ⟨[0, 1, 2, 3, 4, 5, 6, 7, 8, 9, 10, 11, 12, 13, 14, 15, 16, 17, 18], [17], [6], [6], [6], fun us u => pv undef, fun us u => [oc (us.getD 0 .none).Nn [sv t366.Name, slv rS t366.Facts, iv .i64 t366.Winner, slv rS t366.Reason]]⟩] (fun χ362 => [(1, slv rS facts_1), (2, pv (ptr b1 0)), (5, pv (ptr b2 0)), (8, pv y46.1), (10, pv (ptr b47 0)), (11, iv .i64 s312.1), (12, iv .i64 s359.1), (13, pv (ptr (χ362 16).Nn 0)), (14, pv (ptr (χ362 17).Nn 0))]) (fun χ362 => [oc b1 [slv rS l_0.Sides.i0, slv rS l_0.Sides.i1, slv rT_Cas l_0.Cases], oc b2 [iv .i64 0, pv (.slice none 0 0)], oa (rI .i64) y46.1 y46.2 q45, oc b47 [iv .i64 (q45.length : Int), pv x360.1], oa rT_Pai x360.1 x360.2 s359.2, oc (χ362 16).Nn [sv t364.Name, slv rS t364.Facts, iv .i64 t364.Winner, slv rS t364.Reason], oc (χ362 17).Nn [sv t366.Name, slv rS t366.Facts, iv .i64 t366.Winner, slv rS t366.Reason]]) rfl (by kernel_rfl) ⟨fun χ362 Ω _ => St.toR (r_faddr (fo := 2) Tryz.underlying26 rfl rfl Tryz.sizeOf24 rfl) (fun _ => rfl) (fun _ => rfl), (by intro _ h; cases h; rfl), ⟨fun χ362 Ω ⟨h0, _⟩ => St.toR (r_cload Tryz.isAgg24 rfl (j := 0) h0 rfl) (fun _ => rfl) (fun _ => rfl), (by intro _ h; cases h; rfl), ⟨fun χ362 Ω _ => St.toR (r_move rfl) (fun _ => rfl) (fun _ => rfl), (by intro _ h; cases h; rfl), ⟨fun χ362 Ω _ => St.toR (r_move rfl) (fun _ => rfl) (fun _ => rfl), (by intro _ h; cases h; rfl), ⟨fun χ362 Ω ⟨h2, _⟩ => St.toR (r_oindex h_t363 Tryz.underlying27 el_3 rfl (j := 2) h2 rfl) (fun _ => rfl) (fun _ => rfl), (by intro _ h; cases h; rfl), ⟨fun χ362 Ω ⟨h2, _⟩ => St.toR (r_oload h_t363 el_3 rfl (j := 2) h2) (fun _ => rfl) (fun _ => rfl), (by intro _ h; cases h; rfl), ⟨fun χ362 Ω _ => St.toR (r_index h_t364 Tryz.underlying24 el_60 rfl rfl) (fun _ => rfl) (fun _ => rfl), (by intro _ h; cases h; rfl), ⟨fun χ362 Ω _ => St.toR (r_load el_60 rfl) (fun _ => rfl) (fun _ => rfl), (by intro _ h; cases h; rfl), ⟨fun χ362 Ω _ => St.toR (r_faddr (fo := 2) Tryz.underlying26 rfl rfl Tryz.sizeOf24 rfl) (fun _ => rfl) (fun _ => rfl), (by intro _ h; cases h; rfl), ⟨fun χ362 Ω ⟨h0, _⟩ => St.toR (r_cload Tryz.isAgg24 rfl (j := 0) h0 rfl) (fun _ => rfl) (fun _ => rfl), (by intro _ h; cases h; rfl), ⟨fun χ362 Ω _ => St.toR (r_move rfl) (fun _ => rfl) (fun _ => rfl), (by intro _ h; cases h; rfl), ⟨fun χ362 Ω _ => St.toR (r_move rfl) (fun _ => rfl) (fun _ => rfl), (by intro _ h; cases h; rfl), ⟨fun χ362 Ω ⟨h2, _⟩ => St.toR (r_oindex h_t365 Tryz.underlying27 el_3 rfl (j := 2) h2 rfl) (fun _ => rfl) (fun _ => rfl), (by intro _ h; cases h; rfl), ⟨fun χ362 Ω ⟨h2, _⟩ => St.toR (r_oload h_t365 el_3 rfl (j := 2) h2) (fun _ => rfl) (fun _ => rfl), (by intro _ h; cases h; rfl), ⟨fun χ362 Ω _ => St.toR (r_index h_t366 Tryz.underlying24 el_60 rfl rfl) (fun _ => rfl) (fun _ => rfl), (by intro _ h; cases h; rfl), ⟨fun χ362 Ω _ => St.toR (r_load el_60 rfl) (fun _ => rfl) (fun _ => rfl), (by intro _ h; cases h; rfl), ⟨fun χ362 Ω ⟨h5, _⟩ => St.to XU.Nn XU.hN (St.placeL (os := fun _ => [_]) [5] (s_alloc zt_60) (fun _ => rfl) (fun _ => ⟨h5, rfl, trivial⟩)) (fun _ => rfl) (fun _ => rfl), (by intro _ h; cases h; rfl), ⟨fun χ362 Ω ⟨h6, _⟩ => St.to XU.Nn XU.hN (St.placeL (os := fun _ => [_]) [6] (s_alloc zt_60) (fun _ => rfl) (fun _ => ⟨h6, rfl, trivial⟩)) (fun _ => rfl) (fun _ => rfl), (by intro _ h; cases h; rfl), ⟨fun χ362 Ω ⟨h5, _⟩ => St.to XU.U XU.hU (s_cstore (out := [sv t364.Name, slv rS t364.Facts, iv .i64 t364.Winner, slv rS t364.Reason]) Tryz.sizeOf60 rfl (j := 5) h5 (part_agO (ψs := [sv t364.Name, slv rS t364.Facts, iv .i64 t364.Winner, slv rS t364.Reason]) rfl ⟨.inl sv_at, .inl slv_at, .inl iv_at, .inl slv_at, trivial⟩) rfl rfl rfl) (fun _ => rfl) (fun _ => rfl), (by intro _ h; cases h), ⟨fun χ362 Ω ⟨h6, _⟩ => St.to XU.U XU.hU (s_cstore (out := [sv t366.Name, slv rS t366.Facts, iv .i64 t366.Winner, slv rS t366.Reason]) Tryz.sizeOf60 rfl (j := 6) h6 (part_agO (ψs := [sv t366.Name, slv rS t366.Facts, iv .i64 t366.Winner, slv rS t366.Reason]) rfl ⟨.inl sv_at, .inl slv_at, .inl iv_at, .inl slv_at, trivial⟩) rfl rfl rfl) (fun _ => rfl) (fun _ => rfl), (by intro _ h; cases h), trivial⟩⟩⟩⟩⟩⟩⟩⟩⟩⟩⟩⟩⟩⟩⟩⟩⟩⟩⟩⟩ (fun _ => ⟨rfl, rfl, rfl, rfl, rfl, rfl, rfl, rfl, rfl, trivial⟩) (fun _ => rfl) (fun χ362 => ?_)
     refine n_then (ref_seq ?_)
     refine ref_draw [0, 1, 3, 4] rfl (by kernel_rfl) (fun hok => ?_)
     refine a_rd (i := 0) hok rfl (by kernel_rfl) rfl (r_cloadS Tryz.isAgg60 Tryz.sizeOf60 rfl (j := 5) rfl rfl rfl) rfl ?_
     refine a_rd (i := 1) hok rfl (by kernel_rfl) rfl (r_move rfl) rfl ?_
     refine a_rd (i := 3) hok rfl (by kernel_rfl) rfl (r_cloadS Tryz.isAgg60 Tryz.sizeOf60 rfl (j := 6) rfl rfl rfl) rfl ?_
     refine a_rd (i := 4) hok rfl (by kernel_rfl) rfl (r_move rfl) rfl ?_
     refine pull fun x369 h_x369 => ?_
     refine a_next hok 2 [] (by kernel_rfl) ?_ trivial
     refine a_st (i := 2) hok rfl rfl (s_call (ψ := fun (x370 : (Value × List Nat)) => pv x370.1) (args := [.tmp 83, .tmp 84]) Tryz.call64 rfl (ref38_shared_ok h_x369) ⟨arg rfl, arg rfl, trivial⟩ (fun _ _ _ _ h => h)) (by intro _ h; cases h; rfl) (fun _ => ⟨trivial, ⟨⟨⟨rfl, rfl⟩, trivial⟩, ⟨trivial, ⟨trivial, trivial⟩⟩⟩⟩) (fun x370 => ?_)
     refine pull fun y371 h_y371 => ?_
     refine a_next hok 5 [] (by kernel_rfl) ?_ trivial
     refine a_st (i := 5) hok rfl rfl (s_call (ψ := fun (x372 : (Value × List Nat)) => pv x372.1) (args := [.tmp 86, .tmp 87]) Tryz.call64 rfl (ref38_shared_ok h_y371) ⟨arg rfl, arg rfl, trivial⟩ (fun _ _ _ _ h => h)) (by intro _ h; cases h; rfl) (fun _ => ⟨trivial, ⟨trivial, ⟨trivial, ⟨⟨⟨rfl, rfl⟩, trivial⟩, trivial⟩⟩⟩⟩) (fun x372 => ?_)
     refine a_next hok 6 [] (by kernel_rfl) ?_ trivial
     refine a_st (i := 6) hok rfl rfl (St.ofRd (r_assign rfl)) (by intro _ h; cases h; rfl) (fun _ => ⟨trivial, ⟨⟨⟨rfl, rfl⟩, trivial⟩, ⟨trivial, ⟨trivial, trivial⟩⟩⟩⟩) (fun _ => ?_)
     refine a_next hok 7 [] (by kernel_rfl) ?_ trivial
     refine a_st (i := 7) hok rfl rfl (St.ofRd (r_assign rfl)) (by intro _ h; cases h; rfl) (fun _ => ⟨trivial, ⟨trivial, ⟨trivial, ⟨trivial, trivial⟩⟩⟩⟩) (fun _ => ?_)
     refine a_fin hok (by kernel_rfl) ?_
     refine b_of (nrm [oc b1 [slv rS l_0.Sides.i0, slv rS l_0.Sides.i1, slv rT_Cas l_0.Cases], oc b2 [iv .i64 0, pv (.slice none 0 0)], oa (rI .i64) y46.1 y46.2 q45, oc b47 [iv .i64 (q45.length : Int), pv x360.1], oa rT_Pai x360.1 x360.2 s359.2, oc (χ362 16).Nn [sv t364.Name, slv rS t364.Facts, iv .i64 t364.Winner, slv rS t364.Reason], oc (χ362 17).Nn [sv t366.Name, slv rS t366.Facts, iv .i64 t366.Winner, slv rS t366.Reason], oa rS x370.1 x370.2 x369, oa rS x372.1 x372.2 y371] rfl) (n_then (ref_seq ?_))
     refine ref_join (fun (j374 : Bool) (x375 : Unit) => [(1, slv rS facts_1), (2, pv (ptr b1 0)), (5, pv (ptr b2 0)), (8, pv y46.1), (10, pv (ptr b47 0)), (11, iv .i64 s312.1), (12, iv .i64 s359.1), (106, bv j374)]) (fun (j374 : Bool) (x375 : Unit) => [oc b1 [slv rS l_0.Sides.i0, slv rS l_0.Sides.i1, slv rT_Cas l_0.Cases], oc b2 [iv .i64 0, pv (.slice none 0 0)], oa (rI .i64) y46.1 y46.2 q45, oc b47 [iv .i64 (q45.length : Int), pv x360.1], oa rT_Pai x360.1 x360.2 s359.2]) (fun k376 hk376 => ?_) (fun j374 x375 => ?_)
     ·refine ref_region (s_rd (r_faddr (fo := 2) Tryz.underlying60 rfl rfl Tryz.sizeOf3 rfl) rfl (s_rd (r_cload Tryz.isAgg3 rfl (j := 5) rfl rfl) rfl (s_rd (r_faddr (fo := 2) Tryz.underlying60 rfl rfl Tryz.sizeOf3 rfl) rfl (s_rd (r_cload Tryz.isAgg3 rfl (j := 6) rfl rfl) rfl (s_rd (r_neq rfl rfl) rfl (mv1 rfl rfl ?_))))))
      refine b_split (t := 94) rfl (fun _ => ?_) (fun _ => ?_)
      ·refine s_on rfl rfl rfl (mv1 rfl rfl (s_on rfl rfl rfl (mv1 rfl rfl (s_on rfl rfl rfl (pull fun t373 h_t373 => s_st (s_callB (ψ := fun (_ : Unit) => bv t373) (args := [.tmp 95, .tmp 96]) Tryz.call49 rfl (ref38_Inside_ok h_t373) ⟨argO rfl (j := 7) rfl, argO rfl (j := 8) rfl, trivial⟩ (fun _ _ _ _ _ h => h)) rfl (fun _ => s_on rfl rfl rfl (mv1 rfl rfl ?_)))))))
       refine b_split (t := 98) rfl (fun _ => ?_) (fun _ => ?_)
       ·refine s_on rfl rfl rfl (mv1 rfl rfl (s_on rfl rfl rfl (s_rd (r_olen Tryz.underlying22 rfl (j := 7) rfl) rfl (s_on rfl rfl rfl (mv1 rfl rfl (s_on rfl rfl rfl (s_rd (r_olen Tryz.underlying22 rfl (j := 8) rfl) rfl (s_on rfl rfl rfl (s_rd (r_lss rfl rfl) rfl (s_on rfl rfl rfl (s_rd (r_pickT rfl rfl) rfl (s_on rfl rfl rfl (s_rd (r_not rfl) rfl (s_rd (r_pickT rfl rfl) rfl (l_nil ?_)))))))))))))))
        exact b_to (hk376 (!(decide ((x369.length : Int) < (y371.length : Int)))) ()) (weak [0, 1, 2, 3, 4] ⟨rfl, rfl, rfl, rfl, rfl, rfl, rfl, rfl, trivial⟩ ⟨rfl, rfl, rfl, rfl, rfl, trivial⟩)
       refine s_off rfl rfl rfl rfl rfl (s_off rfl rfl rfl rfl rfl (s_off rfl rfl rfl rfl rfl (s_off rfl rfl rfl rfl rfl (s_off rfl rfl rfl rfl rfl (s_on rfl rfl rfl (s_rd (r_pickF rfl rfl) rfl (s_on rfl rfl rfl (s_rd (r_not rfl) rfl (s_rd (r_pickT rfl rfl) rfl (l_nil ?_))))))))))
       exact b_to (hk376 (!false) ()) (weak [0, 1, 2, 3, 4] ⟨rfl, rfl, rfl, rfl, rfl, rfl, rfl, rfl, trivial⟩ ⟨rfl, rfl, rfl, rfl, rfl, trivial⟩)
      refine s_off rfl rfl rfl rfl rfl (s_off rfl rfl rfl rfl rfl (s_off rfl rfl rfl rfl rfl (s_off rfl rfl rfl rfl rfl (s_offU rfl rfl rfl (s_offU rfl rfl rfl (s_offU rfl rfl rfl (s_offU rfl rfl rfl (s_offU rfl rfl rfl (s_off rfl rfl rfl rfl rfl (s_off rfl rfl rfl rfl rfl (s_rd (r_pickF rfl rfl) rfl (l_nil ?_))))))))))))
      exact b_to (hk376 false ()) (weak [0, 1, 2, 3, 4] ⟨rfl, rfl, rfl, rfl, rfl, rfl, rfl, rfl, trivial⟩ ⟨rfl, rfl, rfl, rfl, rfl, trivial⟩)
     refine n_then ?_
     refine ref_cond rfl (fun hb377 => ?_) (fun hb377 => ?_)
     ·refine ref_region (s_rd (r_faddr (fo := 1) Tryz.underlying52 rfl rfl Tryz.sizeOf50 rfl) rfl (s_rd (r_cload Tryz.isAgg50 rfl (j := 3) rfl rfl) rfl (mv1 rfl rfl (mv1 rfl rfl (s_rd (r_build (ps := [(0, .tmp 109), (1, .tmp 110)]) (rs := [(0, [iv .i64 s312.1]), (1, [iv .i64 s359.1])]) st_87 zs_87 ⟨rfl, (part_at rfl iv_at), ⟨rfl, (part_at rfl iv_at), trivial⟩⟩ rfl rfl) rfl (s_st (s_bslice (xs := [.tmp 111]) (ds := [(T_Pai.mk s312.1 s359.1)]) Tryz.underlying50 el_87 rfl (Nat.le_of_ble_eq_true rfl) ⟨(part_agO (ψs := [iv .i64 s312.1, iv .i64 s359.1]) rfl ⟨.inl iv_at, .inl iv_at, trivial⟩), trivial⟩) rfl (fun _ => pull fun t378 h_t378 => s_st (s_append h_t378 Tryz.underlying50 el_87 rfl (j := 4) rfl rfl) rfl (fun o379 => s_rd (r_faddr (fo := 1) Tryz.underlying52 rfl rfl Tryz.sizeOf50 rfl) rfl (s_st0 (s_cstore (out := [iv .i64 (q45.length : Int), pv o379.1]) Tryz.sizeOf50 rfl (j := 3) rfl (part_own rfl (j := 4) rfl) rfl rfl rfl) (fun _ => l_nil (n_block (n_then (ref_region (mv1 rfl rfl (s_rd (r_add rfl rfl) rfl (as1 rfl rfl (b_let (f := iv .i64) (t := 12) rfl fun b380 => l_nil ?_)))))))))))))))))
      exact goB o379 (weak [0, 1, 2, 3, 4] ⟨rfl, rfl, rfl, rfl, rfl, rfl, rfl, trivial⟩ ⟨rfl, rfl, rfl, rfl, rfl, trivial⟩)
     refine ref_skip (n_block (n_then (ref_region (mv1 rfl rfl (s_rd (r_add rfl rfl) rfl (as1 rfl rfl (b_let (f := iv .i64) (t := 12) rfl fun b381 => l_nil ?_)))))))
     exact goB x360 (weak [0, 1, 2, 3, 4] ⟨rfl, rfl, rfl, rfl, rfl, rfl, rfl, trivial⟩ ⟨rfl, rfl, rfl, rfl, rfl, trivial⟩)
    refine ref_exit (x_then ?_)
    exact brkB x360 (weak [0, 1, 2, 3, 4] ⟨rfl, rfl, rfl, rfl, rfl, rfl, trivial⟩ ⟨rfl, rfl, rfl, rfl, rfl, trivial⟩)
   refine n_block (n_then (ref_region (mv1 rfl rfl (s_rd (r_add rfl rfl) rfl (as1 rfl rfl (b_let (f := iv .i64) (t := 11) rfl fun a_384 => l_nil ?_))))))
   exact goB y383 (weak [0, 1, 2, 3, 4] ⟨rfl, rfl, rfl, rfl, rfl, rfl, trivial⟩ ⟨rfl, rfl, rfl, rfl, rfl, trivial⟩)
  refine ref_exit (x_then ?_)
  exact brkB x313 (weak [1, 2, 3, 4] ⟨rfl, rfl, rfl, trivial⟩ ⟨rfl, rfl, rfl, rfl, trivial⟩)
 refine n_then (ref_seq ?_)
 refine ref_draw [0, 1] rfl (by kernel_rfl) (fun hok => ?_)
 refine a_rd (i := 0) hok rfl (by kernel_rfl) rfl (r_move rfl) rfl ?_
 refine a_rd (i := 1) hok rfl (by kernel_rfl) rfl (r_cloadS Tryz.isAgg52 Tryz.sizeOf52 rfl (j := 2) rfl rfl rfl) rfl ?_
 refine a_next hok 2 [] (by kernel_rfl) ?_ trivial
 refine a_st (i := 2) hok rfl rfl (St.ofRd (r_assign rfl)) (by intro _ h; cases h; rfl) (fun _ => ⟨⟨⟨rfl, rfl⟩, trivial⟩, ⟨trivial, trivial⟩⟩) (fun _ => ?_)
 refine a_next hok 3 [] (by kernel_rfl) ?_ trivial
 refine a_st (i := 3) hok rfl rfl (s_cstore (out := [iv .i64 (q45.length : Int), pv y386.1]) Tryz.sizeOf52 rfl (j := 0) rfl (part_agO (ψs := [iv .i64 (q45.length : Int), pv y386.1]) rfl ⟨.inl iv_at, .inr ⟨_, _, _, _, _, 3, rfl, rfl⟩, trivial⟩) rfl rfl rfl) (by intro _ h; cases h) (fun _ => ⟨trivial, ⟨trivial, trivial⟩⟩) (fun _ => ?_)
 refine a_next hok 4 [] (by kernel_rfl) ?_ trivial
 refine a_st (i := 4) hok rfl rfl (St.ofRd (r_assign rfl)) (by intro _ h; cases h; rfl) (fun _ => ⟨trivial, ⟨trivial, trivial⟩⟩) (fun _ => ?_)
 refine a_fin hok (by kernel_rfl) ?_
 refine n_then (ref_ret (b_of (frzGL [(116, ag [iv .i64 (q45.length : Int), slv rT_Pai q385])] [(0, b2, [iv .i64 (q45.length : Int), slv rT_Pai q385]), (2, b47, [iv .i64 (q45.length : Int), slv rT_Pai q385])] (j := 3) rfl ⟨⟨_, rfl, .inr ⟨_, _, rfl, rfl, ⟨.inl rfl, .inr ⟨rfl, rfl⟩, trivial⟩⟩⟩, trivial⟩ ⟨⟨_, rfl, ⟨.inl rfl, .inr ⟨rfl, rfl⟩, trivial⟩⟩, ⟨_, rfl, ⟨.inl rfl, .inr ⟨rfl, rfl⟩, trivial⟩⟩, trivial⟩) (b_of (nrm [oc b2 [iv .i64 (q45.length : Int), slv rT_Pai q385], oa (rI .i64) y46.1 y46.2 q45, oc b47 [iv .i64 (q45.length : Int), slv rT_Pai q385], dead] rfl) ?_)))
 exact fin3 (.inl rfl) y46 [1] rfl ⟨rfl, trivial⟩ rfl (rv_tmp rfl) (rv_cell rfl (j := 0) rfl Tryz.isAgg52 Tryz.sizeOf52 rfl rfl) (rv_tmp rfl)

/-! deliberation/deliberationnet.Has -/
noncomputable def net_Has_l1 (g_0 : T_Gra) (from__1 : Int) (to__2 : Int) (s8 : Int) : Option (Sum ((Sum (Bool) (Unit))) (Int)) :=
 bif decide (s8 < (g_0.L.length : Int)) then
  Option.bind (idxM g_0.L s8) fun t11 =>
  bif t11.From == from__1 then
   Option.bind (idxM g_0.L s8) fun t12 =>
   bif t12.To == to__2 then
    some (Sum.inl (Sum.inl true))
   else
    some (Sum.inr (iadd .i64 s8 1))
  else
   some (Sum.inr (iadd .i64 s8 1))
 else
  some (Sum.inl (Sum.inr ()))

noncomputable def net_Has_m (g_0 : T_Gra) (from__1 : Int) (to__2 : Int) : Option (Bool) :=
 Option.bind (loopC (net_Has_l1 g_0 from__1 to__2) 0) (sumK (fun a : Bool => some a) fun q14 : Unit =>
  some false)

theorem net_Has_ok {g_0 : T_Gra} {from__1 : Int} {to__2 : Int} {r : Bool} (hm : net_Has_m g_0 from__1 to__2 = some r) :
  FnOk prog 83 [ag [iv .i64 g_0.N, slv rT_Pai g_0.L], iv .i64 from__1, iv .i64 to__2] [] (fun (x : Unit) => [bv r]) (fun (x : Unit) => []) := by
 refine fn_ok (fn := Tryz.f83) (N := 33) (res := fun r x => [bv r]) (Ω1 := fun r x => []) Tryz.func83 rfl rfl hm rfl (fun E hM => ?_)
 unfold net_Has_m
 refine ref_seq (ref_region (s_st (s_box (part_agO (ψs := [iv .i64 g_0.N, slv rT_Pai g_0.L]) rfl ⟨.inl iv_at, .inl slv_at, trivial⟩)) rfl (fun b1 => as1 rfl rfl (l_nil (n_then (ref_seq (ref_seq (ref_region (as1 rfl rfl (l_nil (n_then ?_)))))))))))
 refine ref_loopX (f := (net_Has_l1 g_0 from__1 to__2)) (Γl := (fun (s8 : Int) (x9 : Unit) => [(1, iv .i64 from__1), (2, iv .i64 to__2), (3, pv (ptr b1 0)), (7, iv .i64 s8)])) (Ωl := (fun (s8 : Int) (x9 : Unit) => [oc b1 [iv .i64 g_0.N, slv rT_Pai g_0.L]])) (Γb := (fun (q14 : Unit) (y15 : Unit) => [])) (Ωb := (fun (q14 : Unit) (y15 : Unit) => [])) (kr := (fun a : Bool => some a)) 0 () (weak [0] ⟨rfl, rfl, rfl, rfl, trivial⟩ ⟨rfl, trivial⟩) (fun s8 x9 => ?_) (fun q14 y15 => ?_)
 ·unfold net_Has_l1
  refine ref_seq (ref_seq (ref_region (mv1 rfl rfl (s_rd (r_faddr (fo := 1) Tryz.underlying52 rfl rfl Tryz.sizeOf50 rfl) rfl (s_rd (r_cload Tryz.isAgg50 rfl (j := 0) rfl rfl) rfl (s_rd (r_len Tryz.underlying50 rfl) rfl (s_rd (r_lss rfl rfl) rfl (l_nil (n_then ?_)))))))))
  refine ref_cond rfl (fun hb10 => ?_) (fun hb10 => ?_)
  ·refine ref_skip (n_then (ref_seq (ref_block (ref_seq (ref_region (s_rd (r_faddr (fo := 1) Tryz.underlying52 rfl rfl Tryz.sizeOf50 rfl) rfl (s_rd (r_cload Tryz.isAgg50 rfl (j := 0) rfl rfl) rfl (mv1 rfl rfl (pull fun t11 h_t11 => s_rd (r_index h_t11 Tryz.underlying50 el_87 rfl rfl) rfl (s_rd (r_fea (fo := 0) (ρ := rT_Pai) (y := t11) (ρ' := (rI .i64)) (z := t11.From) Tryz.underlying87 rfl rfl Tryz.sizeOf3 rfl rfl rfl) rfl (s_rd (r_load el_3 rfl) rfl (mv1 rfl rfl (s_rd (r_eql rfl rfl) rfl (mv1 rfl rfl ?_))))))))))))))
   refine b_split (t := 23) rfl (fun _ => ?_) (fun _ => ?_)
   ·refine s_on rfl rfl rfl (s_rd (r_faddr (fo := 1) Tryz.underlying52 rfl rfl Tryz.sizeOf50 rfl) rfl (s_on rfl rfl rfl (s_rd (r_cload Tryz.isAgg50 rfl (j := 0) rfl rfl) rfl (s_on rfl rfl rfl (mv1 rfl rfl (s_on rfl rfl rfl (pull fun t12 h_t12 => s_rd (r_index h_t12 Tryz.underlying50 el_87 rfl rfl) rfl (s_on rfl rfl rfl (s_rd (r_fea (fo := 1) (ρ := rT_Pai) (y := t12) (ρ' := (rI .i64)) (z := t12.To) Tryz.underlying87 rfl rfl Tryz.sizeOf3 rfl rfl rfl) rfl (s_on rfl rfl rfl (s_rd (r_load el_3 rfl) rfl (s_on rfl rfl rfl (mv1 rfl rfl (s_on rfl rfl rfl (s_rd (r_eql rfl rfl) rfl (s_rd (r_pickT rfl rfl) rfl (l_nil (n_then ?_))))))))))))))))))
    refine ref_cond rfl (fun hb13 => ?_) (fun hb13 => ?_)
    ·refine ref_seq (ref_region (as1 rfl rfl (l_nil (n_then (ref_ret (r_block (r_then ?_)))))))
     refine retX ?_
     refine r_block (r_then ?_)
     exact fin1 (.inl rfl) () [] rfl trivial rfl (rv_tmp rfl)
    refine ref_skip (n_block (n_then (ref_region (mv1 rfl rfl (s_rd (r_add rfl rfl) rfl (as1 rfl rfl (l_nil ?_)))))))
    exact goX () (weak [0] ⟨rfl, rfl, rfl, rfl, trivial⟩ ⟨rfl, trivial⟩)
   refine s_off rfl rfl rfl rfl rfl (s_off rfl rfl rfl rfl rfl (s_off rfl rfl rfl rfl rfl (s_off rfl rfl rfl rfl rfl (s_off rfl rfl rfl rfl rfl (s_off rfl rfl rfl rfl rfl (s_off rfl rfl rfl rfl rfl (s_off rfl rfl rfl rfl rfl (s_rd (r_pickF rfl rfl) rfl (l_nil (n_then (ref_condF rfl rfl (ref_skip (n_block (n_then (ref_region (mv1 rfl rfl (s_rd (r_add rfl rfl) rfl (as1 rfl rfl (l_nil ?_)))))))))))))))))))
   exact goX () (weak [0] ⟨rfl, rfl, rfl, rfl, trivial⟩ ⟨rfl, trivial⟩)
  refine ref_exit (x_then ?_)
  exact brkX () (weak [] trivial trivial)
 refine n_then (ref_seq (ref_region (as1 rfl rfl (l_nil (n_then (ref_ret ?_))))))
 exact fin1 (.inl rfl) () [] rfl trivial rfl (rv_tmp rfl)

/-! deliberation/deliberationnet.Attacked -/
noncomputable def net_Attacked_l1 (g_0 : T_Gra) (s_1 : (List Int)) (a__2 : Int) (s8 : Int) : Option (Sum ((Sum (Bool) (Unit))) (Int)) :=
 bif decide (s8 < (s_1.length : Int)) then
  Option.bind (idxM s_1 s8) fun t11 =>
  Option.bind (net_Has_m g_0 t11 a__2) fun t12 =>
  bif t12 then
   some (Sum.inl (Sum.inl true))
  else
   some (Sum.inr (iadd .i64 s8 1))
 else
  some (Sum.inl (Sum.inr ()))

noncomputable def net_Attacked_m (g_0 : T_Gra) (s_1 : (List Int)) (a__2 : Int) : Option (Bool) :=
 Option.bind (loopC (net_Attacked_l1 g_0 s_1 a__2) 0) (sumK (fun a : Bool => some a) fun q14 : Unit =>
  some false)

theorem net_Attacked_ok {g_0 : T_Gra} {s_1 : (List Int)} {a__2 : Int} {r : Bool} (hm : net_Attacked_m g_0 s_1 a__2 = some r) :
  FnOk prog 84 [ag [iv .i64 g_0.N, slv rT_Pai g_0.L], slv (rI .i64) s_1, iv .i64 a__2] [] (fun (x : Unit) => [bv r]) (fun (x : Unit) => []) := by
 refine fn_ok (fn := Tryz.f84) (N := 21) (res := fun r x => [bv r]) (Ω1 := fun r x => []) Tryz.func84 rfl rfl hm rfl (fun E hM => ?_)
 unfold net_Attacked_m
 refine ref_seq (ref_region (s_st (s_box (part_agO (ψs := [iv .i64 g_0.N, slv rT_Pai g_0.L]) rfl ⟨.inl iv_at, .inl slv_at, trivial⟩)) rfl (fun b1 => as1 rfl rfl (l_nil (n_then (ref_seq (ref_seq (ref_region (as1 rfl rfl (l_nil (n_then ?_)))))))))))
 refine ref_loopX (f := (net_Attacked_l1 g_0 s_1 a__2)) (Γl := (fun (s8 : Int) (x9 : Unit) => [(1, slv (rI .i64) s_1), (2, iv .i64 a__2), (3, pv (ptr b1 0)), (7, iv .i64 s8)])) (Ωl := (fun (s8 : Int) (x9 : Unit) => [oc b1 [iv .i64 g_0.N, slv rT_Pai g_0.L]])) (Γb := (fun (q14 : Unit) (y15 : Unit) => [])) (Ωb := (fun (q14 : Unit) (y15 : Unit) => [])) (kr := (fun a : Bool => some a)) 0 () (weak [0] ⟨rfl, rfl, rfl, rfl, trivial⟩ ⟨rfl, trivial⟩) (fun s8 x9 => ?_) (fun q14 y15 => ?_)
 ·unfold net_Attacked_l1
  refine ref_seq (ref_seq (ref_region (mv1 rfl rfl (mv1 rfl rfl (s_rd (r_len Tryz.underlying27 rfl) rfl (s_rd (r_lss rfl rfl) rfl (l_nil (n_then ?_))))))))
  refine ref_cond rfl (fun hb10 => ?_) (fun hb10 => ?_)
  ·refine ref_skip (n_then (ref_seq (ref_block (ref_seq ?_))))
   refine ref_draw [0, 1, 2, 3, 4, 5] rfl (by kernel_rfl) (fun hok => ?_)
   refine a_rd (i := 0) hok rfl (by kernel_rfl) rfl (r_cloadS Tryz.isAgg52 Tryz.sizeOf52 rfl (j := 0) rfl rfl rfl) rfl ?_
   refine a_rd (i := 1) hok rfl (by kernel_rfl) rfl (r_move rfl) rfl ?_
   refine a_rd (i := 2) hok rfl (by kernel_rfl) rfl (r_move rfl) rfl ?_
   refine pull fun t11 h_t11 => ?_
   refine a_rd (i := 3) hok rfl (by kernel_rfl) rfl (r_index h_t11 Tryz.underlying27 el_3 rfl rfl) rfl ?_
   refine a_rd (i := 4) hok rfl (by kernel_rfl) rfl (r_load el_3 rfl) rfl ?_
   refine a_rd (i := 5) hok rfl (by kernel_rfl) rfl (r_move rfl) rfl ?_
   refine pull fun t12 h_t12 => ?_
   refine a_next hok 6 [] (by kernel_rfl) ?_ trivial
   refine a_st (i := 6) hok rfl rfl (s_call (ψ := fun (_ : Unit) => bv t12) (args := [.tmp 14, .tmp 18, .tmp 19]) Tryz.call83 rfl (net_Has_ok h_t12) ⟨arg rfl, arg rfl, arg rfl, trivial⟩ (fun _ _ _ _ h => h)) (by intro _ h; cases h; rfl) (fun _ => ⟨trivial, ⟨trivial, ⟨trivial, ⟨trivial, ⟨trivial, ⟨trivial, trivial⟩⟩⟩⟩⟩⟩) (fun _ => ?_)
   refine a_fin hok (by kernel_rfl) ?_
   refine n_then ?_
   refine ref_cond rfl (fun hb13 => ?_) (fun hb13 => ?_)
   ·refine ref_seq (ref_region (as1 rfl rfl (l_nil (n_then (ref_ret (r_block (r_then ?_)))))))
    refine retX ?_
    refine r_block (r_then ?_)
    exact fin1 (.inl rfl) () [] rfl trivial rfl (rv_tmp rfl)
   refine ref_skip (n_block (n_then (ref_region (mv1 rfl rfl (s_rd (r_add rfl rfl) rfl (as1 rfl rfl (l_nil ?_)))))))
   exact goX () (weak [0] ⟨rfl, rfl, rfl, rfl, trivial⟩ ⟨rfl, trivial⟩)
  refine ref_exit (x_then ?_)
  exact brkX () (weak [] trivial trivial)
 refine n_then (ref_seq (ref_region (as1 rfl rfl (l_nil (n_then (ref_ret ?_))))))
 exact fin1 (.inl rfl) () [] rfl trivial rfl (rv_tmp rfl)

/-! deliberation/deliberationnet.Grounded -/
noncomputable def net_Grounded_l1 (g_0 : T_Gra) (s16 : Int × (List Int)) : Option (Sum ((List Int)) (Int × (List Int))) :=
 bif decide (s16.1 < g_0.N) then
  Option.bind (idxM s16.2 s16.1) fun t19 =>
  letM (iadd .i64 s16.1 1) fun i20 =>
  some (Sum.inr (i20, s16.2.set (Int.toNat s16.1) 3))
 else
  some (Sum.inl s16.2)

noncomputable def net_Grounded_l4 (g_0 : T_Gra) (s292 : Int × (List Int) × (List Int)) (s341 : Int × (List Int)) (s350 : Bool × Int) : Option (Sum (Bool) (Bool × Int)) :=
 bif decide (s350.2 < g_0.N) then
  bif s350.1 then
   Option.bind (net_Has_m g_0 s350.2 s341.1) fun t353 =>
   bif !t353 then
    letM (iadd .i64 s350.2 1) fun b355 =>
    some (Sum.inr (true, b355))
   else
    Option.bind (idxM s292.2.1 s350.2) fun t354 =>
    letM (iadd .i64 s350.2 1) fun b356 =>
    some (Sum.inr (t354 == 2, b356))
  else
   letM (iadd .i64 s350.2 1) fun b357 =>
   some (Sum.inr (false, b357))
 else
  some (Sum.inl s350.1)

noncomputable def net_Grounded_l3 (g_0 : T_Gra) (s292 : Int × (List Int) × (List Int)) (s341 : Int × (List Int)) : Option (Sum ((List Int)) (Int × (List Int))) :=
 bif decide (s341.1 < g_0.N) then
  Option.bind (idxM s292.2.1 s341.1) fun t344 =>
  Option.bind (loopC (net_Grounded_l4 g_0 s292 s341) (t344 == 3, 0)) fun q358 : Bool =>
  bif q358 then
   Option.bind (appM 8 s341.2 [s341.1]) fun now361 =>
   letM (iadd .i64 s341.1 1) fun a_363 =>
   some (Sum.inr (a_363, now361))
  else
   letM (iadd .i64 s341.1 1) fun a_364 =>
   some (Sum.inr (a_364, s341.2))
 else
  some (Sum.inl s341.2)

noncomputable def net_Grounded_l5 (s292 : Int × (List Int) × (List Int)) (q365 : (List Int)) (s379 : Int × (List Int) × (List Int)) : Option (Sum ((List Int) × (List Int)) (Int × (List Int) × (List Int))) :=
 bif decide (s379.1 < (q365.length : Int)) then
  Option.bind (idxM q365 s379.1) fun a_382 =>
  Option.bind (idxM s379.2.1 a_382) fun t383 =>
  Option.bind (idxM s379.2.2 a_382) fun t384 =>
  some (Sum.inr (iadd .i64 s379.1 1, s379.2.1.set (Int.toNat a_382) 1, s379.2.2.set (Int.toNat a_382) s292.1))
 else
  some (Sum.inl (s379.2.1, s379.2.2))

noncomputable def net_Grounded_l6 (g_0 : T_Gra) (s292 : Int × (List Int) × (List Int)) (q365 : (List Int)) (s411 : Int × (List Int) × (List Int)) : Option (Sum ((List Int) × (List Int)) (Int × (List Int) × (List Int))) :=
 bif decide (s411.1 < g_0.N) then
  joinM (fun j416 : Bool =>
    bif j416 then
     Option.bind (idxM s411.2.1 s411.1) fun t420 =>
     Option.bind (idxM s411.2.2 s411.1) fun t421 =>
     letM (iadd .i64 s411.1 1) fun b422 =>
     some (Sum.inr (b422, s411.2.1.set (Int.toNat s411.1) 2, s411.2.2.set (Int.toNat s411.1) s292.1))
    else
     letM (iadd .i64 s411.1 1) fun b423 =>
     some (Sum.inr (b423, s411.2.1, s411.2.2))) fun k418 =>
  Option.bind (idxM s411.2.1 s411.1) fun t414 =>
  bif t414 == 3 then
   Option.bind (net_Attacked_m g_0 q365 s411.1) fun t415 =>
   k418 t415
  else
   k418 false
 else
  some (Sum.inl (s411.2.1, s411.2.2))

noncomputable def net_Grounded_l2 (g_0 : T_Gra) (s292 : Int × (List Int) × (List Int)) : Option (Sum ((List Int) × (List Int)) (Int × (List Int) × (List Int))) :=
 bif decide (s292.1 ≤ (iadd .i64 g_0.N 1)) then
  Option.bind (loopC (net_Grounded_l3 g_0 s292) (0, [])) fun q365 : (List Int) =>
  Option.bind (loopC (net_Grounded_l5 s292 q365) (0, s292.2.1, s292.2.2)) fun q385 : (List Int) × (List Int) =>
  Option.bind (loopC (net_Grounded_l6 g_0 s292 q365) (0, q385.1, q385.2)) fun q424 : (List Int) × (List Int) =>
  letM (iadd .i64 s292.1 1) fun round426 =>
  some (Sum.inr (round426, q424.1, q424.2))
 else
  some (Sum.inl (s292.2.1, s292.2.2))

noncomputable def net_Grounded_m (g_0 : T_Gra) : Option (List Int × List Int) :=
 Option.bind (mkM 8 0 g_0.N) fun labels3 =>
 Option.bind (mkM 8 0 g_0.N) fun ranks5 =>
 Option.bind (loopC (net_Grounded_l1 g_0) (0, labels3)) fun q21 : (List Int) =>
 Option.bind (loopC (net_Grounded_l2 g_0) (1, q21, ranks5)) fun q427 : (List Int) × (List Int) =>
 some (q427.1, q427.2)

theorem net_Grounded_ok {g_0 : T_Gra} {r : List Int × List Int} (hm : net_Grounded_m g_0 = some r) :
  FnOk prog 66 [ag [iv .i64 g_0.N, slv rT_Pai g_0.L]] [] (fun (x : (Value × List Nat) × (Value × List Nat)) => [pv x.1.1, pv x.2.1]) (fun (x : (Value × List Nat) × (Value × List Nat)) => [oa (rI .i64) x.1.1 x.1.2 r.1, oa (rI .i64) x.2.1 x.2.2 r.2]) := by
 refine fn_ok (X := (Value × List Nat) × (Value × List Nat)) (fn := Tryz.f66) (N := 114) (res := fun r x => [pv x.1.1, pv x.2.1]) (Ω1 := fun r x => [oa (rI .i64) x.1.1 x.1.2 r.1, oa (rI .i64) x.2.1 x.2.2 r.2]) Tryz.func66 rfl rfl hm rfl (fun E hM => ?_)
 unfold net_Grounded_m
 refine ref_seq (ref_region (s_st (s_box (part_agO (ψs := [iv .i64 g_0.N, slv rT_Pai g_0.L]) rfl ⟨.inl iv_at, .inl slv_at, trivial⟩)) rfl (fun b1 => as1 rfl rfl (as1 rfl rfl (l_nil (n_then (ref_seq (pull fun labels3 h_labels3 => pull fun ranks5 h_ranks5 => ?_))))))))
 refine ref_drawI 2 [⟨[], [], [], [], [], fun us u => pv (ptr b1 0), fun us u => []⟩, ⟨[0], [], [], [0], [], fun us u => iv .i64 g_0.N, fun us u => []⟩, ⟨[0, 1], [], [1], [1], [], fun us u => pv u.V.1, fun us u => [oa (rI .i64) u.V.1 u.V.2 labels3]⟩, ⟨[], [], [], [], [], fun us u => pv (ptr b1 0), fun us u => []⟩, ⟨[3], [], [], [0], [], fun us u => iv .i64 g_0.N, fun us u => []⟩, ⟨[3, 4], [], [2], [2], [], fun us u => pv u.V.1, fun us u => [oa (rI .i64) u.V.1 u.V.2 ranks5]⟩, ⟨[0, 1, 2], [2], [], [], [], fun us u => pv (us.getD 0 .none).V.1, fun us u => []⟩, ⟨[0, 1, 2, 3, 4, 5, 6], [5], [], [], [], fun us u => pv (us.getD 0 .none).V.1, fun us u => []⟩] (fun χ2 => [(1, pv (ptr b1 0)), (4, pv (χ2 2).V.1), (5, pv (χ2 5).V.1)]) (fun χ2 => [oc b1 [iv .i64 g_0.N, slv rT_Pai g_0.L], oa (rI .i64) (χ2 2).V.1 (χ2 2).V.2 labels3, oa (rI .i64) (χ2 5).V.1 (χ2 5).V.2 ranks5]) rfl (by kernel_rfl) ⟨fun χ2 Ω _ => St.toR (r_faddr (fo := 0) Tryz.underlying52 rfl rfl Tryz.sizeOf3 rfl) (fun _ => rfl) (fun _ => rfl), (by intro _ h; cases h; rfl), ⟨fun χ2 Ω ⟨h0, _⟩ => St.toR (r_cload Tryz.isAgg3 rfl (j := 0) h0 rfl) (fun _ => rfl) (fun _ => rfl), (by intro _ h; cases h; rfl), ⟨fun χ2 Ω ⟨h1, _⟩ => St.to XU.V XU.hV (St.placeL (os := fun _ => [_]) [1] (s_make h_labels3 Tryz.underlying27 el_3 ze_3 rfl rfl) (fun _ => rfl) (fun _ => ⟨h1, rfl, trivial⟩)) (fun _ => rfl) (fun _ => rfl), (by intro _ h; cases h; rfl), ⟨fun χ2 Ω _ => St.toR (r_faddr (fo := 0) Tryz.underlying52 rfl rfl Tryz.sizeOf3 rfl) (fun _ => rfl) (fun _ => rfl), (by intro _ h; cases h; rfl), ⟨fun χ2 Ω ⟨h0, _⟩ => St.toR (r_cload Tryz.isAgg3 rfl (j := 0) h0 rfl) (fun _ => rfl) (fun _ => rfl), (by intro _ h; cases h; rfl), ⟨fun χ2 Ω ⟨h2, _⟩ => St.to XU.V XU.hV (St.placeL (os := fun _ => [_]) [2] (s_make h_ranks5 Tryz.underlying27 el_3 ze_3 rfl rfl) (fun _ => rfl) (fun _ => ⟨h2, rfl, trivial⟩)) (fun _ => rfl) (fun _ => rfl), (by intro _ h; cases h; rfl), ⟨fun χ2 Ω _ => St.toR (r_assign rfl) (fun _ => rfl) (fun _ => rfl), (by intro _ h; cases h; rfl), ⟨fun χ2 Ω _ => St.toR (r_assign rfl) (fun _ => rfl) (fun _ => rfl), (by intro _ h; cases h; rfl), trivial⟩⟩⟩⟩⟩⟩⟩⟩ (fun _ => ⟨rfl, rfl, rfl, trivial⟩) (fun _ => rfl) (fun χ2 => ?_)
 refine n_then (ref_seq (ref_seq (ref_region (as1 rfl rfl (l_nil (n_then ?_))))))
 refine ref_loopB (f := (net_Grounded_l1 g_0)) (Γl := (fun (s16 : Int × (List Int)) (x17 : Unit) => [(1, pv (ptr b1 0)), (4, pv (χ2 2).V.1), (5, pv (χ2 5).V.1), (6, iv .i64 s16.1)])) (Ωl := (fun (s16 : Int × (List Int)) (x17 : Unit) => [oc b1 [iv .i64 g_0.N, slv rT_Pai g_0.L], oa (rI .i64) (χ2 2).V.1 (χ2 2).V.2 s16.2, oa (rI .i64) (χ2 5).V.1 (χ2 5).V.2 ranks5])) (Γb := (fun (q21 : (List Int)) (y22 : Unit) => [(1, pv (ptr b1 0)), (4, pv (χ2 2).V.1), (5, pv (χ2 5).V.1)])) (Ωb := (fun (q21 : (List Int)) (y22 : Unit) => [oc b1 [iv .i64 g_0.N, slv rT_Pai g_0.L], oa (rI .i64) (χ2 2).V.1 (χ2 2).V.2 q21, oa (rI .i64) (χ2 5).V.1 (χ2 5).V.2 ranks5])) (0, labels3) () (weak [0, 1, 2] ⟨rfl, rfl, rfl, rfl, trivial⟩ ⟨rfl, rfl, rfl, trivial⟩) (fun s16 x17 => ?_) (fun q21 y22 => ?_)
 ·unfold net_Grounded_l1
  refine ref_seq (ref_seq (ref_region (mv1 rfl rfl (s_rd (r_faddr (fo := 0) Tryz.underlying52 rfl rfl Tryz.sizeOf3 rfl) rfl (s_rd (r_cload Tryz.isAgg3 rfl (j := 0) rfl rfl) rfl (s_rd (r_lss rfl rfl) rfl (l_nil (n_then ?_))))))))
  refine ref_cond rfl (fun hb18 => ?_) (fun hb18 => ?_)
  ·refine ref_skip (n_then (ref_seq (ref_block (ref_region (mv1 rfl rfl (mv1 rfl rfl (pull fun t19 h_t19 => s_rd (r_oindex h_t19 Tryz.underlying27 el_3 rfl (j := 1) rfl rfl) rfl (s_st0 (s_ostore (u := 3) h_t19 el_3 rfl (j := 1) rfl (part_at rfl iv_at)) (fun _ => l_nil (n_block (n_then (ref_region (mv1 rfl rfl (s_rd (r_add rfl rfl) rfl (as1 rfl rfl (b_let (f := iv .i64) (t := 6) rfl fun i20 => l_nil ?_))))))))))))))))
   exact goB () (weak [0, 1, 2] ⟨rfl, rfl, rfl, rfl, trivial⟩ ⟨rfl, rfl, rfl, trivial⟩)
  refine ref_exit (x_then ?_)
  exact brkB () (weak [0, 1, 2] ⟨rfl, rfl, rfl, trivial⟩ ⟨rfl, rfl, rfl, trivial⟩)
 refine n_then (ref_seq (ref_seq (ref_region (as1 rfl rfl (l_nil (n_then ?_))))))
 refine ref_loopB (f := (net_Grounded_l2 g_0)) (Γl := (fun (s292 : Int × (List Int) × (List Int)) (x293 : Unit) => [(1, pv (ptr b1 0)), (4, pv (χ2 2).V.1), (5, pv (χ2 5).V.1), (7, iv .i64 s292.1)])) (Ωl := (fun (s292 : Int × (List Int) × (List Int)) (x293 : Unit) => [oc b1 [iv .i64 g_0.N, slv rT_Pai g_0.L], oa (rI .i64) (χ2 2).V.1 (χ2 2).V.2 s292.2.1, oa (rI .i64) (χ2 5).V.1 (χ2 5).V.2 s292.2.2])) (Γb := (fun (q427 : (List Int) × (List Int)) (y428 : Unit) => [(4, pv (χ2 2).V.1), (5, pv (χ2 5).V.1)])) (Ωb := (fun (q427 : (List Int) × (List Int)) (y428 : Unit) => [oa (rI .i64) (χ2 2).V.1 (χ2 2).V.2 q427.1, oa (rI .i64) (χ2 5).V.1 (χ2 5).V.2 q427.2])) (1, q21, ranks5) () (weak [0, 1, 2] ⟨rfl, rfl, rfl, rfl, trivial⟩ ⟨rfl, rfl, rfl, trivial⟩) (fun s292 x293 => ?_) (fun q427 y428 => ?_)
 ·unfold net_Grounded_l2
  refine ref_seq (ref_seq (ref_region (mv1 rfl rfl (s_rd (r_faddr (fo := 0) Tryz.underlying52 rfl rfl Tryz.sizeOf3 rfl) rfl (s_rd (r_cload Tryz.isAgg3 rfl (j := 0) rfl rfl) rfl (s_rd (r_add rfl rfl) rfl (s_rd (r_leq rfl rfl) rfl (l_nil (n_then ?_)))))))))
  refine ref_cond rfl (fun hb294 => ?_) (fun hb294 => ?_)
  ·refine ref_skip (n_then (ref_seq (ref_block (ref_seq (ref_region (as1 rfl rfl (l_nil (n_then (ref_seq (ref_seq (ref_region (as1 rfl rfl (l_nil (n_then (b_of (own_nil (rI .i64)) ?_)))))))))))))))
   refine ref_loopB (f := (net_Grounded_l3 g_0 s292)) (Γl := (fun (s341 : Int × (List Int)) (x342 : (Value × List Nat)) => [(1, pv (ptr b1 0)), (4, pv (χ2 2).V.1), (5, pv (χ2 5).V.1), (7, iv .i64 s292.1), (8, pv x342.1), (9, iv .i64 s341.1)])) (Ωl := (fun (s341 : Int × (List Int)) (x342 : (Value × List Nat)) => [oc b1 [iv .i64 g_0.N, slv rT_Pai g_0.L], oa (rI .i64) (χ2 2).V.1 (χ2 2).V.2 s292.2.1, oa (rI .i64) (χ2 5).V.1 (χ2 5).V.2 s292.2.2, oa (rI .i64) x342.1 x342.2 s341.2])) (Γb := (fun (q365 : (List Int)) (y366 : (Value × List Nat)) => [(1, pv (ptr b1 0)), (4, pv (χ2 2).V.1), (5, pv (χ2 5).V.1), (7, iv .i64 s292.1), (8, pv y366.1)])) (Ωb := (fun (q365 : (List Int)) (y366 : (Value × List Nat)) => [oc b1 [iv .i64 g_0.N, slv rT_Pai g_0.L], oa (rI .i64) (χ2 2).V.1 (χ2 2).V.2 s292.2.1, oa (rI .i64) (χ2 5).V.1 (χ2 5).V.2 s292.2.2, oa (rI .i64) y366.1 y366.2 q365])) (0, []) ((.slice none 0 0), []) (weak [0, 1, 2, 3] ⟨rfl, rfl, rfl, rfl, rfl, rfl, trivial⟩ ⟨rfl, rfl, rfl, rfl, trivial⟩) (fun s341 x342 => ?_) (fun q365 y366 => ?_)
   ·unfold net_Grounded_l3
    refine ref_seq (ref_seq (ref_region (mv1 rfl rfl (s_rd (r_faddr (fo := 0) Tryz.underlying52 rfl rfl Tryz.sizeOf3 rfl) rfl (s_rd (r_cload Tryz.isAgg3 rfl (j := 0) rfl rfl) rfl (s_rd (r_lss rfl rfl) rfl (l_nil (n_then ?_))))))))
    refine ref_cond rfl (fun hb343 => ?_) (fun hb343 => ?_)
    ·refine ref_skip (n_then (ref_seq (ref_block (ref_seq (ref_region (mv1 rfl rfl (mv1 rfl rfl (pull fun t344 h_t344 => s_rd (r_oindex h_t344 Tryz.underlying27 el_3 rfl (j := 1) rfl rfl) rfl (s_rd (r_oload h_t344 el_3 rfl (j := 1) rfl) rfl (s_rd (r_eql rfl rfl) rfl (as1 rfl rfl (l_nil (n_then (ref_seq (ref_seq (ref_region (as1 rfl rfl (l_nil (n_then ?_)))))))))))))))))))
     refine ref_loopB (f := (net_Grounded_l4 g_0 s292 s341)) (Γl := (fun (s350 : Bool × Int) (x351 : Unit) => [(1, pv (ptr b1 0)), (4, pv (χ2 2).V.1), (5, pv (χ2 5).V.1), (7, iv .i64 s292.1), (8, pv x342.1), (9, iv .i64 s341.1), (10, bv s350.1), (11, iv .i64 s350.2)])) (Ωl := (fun (s350 : Bool × Int) (x351 : Unit) => [oc b1 [iv .i64 g_0.N, slv rT_Pai g_0.L], oa (rI .i64) (χ2 2).V.1 (χ2 2).V.2 s292.2.1, oa (rI .i64) (χ2 5).V.1 (χ2 5).V.2 s292.2.2, oa (rI .i64) x342.1 x342.2 s341.2])) (Γb := (fun (q358 : Bool) (y359 : Unit) => [(1, pv (ptr b1 0)), (4, pv (χ2 2).V.1), (5, pv (χ2 5).V.1), (7, iv .i64 s292.1), (8, pv x342.1), (9, iv .i64 s341.1), (10, bv q358)])) (Ωb := (fun (q358 : Bool) (y359 : Unit) => [oc b1 [iv .i64 g_0.N, slv rT_Pai g_0.L], oa (rI .i64) (χ2 2).V.1 (χ2 2).V.2 s292.2.1, oa (rI .i64) (χ2 5).V.1 (χ2 5).V.2 s292.2.2, oa (rI .i64) x342.1 x342.2 s341.2])) (t344 == 3, 0) () (weak [0, 1, 2, 3] ⟨rfl, rfl, rfl, rfl, rfl, rfl, rfl, rfl, trivial⟩ ⟨rfl, rfl, rfl, rfl, trivial⟩) (fun s350 x351 => ?_) (fun q358 y359 => ?_)
     ·unfold net_Grounded_l4
      refine ref_seq (ref_seq (ref_region (mv1 rfl rfl (s_rd (r_faddr (fo := 0) Tryz.underlying52 rfl rfl Tryz.sizeOf3 rfl) rfl (s_rd (r_cload Tryz.isAgg3 rfl (j := 0) rfl rfl) rfl (s_rd (r_lss rfl rfl) rfl (l_nil (n_then ?_))))))))
      refine ref_cond rfl (fun hb352 => ?_) (fun hb352 => ?_)
      ·refine ref_skip (n_then (ref_seq (ref_block (ref_region (mv1 rfl rfl (mv1 rfl rfl ?_))))))
       refine b_split (t := 55) rfl (fun _ => ?_) (fun _ => ?_)
       ·refine s_on rfl rfl rfl (s_rd (r_cloadS Tryz.isAgg52 Tryz.sizeOf52 rfl (j := 0) rfl rfl rfl) rfl (s_on rfl rfl rfl (mv1 rfl rfl (s_on rfl rfl rfl (mv1 rfl rfl (s_on rfl rfl rfl (pull fun t353 h_t353 => s_st (s_call (ψ := fun (_ : Unit) => bv t353) (args := [.tmp 56, .tmp 57, .tmp 58]) Tryz.call83 rfl (net_Has_ok h_t353) ⟨arg rfl, arg rfl, arg rfl, trivial⟩ (fun _ _ _ _ h => h)) rfl (fun _ => s_on rfl rfl rfl (s_rd (r_not rfl) rfl (s_on rfl rfl rfl (mv1 rfl rfl ?_)))))))))))
        refine b_split (t := 61) rfl (fun _ => ?_) (fun _ => ?_)
        ·refine s_off rfl rfl rfl rfl rfl (s_off rfl rfl rfl rfl rfl (s_off rfl rfl rfl rfl rfl (s_off rfl rfl rfl rfl rfl (s_off rfl rfl rfl rfl rfl (s_on rfl rfl rfl (s_rd (r_pickT rfl rfl) rfl (s_rd (r_pickT rfl rfl) rfl (as1 rfl rfl (l_nil (n_block (n_then (ref_region (mv1 rfl rfl (s_rd (r_add rfl rfl) rfl (as1 rfl rfl (b_let (f := iv .i64) (t := 11) rfl fun b355 => l_nil ?_))))))))))))))))
         exact goB () (weak [0, 1, 2, 3] ⟨rfl, rfl, rfl, rfl, rfl, rfl, rfl, rfl, trivial⟩ ⟨rfl, rfl, rfl, rfl, trivial⟩)
        refine s_on rfl rfl rfl (mv1 rfl rfl (s_on rfl rfl rfl (mv1 rfl rfl (s_on rfl rfl rfl (pull fun t354 h_t354 => s_rd (r_oindex h_t354 Tryz.underlying27 el_3 rfl (j := 1) rfl rfl) rfl (s_on rfl rfl rfl (s_rd (r_oload h_t354 el_3 rfl (j := 1) rfl) rfl (s_on rfl rfl rfl (s_rd (r_eql rfl rfl) rfl (s_on rfl rfl rfl (s_rd (r_pickF rfl rfl) rfl (s_rd (r_pickT rfl rfl) rfl (as1 rfl rfl (l_nil (n_block (n_then (ref_region (mv1 rfl rfl (s_rd (r_add rfl rfl) rfl (as1 rfl rfl (b_let (f := iv .i64) (t := 11) rfl fun b356 => l_nil ?_)))))))))))))))))))))
        exact goB () (weak [0, 1, 2, 3] ⟨rfl, rfl, rfl, rfl, rfl, rfl, rfl, rfl, trivial⟩ ⟨rfl, rfl, rfl, rfl, trivial⟩)
       refine s_off rfl rfl rfl rfl rfl (s_off rfl rfl rfl rfl rfl (s_off rfl rfl rfl rfl rfl (s_off rfl rfl rfl rfl rfl (s_off rfl rfl rfl rfl rfl (s_off rfl rfl rfl rfl rfl (s_offU rfl rfl rfl (s_offU rfl rfl rfl (s_offU rfl rfl rfl (s_offU rfl rfl rfl (s_offU rfl rfl rfl (s_off rfl rfl rfl rfl rfl (s_rd (r_pickF rfl rfl) rfl (as1 rfl rfl (l_nil (n_block (n_then (ref_region (mv1 rfl rfl (s_rd (r_add rfl rfl) rfl (as1 rfl rfl (b_let (f := iv .i64) (t := 11) rfl fun b357 => l_nil ?_)))))))))))))))))))))
       exact goB () (weak [0, 1, 2, 3] ⟨rfl, rfl, rfl, rfl, rfl, rfl, rfl, rfl, trivial⟩ ⟨rfl, rfl, rfl, rfl, trivial⟩)
      refine ref_exit (x_then ?_)
      exact brkB () (weak [0, 1, 2, 3] ⟨rfl, rfl, rfl, rfl, rfl, rfl, rfl, trivial⟩ ⟨rfl, rfl, rfl, rfl, trivial⟩)
     refine n_then (ref_seq (ref_region (mv1 rfl rfl (l_nil (n_then ?_)))))
     refine ref_cond rfl (fun hb360 => ?_) (fun hb360 => ?_)
     ·refine ref_region (mv1 rfl rfl (mv1 rfl rfl (s_st (s_bslice (xs := [.tmp 71]) (ds := [s341.1]) Tryz.underlying27 el_3 rfl (Nat.le_of_ble_eq_true rfl) ⟨(part_at rfl iv_at), trivial⟩) rfl (fun _ => pull fun now361 h_now361 => s_st (s_append h_now361 Tryz.underlying27 el_3 rfl (j := 3) rfl rfl) rfl (fun o362 => as1 rfl rfl (l_nil (n_block (n_then (ref_region (mv1 rfl rfl (s_rd (r_add rfl rfl) rfl (as1 rfl rfl (b_let (f := iv .i64) (t := 9) rfl fun a_363 => l_nil ?_)))))))))))))
      exact goB o362 (weak [0, 1, 2, 3] ⟨rfl, rfl, rfl, rfl, rfl, rfl, trivial⟩ ⟨rfl, rfl, rfl, rfl, trivial⟩)
     refine ref_skip (n_block (n_then (ref_region (mv1 rfl rfl (s_rd (r_add rfl rfl) rfl (as1 rfl rfl (b_let (f := iv .i64) (t := 9) rfl fun a_364 => l_nil ?_)))))))
     exact goB x342 (weak [0, 1, 2, 3] ⟨rfl, rfl, rfl, rfl, rfl, rfl, trivial⟩ ⟨rfl, rfl, rfl, rfl, trivial⟩)
    refine ref_exit (x_then ?_)
    exact brkB x342 (weak [0, 1, 2, 3] ⟨rfl, rfl, rfl, rfl, rfl, trivial⟩ ⟨rfl, rfl, rfl, rfl, trivial⟩)
   refine n_then (ref_seq (ref_seq (ref_region (mv1 rfl rfl (s_rd (r_olen Tryz.underlying27 rfl (j := 3) rfl) rfl (mv1 rfl rfl (l_nil (n_then ?_))))))))
   refine ref_loopB (f := (net_Grounded_l5 s292 q365)) (Γl := (fun (s379 : Int × (List Int) × (List Int)) (x380 : Unit) => [(1, pv (ptr b1 0)), (4, pv (χ2 2).V.1), (5, pv (χ2 5).V.1), (7, iv .i64 s292.1), (8, pv y366.1), (74, pv y366.1), (75, iv .i64 (q365.length : Int)), (76, iv .i64 s379.1)])) (Ωl := (fun (s379 : Int × (List Int) × (List Int)) (x380 : Unit) => [oc b1 [iv .i64 g_0.N, slv rT_Pai g_0.L], oa (rI .i64) (χ2 2).V.1 (χ2 2).V.2 s379.2.1, oa (rI .i64) (χ2 5).V.1 (χ2 5).V.2 s379.2.2, oa (rI .i64) y366.1 y366.2 q365])) (Γb := (fun (q385 : (List Int) × (List Int)) (y386 : Unit) => [(1, pv (ptr b1 0)), (4, pv (χ2 2).V.1), (5, pv (χ2 5).V.1), (7, iv .i64 s292.1), (8, pv y366.1)])) (Ωb := (fun (q385 : (List Int) × (List Int)) (y386 : Unit) => [oc b1 [iv .i64 g_0.N, slv rT_Pai g_0.L], oa (rI .i64) (χ2 2).V.1 (χ2 2).V.2 q385.1, oa (rI .i64) (χ2 5).V.1 (χ2 5).V.2 q385.2, oa (rI .i64) y366.1 y366.2 q365])) (0, s292.2.1, s292.2.2) () (weak [0, 1, 2, 3] ⟨rfl, rfl, rfl, rfl, rfl, rfl, rfl, rfl, trivial⟩ ⟨rfl, rfl, rfl, rfl, trivial⟩) (fun s379 x380 => ?_) (fun q385 y386 => ?_)
   ·unfold net_Grounded_l5
    refine ref_seq (ref_region (s_rd (r_lss rfl rfl) rfl (l_nil (n_then (ref_seq ?_)))))
    refine ref_cond rfl (fun hb381 => ?_) (fun hb381 => ?_)
    ·refine ref_skip (n_then (ref_seq (ref_block (ref_seq (ref_region (pull fun a_382 h_a_382 => s_rd (r_oindex h_a_382 Tryz.underlying27 el_3 rfl (j := 3) rfl rfl) rfl (s_rd (r_oload h_a_382 el_3 rfl (j := 3) rfl) rfl (as1 rfl rfl (l_nil (n_then (ref_region (mv1 rfl rfl (mv1 rfl rfl (mv1 rfl rfl (mv1 rfl rfl (mv1 rfl rfl (pull fun t383 h_t383 => s_rd (r_oindex h_t383 Tryz.underlying27 el_3 rfl (j := 1) rfl rfl) rfl (s_st0 (s_ostore (u := 1) h_t383 el_3 rfl (j := 1) rfl (part_at rfl iv_at)) (fun _ => pull fun t384 h_t384 => s_rd (r_oindex h_t384 Tryz.underlying27 el_3 rfl (j := 2) rfl rfl) rfl (s_st0 (s_ostore (u := s292.1) h_t384 el_3 rfl (j := 2) rfl (part_at rfl iv_at)) (fun _ => l_nil (n_block (n_then (ref_region (s_rd (r_add rfl rfl) rfl (mv1 rfl rfl (l_nil ?_)))))))))))))))))))))))))))
     exact goB () (weak [0, 1, 2, 3] ⟨rfl, rfl, rfl, rfl, rfl, rfl, rfl, rfl, trivial⟩ ⟨rfl, rfl, rfl, rfl, trivial⟩)
    refine ref_exit (x_then ?_)
    exact brkB () (weak [0, 1, 2, 3] ⟨rfl, rfl, rfl, rfl, rfl, trivial⟩ ⟨rfl, rfl, rfl, rfl, trivial⟩)
   refine n_then (ref_seq (ref_region (as1 rfl rfl (l_nil (n_then ?_)))))
   refine ref_loopB (f := (net_Grounded_l6 g_0 s292 q365)) (Γl := (fun (s411 : Int × (List Int) × (List Int)) (x412 : Unit) => [(1, pv (ptr b1 0)), (4, pv (χ2 2).V.1), (5, pv (χ2 5).V.1), (7, iv .i64 s292.1), (8, pv y366.1), (14, iv .i64 s411.1)])) (Ωl := (fun (s411 : Int × (List Int) × (List Int)) (x412 : Unit) => [oc b1 [iv .i64 g_0.N, slv rT_Pai g_0.L], oa (rI .i64) (χ2 2).V.1 (χ2 2).V.2 s411.2.1, oa (rI .i64) (χ2 5).V.1 (χ2 5).V.2 s411.2.2, oa (rI .i64) y366.1 y366.2 q365])) (Γb := (fun (q424 : (List Int) × (List Int)) (y425 : Unit) => [(1, pv (ptr b1 0)), (4, pv (χ2 2).V.1), (5, pv (χ2 5).V.1), (7, iv .i64 s292.1)])) (Ωb := (fun (q424 : (List Int) × (List Int)) (y425 : Unit) => [oc b1 [iv .i64 g_0.N, slv rT_Pai g_0.L], oa (rI .i64) (χ2 2).V.1 (χ2 2).V.2 q424.1, oa (rI .i64) (χ2 5).V.1 (χ2 5).V.2 q424.2])) (0, q385.1, q385.2) () (weak [0, 1, 2, 3] ⟨rfl, rfl, rfl, rfl, rfl, rfl, trivial⟩ ⟨rfl, rfl, rfl, rfl, trivial⟩) (fun s411 x412 => ?_) (fun q424 y425 => ?_)
   ·unfold net_Grounded_l6
    refine ref_seq (ref_seq (ref_region (mv1 rfl rfl (s_rd (r_faddr (fo := 0) Tryz.underlying52 rfl rfl Tryz.sizeOf3 rfl) rfl (s_rd (r_cload Tryz.isAgg3 rfl (j := 0) rfl rfl) rfl (s_rd (r_lss rfl rfl) rfl (l_nil (n_then ?_))))))))
    refine ref_cond rfl (fun hb413 => ?_) (fun hb413 => ?_)
    ·refine ref_skip (n_then (ref_seq (ref_block (ref_seq ?_))))
     refine ref_join (fun (j416 : Bool) (x417 : Unit) => [(1, pv (ptr b1 0)), (4, pv (χ2 2).V.1), (5, pv (χ2 5).V.1), (7, iv .i64 s292.1), (8, pv y366.1), (14, iv .i64 s411.1), (104, bv j416)]) (fun (j416 : Bool) (x417 : Unit) => [oc b1 [iv .i64 g_0.N, slv rT_Pai g_0.L], oa (rI .i64) (χ2 2).V.1 (χ2 2).V.2 s411.2.1, oa (rI .i64) (χ2 5).V.1 (χ2 5).V.2 s411.2.2, oa (rI .i64) y366.1 y366.2 q365]) (fun k418 hk418 => ?_) (fun j416 x417 => ?_)
     ·refine ref_region (mv1 rfl rfl (mv1 rfl rfl (pull fun t414 h_t414 => s_rd (r_oindex h_t414 Tryz.underlying27 el_3 rfl (j := 1) rfl rfl) rfl (s_rd (r_oload h_t414 el_3 rfl (j := 1) rfl) rfl (s_rd (r_eql rfl rfl) rfl (mv1 rfl rfl ?_))))))
      refine b_split (t := 99) rfl (fun _ => ?_) (fun _ => ?_)
      ·refine s_on rfl rfl rfl (s_rd (r_cloadS Tryz.isAgg52 Tryz.sizeOf52 rfl (j := 0) rfl rfl rfl) rfl (s_on rfl rfl rfl (mv1 rfl rfl (s_on rfl rfl rfl (mv1 rfl rfl (s_on rfl rfl rfl (pull fun t415 h_t415 => s_st (s_callB (ψ := fun (_ : Unit) => bv t415) (args := [.tmp 100, .tmp 101, .tmp 102]) Tryz.call84 rfl (net_Attacked_ok h_t415) ⟨argB rfl, argO rfl (j := 3) rfl, argB rfl, trivial⟩ (fun _ _ _ _ _ h => h)) rfl (fun _ => s_rd (r_pickT rfl rfl) rfl (l_nil ?_)))))))))
       exact b_to (hk418 t415 ()) (weak [0, 1, 2, 3] ⟨rfl, rfl, rfl, rfl, rfl, rfl, rfl, trivial⟩ ⟨rfl, rfl, rfl, rfl, trivial⟩)
      refine s_off rfl rfl rfl rfl rfl (s_off rfl rfl rfl rfl rfl (s_off rfl rfl rfl rfl rfl (s_off rfl rfl rfl rfl rfl (s_rd (r_pickF rfl rfl) rfl (l_nil ?_)))))
      exact b_to (hk418 false ()) (weak [0, 1, 2, 3] ⟨rfl, rfl, rfl, rfl, rfl, rfl, rfl, trivial⟩ ⟨rfl, rfl, rfl, rfl, trivial⟩)
     refine n_then ?_
     refine ref_cond rfl (fun hb419 => ?_) (fun hb419 => ?_)
     ·refine ref_region (mv1 rfl rfl (mv1 rfl rfl (mv1 rfl rfl (mv1 rfl rfl (mv1 rfl rfl (pull fun t420 h_t420 => s_rd (r_oindex h_t420 Tryz.underlying27 el_3 rfl (j := 1) rfl rfl) rfl (s_st0 (s_ostore (u := 2) h_t420 el_3 rfl (j := 1) rfl (part_at rfl iv_at)) (fun _ => pull fun t421 h_t421 => s_rd (r_oindex h_t421 Tryz.underlying27 el_3 rfl (j := 2) rfl rfl) rfl (s_st0 (s_ostore (u := s292.1) h_t421 el_3 rfl (j := 2) rfl (part_at rfl iv_at)) (fun _ => l_nil (n_block (n_then (ref_region (mv1 rfl rfl (s_rd (r_add rfl rfl) rfl (as1 rfl rfl (b_let (f := iv .i64) (t := 14) rfl fun b422 => l_nil ?_)))))))))))))))))
      exact goB () (weak [0, 1, 2, 3] ⟨rfl, rfl, rfl, rfl, rfl, rfl, trivial⟩ ⟨rfl, rfl, rfl, rfl, trivial⟩)
     refine ref_skip (n_block (n_then (ref_region (mv1 rfl rfl (s_rd (r_add rfl rfl) rfl (as1 rfl rfl (b_let (f := iv .i64) (t := 14) rfl fun b423 => l_nil ?_)))))))
     exact goB () (weak [0, 1, 2, 3] ⟨rfl, rfl, rfl, rfl, rfl, rfl, trivial⟩ ⟨rfl, rfl, rfl, rfl, trivial⟩)
    refine ref_exit (x_then ?_)
    exact brkB () (weak [0, 1, 2] ⟨rfl, rfl, rfl, rfl, trivial⟩ ⟨rfl, rfl, rfl, trivial⟩)
   refine n_block (n_then (ref_region (mv1 rfl rfl (s_rd (r_add rfl rfl) rfl (as1 rfl rfl (b_let (f := iv .i64) (t := 7) rfl fun round426 => l_nil ?_))))))
   exact goB () (weak [0, 1, 2] ⟨rfl, rfl, rfl, rfl, trivial⟩ ⟨rfl, rfl, rfl, trivial⟩)
  refine ref_exit (x_then ?_)
  exact brkB () (weak [1, 2] ⟨rfl, rfl, trivial⟩ ⟨rfl, rfl, trivial⟩)
 refine n_then (ref_seq (ref_region (mv1 rfl rfl (mv1 rfl rfl (as1 rfl rfl (as1 rfl rfl (l_nil (n_then (ref_ret ?_)))))))))
 exact fin2 (.inl rfl) ((χ2 2).V, (χ2 5).V) [0, 1] rfl ⟨rfl, rfl, trivial⟩ rfl (rv_tmp rfl) (rv_tmp rfl)

/-! deliberation/deliberationref38.Decide -/
noncomputable def ref38_Decide_l1 (l_0 : T_Lib) (t2 : List Int × T_Gra × Int) (t6 : List Int × List Int) (s16 : Int) : Option (Sum ((Sum (Int × Int × Int) (Unit))) (Int)) :=
 bif decide (s16 < (t2.1.length : Int)) then
  Option.bind (idxM t6.1 s16) fun t19 =>
  bif t19 == 1 then
   Option.bind (idxM t2.1 s16) fun t21 =>
   Option.bind (idxM l_0.Cases t21) fun t22 =>
   Option.bind (idxM t2.1 s16) fun t23 =>
   some (Sum.inl (Sum.inl (t22.Winner, t23, 0)))
  else
   letM (iadd .i64 s16 1) fun k24 =>
   some (Sum.inr k24)
 else
  some (Sum.inl (Sum.inr ()))

noncomputable def ref38_Decide_m (l_0 : T_Lib) (facts_1 : (List ByteArray)) : Option (Int × Int × Int) :=
 Option.bind (ref38_Citable_m l_0 facts_1) fun t2 =>
 bif t2.2.2 != 0 then
  some (0, 0, t2.2.2)
 else
  Option.bind (net_Grounded_m t2.2.1) fun t6 =>
  Option.bind (loopC (ref38_Decide_l1 l_0 t2 t6) 0) (sumK (fun a : Int × Int × Int => some a) fun q25 : Unit =>
   some (0, (-1), 0))

theorem ref38_Decide_ok {l_0 : T_Lib} {facts_1 : (List ByteArray)} {r : Int × Int × Int} (hm : ref38_Decide_m l_0 facts_1 = some r) :
  FnOk prog 26 [ag [slv rS l_0.Sides.i0, slv rS l_0.Sides.i1, slv rT_Cas l_0.Cases], slv rS facts_1] [] (fun (x : Unit) => [iv .i64 r.1, iv .i64 r.2.1, iv .i64 r.2.2]) (fun (x : Unit) => []) := by
 refine fn_ok (fn := Tryz.f26) (N := 52) (res := fun r x => [iv .i64 r.1, iv .i64 r.2.1, iv .i64 r.2.2]) (Ω1 := fun r x => []) Tryz.func26 rfl rfl hm rfl (fun E hM => ?_)
 unfold ref38_Decide_m
 refine ref_seq (ref_region (s_st (s_box (part_agO (ψs := [slv rS l_0.Sides.i0, slv rS l_0.Sides.i1, slv rT_Cas l_0.Cases]) rfl ⟨.inl slv_at, .inl slv_at, .inl slv_at, trivial⟩)) rfl (fun b1 => as1 rfl rfl (as1 rfl rfl (as1 rfl rfl (l_nil (n_then (ref_seq (ref_region (s_rd (r_cloadS Tryz.isAgg26 Tryz.sizeOf26 rfl (j := 0) rfl rfl rfl) rfl (mv1 rfl rfl (pull fun t2 h_t2 => s_st (s_call (ψ := fun (x3 : (Value × List Nat)) => tup [pv x3.1, ag [iv .i64 t2.2.1.N, slv rT_Pai t2.2.1.L], iv .i64 t2.2.2]) (args := [.tmp 14, .tmp 15]) Tryz.call24 rfl (ref38_Citable_ok h_t2) ⟨arg rfl, arg rfl, trivial⟩ (fun _ _ _ _ h => h)) rfl (fun x3 => mv1 rfl rfl (s_rd (r_extract rfl rfl) rfl (s_rd (r_extract rfl rfl) rfl (s_rd (r_extract rfl rfl) rfl (s_st (s_alloc zt_52) rfl (fun b4 => as1 rfl rfl (s_st0 (s_cstore (out := [iv .i64 t2.2.1.N, slv rT_Pai t2.2.1.L]) Tryz.sizeOf52 rfl (j := 2) rfl (part_agO (ψs := [iv .i64 t2.2.1.N, slv rT_Pai t2.2.1.L]) rfl ⟨.inl iv_at, .inl slv_at, trivial⟩) rfl rfl rfl) (fun _ => as1 rfl rfl (l_nil (b_of (nrm [oc b1 [slv rS l_0.Sides.i0, slv rS l_0.Sides.i1, slv rT_Cas l_0.Cases], oa (rI .i64) x3.1 x3.2 t2.1, oc b4 [iv .i64 t2.2.1.N, slv rT_Pai t2.2.1.L]] rfl) (n_then (ref_seq (ref_seq (ref_region (mv1 rfl rfl (s_rd (r_neq rfl rfl) rfl (l_nil (n_then ?_))))))))))))))))))))))))))))))
 refine ref_cond rfl (fun hb5 => ?_) (fun hb5 => ?_)
 ·refine ref_seq (ref_region (mv1 rfl rfl (as1 rfl rfl (as1 rfl rfl (as1 rfl rfl (l_nil (n_then (ref_ret (r_then ?_)))))))))
  exact fin3 (.inl rfl) () [] rfl trivial rfl (rv_tmp rfl) (rv_tmp rfl) (rv_tmp rfl)
 refine ref_skip (n_then (ref_seq (ref_region (s_rd (r_cloadS Tryz.isAgg52 Tryz.sizeOf52 rfl (j := 2) rfl rfl rfl) rfl (pull fun t6 h_t6 => s_st (s_call (ψ := fun (x7 : (Value × List Nat) × (Value × List Nat)) => tup [pv x7.1.1, pv x7.2.1]) (args := [.tmp 24]) Tryz.call66 rfl (net_Grounded_ok h_t6) ⟨arg rfl, trivial⟩ (fun _ _ _ _ h => h)) rfl (fun x7 => mv1 rfl rfl (s_rd (r_extract rfl rfl) rfl (s_rd (r_extract rfl rfl) rfl (as1 rfl rfl (as1 rfl rfl (l_nil (n_then (ref_seq (ref_seq (ref_region (as1 rfl rfl (l_nil (n_then ?_))))))))))))))))))
 refine ref_loopX (f := (ref38_Decide_l1 l_0 t2 t6)) (Γl := (fun (s16 : Int) (x17 : Unit) => [(2, pv (ptr b1 0)), (7, pv x3.1), (10, pv x7.1.1), (12, iv .i64 s16)])) (Ωl := (fun (s16 : Int) (x17 : Unit) => [oc b1 [slv rS l_0.Sides.i0, slv rS l_0.Sides.i1, slv rT_Cas l_0.Cases], oa (rI .i64) x3.1 x3.2 t2.1, oa (rI .i64) x7.1.1 x7.1.2 t6.1])) (Γb := (fun (q25 : Unit) (y26 : Unit) => [])) (Ωb := (fun (q25 : Unit) (y26 : Unit) => [])) (kr := (fun a : Int × Int × Int => some a)) 0 () (weak [0, 1, 3] ⟨rfl, rfl, rfl, rfl, trivial⟩ ⟨rfl, rfl, rfl, trivial⟩) (fun s16 x17 => ?_) (fun q25 y26 => ?_)
 ·unfold ref38_Decide_l1
  refine ref_seq (ref_seq (ref_region (mv1 rfl rfl (mv1 rfl rfl (s_rd (r_olen Tryz.underlying27 rfl (j := 1) rfl) rfl (s_rd (r_lss rfl rfl) rfl (l_nil (n_then ?_))))))))
  refine ref_cond rfl (fun hb18 => ?_) (fun hb18 => ?_)
  ·refine ref_skip (n_then (ref_seq (ref_block (ref_seq (ref_region (mv1 rfl rfl (mv1 rfl rfl (pull fun t19 h_t19 => s_rd (r_oindex h_t19 Tryz.underlying27 el_3 rfl (j := 2) rfl rfl) rfl (s_rd (r_oload h_t19 el_3 rfl (j := 2) rfl) rfl (s_rd (r_eql rfl rfl) rfl (l_nil (n_then ?_))))))))))))
   refine ref_cond rfl (fun hb20 => ?_) (fun hb20 => ?_)
   ·refine ref_seq ?_
    refine ref_draw [0, 1, 2, 3, 4, 5, 6, 7, 8, 9, 10, 11, 12] rfl (by kernel_rfl) (fun hok => ?_)
    refine a_rd (i := 0) hok rfl (by kernel_rfl) rfl (r_faddr (fo := 2) Tryz.underlying26 rfl rfl Tryz.sizeOf24 rfl) rfl ?_
    refine a_rd (i := 1) hok rfl (by kernel_rfl) rfl (r_cload Tryz.isAgg24 rfl (j := 0) rfl rfl) rfl ?_
    refine a_rd (i := 2) hok rfl (by kernel_rfl) rfl (r_move rfl) rfl ?_
    refine a_rd (i := 3) hok rfl (by kernel_rfl) rfl (r_move rfl) rfl ?_
    refine pull fun t21 h_t21 => ?_
    refine a_rd (i := 4) hok rfl (by kernel_rfl) rfl (r_oindex h_t21 Tryz.underlying27 el_3 rfl (j := 1) rfl rfl) rfl ?_
    refine a_rd (i := 5) hok rfl (by kernel_rfl) rfl (r_oload h_t21 el_3 rfl (j := 1) rfl) rfl ?_
    refine pull fun t22 h_t22 => ?_
    refine a_rd (i := 6) hok rfl (by kernel_rfl) rfl (r_index h_t22 Tryz.underlying24 el_60 rfl rfl) rfl ?_
    refine a_rd (i := 7) hok rfl (by kernel_rfl) rfl (r_fea (fo := 2) (ρ := rT_Cas) (y := t22) (ρ' := (rI .i64)) (z := t22.Winner) Tryz.underlying60 rfl rfl Tryz.sizeOf3 rfl rfl rfl) rfl ?_
    refine a_rd (i := 8) hok rfl (by kernel_rfl) rfl (r_load el_3 rfl) rfl ?_
    refine a_rd (i := 9) hok rfl (by kernel_rfl) rfl (r_move rfl) rfl ?_
    refine a_rd (i := 10) hok rfl (by kernel_rfl) rfl (r_move rfl) rfl ?_
    refine pull fun t23 h_t23 => ?_
    refine a_rd (i := 11) hok rfl (by kernel_rfl) rfl (r_oindex h_t23 Tryz.underlying27 el_3 rfl (j := 1) rfl rfl) rfl ?_
    refine a_rd (i := 12) hok rfl (by kernel_rfl) rfl (r_oload h_t23 el_3 rfl (j := 1) rfl) rfl ?_
    refine a_next hok 13 [] (by kernel_rfl) ?_ trivial
    refine a_st (i := 13) hok rfl rfl (St.ofRd (r_assign rfl)) (by intro _ h; cases h; rfl) (fun _ => ⟨⟨⟨rfl, rfl⟩, trivial⟩, ⟨trivial, ⟨trivial, ⟨trivial, ⟨trivial, ⟨trivial, ⟨trivial, ⟨trivial, ⟨trivial, ⟨trivial, ⟨trivial, ⟨trivial, ⟨trivial, trivial⟩⟩⟩⟩⟩⟩⟩⟩⟩⟩⟩⟩⟩) (fun _ => ?_)
    refine a_next hok 14 [] (by kernel_rfl) ?_ trivial
    refine a_st (i := 14) hok rfl rfl (St.ofRd (r_assign rfl)) (by intro _ h; cases h; rfl) (fun _ => ⟨trivial, ⟨trivial, ⟨trivial, ⟨trivial, ⟨trivial, ⟨trivial, ⟨trivial, ⟨trivial, ⟨trivial, ⟨trivial, ⟨trivial, ⟨trivial, ⟨trivial, trivial⟩⟩⟩⟩⟩⟩⟩⟩⟩⟩⟩⟩⟩) (fun _ => ?_)
    refine a_next hok 15 [] (by kernel_rfl) ?_ trivial
    refine a_st (i := 15) hok rfl rfl (St.ofRd (r_assign rfl)) (by intro _ h; cases h; rfl) (fun _ => ⟨trivial, ⟨trivial, ⟨trivial, ⟨trivial, ⟨trivial, ⟨trivial, ⟨trivial, ⟨trivial, ⟨trivial, ⟨trivial, ⟨trivial, ⟨trivial, ⟨trivial, trivial⟩⟩⟩⟩⟩⟩⟩⟩⟩⟩⟩⟩⟩) (fun _ => ?_)
    refine a_fin hok (by kernel_rfl) ?_
    refine b_of (nrm [oc b1 [slv rS l_0.Sides.i0, slv rS l_0.Sides.i1, slv rT_Cas l_0.Cases], oa (rI .i64) x3.1 x3.2 t2.1, oa (rI .i64) x7.1.1 x7.1.2 t6.1] rfl) (n_then (ref_ret (r_block (r_then ?_))))
    refine retX ?_
    refine r_block (r_then ?_)
    exact fin3 (.inl rfl) () [] rfl trivial rfl (rv_tmp rfl) (rv_tmp rfl) (rv_tmp rfl)
   refine ref_skip (n_block (n_then (ref_region (mv1 rfl rfl (s_rd (r_add rfl rfl) rfl (as1 rfl rfl (b_let (f := iv .i64) (t := 12) rfl fun k24 => l_nil ?_)))))))
   exact goX () (weak [0, 1, 2] ⟨rfl, rfl, rfl, rfl, trivial⟩ ⟨rfl, rfl, rfl, trivial⟩)
  refine ref_exit (x_then ?_)
  exact brkX () (weak [] trivial trivial)
 refine n_then (ref_seq (ref_region (as1 rfl rfl (as1 rfl rfl (as1 rfl rfl (l_nil (n_then (ref_ret ?_))))))))
 exact fin3 (.inl rfl) () [] rfl trivial rfl (rv_tmp rfl) (rv_tmp rfl) (rv_tmp rfl)

/-! deliberation/deliberationnet.Pairs -/
noncomputable def net_Pairs_l1 (a__0 : (List T_Pai)) (b_1 : (List T_Pai)) (s8 : Int) : Option (Sum ((Sum (Bool) (Unit))) (Int)) :=
 bif decide (s8 < (a__0.length : Int)) then
  Option.bind (idxM a__0 s8) fun t11 =>
  Option.bind (idxM b_1 s8) fun t12 =>
  bif !decide (t11 = t12) then
   some (Sum.inl (Sum.inl false))
  else
   some (Sum.inr (iadd .i64 s8 1))
 else
  some (Sum.inl (Sum.inr ()))

noncomputable def net_Pairs_m (a__0 : (List T_Pai)) (b_1 : (List T_Pai)) : Option (Bool) :=
 bif (a__0.length : Int) != (b_1.length : Int) then
  some false
 else
  Option.bind (loopC (net_Pairs_l1 a__0 b_1) 0) (sumK (fun a : Bool => some a) fun q14 : Unit =>
   some true)

theorem net_Pairs_ok {a__0 : (List T_Pai)} {b_1 : (List T_Pai)} {r : Bool} (hm : net_Pairs_m a__0 b_1 = some r) :
  FnOk prog 67 [slv rT_Pai a__0, slv rT_Pai b_1] [] (fun (x : Unit) => [bv r]) (fun (x : Unit) => []) := by
 refine fn_ok (fn := Tryz.f67) (N := 26) (res := fun r x => [bv r]) (Ω1 := fun r x => []) Tryz.func67 rfl rfl hm rfl (fun E hM => ?_)
 unfold net_Pairs_m
 refine ref_seq (ref_region (as1 rfl rfl (l_nil (n_then (ref_seq (ref_seq (ref_region (mv1 rfl rfl (s_rd (r_len Tryz.underlying50 rfl) rfl (mv1 rfl rfl (s_rd (r_len Tryz.underlying50 rfl) rfl (s_rd (r_neq rfl rfl) rfl (l_nil (n_then ?_))))))))))))))
 refine ref_cond rfl (fun hb1 => ?_) (fun hb1 => ?_)
 ·refine ref_seq (ref_region (as1 rfl rfl (l_nil (n_then (ref_ret (r_then ?_))))))
  exact fin1 (.inl rfl) () [] rfl trivial rfl (rv_tmp rfl)
 refine ref_skip (n_then (ref_seq (ref_seq (ref_region (as1 rfl rfl (l_nil (n_then ?_)))))))
 refine ref_loopX (f := (net_Pairs_l1 a__0 b_1)) (Γl := (fun (s8 : Int) (x9 : Unit) => [(0, slv rT_Pai a__0), (1, slv rT_Pai b_1), (5, iv .i64 s8)])) (Ωl := (fun (s8 : Int) (x9 : Unit) => [])) (Γb := (fun (q14 : Unit) (y15 : Unit) => [])) (Ωb := (fun (q14 : Unit) (y15 : Unit) => [])) (kr := (fun a : Bool => some a)) 0 () (weak [] ⟨rfl, rfl, rfl, trivial⟩ trivial) (fun s8 x9 => ?_) (fun q14 y15 => ?_)
 ·unfold net_Pairs_l1
  refine ref_seq (ref_seq (ref_region (mv1 rfl rfl (mv1 rfl rfl (s_rd (r_len Tryz.underlying50 rfl) rfl (s_rd (r_lss rfl rfl) rfl (l_nil (n_then ?_))))))))
  refine ref_cond rfl (fun hb10 => ?_) (fun hb10 => ?_)
  ·refine ref_skip (n_then (ref_seq (ref_block (ref_seq ?_))))
   refine ref_draw [0, 1, 2, 3, 4, 5, 6, 7, 8] rfl (by kernel_rfl) (fun hok => ?_)
   refine a_rd (i := 0) hok rfl (by kernel_rfl) rfl (r_move rfl) rfl ?_
   refine a_rd (i := 1) hok rfl (by kernel_rfl) rfl (r_move rfl) rfl ?_
   refine pull fun t11 h_t11 => ?_
   refine a_rd (i := 2) hok rfl (by kernel_rfl) rfl (r_index h_t11 Tryz.underlying50 el_87 rfl rfl) rfl ?_
   refine a_rd (i := 3) hok rfl (by kernel_rfl) rfl (r_load el_87 rfl) rfl ?_
   refine a_rd (i := 4) hok rfl (by kernel_rfl) rfl (r_move rfl) rfl ?_
   refine a_rd (i := 5) hok rfl (by kernel_rfl) rfl (r_move rfl) rfl ?_
   refine pull fun t12 h_t12 => ?_
   refine a_rd (i := 6) hok rfl (by kernel_rfl) rfl (r_index h_t12 Tryz.underlying50 el_87 rfl rfl) rfl ?_
   refine a_rd (i := 7) hok rfl (by kernel_rfl) rfl (r_load el_87 rfl) rfl ?_
   refine a_rd (i := 8) hok rfl (by kernel_rfl) rfl (r_stneq (u := t11) (v := t12) eq_87 rfl rfl rfl rfl) rfl ?_
   refine a_fin hok (by kernel_rfl) ?_
   refine n_then ?_
   refine ref_cond rfl (fun hb13 => ?_) (fun hb13 => ?_)
   ·refine ref_seq (ref_region (as1 rfl rfl (l_nil (n_then (ref_ret (r_block (r_then ?_)))))))
    refine retX ?_
    refine r_block (r_then ?_)
    exact fin1 (.inl rfl) () [] rfl trivial rfl (rv_tmp rfl)
   refine ref_skip (n_block (n_then (ref_region (mv1 rfl rfl (s_rd (r_add rfl rfl) rfl (as1 rfl rfl (l_nil ?_)))))))
   exact goX () (weak [] ⟨rfl, rfl, rfl, trivial⟩ trivial)
  refine ref_exit (x_then ?_)
  exact brkX () (weak [] trivial trivial)
 refine n_then (ref_seq (ref_region (as1 rfl rfl (l_nil (n_then (ref_ret ?_))))))
 exact fin1 (.inl rfl) () [] rfl trivial rfl (rv_tmp rfl)

/-! deliberation/deliberationnet.Same -/
noncomputable def net_Same_m (a__0 : T_Gra) (b_1 : T_Gra) : Option (Bool) :=
 bif a__0.N == b_1.N then
  Option.bind (net_Pairs_m a__0.L b_1.L) fun t3 =>
  some t3
 else
  some false

theorem net_Same_ok {a__0 : T_Gra} {b_1 : T_Gra} {r : Bool} (hm : net_Same_m a__0 b_1 = some r) :
  FnOk prog 27 [ag [iv .i64 a__0.N, slv rT_Pai a__0.L], ag [iv .i64 b_1.N, slv rT_Pai b_1.L]] [] (fun (x : Unit) => [bv r]) (fun (x : Unit) => []) := by
 refine fn_ok (fn := Tryz.f27) (N := 17) (res := fun r x => [bv r]) (Ω1 := fun r x => []) Tryz.func27 rfl rfl hm rfl (fun E hM => ?_)
 unfold net_Same_m
 refine ref_seq (ref_region (s_st (s_box (part_agO (ψs := [iv .i64 a__0.N, slv rT_Pai a__0.L]) rfl ⟨.inl iv_at, .inl slv_at, trivial⟩)) rfl (fun b1 => s_st (s_box (part_agO (ψs := [iv .i64 b_1.N, slv rT_Pai b_1.L]) rfl ⟨.inl iv_at, .inl slv_at, trivial⟩)) rfl (fun b2 => as1 rfl rfl (l_nil (n_then (ref_seq (ref_region (s_rd (r_faddr (fo := 0) Tryz.underlying52 rfl rfl Tryz.sizeOf3 rfl) rfl (s_rd (r_cload Tryz.isAgg3 rfl (j := 0) rfl rfl) rfl (s_rd (r_faddr (fo := 0) Tryz.underlying52 rfl rfl Tryz.sizeOf3 rfl) rfl (s_rd (r_cload Tryz.isAgg3 rfl (j := 1) rfl rfl) rfl (s_rd (r_eql rfl rfl) rfl (mv1 rfl rfl ?_))))))))))))))
 refine b_split (t := 10) rfl (fun _ => ?_) (fun _ => ?_)
 ·refine s_on rfl rfl rfl (s_rd (r_faddr (fo := 1) Tryz.underlying52 rfl rfl Tryz.sizeOf50 rfl) rfl (s_on rfl rfl rfl (s_rd (r_cload Tryz.isAgg50 rfl (j := 0) rfl rfl) rfl (s_on rfl rfl rfl (s_rd (r_faddr (fo := 1) Tryz.underlying52 rfl rfl Tryz.sizeOf50 rfl) rfl (s_on rfl rfl rfl (s_rd (r_cload Tryz.isAgg50 rfl (j := 1) rfl rfl) rfl (s_on rfl rfl rfl (pull fun t3 h_t3 => s_st (s_call (ψ := fun (_ : Unit) => bv t3) (args := [.tmp 12, .tmp 14]) Tryz.call67 rfl (net_Pairs_ok h_t3) ⟨arg rfl, arg rfl, trivial⟩ (fun _ _ _ _ h => h)) rfl (fun _ => s_rd (r_pickT rfl rfl) rfl (as1 rfl rfl (l_nil (n_then (ref_ret ?_))))))))))))))
  exact fin1 (.inl rfl) () [] rfl trivial rfl (rv_tmp rfl)
 refine s_off rfl rfl rfl rfl rfl (s_off rfl rfl rfl rfl rfl (s_off rfl rfl rfl rfl rfl (s_off rfl rfl rfl rfl rfl (s_off rfl rfl rfl rfl rfl (s_rd (r_pickF rfl rfl) rfl (as1 rfl rfl (l_nil (n_then (ref_ret ?_)))))))))
 exact fin1 (.inl rfl) () [] rfl trivial rfl (rv_tmp rfl)

/-! deliberation/deliberationlaw38.PrecedentAnswers -/
noncomputable def law38_PA_l3 (index_3 : Int) (t344 : T_Lib) (f457 : (List ByteArray)) (t470 : Int × T_Src) (s481 : Int) : Option (Sum ((Sum (Bool) (Unit))) (Int)) :=
 bif decide (s481 < ([index_3, t470.1].length : Int)) then
  Option.bind (idxM [index_3, t470.1] s481) fun k484 =>
  Option.bind (pc_Distinguish_m t344 k484 f457) fun t485 =>
  Option.bind (ref38_Distinguish_m t344 k484 f457) fun t487 =>
  bif t485.2 != t487.2 then
   some (Sum.inl (Sum.inl false))
  else
   Option.bind (ref38_Same_m t485.1 t487.1) fun t489 =>
   bif !t489 then
    some (Sum.inl (Sum.inl false))
   else
    some (Sum.inr (iadd .i64 s481 1))
 else
  some (Sum.inl (Sum.inr ()))

noncomputable def law38_PA_l2 (given_1 : (List ByteArray)) (index_3 : Int) (t344 : T_Lib) (t352 : List ByteArray × T_Src) (s454 : Int × T_Src) : Option (Sum ((Sum (Bool) (T_Src))) (Int × T_Src)) :=
 bif decide (s454.1 < ([given_1, t352.1].length : Int)) then
  Option.bind (idxM [given_1, t352.1] s454.1) fun f457 =>
  Option.bind (pc_Strong_m t344 f457) fun t458 =>
  Option.bind (ref38_Strong_m t344 f457) fun t460 =>
  bif t458.2 != t460.2 then
   some (Sum.inl (Sum.inl false))
  else
   Option.bind (keep_Ints_m t458.1.For t460.1.For) fun t462 =>
   bif !t462 then
    some (Sum.inl (Sum.inl false))
   else
    Option.bind (keep_Ints_m t458.1.Against t460.1.Against) fun t463 =>
    bif !t463 then
     some (Sum.inl (Sum.inl false))
    else
     Option.bind (pc_Reasons_m t344 f457) fun t465 =>
     Option.bind (ref38_Reasons_m t344 f457) fun t466 =>
     bif t465.2 != t466.2 then
      some (Sum.inl (Sum.inl false))
     else
      Option.bind (keep_Ints_m t465.1.For t466.1.For) fun t467 =>
      bif !t467 then
       some (Sum.inl (Sum.inl false))
      else
       Option.bind (keep_Ints_m t465.1.Against t466.1.Against) fun t468 =>
       bif !t468 then
        some (Sum.inl (Sum.inl false))
       else
        Option.bind (keep_Src_N_m s454.2 5) fun t470 =>
        Option.bind (loopC (law38_PA_l3 index_3 t344 f457 t470) 0) (sumK (fun a : Bool => some (Sum.inl (Sum.inl a))) fun q491 : Unit =>
         Option.bind (pc_Citable_m t344 f457) fun t493 =>
         Option.bind (ref38_Citable_m t344 f457) fun t496 =>
         Option.bind (pc_Decide_m t344 f457) fun t499 =>
         Option.bind (ref38_Decide_m t344 f457) fun t500 =>
         bif t493.2.2 != t496.2.2 then
          some (Sum.inl (Sum.inl false))
         else
          bif t499.2.2 != t500.2.2 then
           some (Sum.inl (Sum.inl false))
          else
           bif t499.1 != t500.1 then
            some (Sum.inl (Sum.inl false))
           else
            bif t499.2.1 != t500.2.1 then
             some (Sum.inl (Sum.inl false))
            else
             Option.bind (keep_Ints_m t493.1 t496.1) fun t501 =>
             bif !t501 then
              some (Sum.inl (Sum.inl false))
             else
              Option.bind (net_Same_m t493.2.1 t496.2.1) fun t502 =>
              bif !t502 then
               some (Sum.inl (Sum.inl false))
              else
               some (Sum.inr (iadd .i64 s454.1 1, t470.2)))
 else
  some (Sum.inl (Sum.inr s454.2))

noncomputable def law38_PA_l1 (raw_0 : T_Lib) (given_1 : (List ByteArray)) (index_3 : Int) (t8 : T_Lib × T_Src) (t10 : T_Lib × T_Src) (s341 : Int × T_Src) : Option (Sum ((Sum (Bool) (Unit))) (Int × T_Src)) :=
 bif decide (s341.1 < ([raw_0, t8.1, t10.1].length : Int)) then
  Option.bind (idxM [raw_0, t8.1, t10.1] s341.1) fun t344 =>
  Option.bind (pc_Validate_m t344) fun t346 =>
  Option.bind (ref38_Validate_m t344) fun t347 =>
  bif t346 != t347 then
   some (Sum.inl (Sum.inl false))
  else
   Option.bind (pc_Conflict_m t344) fun t349 =>
   Option.bind (ref38_Conflict_m t344) fun t350 =>
   bif t349.1 != t350.1 then
    some (Sum.inl (Sum.inl false))
   else
    bif t349.2.1 != t350.2.1 then
     some (Sum.inl (Sum.inl false))
    else
     bif !(t349.2.2 == t350.2.2) then
      some (Sum.inl (Sum.inl false))
     else
      Option.bind (law38_facts_m s341.2) fun t352 =>
      Option.bind (loopC (law38_PA_l2 given_1 index_3 t344 t352) (0, t352.2)) (sumK (fun a : Bool => some (Sum.inl (Sum.inl a))) fun q504 : T_Src =>
       some (Sum.inr (iadd .i64 s341.1 1, q504)))
 else
  some (Sum.inl (Sum.inr ()))

noncomputable def law38_PA_m (raw_0 : T_Lib) (given_1 : (List ByteArray)) (l_2 : (List Int)) (index_3 : Int) : Option (Bool) :=
 Option.bind (law38_small_m raw_0) fun t2 =>
 bif !t2 then
  Option.bind (law38_awake_m ) fun t3 =>
  some t3
 else
  bif decide ((given_1.length : Int) > 40) then
   Option.bind (law38_awake_m ) fun t5 =>
   some t5
  else
   Option.bind (keep_New_m l_2) fun s6 =>
   Option.bind (law38_library_m s6 5) fun t8 =>
   Option.bind (law38_bent_m t8.2 t8.1) fun t10 =>
   Option.bind (loopC (law38_PA_l1 raw_0 given_1 index_3 t8 t10) (0, t10.2)) (sumK (fun a : Bool => some a) fun q506 : Unit =>
    Option.bind (law38_awake_m ) fun t508 =>
    some t508)

theorem law38_PA_ok {raw_0 : T_Lib} {given_1 : (List ByteArray)} {l_2 : (List Int)} {index_3 : Int} {r : Bool} (hm : law38_PA_m raw_0 given_1 l_2 index_3 = some r) :
  FnOk prog 3 [ag [slv rS raw_0.Sides.i0, slv rS raw_0.Sides.i1, slv rT_Cas raw_0.Cases], slv rS given_1, slv (rI .i64) l_2, iv .i64 index_3] [tbO (rI .u8) 0 tab_0] (fun (x : Unit) => [bv r]) (fun (x : Unit) => [tbO (rI .u8) 0 tab_0]) := by
 refine fn_ok (fn := Tryz.f3) (N := 262) (res := fun r x => [bv r]) (Ω1 := fun r x => [tbO (rI .u8) 0 tab_0]) Tryz.func3 rfl rfl hm rfl (fun E hM => ?_)
 unfold law38_PA_m
 refine ref_seq (ref_region (s_st (s_box (part_agO (ψs := [slv rS raw_0.Sides.i0, slv rS raw_0.Sides.i1, slv rT_Cas raw_0.Cases]) rfl ⟨.inl slv_at, .inl slv_at, .inl slv_at, trivial⟩)) rfl (fun b1 => as1 rfl rfl (l_nil (n_then (ref_seq (ref_seq (ref_region (s_rd (r_cloadS Tryz.isAgg26 Tryz.sizeOf26 rfl (j := 1) rfl rfl rfl) rfl (pull fun t2 h_t2 => s_st (s_call (ψ := fun (_ : Unit) => bv t2) (args := [.tmp 43]) Tryz.call4 rfl (law38_small_ok h_t2) ⟨arg rfl, trivial⟩ (fun _ _ _ _ h => h)) rfl (fun _ => s_rd (r_not rfl) rfl (mv1 rfl rfl ?_))))))))))))
 refine b_split (t := 46) rfl (fun _ => ?_) (fun _ => ?_)
 ·refine s_off rfl rfl rfl rfl rfl (s_off rfl rfl rfl rfl rfl (s_off rfl rfl rfl rfl rfl (s_rd (r_pickT rfl rfl) rfl (l_nil (n_then (ref_condT rfl rfl (ref_seq (ref_region (pull fun t3 h_t3 => s_st (s_callC [0] [true] (fun (_ : Unit) => [tbO (rI .u8) 0 tab_0]) (fun (_ : Unit) => []) (fun (_ : Unit) => bv t3) (args := []) (caps := []) Tryz.call5 rfl (law38_awake_ok h_t3) ⟨rfl, rfl, trivial⟩ (fun _ => rfl) (fun _ => trivial) (fun _ => rfl) trivial (fun _ _ _ _ h => h)) rfl (fun _ => as1 rfl rfl (l_nil (n_then (ref_ret (r_then ?_))))))))))))))
  exact fin1 (.inl rfl) () [0] rfl ⟨rfl, trivial⟩ rfl (rv_tmp rfl)
 refine s_on rfl rfl rfl (mv1 rfl rfl (s_on rfl rfl rfl (s_rd (r_len Tryz.underlying22 rfl) rfl (s_on rfl rfl rfl (s_rd (r_gtr rfl rfl) rfl (s_rd (r_pickF rfl rfl) rfl (l_nil (n_then ?_))))))))
 refine ref_cond rfl (fun hb4 => ?_) (fun hb4 => ?_)
 ·refine ref_seq (ref_region (pull fun t5 h_t5 => s_st (s_callC [0] [true] (fun (_ : Unit) => [tbO (rI .u8) 0 tab_0]) (fun (_ : Unit) => []) (fun (_ : Unit) => bv t5) (args := []) (caps := []) Tryz.call5 rfl (law38_awake_ok h_t5) ⟨rfl, rfl, trivial⟩ (fun _ => rfl) (fun _ => trivial) (fun _ => rfl) trivial (fun _ _ _ _ h => h)) rfl (fun _ => as1 rfl rfl (l_nil (n_then (ref_ret (r_then ?_)))))))
  exact fin1 (.inl rfl) () [0] rfl ⟨rfl, trivial⟩ rfl (rv_tmp rfl)
 refine ref_skip (n_then (ref_seq (ref_region (mv1 rfl rfl (pull fun s6 h_s6 => s_st (s_call (ψ := fun (x7 : Nat) => pv (ptr x7 0)) (args := [.tmp 52]) Tryz.call6 rfl (keep_New_ok h_s6) ⟨arg rfl, trivial⟩ (fun _ _ _ _ h => h)) rfl (fun x7 => as1 rfl rfl (l_nil (n_then (ref_seq (ref_region (mv1 rfl rfl (pull fun t8 h_t8 => s_st (s_callC [2] [true] (fun (_ : Unit) => [oc x7 [slv (rI .i64) t8.2.L, iv .i64 t8.2.At]]) (fun (_ : Unit) => []) (fun (_ : Unit) => ag [slv rS t8.1.Sides.i0, slv rS t8.1.Sides.i1, slv rT_Cas t8.1.Cases]) (args := [.tmp 54, .const (.int .i64 (5))]) (caps := []) Tryz.call7 rfl (law38_library_ok h_t8) ⟨rfl, rfl, trivial⟩ (fun _ => rfl) (fun _ => trivial) (fun _ => rfl) ⟨arg rfl, arg rfl, trivial⟩ (fun _ _ _ _ h => h)) rfl (fun _ => s_st (s_alloc zt_26) rfl (fun b9 => s_st0 (s_cstore (out := [slv rS t8.1.Sides.i0, slv rS t8.1.Sides.i1, slv rT_Cas t8.1.Cases]) Tryz.sizeOf26 rfl (j := 3) rfl (part_agO (ψs := [slv rS t8.1.Sides.i0, slv rS t8.1.Sides.i1, slv rT_Cas t8.1.Cases]) rfl ⟨.inl slv_at, .inl slv_at, .inl slv_at, trivial⟩) rfl rfl rfl) (fun _ => l_nil (b_of (nrm [tbO (rI .u8) 0 tab_0, oc b1 [slv rS raw_0.Sides.i0, slv rS raw_0.Sides.i1, slv rT_Cas raw_0.Cases], oc x7 [slv (rI .i64) t8.2.L, iv .i64 t8.2.At], oc b9 [slv rS t8.1.Sides.i0, slv rS t8.1.Sides.i1, slv rT_Cas t8.1.Cases]] rfl) (n_then (ref_seq (ref_seq ?_)))))))))))))))))))
 refine ref_draw [0, 1, 2, 3, 6, 7] rfl (by kernel_rfl) (fun hok => ?_)
 refine a_rd (i := 0) hok rfl (by kernel_rfl) rfl (r_cloadS Tryz.isAgg26 Tryz.sizeOf26 rfl (j := 1) rfl rfl rfl) rfl ?_
 refine a_rd (i := 1) hok rfl (by kernel_rfl) rfl (r_cloadS Tryz.isAgg26 Tryz.sizeOf26 rfl (j := 3) rfl rfl rfl) rfl ?_
 refine a_rd (i := 2) hok rfl (by kernel_rfl) rfl (r_move rfl) rfl ?_
 refine a_rd (i := 3) hok rfl (by kernel_rfl) rfl (r_cloadS Tryz.isAgg26 Tryz.sizeOf26 rfl (j := 3) rfl rfl rfl) rfl ?_
 refine a_rd (i := 7) hok rfl (by kernel_rfl) rfl (r_move rfl) rfl ?_
 refine pull fun t10 h_t10 => ?_
 refine a_next hok 4 [] (by kernel_rfl) ?_ trivial
 refine a_st (i := 4) hok rfl rfl (s_callC [2] [true] (fun (_ : Unit) => [oc x7 [slv (rI .i64) t10.2.L, iv .i64 t10.2.At]]) (fun (_ : Unit) => []) (fun (_ : Unit) => ag [slv rS t10.1.Sides.i0, slv rS t10.1.Sides.i1, slv rT_Cas t10.1.Cases]) (args := [.tmp 58, .tmp 59]) (caps := []) Tryz.call8 rfl (law38_bent_ok h_t10) ⟨rfl, rfl, trivial⟩ (fun _ => rfl) (fun _ => trivial) (fun _ => rfl) ⟨arg rfl, arg rfl, trivial⟩ (fun _ _ _ _ h => h)) (by intro _ h; cases h; rfl) (fun _ => ⟨trivial, ⟨trivial, ⟨trivial, ⟨⟨⟨rfl, rfl⟩, trivial⟩, ⟨⟨⟨rfl, rfl⟩, trivial⟩, trivial⟩⟩⟩⟩⟩) (fun _ => ?_)
 refine a_next hok 5 [] (by kernel_rfl) ?_ trivial
 refine a_st (i := 5) hok rfl rfl (s_bslice (xs := [.tmp 56, .tmp 57, .tmp 60]) (ds := [raw_0, t8.1, t10.1]) Tryz.underlying34 el_26 rfl (Nat.le_of_ble_eq_true rfl) ⟨(part_agO (ψs := [slv rS raw_0.Sides.i0, slv rS raw_0.Sides.i1, slv rT_Cas raw_0.Cases]) rfl ⟨.inl slv_at, .inl slv_at, .inl slv_at, trivial⟩), ⟨(part_agO (ψs := [slv rS t8.1.Sides.i0, slv rS t8.1.Sides.i1, slv rT_Cas t8.1.Cases]) rfl ⟨.inl slv_at, .inl slv_at, .inl slv_at, trivial⟩), ⟨(part_agO (ψs := [slv rS t10.1.Sides.i0, slv rS t10.1.Sides.i1, slv rT_Cas t10.1.Cases]) rfl ⟨.inl slv_at, .inl slv_at, .inl slv_at, trivial⟩), trivial⟩⟩⟩) (by intro _ h; cases h; rfl) (fun _ => ⟨trivial, ⟨⟨⟨rfl, rfl⟩, trivial⟩, ⟨trivial, ⟨trivial, ⟨trivial, trivial⟩⟩⟩⟩⟩) (fun _ => ?_)
 refine a_rd (i := 6) hok rfl (by kernel_rfl) rfl (r_len Tryz.underlying34 rfl) rfl ?_
 refine a_fin hok (by kernel_rfl) ?_
 refine n_then ?_
 refine ref_loopX (f := (law38_PA_l1 raw_0 given_1 index_3 t8 t10)) (Γl := (fun (s341 : Int × T_Src) (x342 : Unit) => [(1, slv rS given_1), (3, iv .i64 index_3), (9, pv (ptr x7 0)), (61, slv rT_Lib [raw_0, t8.1, t10.1]), (62, iv .i64 ([raw_0, t8.1, t10.1].length : Int)), (63, iv .i64 s341.1)])) (Ωl := (fun (s341 : Int × T_Src) (x342 : Unit) => [tbO (rI .u8) 0 tab_0, oc x7 [slv (rI .i64) s341.2.L, iv .i64 s341.2.At]])) (Γb := (fun (q506 : Unit) (y507 : Unit) => [])) (Ωb := (fun (q506 : Unit) (y507 : Unit) => [tbO (rI .u8) 0 tab_0])) (kr := (fun a : Bool => some a)) (0, t10.2) () (weak [0, 2] ⟨rfl, rfl, rfl, rfl, rfl, rfl, trivial⟩ ⟨rfl, rfl, trivial⟩) (fun s341 x342 => ?_) (fun q506 y507 => ?_)
 ·unfold law38_PA_l1
  refine ref_seq (ref_region (s_rd (r_lss rfl rfl) rfl (l_nil (n_then (ref_seq ?_)))))
  refine ref_cond rfl (fun hb343 => ?_) (fun hb343 => ?_)
  ·refine ref_skip (n_then (ref_seq (ref_block (ref_seq (ref_region (pull fun t344 h_t344 => s_rd (r_index h_t344 Tryz.underlying34 el_26 rfl rfl) rfl (s_rd (r_load el_26 rfl) rfl (s_st (s_alloc zt_26) rfl (fun b345 => s_st0 (s_cstore (out := [slv rS t344.Sides.i0, slv rS t344.Sides.i1, slv rT_Cas t344.Cases]) Tryz.sizeOf26 rfl (j := 2) rfl (part_agO (ψs := [slv rS t344.Sides.i0, slv rS t344.Sides.i1, slv rT_Cas t344.Cases]) rfl ⟨.inl slv_at, .inl slv_at, .inl slv_at, trivial⟩) rfl rfl rfl) (fun _ => l_nil (b_of (nrm [tbO (rI .u8) 0 tab_0, oc x7 [slv (rI .i64) s341.2.L, iv .i64 s341.2.At], oc b345 [slv rS t344.Sides.i0, slv rS t344.Sides.i1, slv rT_Cas t344.Cases]] rfl) (n_then (ref_seq (ref_seq ?_))))))))))))))
   refine ref_draw [0, 2, 4] rfl (by kernel_rfl) (fun hok => ?_)
   refine a_rd (i := 0) hok rfl (by kernel_rfl) rfl (r_cloadS Tryz.isAgg26 Tryz.sizeOf26 rfl (j := 2) rfl rfl rfl) rfl ?_
   refine a_rd (i := 2) hok rfl (by kernel_rfl) rfl (r_cloadS Tryz.isAgg26 Tryz.sizeOf26 rfl (j := 2) rfl rfl rfl) rfl ?_
   refine pull fun t346 h_t346 => ?_
   refine a_next hok 1 [] (by kernel_rfl) ?_ trivial
   refine a_st (i := 1) hok rfl rfl (s_call (ψ := fun (_ : Unit) => iv .i64 t346) (args := [.tmp 67]) Tryz.call9 rfl (pc_Validate_ok h_t346) ⟨arg rfl, trivial⟩ (fun _ _ _ _ h => h)) (by intro _ h; cases h; rfl) (fun _ => ⟨⟨⟨rfl, rfl⟩, trivial⟩, ⟨trivial, trivial⟩⟩) (fun _ => ?_)
   refine pull fun t347 h_t347 => ?_
   refine a_next hok 3 [] (by kernel_rfl) ?_ trivial
   refine a_st (i := 3) hok rfl rfl (s_call (ψ := fun (_ : Unit) => iv .i64 t347) (args := [.tmp 69]) Tryz.call10 rfl (ref38_Validate_ok h_t347) ⟨arg rfl, trivial⟩ (fun _ _ _ _ h => h)) (by intro _ h; cases h; rfl) (fun _ => ⟨trivial, ⟨⟨⟨rfl, rfl⟩, trivial⟩, trivial⟩⟩) (fun _ => ?_)
   refine a_rd (i := 4) hok rfl (by kernel_rfl) rfl (r_neq rfl rfl) rfl ?_
   refine a_fin hok (by kernel_rfl) ?_
   refine n_then ?_
   refine ref_cond rfl (fun hb348 => ?_) (fun hb348 => ?_)
   ·refine ref_seq (ref_region (as1 rfl rfl (l_nil (n_then (ref_ret (r_then (r_block (r_then ?_))))))))
    refine retX ?_
    refine r_block (r_then ?_)
    exact fin1 (.inl rfl) () [0] rfl ⟨rfl, trivial⟩ rfl (rv_tmp rfl)
   refine ref_skip (n_then (ref_seq (ref_region (s_rd (r_cloadS Tryz.isAgg26 Tryz.sizeOf26 rfl (j := 2) rfl rfl rfl) rfl (pull fun t349 h_t349 => s_st (s_call (ψ := fun (_ : Unit) => tup [iv .i64 t349.1, iv .i64 t349.2.1, bv t349.2.2]) (args := [.tmp 73]) Tryz.call11 rfl (pc_Conflict_ok h_t349) ⟨arg rfl, trivial⟩ (fun _ _ _ _ h => h)) rfl (fun _ => mv1 rfl rfl (s_rd (r_extract rfl rfl) rfl (s_rd (r_extract rfl rfl) rfl (s_rd (r_extract rfl rfl) rfl (as1 rfl rfl (as1 rfl rfl (as1 rfl rfl (l_nil (n_then (ref_seq (ref_region (s_rd (r_cloadS Tryz.isAgg26 Tryz.sizeOf26 rfl (j := 2) rfl rfl rfl) rfl (pull fun t350 h_t350 => s_st (s_call (ψ := fun (_ : Unit) => tup [iv .i64 t350.1, iv .i64 t350.2.1, bv t350.2.2]) (args := [.tmp 79]) Tryz.call12 rfl (ref38_Conflict_ok h_t350) ⟨arg rfl, trivial⟩ (fun _ _ _ _ h => h)) rfl (fun _ => mv1 rfl rfl (s_rd (r_extract rfl rfl) rfl (s_rd (r_extract rfl rfl) rfl (s_rd (r_extract rfl rfl) rfl (as1 rfl rfl (as1 rfl rfl (as1 rfl rfl (l_nil (b_of (nrm [tbO (rI .u8) 0 tab_0, oc x7 [slv (rI .i64) s341.2.L, iv .i64 s341.2.At], oc b345 [slv rS t344.Sides.i0, slv rS t344.Sides.i1, slv rT_Cas t344.Cases]] rfl) (n_then (ref_seq (ref_seq (ref_region (mv1 rfl rfl (mv1 rfl rfl (s_rd (r_neq rfl rfl) rfl (mv1 rfl rfl ?_)))))))))))))))))))))))))))))))))))
   refine b_split (t := 87) rfl (fun _ => ?_) (fun _ => ?_)
   ·refine s_off rfl rfl rfl rfl rfl (s_off rfl rfl rfl rfl rfl (s_off rfl rfl rfl rfl rfl (s_rd (r_pickT rfl rfl) rfl (mv1 rfl rfl (s_off rfl rfl rfl rfl rfl (s_off rfl rfl rfl rfl rfl (s_off rfl rfl rfl rfl rfl (s_rd (r_pickT rfl rfl) rfl (l_nil (n_then (ref_condT rfl rfl (ref_seq (ref_region (as1 rfl rfl (l_nil (n_then (ref_ret (r_then (r_block (r_then ?_))))))))))))))))))))
    refine retX ?_
    refine r_block (r_then ?_)
    exact fin1 (.inl rfl) () [0] rfl ⟨rfl, trivial⟩ rfl (rv_tmp rfl)
   refine s_on rfl rfl rfl (mv1 rfl rfl (s_on rfl rfl rfl (mv1 rfl rfl (s_on rfl rfl rfl (s_rd (r_neq rfl rfl) rfl (s_rd (r_pickF rfl rfl) rfl (mv1 rfl rfl ?_)))))))
   refine b_split (t := 92) rfl (fun _ => ?_) (fun _ => ?_)
   ·refine s_off rfl rfl rfl rfl rfl (s_off rfl rfl rfl rfl rfl (s_off rfl rfl rfl rfl rfl (s_rd (r_pickT rfl rfl) rfl (l_nil (n_then (ref_condT rfl rfl (ref_seq (ref_region (as1 rfl rfl (l_nil (n_then (ref_ret (r_then (r_block (r_then ?_)))))))))))))))
    refine retX ?_
    refine r_block (r_then ?_)
    exact fin1 (.inl rfl) () [0] rfl ⟨rfl, trivial⟩ rfl (rv_tmp rfl)
   refine s_on rfl rfl rfl (mv1 rfl rfl (s_on rfl rfl rfl (mv1 rfl rfl (s_on rfl rfl rfl (s_rd (r_bneq Tryz.underlying4 rfl rfl) rfl (s_rd (r_pickF rfl rfl) rfl (l_nil (n_then ?_))))))))
   refine ref_cond rfl (fun hb351 => ?_) (fun hb351 => ?_)
   ·refine ref_seq (ref_region (as1 rfl rfl (l_nil (n_then (ref_ret (r_then (r_block (r_then ?_))))))))
    refine retX ?_
    refine r_block (r_then ?_)
    exact fin1 (.inl rfl) () [0] rfl ⟨rfl, trivial⟩ rfl (rv_tmp rfl)
   refine ref_skip (n_then (ref_seq (ref_region (mv1 rfl rfl (mv1 rfl rfl (pull fun t352 h_t352 => s_st (s_callC [1] [true] (fun (x353 : (Value × List Nat)) => [oc x7 [slv (rI .i64) t352.2.L, iv .i64 t352.2.At]]) (fun (x353 : (Value × List Nat)) => [oa rS x353.1 x353.2 t352.1]) (fun (x353 : (Value × List Nat)) => pv x353.1) (args := [.tmp 98]) (caps := []) Tryz.call13 rfl (law38_facts_ok h_t352) ⟨rfl, rfl, trivial⟩ (fun _ => rfl) (fun _ => trivial) (fun _ => rfl) ⟨arg rfl, trivial⟩ (fun _ _ _ _ h => h)) rfl (fun x353 => b_of (frzL [99] (j := 3) rfl ⟨rfl, trivial⟩) (s_st (s_bslice (xs := [.tmp 97, .tmp 99]) (ds := [given_1, t352.1]) Tryz.underlying40 el_22 rfl (Nat.le_of_ble_eq_true rfl) ⟨(part_at rfl slv_at), ⟨(part_at rfl slv_at), trivial⟩⟩) rfl (fun _ => s_rd (r_len Tryz.underlying40 rfl) rfl (mv1 rfl rfl (l_nil (n_then ?_))))))))))))
   refine ref_loopX (f := (law38_PA_l2 given_1 index_3 t344 t352)) (Γl := (fun (s454 : Int × T_Src) (x455 : Unit) => [(1, slv rS given_1), (3, iv .i64 index_3), (9, pv (ptr x7 0)), (12, pv (ptr b345 0)), (61, slv rT_Lib [raw_0, t8.1, t10.1]), (62, iv .i64 ([raw_0, t8.1, t10.1].length : Int)), (63, iv .i64 s341.1), (88, iv .i64 t349.2.1), (89, iv .i64 t350.2.1), (90, bv (t349.2.1 != t350.2.1)), (93, bv t349.2.2), (94, bv t350.2.2), (95, bv (!(t349.2.2 == t350.2.2))), (100, slv (rSl rS) [given_1, t352.1]), (101, iv .i64 ([given_1, t352.1].length : Int)), (102, iv .i64 s454.1)])) (Ωl := (fun (s454 : Int × T_Src) (x455 : Unit) => [tbO (rI .u8) 0 tab_0, oc x7 [slv (rI .i64) s454.2.L, iv .i64 s454.2.At], oc b345 [slv rS t344.Sides.i0, slv rS t344.Sides.i1, slv rT_Cas t344.Cases]])) (Γb := (fun (q504 : T_Src) (y505 : Unit) => [(1, slv rS given_1), (3, iv .i64 index_3), (9, pv (ptr x7 0)), (61, slv rT_Lib [raw_0, t8.1, t10.1]), (62, iv .i64 ([raw_0, t8.1, t10.1].length : Int)), (63, iv .i64 s341.1), (88, iv .i64 t349.2.1), (89, iv .i64 t350.2.1), (90, bv (t349.2.1 != t350.2.1)), (93, bv t349.2.2), (94, bv t350.2.2), (95, bv (!(t349.2.2 == t350.2.2)))])) (Ωb := (fun (q504 : T_Src) (y505 : Unit) => [oc x7 [slv (rI .i64) q504.L, iv .i64 q504.At], tbO (rI .u8) 0 tab_0])) (kr := (fun a : Bool => some (Sum.inl (Sum.inl a)))) (0, t352.2) () (weak [0, 1, 2] ⟨rfl, rfl, rfl, rfl, rfl, rfl, rfl, rfl, rfl, rfl, rfl, rfl, rfl, rfl, rfl, rfl, trivial⟩ ⟨rfl, rfl, rfl, trivial⟩) (fun s454 x455 => ?_) (fun q504 y505 => ?_)
   ·unfold law38_PA_l2
    refine ref_seq (ref_region (s_rd (r_lss rfl rfl) rfl (l_nil (n_then (ref_seq ?_)))))
    refine ref_cond rfl (fun hb456 => ?_) (fun hb456 => ?_)
    ·refine ref_skip (n_then (ref_seq (ref_block (ref_seq (ref_region (pull fun f457 h_f457 => s_rd (r_index h_f457 Tryz.underlying40 el_22 rfl rfl) rfl (s_rd (r_load el_22 rfl) rfl (as1 rfl rfl (l_nil (n_then (ref_seq (ref_region (s_rd (r_cloadS Tryz.isAgg26 Tryz.sizeOf26 rfl (j := 2) rfl rfl rfl) rfl (mv1 rfl rfl (pull fun t458 h_t458 => s_st (s_call (ψ := fun (_ : Unit) => tup [ag [slv (rI .i64) t458.1.For, slv (rI .i64) t458.1.Against], iv .i64 t458.2]) (args := [.tmp 107, .tmp 108]) Tryz.call14 rfl (pc_Strong_ok h_t458) ⟨arg rfl, arg rfl, trivial⟩ (fun _ _ _ _ h => h)) rfl (fun _ => mv1 rfl rfl (s_rd (r_extract rfl rfl) rfl (s_rd (r_extract rfl rfl) rfl (s_st (s_alloc zt_42) rfl (fun b459 => s_st0 (s_cstore (out := [slv (rI .i64) t458.1.For, slv (rI .i64) t458.1.Against]) Tryz.sizeOf42 rfl (j := 3) rfl (part_agO (ψs := [slv (rI .i64) t458.1.For, slv (rI .i64) t458.1.Against]) rfl ⟨.inl slv_at, .inl slv_at, trivial⟩) rfl rfl rfl) (fun _ => as1 rfl rfl (l_nil (b_of (nrm [tbO (rI .u8) 0 tab_0, oc x7 [slv (rI .i64) s454.2.L, iv .i64 s454.2.At], oc b345 [slv rS t344.Sides.i0, slv rS t344.Sides.i1, slv rT_Cas t344.Cases], oc b459 [slv (rI .i64) t458.1.For, slv (rI .i64) t458.1.Against]] rfl) (n_then (ref_seq (ref_region (s_rd (r_cloadS Tryz.isAgg26 Tryz.sizeOf26 rfl (j := 2) rfl rfl rfl) rfl (mv1 rfl rfl (pull fun t460 h_t460 => s_st (s_call (ψ := fun (_ : Unit) => tup [ag [slv (rI .i64) t460.1.For, slv (rI .i64) t460.1.Against], iv .i64 t460.2]) (args := [.tmp 113, .tmp 114]) Tryz.call15 rfl (ref38_Strong_ok h_t460) ⟨arg rfl, arg rfl, trivial⟩ (fun _ _ _ _ h => h)) rfl (fun _ => mv1 rfl rfl (s_rd (r_extract rfl rfl) rfl (s_rd (r_extract rfl rfl) rfl (s_st (s_alloc zt_42) rfl (fun b461 => s_st0 (s_cstore (out := [slv (rI .i64) t460.1.For, slv (rI .i64) t460.1.Against]) Tryz.sizeOf42 rfl (j := 4) rfl (part_agO (ψs := [slv (rI .i64) t460.1.For, slv (rI .i64) t460.1.Against]) rfl ⟨.inl slv_at, .inl slv_at, trivial⟩) rfl rfl rfl) (fun _ => as1 rfl rfl (l_nil (n_then (ref_seq (ref_seq (ref_region (mv1 rfl rfl ?_)))))))))))))))))))))))))))))))))))))))))
     refine mv1 rfl rfl (s_rd (r_neq rfl rfl) rfl (mv1 rfl rfl ?_))
     refine b_split (t := 121) rfl (fun _ => ?_) (fun _ => ?_)
     ·refine s_off rfl rfl rfl rfl rfl (s_off rfl rfl rfl rfl rfl (s_off rfl rfl rfl rfl rfl (s_off rfl rfl rfl rfl rfl (s_off rfl rfl rfl rfl rfl (s_off rfl rfl rfl rfl rfl (s_rd (r_pickT rfl rfl) rfl (mv1 rfl rfl (s_off rfl rfl rfl rfl rfl (s_off rfl rfl rfl rfl rfl (s_off rfl rfl rfl rfl rfl (s_off rfl rfl rfl rfl rfl (s_off rfl rfl rfl rfl rfl (s_off rfl rfl rfl rfl rfl (s_rd (r_pickT rfl rfl) rfl (l_nil (n_then (ref_condT rfl rfl (ref_seq (ref_region (as1 rfl rfl (l_nil (n_then (ref_ret (r_then (r_block (r_then ?_))))))))))))))))))))))))))
      refine retX ?_
      refine r_block (r_block (r_then ?_))
      refine retX ?_
      refine r_block (r_then ?_)
      exact fin1 (.inl rfl) () [0] rfl ⟨rfl, trivial⟩ rfl (rv_tmp rfl)
     refine s_on rfl rfl rfl (s_rd (r_faddr (fo := 0) Tryz.underlying42 rfl rfl Tryz.sizeOf27 rfl) rfl (s_on rfl rfl rfl (s_rd (r_cload Tryz.isAgg27 rfl (j := 3) rfl rfl) rfl (s_on rfl rfl rfl (s_rd (r_faddr (fo := 0) Tryz.underlying42 rfl rfl Tryz.sizeOf27 rfl) rfl (s_on rfl rfl rfl (s_rd (r_cload Tryz.isAgg27 rfl (j := 4) rfl rfl) rfl (s_on rfl rfl rfl (pull fun t462 h_t462 => s_st (s_call (ψ := fun (_ : Unit) => bv t462) (args := [.tmp 123, .tmp 125]) Tryz.call16 rfl (keep_Ints_ok h_t462) ⟨arg rfl, arg rfl, trivial⟩ (fun _ _ _ _ h => h)) rfl (fun _ => s_on rfl rfl rfl (s_rd (r_not rfl) rfl (s_rd (r_pickF rfl rfl) rfl (mv1 rfl rfl ?_)))))))))))))
     refine b_split (t := 129) rfl (fun _ => ?_) (fun _ => ?_)
     ·refine s_off rfl rfl rfl rfl rfl (s_off rfl rfl rfl rfl rfl (s_off rfl rfl rfl rfl rfl (s_off rfl rfl rfl rfl rfl (s_off rfl rfl rfl rfl rfl (s_off rfl rfl rfl rfl rfl (s_rd (r_pickT rfl rfl) rfl (l_nil (b_of (nrm [tbO (rI .u8) 0 tab_0, oc x7 [slv (rI .i64) s454.2.L, iv .i64 s454.2.At], oc b345 [slv rS t344.Sides.i0, slv rS t344.Sides.i1, slv rT_Cas t344.Cases], oc b459 [slv (rI .i64) t458.1.For, slv (rI .i64) t458.1.Against], oc b461 [slv (rI .i64) t460.1.For, slv (rI .i64) t460.1.Against]] rfl) (n_then (ref_condT rfl rfl (ref_seq (ref_region (as1 rfl rfl (l_nil (n_then (ref_ret (r_then (r_block (r_then ?_)))))))))))))))))))
      refine retX ?_
      refine r_block (r_block (r_then ?_))
      refine retX ?_
      refine r_block (r_then ?_)
      exact fin1 (.inl rfl) () [0] rfl ⟨rfl, trivial⟩ rfl (rv_tmp rfl)
     refine s_on rfl rfl rfl (s_rd (r_faddr (fo := 1) Tryz.underlying42 rfl rfl Tryz.sizeOf27 rfl) rfl (s_on rfl rfl rfl (s_rd (r_cload Tryz.isAgg27 rfl (j := 3) rfl rfl) rfl (s_on rfl rfl rfl (s_rd (r_faddr (fo := 1) Tryz.underlying42 rfl rfl Tryz.sizeOf27 rfl) rfl (s_on rfl rfl rfl (s_rd (r_cload Tryz.isAgg27 rfl (j := 4) rfl rfl) rfl (s_on rfl rfl rfl (pull fun t463 h_t463 => s_st (s_call (ψ := fun (_ : Unit) => bv t463) (args := [.tmp 131, .tmp 133]) Tryz.call16 rfl (keep_Ints_ok h_t463) ⟨arg rfl, arg rfl, trivial⟩ (fun _ _ _ _ h => h)) rfl (fun _ => s_on rfl rfl rfl (s_rd (r_not rfl) rfl (s_rd (r_pickF rfl rfl) rfl (l_nil (b_of (nrm [tbO (rI .u8) 0 tab_0, oc x7 [slv (rI .i64) s454.2.L, iv .i64 s454.2.At], oc b345 [slv rS t344.Sides.i0, slv rS t344.Sides.i1, slv rT_Cas t344.Cases], oc b459 [slv (rI .i64) t458.1.For, slv (rI .i64) t458.1.Against], oc b461 [slv (rI .i64) t460.1.For, slv (rI .i64) t460.1.Against]] rfl) (n_then ?_)))))))))))))))
     refine ref_cond rfl (fun hb464 => ?_) (fun hb464 => ?_)
     ·refine ref_seq (ref_region (as1 rfl rfl (l_nil (n_then (ref_ret (r_then (r_block (r_then ?_))))))))
      refine retX ?_
      refine r_block (r_block (r_then ?_))
      refine retX ?_
      refine r_block (r_then ?_)
      exact fin1 (.inl rfl) () [0] rfl ⟨rfl, trivial⟩ rfl (rv_tmp rfl)
     refine ref_skip (n_then (ref_seq (ref_region (s_rd (r_cloadS Tryz.isAgg26 Tryz.sizeOf26 rfl (j := 2) rfl rfl rfl) rfl (mv1 rfl rfl (pull fun t465 h_t465 => s_st (s_call (ψ := fun (_ : Unit) => tup [ag [slv (rI .i64) t465.1.For, slv (rI .i64) t465.1.Against], iv .i64 t465.2]) (args := [.tmp 138, .tmp 139]) Tryz.call17 rfl (pc_Reasons_ok h_t465) ⟨arg rfl, arg rfl, trivial⟩ (fun _ _ _ _ h => h)) rfl (fun _ => mv1 rfl rfl (s_rd (r_extract rfl rfl) rfl (s_rd (r_extract rfl rfl) rfl (s_st0 (s_cstore (out := [slv (rI .i64) t465.1.For, slv (rI .i64) t465.1.Against]) Tryz.sizeOf42 rfl (j := 3) rfl (part_agO (ψs := [slv (rI .i64) t465.1.For, slv (rI .i64) t465.1.Against]) rfl ⟨.inl slv_at, .inl slv_at, trivial⟩) rfl rfl rfl) (fun _ => as1 rfl rfl (l_nil (n_then (ref_seq (ref_region (s_rd (r_cloadS Tryz.isAgg26 Tryz.sizeOf26 rfl (j := 2) rfl rfl rfl) rfl (mv1 rfl rfl (pull fun t466 h_t466 => s_st (s_call (ψ := fun (_ : Unit) => tup [ag [slv (rI .i64) t466.1.For, slv (rI .i64) t466.1.Against], iv .i64 t466.2]) (args := [.tmp 144, .tmp 145]) Tryz.call18 rfl (ref38_Reasons_ok h_t466) ⟨arg rfl, arg rfl, trivial⟩ (fun _ _ _ _ h => h)) rfl (fun _ => mv1 rfl rfl (s_rd (r_extract rfl rfl) rfl (s_rd (r_extract rfl rfl) rfl (s_st0 (s_cstore (out := [slv (rI .i64) t466.1.For, slv (rI .i64) t466.1.Against]) Tryz.sizeOf42 rfl (j := 4) rfl (part_agO (ψs := [slv (rI .i64) t466.1.For, slv (rI .i64) t466.1.Against]) rfl ⟨.inl slv_at, .inl slv_at, trivial⟩) rfl rfl rfl) (fun _ => as1 rfl rfl (l_nil (b_of (nrm [tbO (rI .u8) 0 tab_0, oc x7 [slv (rI .i64) s454.2.L, iv .i64 s454.2.At], oc b345 [slv rS t344.Sides.i0, slv rS t344.Sides.i1, slv rT_Cas t344.Cases], oc b459 [slv (rI .i64) t465.1.For, slv (rI .i64) t465.1.Against], oc b461 [slv (rI .i64) t466.1.For, slv (rI .i64) t466.1.Against]] rfl) (n_then (ref_seq (ref_seq (ref_region (mv1 rfl rfl (mv1 rfl rfl (s_rd (r_neq rfl rfl) rfl (mv1 rfl rfl ?_)))))))))))))))))))))))))))))))))
     refine b_split (t := 152) rfl (fun _ => ?_) (fun _ => ?_)
     ·refine s_off rfl rfl rfl rfl rfl (s_off rfl rfl rfl rfl rfl (s_off rfl rfl rfl rfl rfl (s_off rfl rfl rfl rfl rfl (s_off rfl rfl rfl rfl rfl (s_off rfl rfl rfl rfl rfl (s_rd (r_pickT rfl rfl) rfl (mv1 rfl rfl (s_off rfl rfl rfl rfl rfl (s_off rfl rfl rfl rfl rfl (s_off rfl rfl rfl rfl rfl (s_off rfl rfl rfl rfl rfl (s_off rfl rfl rfl rfl rfl (s_off rfl rfl rfl rfl rfl (s_rd (r_pickT rfl rfl) rfl (l_nil (n_then (ref_condT rfl rfl (ref_seq (ref_region (as1 rfl rfl (l_nil (n_then (ref_ret (r_then (r_block (r_then ?_))))))))))))))))))))))))))
      refine retX ?_
      refine r_block (r_block (r_then ?_))
      refine retX ?_
      refine r_block (r_then ?_)
      exact fin1 (.inl rfl) () [0] rfl ⟨rfl, trivial⟩ rfl (rv_tmp rfl)
     refine s_on rfl rfl rfl (s_rd (r_faddr (fo := 0) Tryz.underlying42 rfl rfl Tryz.sizeOf27 rfl) rfl (s_on rfl rfl rfl (s_rd (r_cload Tryz.isAgg27 rfl (j := 3) rfl rfl) rfl (s_on rfl rfl rfl (s_rd (r_faddr (fo := 0) Tryz.underlying42 rfl rfl Tryz.sizeOf27 rfl) rfl (s_on rfl rfl rfl (s_rd (r_cload Tryz.isAgg27 rfl (j := 4) rfl rfl) rfl (s_on rfl rfl rfl (pull fun t467 h_t467 => s_st (s_call (ψ := fun (_ : Unit) => bv t467) (args := [.tmp 154, .tmp 156]) Tryz.call16 rfl (keep_Ints_ok h_t467) ⟨arg rfl, arg rfl, trivial⟩ (fun _ _ _ _ h => h)) rfl (fun _ => s_on rfl rfl rfl (s_rd (r_not rfl) rfl (s_rd (r_pickF rfl rfl) rfl (mv1 rfl rfl ?_)))))))))))))
     refine b_split (t := 160) rfl (fun _ => ?_) (fun _ => ?_)
     ·refine s_off rfl rfl rfl rfl rfl (s_off rfl rfl rfl rfl rfl (s_off rfl rfl rfl rfl rfl (s_off rfl rfl rfl rfl rfl (s_off rfl rfl rfl rfl rfl (s_off rfl rfl rfl rfl rfl (s_rd (r_pickT rfl rfl) rfl (l_nil (n_then (ref_condT rfl rfl (ref_seq (ref_region (as1 rfl rfl (l_nil (n_then (ref_ret (r_then (r_block (r_then ?_))))))))))))))))))
      refine retX ?_
      refine r_block (r_block (r_then ?_))
      refine retX ?_
      refine r_block (r_then ?_)
      exact fin1 (.inl rfl) () [0] rfl ⟨rfl, trivial⟩ rfl (rv_tmp rfl)
     refine s_on rfl rfl rfl (s_rd (r_faddr (fo := 1) Tryz.underlying42 rfl rfl Tryz.sizeOf27 rfl) rfl (s_on rfl rfl rfl (s_rd (r_cload Tryz.isAgg27 rfl (j := 3) rfl rfl) rfl (s_on rfl rfl rfl (s_rd (r_faddr (fo := 1) Tryz.underlying42 rfl rfl Tryz.sizeOf27 rfl) rfl (s_on rfl rfl rfl (s_rd (r_cload Tryz.isAgg27 rfl (j := 4) rfl rfl) rfl (s_on rfl rfl rfl (pull fun t468 h_t468 => s_st (s_call (ψ := fun (_ : Unit) => bv t468) (args := [.tmp 162, .tmp 164]) Tryz.call16 rfl (keep_Ints_ok h_t468) ⟨arg rfl, arg rfl, trivial⟩ (fun _ _ _ _ h => h)) rfl (fun _ => s_on rfl rfl rfl (s_rd (r_not rfl) rfl (s_rd (r_pickF rfl rfl) rfl (l_nil (n_then ?_))))))))))))))
     refine ref_cond rfl (fun hb469 => ?_) (fun hb469 => ?_)
     ·refine ref_seq (ref_region (as1 rfl rfl (l_nil (n_then (ref_ret (r_then (r_block (r_then ?_))))))))
      refine retX ?_
      refine r_block (r_block (r_then ?_))
      refine retX ?_
      refine r_block (r_then ?_)
      exact fin1 (.inl rfl) () [0] rfl ⟨rfl, trivial⟩ rfl (rv_tmp rfl)
     refine ref_skip (n_then (ref_seq (ref_seq (ref_region (mv1 rfl rfl (mv1 rfl rfl (pull fun t470 h_t470 => s_st (s_callC [1] [true] (fun (_ : Unit) => [oc x7 [slv (rI .i64) t470.2.L, iv .i64 t470.2.At]]) (fun (_ : Unit) => []) (fun (_ : Unit) => iv .i64 t470.1) (args := [.tmp 169, .const (.int .i64 (5))]) (caps := []) Tryz.call19 rfl (keep_Src_N_ok h_t470) ⟨rfl, rfl, trivial⟩ (fun _ => rfl) (fun _ => trivial) (fun _ => rfl) ⟨arg rfl, arg rfl, trivial⟩ (fun _ _ _ _ h => h)) rfl (fun _ => s_st (s_bslice (xs := [.tmp 168, .tmp 170]) (ds := [index_3, t470.1]) Tryz.underlying27 el_3 rfl (Nat.le_of_ble_eq_true rfl) ⟨(part_at rfl iv_at), ⟨(part_at rfl iv_at), trivial⟩⟩) rfl (fun _ => s_rd (r_len Tryz.underlying27 rfl) rfl (mv1 rfl rfl (l_nil (b_of (nrm [tbO (rI .u8) 0 tab_0, oc x7 [slv (rI .i64) t470.2.L, iv .i64 t470.2.At], oc b345 [slv rS t344.Sides.i0, slv rS t344.Sides.i1, slv rT_Cas t344.Cases], oc b459 [slv (rI .i64) t465.1.For, slv (rI .i64) t465.1.Against], oc b461 [slv (rI .i64) t466.1.For, slv (rI .i64) t466.1.Against]] rfl) (n_then ?_)))))))))))))
     refine ref_loopX (f := (law38_PA_l3 index_3 t344 f457 t470)) (Γl := (fun (s481 : Int) (x482 : Unit) => [(1, slv rS given_1), (3, iv .i64 index_3), (9, pv (ptr x7 0)), (12, pv (ptr b345 0)), (20, slv rS f457), (61, slv rT_Lib [raw_0, t8.1, t10.1]), (62, iv .i64 ([raw_0, t8.1, t10.1].length : Int)), (63, iv .i64 s341.1), (88, iv .i64 t349.2.1), (89, iv .i64 t350.2.1), (90, bv (t349.2.1 != t350.2.1)), (93, bv t349.2.2), (94, bv t350.2.2), (95, bv (!(t349.2.2 == t350.2.2))), (100, slv (rSl rS) [given_1, t352.1]), (101, iv .i64 ([given_1, t352.1].length : Int)), (102, iv .i64 s454.1), (122, pv (ptr b459 0)), (123, slv (rI .i64) t458.1.For), (124, pv (ptr b461 0)), (125, slv (rI .i64) t460.1.For), (126, bv t462), (127, bv (!t462)), (130, pv (ptr b459 1)), (131, slv (rI .i64) t458.1.Against), (132, pv (ptr b461 1)), (133, slv (rI .i64) t460.1.Against), (134, bv t463), (135, bv (!t463)), (153, pv (ptr b459 0)), (154, slv (rI .i64) t465.1.For), (155, pv (ptr b461 0)), (156, slv (rI .i64) t466.1.For), (157, bv t467), (158, bv (!t467)), (161, pv (ptr b459 1)), (162, slv (rI .i64) t465.1.Against), (163, pv (ptr b461 1)), (164, slv (rI .i64) t466.1.Against), (165, bv t468), (166, bv (!t468)), (171, slv (rI .i64) [index_3, t470.1]), (172, iv .i64 ([index_3, t470.1].length : Int)), (173, iv .i64 s481)])) (Ωl := (fun (s481 : Int) (x482 : Unit) => [tbO (rI .u8) 0 tab_0, oc x7 [slv (rI .i64) t470.2.L, iv .i64 t470.2.At], oc b345 [slv rS t344.Sides.i0, slv rS t344.Sides.i1, slv rT_Cas t344.Cases], oc b459 [slv (rI .i64) t465.1.For, slv (rI .i64) t465.1.Against], oc b461 [slv (rI .i64) t466.1.For, slv (rI .i64) t466.1.Against]])) (Γb := (fun (q491 : Unit) (y492 : Unit) => [(1, slv rS given_1), (3, iv .i64 index_3), (9, pv (ptr x7 0)), (12, pv (ptr b345 0)), (20, slv rS f457), (61, slv rT_Lib [raw_0, t8.1, t10.1]), (62, iv .i64 ([raw_0, t8.1, t10.1].length : Int)), (63, iv .i64 s341.1), (88, iv .i64 t349.2.1), (89, iv .i64 t350.2.1), (90, bv (t349.2.1 != t350.2.1)), (93, bv t349.2.2), (94, bv t350.2.2), (95, bv (!(t349.2.2 == t350.2.2))), (100, slv (rSl rS) [given_1, t352.1]), (101, iv .i64 ([given_1, t352.1].length : Int)), (102, iv .i64 s454.1), (122, pv (ptr b459 0)), (123, slv (rI .i64) t458.1.For), (124, pv (ptr b461 0)), (125, slv (rI .i64) t460.1.For), (126, bv t462), (127, bv (!t462)), (130, pv (ptr b459 1)), (131, slv (rI .i64) t458.1.Against), (132, pv (ptr b461 1)), (133, slv (rI .i64) t460.1.Against), (134, bv t463), (135, bv (!t463)), (153, pv (ptr b459 0)), (154, slv (rI .i64) t465.1.For), (155, pv (ptr b461 0)), (156, slv (rI .i64) t466.1.For), (157, bv t467), (158, bv (!t467)), (161, pv (ptr b459 1)), (162, slv (rI .i64) t465.1.Against), (163, pv (ptr b461 1)), (164, slv (rI .i64) t466.1.Against), (165, bv t468), (166, bv (!t468))])) (Ωb := (fun (q491 : Unit) (y492 : Unit) => [oc x7 [slv (rI .i64) t470.2.L, iv .i64 t470.2.At], oc b345 [slv rS t344.Sides.i0, slv rS t344.Sides.i1, slv rT_Cas t344.Cases], oc b459 [slv (rI .i64) t465.1.For, slv (rI .i64) t465.1.Against], oc b461 [slv (rI .i64) t466.1.For, slv (rI .i64) t466.1.Against], tbO (rI .u8) 0 tab_0])) (kr := (fun a : Bool => some (Sum.inl (Sum.inl a)))) 0 () (weak [0, 1, 2, 3, 4] ⟨rfl, rfl, rfl, rfl, rfl, rfl, rfl, rfl, rfl, rfl, rfl, rfl, rfl, rfl, rfl, rfl, rfl, rfl, rfl, rfl, rfl, rfl, rfl, rfl, rfl, rfl, rfl, rfl, rfl, rfl, rfl, rfl, rfl, rfl, rfl, rfl, rfl, rfl, rfl, rfl, rfl, rfl, rfl, rfl, trivial⟩ ⟨rfl, rfl, rfl, rfl, rfl, trivial⟩) (fun s481 x482 => ?_) (fun q491 y492 => ?_)
     ·unfold law38_PA_l3
      refine ref_seq (ref_region (s_rd (r_lss rfl rfl) rfl (l_nil (n_then (ref_seq ?_)))))
      refine ref_cond rfl (fun hb483 => ?_) (fun hb483 => ?_)
      ·refine ref_skip (n_then (ref_seq (ref_block (ref_seq (ref_region (pull fun k484 h_k484 => s_rd (r_index h_k484 Tryz.underlying27 el_3 rfl rfl) rfl (s_rd (r_load el_3 rfl) rfl (as1 rfl rfl (l_nil (n_then (ref_seq (ref_region (s_rd (r_cloadS Tryz.isAgg26 Tryz.sizeOf26 rfl (j := 2) rfl rfl rfl) rfl (mv1 rfl rfl (mv1 rfl rfl (pull fun t485 h_t485 => s_st (s_call (ψ := fun (x486 : (Value × List Nat)) => tup [pv x486.1, iv .i64 t485.2]) (args := [.tmp 178, .tmp 179, .tmp 180]) Tryz.call20 rfl (pc_Distinguish_ok h_t485) ⟨arg rfl, arg rfl, arg rfl, trivial⟩ (fun _ _ _ _ h => h)) rfl (fun x486 => mv1 rfl rfl (s_rd (r_extract rfl rfl) rfl (s_rd (r_extract rfl rfl) rfl (as1 rfl rfl (as1 rfl rfl (l_nil (n_then (ref_seq (ref_region (s_rd (r_cloadS Tryz.isAgg26 Tryz.sizeOf26 rfl (j := 2) rfl rfl rfl) rfl (mv1 rfl rfl (mv1 rfl rfl (pull fun t487 h_t487 => s_st (s_call (ψ := fun (x488 : (Value × List Nat)) => tup [pv x488.1, iv .i64 t487.2]) (args := [.tmp 185, .tmp 186, .tmp 187]) Tryz.call21 rfl (ref38_Distinguish_ok h_t487) ⟨arg rfl, arg rfl, arg rfl, trivial⟩ (fun _ _ _ _ h => h)) rfl (fun x488 => mv1 rfl rfl (s_rd (r_extract rfl rfl) rfl (s_rd (r_extract rfl rfl) rfl (as1 rfl rfl (as1 rfl rfl (l_nil (n_then (ref_seq (ref_region (mv1 rfl rfl (mv1 rfl rfl (s_rd (r_neq rfl rfl) rfl ?_)))))))))))))))))))))))))))))))))))))))))
       refine mv1 rfl rfl ?_
       refine b_split (t := 194) rfl (fun _ => ?_) (fun _ => ?_)
       ·refine s_off rfl rfl rfl rfl rfl (s_off rfl rfl rfl rfl rfl (s_off rfl rfl rfl rfl rfl (s_off rfl rfl rfl rfl rfl (s_rd (r_pickT rfl rfl) rfl (l_nil (n_then (ref_condT rfl rfl (ref_seq (ref_region (as1 rfl rfl (l_nil (n_then (ref_ret (r_block (r_then ?_)))))))))))))))
        refine retX ?_
        refine r_block (r_then (r_block (r_then ?_)))
        refine retX ?_
        refine r_block (r_block (r_then ?_))
        refine retX ?_
        refine r_block (r_then ?_)
        exact fin1 (.inl rfl) () [0] rfl ⟨rfl, trivial⟩ rfl (rv_tmp rfl)
       refine s_on rfl rfl rfl (mv1 rfl rfl (s_on rfl rfl rfl (mv1 rfl rfl (s_on rfl rfl rfl (pull fun t489 h_t489 => s_st (s_callB (ψ := fun (_ : Unit) => bv t489) (args := [.tmp 195, .tmp 196]) Tryz.call22 rfl (ref38_Same_ok h_t489) ⟨argO rfl (j := 5) rfl, argO rfl (j := 6) rfl, trivial⟩ (fun _ _ _ _ _ h => h)) rfl (fun _ => s_on rfl rfl rfl (s_rd (r_not rfl) rfl (s_rd (r_pickF rfl rfl) rfl (l_nil (n_then ?_))))))))))
       refine ref_cond rfl (fun hb490 => ?_) (fun hb490 => ?_)
       ·refine ref_seq (ref_region (as1 rfl rfl (l_nil (n_then (ref_ret (r_block (r_then ?_)))))))
        refine retX ?_
        refine r_block (r_then (r_block (r_then ?_)))
        refine retX ?_
        refine r_block (r_block (r_then ?_))
        refine retX ?_
        refine r_block (r_then ?_)
        exact fin1 (.inl rfl) () [0] rfl ⟨rfl, trivial⟩ rfl (rv_tmp rfl)
       refine ref_skip (n_block (n_then (ref_region (s_rd (r_add rfl rfl) rfl (mv1 rfl rfl (l_nil ?_))))))
       exact goX () (weak [0, 1, 2, 3, 4] ⟨rfl, rfl, rfl, rfl, rfl, rfl, rfl, rfl, rfl, rfl, rfl, rfl, rfl, rfl, rfl, rfl, rfl, rfl, rfl, rfl, rfl, rfl, rfl, rfl, rfl, rfl, rfl, rfl, rfl, rfl, rfl, rfl, rfl, rfl, rfl, rfl, rfl, rfl, rfl, rfl, rfl, rfl, rfl, rfl, trivial⟩ ⟨rfl, rfl, rfl, rfl, rfl, trivial⟩)
      refine ref_exit (x_then ?_)
      exact brkX () (weak [1, 2, 3, 4, 0] ⟨rfl, rfl, rfl, rfl, rfl, rfl, rfl, rfl, rfl, rfl, rfl, rfl, rfl, rfl, rfl, rfl, rfl, rfl, rfl, rfl, rfl, rfl, rfl, rfl, rfl, rfl, rfl, rfl, rfl, rfl, rfl, rfl, rfl, rfl, rfl, rfl, rfl, rfl, rfl, rfl, rfl, trivial⟩ ⟨rfl, rfl, rfl, rfl, rfl, trivial⟩)
     refine n_then (ref_seq (ref_region (s_rd (r_cloadS Tryz.isAgg26 Tryz.sizeOf26 rfl (j := 1) rfl rfl rfl) rfl (mv1 rfl rfl (pull fun t493 h_t493 => s_st (s_call (ψ := fun (x494 : (Value × List Nat)) => tup [pv x494.1, ag [iv .i64 t493.2.1.N, slv rT_Pai t493.2.1.L], iv .i64 t493.2.2]) (args := [.tmp 202, .tmp 203]) Tryz.call23 rfl (pc_Citable_ok h_t493) ⟨arg rfl, arg rfl, trivial⟩ (fun _ _ _ _ h => h)) rfl (fun x494 => mv1 rfl rfl (s_rd (r_extract rfl rfl) rfl (s_rd (r_extract rfl rfl) rfl (s_rd (r_extract rfl rfl) rfl (s_st (s_alloc zt_52) rfl (fun b495 => as1 rfl rfl (s_st0 (s_cstore (out := [iv .i64 t493.2.1.N, slv rT_Pai t493.2.1.L]) Tryz.sizeOf52 rfl (j := 6) rfl (part_agO (ψs := [iv .i64 t493.2.1.N, slv rT_Pai t493.2.1.L]) rfl ⟨.inl iv_at, .inl slv_at, trivial⟩) rfl rfl rfl) (fun _ => as1 rfl rfl (l_nil (n_then (ref_seq (ref_region (s_rd (r_cloadS Tryz.isAgg26 Tryz.sizeOf26 rfl (j := 1) rfl rfl rfl) rfl (mv1 rfl rfl (pull fun t496 h_t496 => s_st (s_call (ψ := fun (x497 : (Value × List Nat)) => tup [pv x497.1, ag [iv .i64 t496.2.1.N, slv rT_Pai t496.2.1.L], iv .i64 t496.2.2]) (args := [.tmp 209, .tmp 210]) Tryz.call24 rfl (ref38_Citable_ok h_t496) ⟨arg rfl, arg rfl, trivial⟩ (fun _ _ _ _ h => h)) rfl (fun x497 => mv1 rfl rfl (s_rd (r_extract rfl rfl) rfl (s_rd (r_extract rfl rfl) rfl (s_rd (r_extract rfl rfl) rfl (s_st (s_alloc zt_52) rfl (fun b498 => as1 rfl rfl (s_st0 (s_cstore (out := [iv .i64 t496.2.1.N, slv rT_Pai t496.2.1.L]) Tryz.sizeOf52 rfl (j := 8) rfl (part_agO (ψs := [iv .i64 t496.2.1.N, slv rT_Pai t496.2.1.L]) rfl ⟨.inl iv_at, .inl slv_at, trivial⟩) rfl rfl rfl) (fun _ => as1 rfl rfl (l_nil (b_of (nrm [oc x7 [slv (rI .i64) t470.2.L, iv .i64 t470.2.At], oc b345 [slv rS t344.Sides.i0, slv rS t344.Sides.i1, slv rT_Cas t344.Cases], oc b459 [slv (rI .i64) t465.1.For, slv (rI .i64) t465.1.Against], oc b461 [slv (rI .i64) t466.1.For, slv (rI .i64) t466.1.Against], tbO (rI .u8) 0 tab_0, oa (rI .i64) x494.1 x494.2 t493.1, oc b495 [iv .i64 t493.2.1.N, slv rT_Pai t493.2.1.L], oa (rI .i64) x497.1 x497.2 t496.1, oc b498 [iv .i64 t496.2.1.N, slv rT_Pai t496.2.1.L]] rfl) (n_then (ref_seq (ref_region (s_rd (r_cloadS Tryz.isAgg26 Tryz.sizeOf26 rfl (j := 1) rfl rfl rfl) rfl (mv1 rfl rfl ?_)))))))))))))))))))))))))))))))))))
     refine pull fun t499 h_t499 => s_st (s_callC [4] [true] (fun (_ : Unit) => [tbO (rI .u8) 0 tab_0]) (fun (_ : Unit) => []) (fun (_ : Unit) => tup [iv .i64 t499.1, iv .i64 t499.2.1, iv .i64 t499.2.2]) (args := [.tmp 216, .tmp 217]) (caps := []) Tryz.call25 rfl (pc_Decide_ok h_t499) ⟨rfl, rfl, trivial⟩ (fun _ => rfl) (fun _ => trivial) (fun _ => rfl) ⟨arg rfl, arg rfl, trivial⟩ (fun _ _ _ _ h => h)) rfl (fun _ => mv1 rfl rfl (s_rd (r_extract rfl rfl) rfl (s_rd (r_extract rfl rfl) rfl (s_rd (r_extract rfl rfl) rfl (as1 rfl rfl (as1 rfl rfl (as1 rfl rfl (l_nil (n_then (ref_seq (ref_region (s_rd (r_cloadS Tryz.isAgg26 Tryz.sizeOf26 rfl (j := 1) rfl rfl rfl) rfl (mv1 rfl rfl (pull fun t500 h_t500 => s_st (s_call (ψ := fun (_ : Unit) => tup [iv .i64 t500.1, iv .i64 t500.2.1, iv .i64 t500.2.2]) (args := [.tmp 223, .tmp 224]) Tryz.call26 rfl (ref38_Decide_ok h_t500) ⟨arg rfl, arg rfl, trivial⟩ (fun _ _ _ _ h => h)) rfl (fun _ => mv1 rfl rfl (s_rd (r_extract rfl rfl) rfl (s_rd (r_extract rfl rfl) rfl (s_rd (r_extract rfl rfl) rfl (as1 rfl rfl (as1 rfl rfl (as1 rfl rfl (l_nil (n_then (ref_seq (ref_region (mv1 rfl rfl (mv1 rfl rfl (s_rd (r_neq rfl rfl) rfl (mv1 rfl rfl ?_)))))))))))))))))))))))))))))
     refine b_split (t := 232) rfl (fun _ => ?_) (fun _ => ?_)
     ·refine s_off rfl rfl rfl rfl rfl (s_off rfl rfl rfl rfl rfl (s_off rfl rfl rfl rfl rfl (s_rd (r_pickT rfl rfl) rfl (mv1 rfl rfl (s_off rfl rfl rfl rfl rfl (s_off rfl rfl rfl rfl rfl (s_off rfl rfl rfl rfl rfl (s_rd (r_pickT rfl rfl) rfl (mv1 rfl rfl (s_off rfl rfl rfl rfl rfl (s_off rfl rfl rfl rfl rfl (s_off rfl rfl rfl rfl rfl (s_rd (r_pickT rfl rfl) rfl (mv1 rfl rfl (s_off rfl rfl rfl rfl rfl (s_off rfl rfl rfl rfl rfl (s_off rfl rfl rfl rfl rfl (s_off rfl rfl rfl rfl rfl (s_rd (r_pickT rfl rfl) rfl (mv1 rfl rfl (s_off rfl rfl rfl rfl rfl (s_off rfl rfl rfl rfl rfl (s_off rfl rfl rfl rfl rfl (s_off rfl rfl rfl rfl rfl (s_rd (r_pickT rfl rfl) rfl (l_nil (n_then (ref_condT rfl rfl (ref_seq (ref_region (as1 rfl rfl (l_nil (n_then (ref_ret (r_block (r_then ?_))))))))))))))))))))))))))))))))))))
      refine retX ?_
      refine r_block (r_block (r_then ?_))
      refine retX ?_
      refine r_block (r_then ?_)
      exact fin1 (.inl rfl) () [4] rfl ⟨rfl, trivial⟩ rfl (rv_tmp rfl)
     refine s_on rfl rfl rfl (mv1 rfl rfl (s_on rfl rfl rfl (mv1 rfl rfl (s_on rfl rfl rfl (s_rd (r_neq rfl rfl) rfl (s_rd (r_pickF rfl rfl) rfl (mv1 rfl rfl ?_)))))))
     refine b_split (t := 237) rfl (fun _ => ?_) (fun _ => ?_)
     ·refine s_off rfl rfl rfl rfl rfl (s_off rfl rfl rfl rfl rfl (s_off rfl rfl rfl rfl rfl (s_rd (r_pickT rfl rfl) rfl (mv1 rfl rfl (s_off rfl rfl rfl rfl rfl (s_off rfl rfl rfl rfl rfl (s_off rfl rfl rfl rfl rfl (s_rd (r_pickT rfl rfl) rfl (mv1 rfl rfl (s_off rfl rfl rfl rfl rfl (s_off rfl rfl rfl rfl rfl (s_off rfl rfl rfl rfl rfl (s_off rfl rfl rfl rfl rfl (s_rd (r_pickT rfl rfl) rfl (mv1 rfl rfl (s_off rfl rfl rfl rfl rfl (s_off rfl rfl rfl rfl rfl (s_off rfl rfl rfl rfl rfl (s_off rfl rfl rfl rfl rfl (s_rd (r_pickT rfl rfl) rfl (l_nil (n_then (ref_condT rfl rfl (ref_seq (ref_region (as1 rfl rfl (l_nil (n_then (ref_ret (r_block (r_then ?_)))))))))))))))))))))))))))))))
      refine retX ?_
      refine r_block (r_block (r_then ?_))
      refine retX ?_
      refine r_block (r_then ?_)
      exact fin1 (.inl rfl) () [4] rfl ⟨rfl, trivial⟩ rfl (rv_tmp rfl)
     refine s_on rfl rfl rfl (mv1 rfl rfl (s_on rfl rfl rfl (mv1 rfl rfl (s_on rfl rfl rfl (s_rd (r_neq rfl rfl) rfl (s_rd (r_pickF rfl rfl) rfl (mv1 rfl rfl ?_)))))))
     refine b_split (t := 242) rfl (fun _ => ?_) (fun _ => ?_)
     ·refine s_off rfl rfl rfl rfl rfl (s_off rfl rfl rfl rfl rfl (s_off rfl rfl rfl rfl rfl (s_rd (r_pickT rfl rfl) rfl (mv1 rfl rfl (s_off rfl rfl rfl rfl rfl (s_off rfl rfl rfl rfl rfl (s_off rfl rfl rfl rfl rfl (s_off rfl rfl rfl rfl rfl (s_rd (r_pickT rfl rfl) rfl (mv1 rfl rfl (s_off rfl rfl rfl rfl rfl (s_off rfl rfl rfl rfl rfl (s_off rfl rfl rfl rfl rfl (s_off rfl rfl rfl rfl rfl (s_rd (r_pickT rfl rfl) rfl (l_nil (n_then (ref_condT rfl rfl (ref_seq (ref_region (as1 rfl rfl (l_nil (n_then (ref_ret (r_block (r_then ?_))))))))))))))))))))))))))
      refine retX ?_
      refine r_block (r_block (r_then ?_))
      refine retX ?_
      refine r_block (r_then ?_)
      exact fin1 (.inl rfl) () [4] rfl ⟨rfl, trivial⟩ rfl (rv_tmp rfl)
     refine s_on rfl rfl rfl (mv1 rfl rfl (s_on rfl rfl rfl (mv1 rfl rfl (s_on rfl rfl rfl (s_rd (r_neq rfl rfl) rfl (s_rd (r_pickF rfl rfl) rfl (mv1 rfl rfl ?_)))))))
     refine b_split (t := 247) rfl (fun _ => ?_) (fun _ => ?_)
     ·refine s_off rfl rfl rfl rfl rfl (s_off rfl rfl rfl rfl rfl (s_off rfl rfl rfl rfl rfl (s_off rfl rfl rfl rfl rfl (s_rd (r_pickT rfl rfl) rfl (mv1 rfl rfl (s_off rfl rfl rfl rfl rfl (s_off rfl rfl rfl rfl rfl (s_off rfl rfl rfl rfl rfl (s_off rfl rfl rfl rfl rfl (s_rd (r_pickT rfl rfl) rfl (l_nil (n_then (ref_condT rfl rfl (ref_seq (ref_region (as1 rfl rfl (l_nil (n_then (ref_ret (r_block (r_then ?_)))))))))))))))))))))
      refine retX ?_
      refine r_block (r_block (r_then ?_))
      refine retX ?_
      refine r_block (r_then ?_)
      exact fin1 (.inl rfl) () [4] rfl ⟨rfl, trivial⟩ rfl (rv_tmp rfl)
     refine s_on rfl rfl rfl (mv1 rfl rfl (s_on rfl rfl rfl (mv1 rfl rfl (s_on rfl rfl rfl (pull fun t501 h_t501 => s_st (s_callB (ψ := fun (_ : Unit) => bv t501) (args := [.tmp 248, .tmp 249]) Tryz.call16 rfl (keep_Ints_ok h_t501) ⟨argO rfl (j := 5) rfl, argO rfl (j := 7) rfl, trivial⟩ (fun _ _ _ _ _ h => h)) rfl (fun _ => s_on rfl rfl rfl (s_rd (r_not rfl) rfl (s_rd (r_pickF rfl rfl) rfl (mv1 rfl rfl ?_)))))))))
     refine b_split (t := 253) rfl (fun _ => ?_) (fun _ => ?_)
     ·refine s_off rfl rfl rfl rfl rfl (s_off rfl rfl rfl rfl rfl (s_off rfl rfl rfl rfl rfl (s_off rfl rfl rfl rfl rfl (s_rd (r_pickT rfl rfl) rfl (l_nil (n_then (ref_condT rfl rfl (ref_seq (ref_region (as1 rfl rfl (l_nil (n_then (ref_ret (r_block (r_then ?_)))))))))))))))
      refine retX ?_
      refine r_block (r_block (r_then ?_))
      refine retX ?_
      refine r_block (r_then ?_)
      exact fin1 (.inl rfl) () [4] rfl ⟨rfl, trivial⟩ rfl (rv_tmp rfl)
     refine s_on rfl rfl rfl (s_rd (r_cloadS Tryz.isAgg52 Tryz.sizeOf52 rfl (j := 6) rfl rfl rfl) rfl (s_on rfl rfl rfl (s_rd (r_cloadS Tryz.isAgg52 Tryz.sizeOf52 rfl (j := 8) rfl rfl rfl) rfl (s_on rfl rfl rfl (pull fun t502 h_t502 => s_st (s_call (ψ := fun (_ : Unit) => bv t502) (args := [.tmp 254, .tmp 255]) Tryz.call27 rfl (net_Same_ok h_t502) ⟨arg rfl, arg rfl, trivial⟩ (fun _ _ _ _ h => h)) rfl (fun _ => s_on rfl rfl rfl (s_rd (r_not rfl) rfl (s_rd (r_pickF rfl rfl) rfl (l_nil (b_of (nrm [oc x7 [slv (rI .i64) t470.2.L, iv .i64 t470.2.At], oc b345 [slv rS t344.Sides.i0, slv rS t344.Sides.i1, slv rT_Cas t344.Cases], oc b459 [slv (rI .i64) t465.1.For, slv (rI .i64) t465.1.Against], oc b461 [slv (rI .i64) t466.1.For, slv (rI .i64) t466.1.Against], tbO (rI .u8) 0 tab_0, oa (rI .i64) x494.1 x494.2 t493.1, oc b495 [iv .i64 t493.2.1.N, slv rT_Pai t493.2.1.L], oa (rI .i64) x497.1 x497.2 t496.1, oc b498 [iv .i64 t496.2.1.N, slv rT_Pai t496.2.1.L]] rfl) (n_then ?_)))))))))))
     refine ref_cond rfl (fun hb503 => ?_) (fun hb503 => ?_)
     ·refine ref_seq (ref_region (as1 rfl rfl (l_nil (n_then (ref_ret (r_block (r_then ?_)))))))
      refine retX ?_
      refine r_block (r_block (r_then ?_))
      refine retX ?_
      refine r_block (r_then ?_)
      exact fin1 (.inl rfl) () [4] rfl ⟨rfl, trivial⟩ rfl (rv_tmp rfl)
     refine ref_skip (n_block (n_then (ref_region (s_rd (r_add rfl rfl) rfl (mv1 rfl rfl (l_nil ?_))))))
     exact goX () (weak [4, 0, 1] ⟨rfl, rfl, rfl, rfl, rfl, rfl, rfl, rfl, rfl, rfl, rfl, rfl, rfl, rfl, rfl, rfl, trivial⟩ ⟨rfl, rfl, rfl, trivial⟩)
    refine ref_exit (x_then ?_)
    exact brkX () (weak [1, 0] ⟨rfl, rfl, rfl, rfl, rfl, rfl, rfl, rfl, rfl, rfl, rfl, rfl, trivial⟩ ⟨rfl, rfl, trivial⟩)
   refine n_block (n_then (ref_region (s_rd (r_add rfl rfl) rfl (mv1 rfl rfl (l_nil ?_)))))
   exact goX () (weak [1, 0] ⟨rfl, rfl, rfl, rfl, rfl, rfl, trivial⟩ ⟨rfl, rfl, trivial⟩)
  refine ref_exit (x_then ?_)
  exact brkX () (weak [0] trivial ⟨rfl, trivial⟩)
 refine n_then (ref_seq (ref_region (pull fun t508 h_t508 => s_st (s_callC [0] [true] (fun (_ : Unit) => [tbO (rI .u8) 0 tab_0]) (fun (_ : Unit) => []) (fun (_ : Unit) => bv t508) (args := []) (caps := []) Tryz.call5 rfl (law38_awake_ok h_t508) ⟨rfl, rfl, trivial⟩ (fun _ => rfl) (fun _ => trivial) (fun _ => rfl) trivial (fun _ _ _ _ h => h)) rfl (fun _ => as1 rfl rfl (l_nil (n_then (ref_ret ?_)))))))
 exact fin1 (.inl rfl) () [0] rfl ⟨rfl, trivial⟩ rfl (rv_tmp rfl)

end Go.Dc
